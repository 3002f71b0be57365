/- The walk of NamesHeir. -/
import Derived.Test.YtbbbeldbhlehnaaGreatDoorMUNmTl0
import Derived.Test.YtbbbeldbhlehnaaGreatDoorMUNmTl1
import Derived.Test.YtbbbeldbhlehnaaGreatDoorMUNmTl2
import Derived.Test.YtbbbeldbhlehnaaGreatDoorMUNmTl3
import Derived.Test.YtbbbeldbhlehnaaGreatDoorMUNmTl4
import Derived.Test.YtbbbeldbhlehnaaGreatDoorMUNmTl5
import Derived.Test.YtbbbeldbhlehnaaGreatDoorMUNmTl6
import Derived.Test.YtbbbeldbhlehnaaGreatDoorMUNmTl7
import Derived.Test.YtbbbeldbhlehnaaGreatDoorMUNmTl8
import Derived.Test.YtbbbeldbhlehnaaGreatDoorMUNmTl9
import Derived.Test.YtbbbeldbhlehnaaGreatDoorMUNmTl10
import Derived.Test.YtbbbeldbhlehnaaGreatDoorMUNmTl11
import Derived.Test.YtbbbeldbhlehnaaGreatDoorMUNmTl12
import Derived.Test.YtbbbeldbhlehnaaGreatDoorMUNmTl13
import Derived.Test.YtbbbeldbhlehnaaGreatDoorMUNmTl14
import Derived.Test.YtbbbeldbhlehnaaGreatDoorMUNmTl15
import Derived.Test.YtbbbeldbhlehnaaGreatDoorMUNmTl16
import Derived.Test.YtbbbeldbhlehnaaGreatDoorMUNmTl17
import Derived.Test.YtbbbeldbhlehnaaGreatDoorMUNmTl18
import Derived.Test.YtbbbeldbhlehnaaGreatDoorMUNmTl19
import Derived.Test.YtbbbeldbhlehnaaGreatDoorMUNmTl20
import Derived.Test.YtbbbeldbhlehnaaGreatDoorMUNmTl21
import Derived.Test.YtbbbeldbhlehnaaGreatDoorMUNmTl22
import Derived.Test.YtbbbeldbhlehnaaGreatDoorMUNmTl23
import Derived.Test.YtbbbeldbhlehnaaGreatDoorMUNmTl24
import Derived.Test.YtbbbeldbhlehnaaGreatDoorMUNmTl25
import Derived.Test.YtbbbeldbhlehnaaGreatDoorMUNmTl26
import Derived.Test.YtbbbeldbhlehnaaGreatDoorMUNmTl27
import Derived.Test.YtbbbeldbhlehnaaGreatDoorMUNmTl28
import Derived.Test.YtbbbeldbhlehnaaGreatDoorMUNmTl29
import Derived.Test.YtbbbeldbhlehnaaGreatDoorMUNmTl30
import Derived.Test.YtbbbeldbhlehnaaGreatDoorMUNmTl31
import Derived.Test.YtbbbeldbhlehnaaGreatDoorMUNmTl32
import Derived.Test.YtbbbeldbhlehnaaGreatDoorMUNmTl33
import Derived.Test.YtbbbeldbhlehnaaGreatDoorMUNmTl34
import Derived.Test.YtbbbeldbhlehnaaGreatDoorMUNmTl35
import Derived.Test.YtbbbeldbhlehnaaGreatDoorMUNmTl36
import Derived.Test.YtbbbeldbhlehnaaGreatDoorMUNmTl37
import Derived.Test.YtbbbeldbhlehnaaGreatDoorMUNmTl38
import Derived.Test.YtbbbeldbhlehnaaGreatDoorQNmH0
set_option linter.unusedSimpArgs false
set_option linter.unusedVariables false
set_option linter.unusedVariables false
set_option linter.unusedSimpArgs false
namespace Gno
open Go
def sHeir : ByteArray := ⟨#[104, 101, 105, 114]⟩
theorem sHeir_list : sHeir.toList = [104, 101, 105, 114] := by rw [ByteArray.toList_eq]; rfl
theorem noHeir_step {l : List Bk} {i : Nat} {b : Bk} (h : ∀ j c, j < i → l[j]? = some c → same c.loc sHeir = false) (hb : l[i]? = some b) (hq : same b.loc sHeir = false) : ∀ j c, j < i + 1 → l[j]? = some c → same c.loc sHeir = false := fun j c hj hc => by
  by_cases e : j = i
  · subst e; rw [hb] at hc; injection hc with hc; subst hc; exact hq
  · exact h j c (by omega) hc
theorem noHeir_end {l : List Bk} {i : Nat} (h : ∀ j c, j < i → l[j]? = some c → same c.loc sHeir = false) (hi : l.length ≤ i) : ∀ b ∈ l, same b.loc sHeir = false := fun b hb => by
  obtain ⟨j, hj⟩ := List.getElem?_of_mem hb
  exact h j b (by have := (List.getElem?_eq_some_iff.1 hj).1; omega) hj
end Gno
namespace Go.Proofs.YtbbbeldbhlehnaaGreatDoor
open Go.RowKit Gno
theorem own_farH {w : World} {B b : Nat} {e : TypeId} {sz n : Nat} {v : Value} {xs : List Value} (h : w.ownsRow B e sz v n xs) (hb : ∀ g, v.ownBlock = some g → g ≠ b) (o : Nat) (u : Value) : (w.setCell ⟨b, o, none⟩ u).ownsRow B e sz v n xs := by
  refine ⟨h.1, ?_⟩
  rcases h.2 with h | ⟨g, cap, cur, h1, h2, h3, h4⟩
  · exact .inl h
  · exact .inr ⟨g, cap, cur, h1, h2, (setCell_heap (by have := hb g (by rw [h1]; rfl); omega)).trans h3, h4⟩
set_option maxRecDepth 100000 in
set_option maxHeartbeats 16000000 in
theorem namesHeir_bad (x : Wd) (zone : ByteArray) (t p i : Int) (w : World) (hW : WdAt w x) (hM : MaxAt w w.heap.size) (he : worldE x ≠ 0 ∨ x.bn = 0 ∨ 4 ≤ x.bn) :
    Calls Tryz.prog 4 #[x.val, .string zone, .int .i64 t, .int .i64 p, .int .i64 i] w fun e w' => e = .returned (.bool true) ∧ Below w.heap.size w w' := by
  have HX := Lib.hid (fun W (h : Below (w.heap.size + 1) (w.alloc (Wobj x)) W) => boxW hW h)
  have K1 := Lib.hid (fun W (h : Below (w.heap.size + 1) (w.alloc (Wobj x)) W) => worldCk_any x W (HX.out W h).2.1 (hM.next (HX.out W h).1))
  have NB := Lib.hid (fun W (h : Below (w.heap.size + 1) (w.alloc (Wobj x)) W) => namesBegun_any W (hM.next (HX.out W h).1))
  have hbb : Below (w.heap.size + 1) (w.alloc (Wobj x)) (w.alloc (Wobj x)) := Below.refl _ _
  have HFIN : Hid (∀ W, Below (w.heap.size + 1) (w.alloc (Wobj x)) W → Below w.heap.size w W) := Lib.hid fun W h => (HX.out W h).1
  unfold WdCells at HX
  have HC : Hid (∀ W, Below (w.heap.size + 1) (w.alloc (Wobj x)) W → W.cell? ⟨w.heap.size, 4, none⟩ = some (.slice x.bA x.bn x.bc)) := Lib.hid fun W h => (HX.out W h).2.2.2.2.2.2
  clear hW hM HX
  unfold Wd.val at *
  obtain ⟨E, hE⟩ : ∃ v, v = worldE x := ⟨_, rfl⟩
  rw [← hE] at K1 he
  clear hE
  have hg : ((E != 0) = true) ∨ ((E != 0) = false ∧ ((x.bn : Int) == 0) = true) ∨ ((E != 0) = false ∧ ((x.bn : Int) == 0) = false ∧ decide ((4 : Int) ≤ (x.bn : Int)) = true) := by
    by_cases h1 : E = 0
    · by_cases h2 : x.bn = 0
      · exact .inr (.inl ⟨by rw [h1]; rfl, by rw [h2]; rfl⟩)
      · exact .inr (.inr ⟨by rw [h1]; rfl, beq_eq_false_iff_ne.2 (by omega), decide_eq_true (by rcases he with h | h | h <;> omega)⟩)
    · exact .inl (by simpa using h1)
  clear he
  rcases hg with g1 | ⟨g1, g2⟩ | ⟨g1, g2, g3⟩
  all_goals
    go_enter Tryz.func4, Tryz.ntmps4
    go_wp2_with fail
    refine (K1.out _ hbb).mono ?_
    rintro e w1 ⟨rfl, h1⟩
    have H1 := Lib.hid (boxW_more hbb h1)
    have c4 := HC.out _ H1.out
    clear h1 hbb
    go_wp2_with fail
    refine (NB.out _ H1.out).mono ?_
    rintro e w2 ⟨rfl, h2⟩
    have HF := Lib.hid (HFIN.out _ (boxW_more H1.out h2))
    clear h2
    go_wp2
    go_ret
    exact ⟨rfl, HF.out⟩
set_option maxRecDepth 100000 in
set_option maxHeartbeats 16000000 in
theorem namesHeir_ok (x : Wd) (zone : ByteArray) (t p i : Int) (w : World) (hW : WdAt w x) (hM : MaxAt w w.heap.size) (hp : (Lit.int .i64 p).wf = true) (hi : (Lit.int .i64 i).wf = true) (he : worldE x = 0) (h1n : 0 < x.bn) (h4n : x.bn < 4) :
    Calls Tryz.prog 4 #[x.val, .string zone, .int .i64 t, .int .i64 p, .int .i64 i] w fun e w' => e = .returned (.bool true) ∧ Below w.heap.size w w' := by
  have HX := Lib.hid (fun W (h : Below (w.heap.size + 1) (w.alloc (Wobj x)) W) => boxW hW h)
  have K1 := Lib.hid (fun W (h : Below (w.heap.size + 1) (w.alloc (Wobj x)) W) => worldCk_any x W (HX.out W h).2.1 (hM.next (HX.out W h).1))
  have NB := Lib.hid (fun W (h : Below (w.heap.size + 1) (w.alloc (Wobj x)) W) => namesBegun_any W (hM.next (HX.out W h).1))
  have hbb : Below (w.heap.size + 1) (w.alloc (Wobj x)) (w.alloc (Wobj x)) := Below.refl _ _
  have HFIN : Hid (∀ W, Below (w.heap.size + 1) (w.alloc (Wobj x)) W → Below w.heap.size w W) := Lib.hid fun W h => (HX.out W h).1
  have HBL : Hid (x.bs.length = x.bn) := Lib.hid hW.2.2.1
  obtain ⟨b0, o0, hA, hbB, hbc⟩ := hW.2.2.2.2 h1n
  have HBK : Hid (∀ j c, x.bs[j]? = some c → ∀ W, Below (w.heap.size + 1) (w.alloc (Wobj x)) W → W.cell? ⟨b0, o0 + j * 3, none⟩ = some (.string c.loc)) := Lib.hid fun j c hc W h => ((HX.out W h).1.cell hbB).trans (hbc j c hc).1.1
  have HC : Hid (∀ W, Below (w.heap.size + 1) (w.alloc (Wobj x)) W → W.cell? ⟨w.heap.size, 0, none⟩ = some (.slice x.d.sA x.d.sn x.d.sc) ∧ W.cell? ⟨w.heap.size, 1, none⟩ = some (.slice x.d.zA x.d.zn x.d.zc) ∧ W.cell? ⟨w.heap.size, 2, none⟩ = some (.slice x.d.lA x.d.ln x.d.lc) ∧ W.cell? ⟨w.heap.size, 3, none⟩ = some (.slice x.uA x.un x.uc) ∧ W.cell? ⟨w.heap.size, 4, none⟩ = some (.slice (some ⟨b0, o0, none⟩) x.bn x.bc)) := Lib.hid fun W h => by
    have h3 := (HX.out W h).2.2
    unfold WdCells at h3
    rw [hA] at h3
    exact h3
  have c1 := chooseN_bd i x.bn (by omega)
  obtain ⟨k, hk⟩ : ∃ k : Nat, chooseN i x.bn = (k : Int) := ⟨(chooseN i x.bn).toNat, by omega⟩
  have hkn : k < x.bn := by omega
  have hkI : (k : Int) < (x.bn : Int) := by omega
  have CI : Hid (∀ w, Calls Tryz.prog 19 #[.int .i64 i, .int .i64 x.bn] w fun e w' => e = .returned (.int .i64 k) ∧ w = w') := Lib.hid fun w => by rw [← hk]; exact choose_any i x.bn w hi (by omega) (by omega)
  obtain ⟨bk, hbk⟩ : ∃ b, x.bs[k]? = some b := ⟨_, List.getElem?_eq_getElem (by rw [hW.2.2.1]; exact hkn)⟩
  have N1 := Lib.hid (fun W (h : Below (w.heap.size + 1) (w.alloc (Wobj x)) W) => nameP_any x bk.loc zone t p W (HX.out W h).2.1 (hM.next (HX.out W h).1) hp)
  have N2 := Lib.hid (fun (y : Wd) W (h : Below (w.heap.size + 1) (w.alloc (Wobj x)) W) (hy : WdAt W y) => (nameP_any y sHeir zone t p W hy (hM.next (HX.out W h).1) hp).mono fun _ _ q => (⟨q.1, boxW_more h q.2⟩ : _ ∧ Below (w.heap.size + 1) (w.alloc (Wobj x)) _))
  have HSAME := Lib.hid (fun bA bn bc (h : ∀ b ∈ x.bs, same b.loc sHeir = false) => heir_same (bA := bA) (bn := bn) (bc := bc) (loc := sHeir) (k := k) he (by kernel_rfl) (by rw [hW.2.2.1]; exact h4n) hbk h zone t p)
  have HWX := Lib.hid (fun W (h : Below (w.heap.size + 1) (w.alloc (Wobj x)) W) => (HX.out W h).2.1)
  have HBLOC := Lib.hid (HBK.out k bk hbk)
  rw [he] at K1
  have g1 : ((x.bn : Int) == 0) = false := beq_eq_false_iff_ne.2 (by omega)
  have g2 : decide ((4 : Int) ≤ (x.bn : Int)) = false := decide_eq_false (by omega)
  have g2n : decide (4 ≤ x.bn) = false := decide_eq_false (by omega)
  unfold Wd.val at K1 N1 ⊢
  rw [hA] at N1
  obtain ⟨T, hT⟩ : ∃ v, v = nameT x bk.loc zone t p := ⟨_, rfl⟩
  obtain ⟨E, hE⟩ : ∃ v, v = nameE x bk.loc zone t p := ⟨_, rfl⟩
  rw [← hT, ← hE] at N1 HSAME
  obtain ⟨lk, hlk⟩ : ∃ v, v = bk.loc := ⟨_, rfl⟩
  rw [← hlk] at N1 HBLOC
  have HAA := Lib.hid hA
  have hs : (T.toList == T.toList) = true := by simp
  clear hW hM hp hi he h1n hbB hbc c1 hk hbk hT hE hlk HX hA
  go_enter Tryz.func4, Tryz.ntmps4
  go_wp2_with fail
  refine (K1.out _ hbb).mono ?_
  rintro e w1 ⟨rfl, h1⟩
  have H1 := Lib.hid (boxW_more hbb h1)
  obtain ⟨c0, c1, c2, c3, c4⟩ := HC.out _ H1.out
  clear h1 hbb K1
  go_wp2_with fail
  refine (CI.out _).mono ?_
  rintro e w2 ⟨rfl, rfl⟩
  clear CI
  go_wp2_with fail
  go_loopw [12] (fun b12 wr => ∃ j : Nat, j ≤ x.bn ∧ b12 = .int .i64 j ∧ Hid (Below (w.heap.size + 1) (w.alloc (Wobj x)) wr) ∧ Hid (∀ m c, m < j → x.bs[m]? = some c → same c.loc sHeir = false)) (fun b12 _ => x.bn - (intOf b12).toNat)
  case atStart => exact ⟨0, Nat.zero_le _, rfl, H1, Lib.hid (fun m c h => by omega)⟩
  case round =>
    clear H1 c0 c1 c2 c3 c4
    obtain ⟨j, hj, rfl, hbw, hno⟩ := hrel
    obtain ⟨c0, c1, c2, c3, c4⟩ := HC.out _ hbw.out
    by_cases hlt : j < x.bn
    · obtain ⟨b, hb⟩ : ∃ b, x.bs[j]? = some b := ⟨_, List.getElem?_eq_getElem (by rw [HBL.out]; exact hlt)⟩
      have e0 := HBK.out j b hb _ hbw.out
      cases hq : same b.loc sHeir
      · have HN := Lib.hid (noHeir_step hno.out hb hq)
        have hq2 : (b.loc.toList == [104, 101, 105, 114]) = false := by
          have h9 : (b.loc.toList == sHeir.toList) = false := hq
          rwa [sHeir_list] at h9
        clear hb hq
        go_wp2_with fail
        go_roundw
        case rel => exact ⟨j + 1, by omega, by go_num, hbw, HN⟩
        case measure => simp [intOf]; omega
      · have hq2 : (b.loc.toList == [104, 101, 105, 114]) = true := by
          have h9 : (b.loc.toList == sHeir.toList) = true := hq
          rwa [sHeir_list] at h9
        clear hb hq
        go_wp2_with fail
        refine (NB.out _ hbw.out).mono ?_
        rintro e w5 ⟨rfl, h5⟩
        have HF := Lib.hid (HFIN.out _ (boxW_more hbw.out h5))
        clear h5
        go_wp2
        go_ret
        exact ⟨rfl, HF.out⟩
    · have HNO := Lib.hid (noHeir_end hno.out (by rw [HBL.out]; omega))
      have hltI : decide ((j : Int) < (x.bn : Int)) = false := decide_eq_false (by omega)
      have hltN : decide (j < x.bn) = false := decide_eq_false (by omega)
      clear hno
      obtain ⟨V1, hV1⟩ : ∃ V, V = wr.alloc (.cells #[.slice x.d.sA x.d.sn x.d.sc, .slice x.d.zA x.d.zn x.d.zc, .slice x.d.lA x.d.ln x.d.lc, .slice x.uA x.un x.uc, .slice (some ⟨b0, o0, none⟩) x.bn x.bc] 30) := ⟨_, rfl⟩
      have hz1 : V1.heap.size = wr.heap.size + 1 := by rw [hV1]; simp
      have hk1 : V1.heap[wr.heap.size]? = some (.cells #[.slice x.d.sA x.d.sn x.d.sc, .slice x.d.zA x.d.zn x.d.zc, .slice x.d.lA x.d.ln x.d.lc, .slice x.uA x.un x.uc, .slice (some ⟨b0, o0, none⟩) x.bn x.bc] 30) := by rw [hV1]; exact World.alloc_heap_new wr _
      have HBV1 : Hid (Below (w.heap.size + 1) (w.alloc (Wobj x)) V1) := Lib.hid (by rw [hV1]; exact hbw.out.alloc (by have := hbw.out.size; simpa using this) _)
      have HZW : Hid (w.heap.size + 1 ≤ wr.heap.size) := Lib.hid (by have := hbw.out.size; simpa using this)
      have d4 := cell_of (o := 4) hk1 rfl
      go_upto_region 10 with fail
      rw [← hV1]
      have HK1 := Lib.hid hk1
      have HV1 := Lib.hid hV1
      have hbV2 : Below (wr.heap.size + 1) V1 (V1.alloc (.cells #[] 43)) := (Below.refl _ _).alloc (by omega) _
      have HB2 : Hid (Below (w.heap.size + 1) (w.alloc (Wobj x)) (V1.alloc (.cells #[] 43))) := Lib.hid (HBV1.out.alloc (by have := HBV1.out.size; simpa using this) _)
      have HOA : Hid ((V1.alloc (.cells #[] 43)).ownsRow (wr.heap.size + 1) 43 3 (.slice (some ⟨V1.heap.size, 0, none⟩) 0 0) 0 []) := Lib.hid ⟨rfl, .inr ⟨V1.heap.size, 0, _, rfl, by omega, World.alloc_heap_new V1 _, Nat.le_refl _, by unfold maxLen; omega, rfl, rfl⟩⟩
      have HCB := Lib.hid (bks_cells (HAA.out ▸ (HWX.out _ HB2.out).2.2))
      have HL3 : Hid ((bks x.bs).length = x.bn * 3) := Lib.hid (by rw [bks_len, HBL.out])
      have HO3 := Lib.hid (bks_one x.bs)
      have c4b := (HC.out _ HB2.out).2.2.2.2
      have c4a := (HC.out _ HBV1.out).2.2.2.2
      have HBV2 := Lib.hid hbV2
      have HZ1 := Lib.hid hz1
      clear hV1 hk1 hbV2 c0 c1 c2 c3 c4 d4 hz1
      go_wp2_with (at_builtin; first
        | (refine wpList_app2 rfl _ _ 28 rfl (wr.heap.size + 1) 43 (.agg #[.string ⟨#[]⟩, .int .i64 0, .slice none 0 0]) 3 48 Tryz.underlying28 infoBook rfl (by decide) _ 0 _ rfl HOA.out ⟨b0, o0, none⟩ x.bn x.bc (bks x.bs) rfl HL3.out HCB.out HO3.out (by unfold maxLen; omega) (by omega) (by have := HBV2.out.size; have := HZ1.out; omega) ?_
           intro v4 w4 hown4 hg4 hn4
           have HB4 : Hid (Below (wr.heap.size + 1) V1 w4) := Lib.hid (HBV2.out.grown hg4 (by have := HBV2.out.size; have := HZ1.out; omega) (fun k hk => (HOA.out.lt k hk).1))
           rw [Nat.zero_add, List.nil_append] at hown4
           have HO4 : Hid ((w4.alloc (.cells #[.string ⟨#[104, 101, 105, 114]⟩, .int .i64 k, .slice none 0 0] 43)).ownsRow (wr.heap.size + 1) 43 3 v4 x.bn (bks x.bs)) := Lib.hid (hown4.alloc _)
           have HB5 : Hid (Below (wr.heap.size + 1) V1 (w4.alloc (.cells #[.string ⟨#[104, 101, 105, 114]⟩, .int .i64 k, .slice none 0 0] 43))) := Lib.hid (HB4.out.alloc (by have := HB4.out.size; have := HZ1.out; omega) _)
           have HN5 : Hid (∀ j u, (bks [heirB sHeir k])[j]? = some u → (w4.alloc (.cells #[.string ⟨#[104, 101, 105, 114]⟩, .int .i64 k, .slice none 0 0] 43)).cell? ((⟨w4.heap.size, 0, none⟩ : Addr).add j) = some u) := Lib.hid (fun j u hj => laid_at (cs := #[.string ⟨#[104, 101, 105, 114]⟩, .int .i64 k, .slice none 0 0]) j u hj)
           clear hown4 hg4 hn4)
        | (refine wpList_app2 rfl _ _ 28 rfl (wr.heap.size + 1) 43 (.agg #[.string ⟨#[]⟩, .int .i64 0, .slice none 0 0]) 3 48 Tryz.underlying28 infoBook rfl (by decide) v4 x.bn (bks x.bs) rfl HO4.out ⟨w4.heap.size, 0, none⟩ 1 1 (bks [heirB sHeir k]) rfl rfl HN5.out (bks_one _) (by unfold maxLen; omega) (by omega) (by have := HB5.out.size; have := HZ1.out; omega) ?_
           intro v6 w6 hown6 hg6 hn6
           have HB6 : Hid (Below (wr.heap.size + 1) V1 w6) := Lib.hid (HB5.out.grown hg6 (by have := HB5.out.size; have := HZ1.out; omega) (fun k hk => (HO4.out.lt k hk).1))
           have k6 := (HB6.out.block wr.heap.size (by omega)).trans HK1.out
           have d4 := cell_of (o := 4) k6 rfl
           have f4 := frozen_of (o := 4) k6
           have HO6 : Hid (w6.ownsRow (wr.heap.size + 1) 43 3 v6 (x.bn + 1) (bks (x.bs ++ [heirB sHeir k]))) := Lib.hid (by rw [bks_app]; exact hown6)
           have HK6 := Lib.hid k6
           clear hg6 hn6 k6
           obtain ⟨A6, cap6, rfl, hf6⟩ := own_formU hown6
           obtain ⟨g6, rfl⟩ := hf6 (by omega)
           clear hown6 hf6))
      obtain ⟨w7, hw7⟩ : ∃ v, v = w6.setCell ⟨wr.heap.size, 4, none⟩ (.slice (some ⟨g6, 0, none⟩) (x.bn + 1) cap6) := ⟨_, rfl⟩
      rw [← hw7]
      have hg6 := (HO6.out.lt g6 rfl)
      have HBW6 : Below (w.heap.size + 1) (w.alloc (Wobj x)) w6 := HBV1.out.trans (HB6.out.mono (by have := HZW.out; omega))
      have HB7 : Hid (Below (w.heap.size + 1) (w.alloc (Wobj x)) w7) := Lib.hid (by rw [hw7]; exact HBW6.setCell (p := ⟨wr.heap.size, 4, none⟩) HZW.out _)
      have HO7 : w7.ownsRow (wr.heap.size + 1) 43 3 (.slice (some ⟨g6, 0, none⟩) (x.bn + 1) cap6) (x.bn + 1) (bks (x.bs ++ [heirB sHeir k])) := by
        rw [hw7]
        exact own_farH HO6.out (fun g hg => by have e : g6 = g := Option.some.inj hg; have := hg6.1; omega) _ _
      have hk7 : w7.heap[wr.heap.size]? = some (.cells #[.slice x.d.sA x.d.sn x.d.sc, .slice x.d.zA x.d.zn x.d.zc, .slice x.d.lA x.d.ln x.d.lc, .slice x.uA x.un x.uc, .slice (some ⟨g6, 0, none⟩) (x.bn + 1) cap6] 30) := by
        rw [hw7]
        exact set_obj HK6.out _
      have hlt7 : wr.heap.size < w7.heap.size := (Array.getElem?_eq_some_iff.1 hk7).1
      have HK7 : Hid (∀ W, Below w7.heap.size w7 W → W.cell? ⟨wr.heap.size, 0, none⟩ = some (.slice x.d.sA x.d.sn x.d.sc) ∧ W.cell? ⟨wr.heap.size, 1, none⟩ = some (.slice x.d.zA x.d.zn x.d.zc) ∧ W.cell? ⟨wr.heap.size, 2, none⟩ = some (.slice x.d.lA x.d.ln x.d.lc) ∧ W.cell? ⟨wr.heap.size, 3, none⟩ = some (.slice x.uA x.un x.uc) ∧ W.cell? ⟨wr.heap.size, 4, none⟩ = some (.slice (some ⟨g6, 0, none⟩) (x.bn + 1) cap6)) := Lib.hid fun W h => by
        have k := (h.block _ hlt7).trans hk7
        exact ⟨cell_of k rfl, cell_of k rfl, cell_of k rfl, cell_of k rfl, cell_of k rfl⟩
      have HWY : Hid (WdAt w7 (heirW x (some ⟨g6, 0, none⟩) (x.bn + 1) cap6 sHeir k)) := Lib.hid (by
        have h9 := HWX.out _ HB7.out
        refine ⟨h9.1, h9.2.1, books_own HO7 (show x.bn + 1 ≤ maxLen by unfold maxLen; omega) fun b hb => ?_⟩
        rcases List.mem_append.1 hb with hb | hb
        · exact books_all h9.2.2 b hb
        · rw [List.mem_singleton.1 hb]
          exact ⟨(show (4 : Nat) ≤ maxLen by unfold maxLen; omega), rfl, (show (0 : Nat) ≤ maxLen by unfold maxLen; omega), fun h => absurd h (Nat.lt_irrefl 0)⟩)
      have HS := Lib.hid (HSAME.out (some ⟨g6, 0, none⟩) (x.bn + 1) cap6 HNO.out)
      have HBB : Hid (∀ W, Below w7.heap.size w7 W → Below (w.heap.size + 1) (w.alloc (Wobj x)) W) := Lib.hid fun W h => boxW_more HB7.out h
      have HC7 : Hid (∀ W, Below w7.heap.size w7 W → W.cell? ⟨w.heap.size, 0, none⟩ = some (.slice x.d.sA x.d.sn x.d.sc) ∧ W.cell? ⟨w.heap.size, 1, none⟩ = some (.slice x.d.zA x.d.zn x.d.zc) ∧ W.cell? ⟨w.heap.size, 2, none⟩ = some (.slice x.d.lA x.d.ln x.d.lc) ∧ W.cell? ⟨w.heap.size, 3, none⟩ = some (.slice x.uA x.un x.uc) ∧ W.cell? ⟨w.heap.size, 4, none⟩ = some (.slice (some ⟨b0, o0, none⟩) x.bn x.bc) ∧ W.cell? ⟨b0, o0 + k * 3, none⟩ = some (.string lk)) := Lib.hid fun W h => by
        have h8 := HC.out W (HBB.out W h)
        exact ⟨h8.1, h8.2.1, h8.2.2.1, h8.2.2.2.1, h8.2.2.2.2, HBLOC.out W (HBB.out W h)⟩
      have N3 := Lib.hid (fun W (h : Below w7.heap.size w7 W) => N2.out (heirW x (some ⟨g6, 0, none⟩) (x.bn + 1) cap6 sHeir k) W (HBB.out W h) (HWY.out.next h))
      rw [HS.out.1, HS.out.2] at N3
      have N1' : Hid (∀ W, Below w7.heap.size w7 W → Calls Tryz.prog 11 #[.agg #[.slice x.d.sA x.d.sn x.d.sc, .slice x.d.zA x.d.zn x.d.zc, .slice x.d.lA x.d.ln x.d.lc, .slice x.uA x.un x.uc, .slice (some ⟨b0, o0, none⟩) x.bn x.bc], .string lk, .string zone, .int .i64 t, .int .i64 p] W fun e w' => e = .returned (.tuple #[.string T, .int .i64 E]) ∧ Below w7.heap.size w7 w') := Lib.hid fun W h => (N1.out W (HBB.out W h)).mono fun _ _ q => ⟨q.1, h.trans (q.2.mono h.size)⟩
      unfold Wd.val heirW at N3
      have HB7r : Hid (Below w7.heap.size w7 w7) := Lib.hid (Below.refl _ _)
      clear hw7 hg6 HBW6 HO7 hk7 hlt7 HWY HS HO6 HK6 HB6 HB5 HN5 HO4 HB4 HBV2 HZ1 HK1 HV1 HB2 HOA HCB HL3 HO3 c4a c4b d4 f4 HSAME HNO HBV1 hbw N1 N2 HWX HAA HBK HBL
      go_upto_region 11 with fail
      have HD : Hid (Below w7.heap.size w7 w7.drew) := Lib.hid HB7r.out.drew
      go_cut [14, 15] from 64 to 77 (fun sa sb wx => sa = .string T ∧ sb = .int .i64 E ∧ Hid (Below w7.heap.size w7 wx))
      case first =>
        obtain ⟨c0, c1, c2, c3, c4, e0⟩ := HC7.out _ HD.out
        go_region_held3 (fun w' => Below w7.heap.size w7 w' ∧ w'.cell? ⟨w.heap.size, 0, none⟩ = some (.slice x.d.sA x.d.sn x.d.sc) ∧ w'.cell? ⟨w.heap.size, 1, none⟩ = some (.slice x.d.zA x.d.zn x.d.zc) ∧ w'.cell? ⟨w.heap.size, 2, none⟩ = some (.slice x.d.lA x.d.ln x.d.lc) ∧ w'.cell? ⟨w.heap.size, 3, none⟩ = some (.slice x.uA x.un x.uc) ∧ w'.cell? ⟨w.heap.size, 4, none⟩ = some (.slice (some ⟨b0, o0, none⟩) x.bn x.bc) ∧ w'.cell? ⟨b0, o0 + k * 3, none⟩ = some (.string lk))
          (refine ⟨?_, ?_, ?_, ?_, ?_, ?_, ?_⟩ <;> (first | assumption | exact HD.out | exact Below.drew (by assumption) | go_keep))
          (first
            | (go_at_call 11; refine (N1'.out _ (by first | assumption | exact HD.out)).mono ?_; rintro e w8 ⟨rfl, hb8⟩; clear c0 c1 c2 c3 c4 e0; obtain ⟨c0, c1, c2, c3, c4, e0⟩ := HC7.out _ hb8))
        all_goals
          go_wp2_with fail
          go_meet
          exact ⟨rfl, rfl, Lib.hid (by assumption)⟩
      case rest =>
        obtain ⟨rfl, rfl, hbA⟩ := hcut
        obtain ⟨vA, hvA⟩ : ∃ v : World, v = wc := ⟨_, rfl⟩
        rw [← hvA] at hbA
        rw [← hvA]
        clear hvA HD HB7r N1'
        obtain ⟨c0, c1, c2, c3, c4⟩ := HK7.out _ hbA.out
        go_wp2_with fail
        refine (N3.out _ hbA.out).mono ?_
        rintro e w9 ⟨rfl, hb9⟩
        have HB9 := Lib.hid hb9
        clear hb9 c0 c1 c2 c3 c4
        go_wp2_with fail
        refine (NB.out _ HB9.out).mono ?_
        rintro e w10 ⟨rfl, h10⟩
        have HF := Lib.hid (HFIN.out _ (boxW_more HB9.out h10))
        clear h10
        go_wp2
        go_ret
        exact ⟨rfl, HF.out⟩
theorem namesHeir_walk (x : Wd) (zone : ByteArray) (t p i : Int) (w : World) (hW : WdAt w x) (hM : MaxAt w w.heap.size) (hp : (Lit.int .i64 p).wf = true) (hi : (Lit.int .i64 i).wf = true) :
    Calls Tryz.prog 4 #[x.val, .string zone, .int .i64 t, .int .i64 p, .int .i64 i] w fun e w' => e = .returned (.bool true) ∧ Below w.heap.size w w' := by
  by_cases he : worldE x = 0
  · by_cases h1 : x.bn = 0
    · exact namesHeir_bad x zone t p i w hW hM (.inr (.inl h1))
    · by_cases h4 : 4 ≤ x.bn
      · exact namesHeir_bad x zone t p i w hW hM (.inr (.inr h4))
      · exact namesHeir_ok x zone t p i w hW hM hp hi he (by omega) (by omega)
  · exact namesHeir_bad x zone t p i w hW hM (.inl he)
end Go.Proofs.YtbbbeldbhlehnaaGreatDoor
