/- Plain: between two turns the same holds, at a turn something else. -/
import Derived.Test.YtlngalmdidaahaaGreatDoorMTableSameRow0
import Derived.Test.YtlngalmdidaahaaGreatDoorMTableSameRow1
import Derived.Test.YtlngalmdidaahaaGreatDoorMTableSameRow2
import Derived.Test.YtlngalmdidaahaaGreatDoorMTableSameRow3
import Derived.Test.YtlngalmdidaahaaGreatDoorMTableSameRow4
import Derived.Test.YtlngalmdidaahaaGreatDoorMTableSameRow5
import Derived.Test.YtlngalmdidaahaaGreatDoorMTableSameRow6
import Derived.Test.YtlngalmdidaahaaGreatDoorMTableSameRow7
import Derived.Test.YtlngalmdidaahaaGreatDoorMTableSameRow8
import Derived.Test.YtlngalmdidaahaaGreatDoorMTableSameRow9
import Derived.Test.YtlngalmdidaahaaGreatDoorMTableSameRow10
import Derived.Test.YtlngalmdidaahaaGreatDoorMTableSameRow11
import Derived.Test.YtlngalmdidaahaaGreatDoorMTableSameRow12
import Derived.Test.YtlngalmdidaahaaGreatDoorMTableSameRow13
import Derived.Test.YtlngalmdidaahaaGreatDoorMTableSameRow14
import Derived.Test.YtlngalmdidaahaaGreatDoorMTableSameRow15
import Derived.Test.YtlngalmdidaahaaGreatDoorMTableSameRow16
import Derived.Test.YtlngalmdidaahaaGreatDoorMTableSameRow17
import Derived.Test.YtlngalmdidaahaaGreatDoorMTableSameRow18
import Derived.Test.YtlngalmdidaahaaGreatDoorMTableSameRow19
import Derived.Test.YtlngalmdidaahaaGreatDoorMTableSameRow20
import Derived.Test.YtlngalmdidaahaaGreatDoorMTableSameRow21
import Derived.Test.YtlngalmdidaahaaGreatDoorMTableSameRow22
import Derived.Test.YtlngalmdidaahaaGreatDoorMTableSameRow23
import Derived.Test.YtlngalmdidaahaaGreatDoorMTableSameRow24
import Derived.Test.YtlngalmdidaahaaGreatDoorMTableSameRow25
import Derived.Test.YtlngalmdidaahaaGreatDoorMTableSameRow26
import Derived.Test.YtlngalmdidaahaaGreatDoorMTableSameRow27
import Derived.Test.YtlngalmdidaahaaGreatDoorMTableSameRow28
import Derived.Test.YtlngalmdidaahaaGreatDoorMTableSameRow29
import Derived.Test.YtlngalmdidaahaaGreatDoorMTableSameRow30
import Derived.Test.YtlngalmdidaahaaGreatDoorMTableSameRow31
import Derived.Test.YtlngalmdidaahaaGreatDoorMTableSameRow32
import Derived.Test.YtlngalmdidaahaaGreatDoorMTableSameRow33
import Derived.Test.YtlngalmdidaahaaGreatDoorMTableSameRow34
import Derived.Test.YtlngalmdidaahaaGreatDoorMTableSameRow35
import Derived.Test.YtlngalmdidaahaaGreatDoorMTableSameRow36
import Derived.Test.YtlngalmdidaahaaGreatDoorMTableSameRow37
import Derived.Test.YtlngalmdidaahaaGreatDoorMTableSameRow38
import Derived.Test.YtlngalmdidaahaaGreatDoorMTableSameRow39
import Derived.Test.YtlngalmdidaahaaGreatDoorMTableSameRow40
import Derived.Test.YtlngalmdidaahaaGreatDoorMTableSameRow41
set_option linter.unusedSimpArgs false
set_option linter.unusedVariables false
set_option linter.unusedVariables false
namespace Gno
open Go
theorem turnsN_off {H : Int → Of_} {n : Nat} {y : Tn} (h : y ∈ turnsN H n) : y.off = H y.a := by
  obtain ⟨t, _, rfl⟩ := turnsN_mem n y h
  rfl
/-- at each turn but the first something else holds than a second ahead. -/
theorem turnsN_new {H : Int → Of_} : ∀ (n : Nat) (y : Tn), y ∈ turnsN H n → y.a ≠ 0 → H (y.a - 1) ≠ H y.a
  | 0, y, h, h0 => by
    rw [show turnsN H 0 = [offAt (H 0) 0] from rfl, List.mem_singleton] at h
    rw [h] at h0
    exact absurd rfl h0
  | n + 1, y, h, h0 => by
    have h : y ∈ (if H (n : Int) = H ((n : Int) + 1) then turnsN H n else turnsN H n ++ [offAt (H ((n : Int) + 1)) ((n : Int) + 1)]) := h
    split at h
    · exact turnsN_new n y h h0
    · rename_i hne
      rcases List.mem_append.1 h with h | h
      · exact turnsN_new n y h h0
      · rw [List.mem_singleton] at h
        rw [h]
        show H ((n : Int) + 1 - 1) ≠ H ((n : Int) + 1)
        rw [show (n : Int) + 1 - 1 = n by omega]
        exact hne
/-- until the next one the same. -/
theorem turnsN_until {H : Int → Of_} {n t : Nat} (ht : t ≤ n) {k : Nat} {y : Tn} (hk : (turnsN H n)[k]? = some y) (h1 : y.a ≤ t) (h2 : ∀ z, (turnsN H n)[k + 1]? = some z → (t : Int) < z.a) (hn : n < 1893456000) : H (t : Int) = y.off := by
  have hf := turnsN_fine (H := H) hn
  have hl := (List.getElem?_eq_some_iff.1 hk).1
  obtain ⟨y', h3, h4⟩ := turnsN_at (H := H) ht
  have : lastLe (t : Int) (turnsN H n) (turnsN H n).length = some y := lastLe_is hk h1 _ hl (fun j z q1 q2 hz => by
    by_cases e : j = k + 1
    · subst e; exact h2 z hz
    · have hq := List.getElem?_eq_getElem (l := turnsN H n) (i := k + 1) (by omega)
      have := hf.lt (i := k + 1) (j := j) (by omega) hq hz
      have := h2 _ hq
      omega)
  rw [this] at h3
  injection h3 with h3
  rw [h3]; exact h4.symm
/-- a table's turn, and the next one's time. -/
def nextA (l : List Tn) (k : Nat) : Int := match l[k + 1]? with | some z => z.a | none => 1893456000
structure TurnAt (d : Dt) (nm : ByteArray) (l : List Tn) (k : Nat) (y : Tn) : Prop where
  at_ : l[k]? = some y
  lo : 0 ≤ y.a
  lt : y.a < nextA l k
  hi : nextA l k ≤ 1893456000
  same : ∀ t, y.a ≤ t → t < nextA l k → oaE d nm t = 0 ∧ oaTo d nm t = y.tt ∧ oaSv d nm t = y.sv ∧ oaAb d nm t = y.ab
  new : k ≠ 0 → ∃ x, l[k - 1]? = some x ∧ 1 ≤ y.a ∧ (oaE d nm (y.a - 1) = 0 ∧ oaTo d nm (y.a - 1) = x.tt ∧ oaSv d nm (y.a - 1) = x.sv ∧ oaAb d nm (y.a - 1) = x.ab) ∧ ¬ (x.tt = y.tt ∧ x.sv = y.sv ∧ x.ab = y.ab)
theorem turn_at {d : Dt} {nm : ByteArray} (he : zoneEr d nm = 0) {k : Nat} (hk : k < (tabN d nm).length) : ∃ y, TurnAt d nm (tabN d nm) k y := by
  obtain ⟨z, hz, ht, hzq⟩ := tab_is he
  obtain ⟨n, hn⟩ : ∃ n : Nat, n = 1893455999 := ⟨_, rfl⟩
  rw [← hn] at ht
  have hf : FineL (turnsN (zoneO d z) n) := turnsN_fine (by omega)
  rw [ht] at hk ⊢
  have hq := List.getElem?_eq_getElem hk
  obtain ⟨y, hy⟩ : ∃ y, y = (turnsN (zoneO d z) n)[k] := ⟨_, rfl⟩
  rw [← hy] at hq
  have hym := List.mem_of_getElem? hq
  have hb := turnsN_bd y hym
  have tells : ∀ (j : Nat) (x : Tn), (turnsN (zoneO d z) n)[j]? = some x → ∀ t, x.a ≤ t → t < nextA (turnsN (zoneO d z) n) j → t < 1893456000 → oaE d nm t = 0 ∧ oaTo d nm t = x.tt ∧ oaSv d nm t = x.sv ∧ oaAb d nm t = x.ab := by
    intro j x hj t h1 h2 h3
    have hbx := turnsN_bd x (List.mem_of_getElem? hj)
    have hE : oaE d nm t = 0 := oaE_zero.2 ⟨he, by omega, h3⟩
    obtain ⟨s, rfl⟩ : ∃ s : Nat, (s : Int) = t := ⟨t.toNat, by omega⟩
    have ho := turnsN_until (H := zoneO d z) (n := n) (t := s) (by omega) hj h1 (fun w hw => by unfold nextA at h2; rw [hw] at h2; exact h2) (by omega)
    rw [at_zone hE hzq] at ho
    obtain ⟨a, b, c, e⟩ := x
    have ho : Of_.mk (oaTo d nm s) (oaSv d nm s) (oaAb d nm s) = Of_.mk b c e := ho
    injection ho with o1 o2 o3
    exact ⟨hE, o1, o2, o3⟩
  have hnx : y.a < nextA (turnsN (zoneO d z) n) k ∧ nextA (turnsN (zoneO d z) n) k ≤ 1893456000 := by
    unfold nextA
    cases hw : (turnsN (zoneO d z) n)[k + 1]? with
    | none => simp only; omega
    | some w =>
      have := hf.lt (i := k) (j := k + 1) (by omega) hq hw
      have := turnsN_bd w (List.mem_of_getElem? hw)
      simp only; omega
  refine ⟨y, { at_ := hq, lo := hb.1, lt := hnx.1, hi := hnx.2, same := fun t h1 h2 => tells k y hq t h1 h2 (by omega), new := fun h0 => ?_ }⟩
  have hk1 := List.getElem?_eq_getElem (l := turnsN (zoneO d z) n) (i := k - 1) (by omega)
  obtain ⟨x, hx⟩ : ∃ x, x = (turnsN (zoneO d z) n)[k - 1]'(by omega) := ⟨_, rfl⟩
  rw [← hx] at hk1
  have hxy := hf.lt (i := k - 1) (j := k) (by omega) hk1 hq
  have hbx := turnsN_bd x (List.mem_of_getElem? hk1)
  have hnxx : nextA (turnsN (zoneO d z) n) (k - 1) = y.a := by
    unfold nextA
    rw [show k - 1 + 1 = k by omega, hq]
  have hc := tells (k - 1) x hk1 (y.a - 1) (by omega) (by omega) (by omega)
  refine ⟨x, hk1, by omega, hc, fun hs => ?_⟩
  have hnew := turnsN_new n y hym (by omega)
  apply hnew
  rw [at_zone hc.1 hzq, ← turnsN_off hym, hc.2.1, hc.2.2.1, hc.2.2.2, hs.1, hs.2.1, hs.2.2]
  rfl
end Gno
