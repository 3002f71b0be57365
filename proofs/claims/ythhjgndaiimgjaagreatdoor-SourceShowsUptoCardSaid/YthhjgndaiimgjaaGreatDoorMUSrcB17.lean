/- Parts of a proof, laid together. -/
import Derived.Test.YthhjgndaiimgjaaGreatDoorMUSrcB9
import Derived.Test.YthhjgndaiimgjaaGreatDoorMUSrcB7
set_option linter.unusedSimpArgs false
set_option linter.unusedVariables false
/-! data.each at sets, zones and links, by data.Check's function literals. -/
section
set_option linter.unusedVariables false
set_option linter.unusedSimpArgs false
namespace Go.Proofs.YthhjgndaiimgjaaGreatDoor
open Go.RowKit Gno
theorem ownsRow_strs2 {w : World} {B : Nat} {e : TypeId} {v : Value} {n : Nat} {l : List ByteArray} (h : w.ownsRow B e 1 v n (strs l)) (hn : n ≤ maxLen) :
    ∃ A cap, v = .slice A n cap ∧ StrsAt w w.heap.size A n l ∧ (A = none → n = 0 ∧ cap = 0) := by
  obtain ⟨A, cap, rfl, hs⟩ := ownsRow_strs h hn
  refine ⟨A, cap, rfl, hs, fun hA => ?_⟩
  subst hA
  rcases h.2 with ⟨hv, hn0⟩ | ⟨g, c, cur, hv, _⟩
  · injection hv with _ h1 h2
    exact ⟨h1, h2⟩
  · injection hv with h0
    cases h0
theorem lit_Set_name (x : St) (w : World) :
    Calls Tryz.prog 37 #[.agg #[.string x.name, .slice x.A x.n x.cap]] w fun e w' => e = .returned (.string x.name) ∧ Below w.heap.size w w' := by
  go_enter Tryz.func37, Tryz.ntmps37
  go_wp2
  go_ret
  exact ⟨rfl, (Below.refl _ _).alloc (Nat.le_refl _) _⟩
set_option maxRecDepth 100000 in
set_option maxHeartbeats 4000000 in
theorem each_Set_name (A : Option Addr) (n cap : Nat) (l : List St) (w : World) (hR : SetsAt w w.heap.size A n l) (hn : n ≤ 1000000) :
    Calls Tryz.prog 36 #[.slice A n cap, .func (.func 37) #[] #[]] w fun e w' => ∃ A' c', e = .returned (.slice A' n c') ∧ StrsAt w' w'.heap.size A' n (l.map fun x => x.name) ∧ (A' = none → n = 0 ∧ c' = 0) ∧ Below w.heap.size w w' := by
  have HR := Lib.hid hR
  clear hR
  go_enter Tryz.func36, Tryz.ntmps36
  go_wp2
  go_loopw [5, 10] (fun b5 b10 wr => ∃ i : Nat, i ≤ n ∧ b10 = .int .i64 i ∧ wr.ownsRow w.heap.size 9 1 b5 i (strs ((l.take i).map fun x => x.name)) ∧ Below w.heap.size w wr) (fun _ b10 _ => n - (intOf b10).toNat)
  case atStart => exact ⟨0, Nat.zero_le _, rfl, World.ownsRow_nil _ _ _ _, Below.refl _ _⟩
  case round =>
    obtain ⟨i, hi, rfl, hown, hb⟩ := hrel
    by_cases hlt : i < n
    · obtain ⟨b, o, q, hA, hbB, hq, hqs, hqq⟩ := sets_get HR.out hlt
      subst hA
      obtain ⟨⟨e0, e1⟩, _⟩ := hqq _ hb
      have HS : Hid (strs ((l.take (i + 1)).map fun x => x.name) = strs ((l.take i).map fun x => x.name) ++ [.string q.name]) := Lib.hid (by rw [take_snoc' hq]; simp [strs])
      have C := Lib.hid (fun w => lit_Set_name q w)
      have HO : Hid (∀ w4, Below (wr.alloc (.cells #[.string q.name, .slice q.A q.n q.cap] 48)).heap.size (wr.alloc (.cells #[.string q.name, .slice q.A q.n q.cap] 48)) w4 → w4.ownsRow w.heap.size 9 1 u5 i (strs ((l.take i).map fun x => x.name)) ∧ Below w.heap.size w w4) := Lib.hid (fun w4 h4 =>
        ⟨(hown.alloc _).kept (row := none) ⟨h4.os, h4.tape, h4.output, h4.size, fun k hk _ => h4.block k hk⟩ (by cases Value.ownBlock u5 <;> simp), (hb.alloc hb.size _).trans (h4.mono (by have := hb.size; simp; omega))⟩)
      clear hq hqq hown
      go_wp2_with (first
        | (go_at_call 37; (with_reducible refine (C.out _).mono ?_); rintro e w4 ⟨rfl, hb4⟩; obtain ⟨hown4, hb5⟩ := HO.out _ hb4; clear hb4)
        | (at_builtin; go_must (refine wpList_app hb5 hb5.size _ 9 rfl _ _ 63 rfl Tryz.underlying63 _ 1 16 infoStr rfl (by decide) _ i _ rfl hown4 1 rfl rfl (by simp [Value.oneCell']) (by unfold maxLen; omega) (by omega) ?_); intro v' w1 hown1 hb1 _))
      go_roundw
      case rel => exact ⟨i + 1, by omega, by go_num, by rw [HS.out]; exact hown1, hb1⟩
      case measure => simp [intOf]; omega
    · have hown2 : wr.ownsRow w.heap.size 9 1 u5 n (strs (l.map fun x => x.name)) := by
        have h1 := hown
        rw [show i = n by omega, List.take_of_length_le (by rw [HR.out.1]; exact Nat.le_refl _)] at h1
        exact h1
      obtain ⟨A', c', hv, hst, hnil⟩ := ownsRow_strs2 hown2 (by unfold maxLen; omega)
      clear hown hown2
      rw [hv]
      clear hv
      go_wp2
      go_ret
      exact ⟨A', c', rfl, hst, hnil, hb⟩
theorem lit_Zone_name (x : Zn) (w : World) :
    Calls Tryz.prog 39 #[.agg #[.string x.name, .slice x.A x.n x.cap]] w fun e w' => e = .returned (.string x.name) ∧ Below w.heap.size w w' := by
  go_enter Tryz.func39, Tryz.ntmps39
  go_wp2
  go_ret
  exact ⟨rfl, (Below.refl _ _).alloc (Nat.le_refl _) _⟩
set_option maxRecDepth 100000 in
set_option maxHeartbeats 4000000 in
theorem each_Zone_name (A : Option Addr) (n cap : Nat) (l : List Zn) (w : World) (hR : ZonesAt w w.heap.size A n l) (hn : n ≤ 1000000) :
    Calls Tryz.prog 38 #[.slice A n cap, .func (.func 39) #[] #[]] w fun e w' => ∃ A' c', e = .returned (.slice A' n c') ∧ StrsAt w' w'.heap.size A' n (l.map fun x => x.name) ∧ (A' = none → n = 0 ∧ c' = 0) ∧ Below w.heap.size w w' := by
  have HR := Lib.hid hR
  clear hR
  go_enter Tryz.func38, Tryz.ntmps38
  go_wp2
  go_loopw [5, 10] (fun b5 b10 wr => ∃ i : Nat, i ≤ n ∧ b10 = .int .i64 i ∧ wr.ownsRow w.heap.size 9 1 b5 i (strs ((l.take i).map fun x => x.name)) ∧ Below w.heap.size w wr) (fun _ b10 _ => n - (intOf b10).toNat)
  case atStart => exact ⟨0, Nat.zero_le _, rfl, World.ownsRow_nil _ _ _ _, Below.refl _ _⟩
  case round =>
    obtain ⟨i, hi, rfl, hown, hb⟩ := hrel
    by_cases hlt : i < n
    · obtain ⟨b, o, q, hA, hbB, hq, hqs, hqq⟩ := zones_get HR.out hlt
      subst hA
      obtain ⟨⟨e0, e1⟩, _⟩ := hqq _ hb
      have HS : Hid (strs ((l.take (i + 1)).map fun x => x.name) = strs ((l.take i).map fun x => x.name) ++ [.string q.name]) := Lib.hid (by rw [take_snoc' hq]; simp [strs])
      have C := Lib.hid (fun w => lit_Zone_name q w)
      have HO : Hid (∀ w4, Below (wr.alloc (.cells #[.string q.name, .slice q.A q.n q.cap] 57)).heap.size (wr.alloc (.cells #[.string q.name, .slice q.A q.n q.cap] 57)) w4 → w4.ownsRow w.heap.size 9 1 u5 i (strs ((l.take i).map fun x => x.name)) ∧ Below w.heap.size w w4) := Lib.hid (fun w4 h4 =>
        ⟨(hown.alloc _).kept (row := none) ⟨h4.os, h4.tape, h4.output, h4.size, fun k hk _ => h4.block k hk⟩ (by cases Value.ownBlock u5 <;> simp), (hb.alloc hb.size _).trans (h4.mono (by have := hb.size; simp; omega))⟩)
      clear hq hqq hown
      go_wp2_with (first
        | (go_at_call 39; (with_reducible refine (C.out _).mono ?_); rintro e w4 ⟨rfl, hb4⟩; obtain ⟨hown4, hb5⟩ := HO.out _ hb4; clear hb4)
        | (at_builtin; go_must (refine wpList_app hb5 hb5.size _ 9 rfl _ _ 63 rfl Tryz.underlying63 _ 1 16 infoStr rfl (by decide) _ i _ rfl hown4 1 rfl rfl (by simp [Value.oneCell']) (by unfold maxLen; omega) (by omega) ?_); intro v' w1 hown1 hb1 _))
      go_roundw
      case rel => exact ⟨i + 1, by omega, by go_num, by rw [HS.out]; exact hown1, hb1⟩
      case measure => simp [intOf]; omega
    · have hown2 : wr.ownsRow w.heap.size 9 1 u5 n (strs (l.map fun x => x.name)) := by
        have h1 := hown
        rw [show i = n by omega, List.take_of_length_le (by rw [HR.out.1]; exact Nat.le_refl _)] at h1
        exact h1
      obtain ⟨A', c', hv, hst, hnil⟩ := ownsRow_strs2 hown2 (by unfold maxLen; omega)
      clear hown hown2
      rw [hv]
      clear hv
      go_wp2
      go_ret
      exact ⟨A', c', rfl, hst, hnil, hb⟩
theorem lit_Link_name (x : Lk) (w : World) :
    Calls Tryz.prog 41 #[.agg #[.string x.name, .string x.to]] w fun e w' => e = .returned (.string x.name) ∧ Below w.heap.size w w' := by
  go_enter Tryz.func41, Tryz.ntmps41
  go_wp2
  go_ret
  exact ⟨rfl, (Below.refl _ _).alloc (Nat.le_refl _) _⟩
set_option maxRecDepth 100000 in
set_option maxHeartbeats 4000000 in
theorem each_Link_name (A : Option Addr) (n cap : Nat) (l : List Lk) (w : World) (hR : LinksAt w w.heap.size A n l) (hn : n ≤ 1000000) :
    Calls Tryz.prog 40 #[.slice A n cap, .func (.func 41) #[] #[]] w fun e w' => ∃ A' c', e = .returned (.slice A' n c') ∧ StrsAt w' w'.heap.size A' n (l.map fun x => x.name) ∧ (A' = none → n = 0 ∧ c' = 0) ∧ Below w.heap.size w w' := by
  have HR := Lib.hid hR
  clear hR
  go_enter Tryz.func40, Tryz.ntmps40
  go_wp2
  go_loopw [5, 10] (fun b5 b10 wr => ∃ i : Nat, i ≤ n ∧ b10 = .int .i64 i ∧ wr.ownsRow w.heap.size 9 1 b5 i (strs ((l.take i).map fun x => x.name)) ∧ Below w.heap.size w wr) (fun _ b10 _ => n - (intOf b10).toNat)
  case atStart => exact ⟨0, Nat.zero_le _, rfl, World.ownsRow_nil _ _ _ _, Below.refl _ _⟩
  case round =>
    obtain ⟨i, hi, rfl, hown, hb⟩ := hrel
    by_cases hlt : i < n
    · obtain ⟨b, o, q, hA, hbB, hq, hqs, hqs2, hqq⟩ := links_get HR.out hlt
      subst hA
      obtain ⟨e0, e1⟩ := hqq _ hb
      have HS : Hid (strs ((l.take (i + 1)).map fun x => x.name) = strs ((l.take i).map fun x => x.name) ++ [.string q.name]) := Lib.hid (by rw [take_snoc' hq]; simp [strs])
      have C := Lib.hid (fun w => lit_Link_name q w)
      have HO : Hid (∀ w4, Below (wr.alloc (.cells #[.string q.name, .string q.to] 61)).heap.size (wr.alloc (.cells #[.string q.name, .string q.to] 61)) w4 → w4.ownsRow w.heap.size 9 1 u5 i (strs ((l.take i).map fun x => x.name)) ∧ Below w.heap.size w w4) := Lib.hid (fun w4 h4 =>
        ⟨(hown.alloc _).kept (row := none) ⟨h4.os, h4.tape, h4.output, h4.size, fun k hk _ => h4.block k hk⟩ (by cases Value.ownBlock u5 <;> simp), (hb.alloc hb.size _).trans (h4.mono (by have := hb.size; simp; omega))⟩)
      clear hq hqq hown
      go_wp2_with (first
        | (go_at_call 41; (with_reducible refine (C.out _).mono ?_); rintro e w4 ⟨rfl, hb4⟩; obtain ⟨hown4, hb5⟩ := HO.out _ hb4; clear hb4)
        | (at_builtin; go_must (refine wpList_app hb5 hb5.size _ 9 rfl _ _ 63 rfl Tryz.underlying63 _ 1 16 infoStr rfl (by decide) _ i _ rfl hown4 1 rfl rfl (by simp [Value.oneCell']) (by unfold maxLen; omega) (by omega) ?_); intro v' w1 hown1 hb1 _))
      go_roundw
      case rel => exact ⟨i + 1, by omega, by go_num, by rw [HS.out]; exact hown1, hb1⟩
      case measure => simp [intOf]; omega
    · have hown2 : wr.ownsRow w.heap.size 9 1 u5 n (strs (l.map fun x => x.name)) := by
        have h1 := hown
        rw [show i = n by omega, List.take_of_length_le (by rw [HR.out.1]; exact Nat.le_refl _)] at h1
        exact h1
      obtain ⟨A', c', hv, hst, hnil⟩ := ownsRow_strs2 hown2 (by unfold maxLen; omega)
      clear hown hown2
      rw [hv]
      clear hv
      go_wp2
      go_ret
      exact ⟨A', c', rfl, hst, hnil, hb⟩
theorem lit_Link_to (x : Lk) (w : World) :
    Calls Tryz.prog 42 #[.agg #[.string x.name, .string x.to]] w fun e w' => e = .returned (.string x.to) ∧ Below w.heap.size w w' := by
  go_enter Tryz.func42, Tryz.ntmps42
  go_wp2
  go_ret
  exact ⟨rfl, (Below.refl _ _).alloc (Nat.le_refl _) _⟩
set_option maxRecDepth 100000 in
set_option maxHeartbeats 4000000 in
theorem each_Link_to (A : Option Addr) (n cap : Nat) (l : List Lk) (w : World) (hR : LinksAt w w.heap.size A n l) (hn : n ≤ 1000000) :
    Calls Tryz.prog 40 #[.slice A n cap, .func (.func 42) #[] #[]] w fun e w' => ∃ A' c', e = .returned (.slice A' n c') ∧ StrsAt w' w'.heap.size A' n (l.map fun x => x.to) ∧ (A' = none → n = 0 ∧ c' = 0) ∧ Below w.heap.size w w' := by
  have HR := Lib.hid hR
  clear hR
  go_enter Tryz.func40, Tryz.ntmps40
  go_wp2
  go_loopw [5, 10] (fun b5 b10 wr => ∃ i : Nat, i ≤ n ∧ b10 = .int .i64 i ∧ wr.ownsRow w.heap.size 9 1 b5 i (strs ((l.take i).map fun x => x.to)) ∧ Below w.heap.size w wr) (fun _ b10 _ => n - (intOf b10).toNat)
  case atStart => exact ⟨0, Nat.zero_le _, rfl, World.ownsRow_nil _ _ _ _, Below.refl _ _⟩
  case round =>
    obtain ⟨i, hi, rfl, hown, hb⟩ := hrel
    by_cases hlt : i < n
    · obtain ⟨b, o, q, hA, hbB, hq, hqs, hqs2, hqq⟩ := links_get HR.out hlt
      subst hA
      obtain ⟨e0, e1⟩ := hqq _ hb
      have HS : Hid (strs ((l.take (i + 1)).map fun x => x.to) = strs ((l.take i).map fun x => x.to) ++ [.string q.to]) := Lib.hid (by rw [take_snoc' hq]; simp [strs])
      have C := Lib.hid (fun w => lit_Link_to q w)
      have HO : Hid (∀ w4, Below (wr.alloc (.cells #[.string q.name, .string q.to] 61)).heap.size (wr.alloc (.cells #[.string q.name, .string q.to] 61)) w4 → w4.ownsRow w.heap.size 9 1 u5 i (strs ((l.take i).map fun x => x.to)) ∧ Below w.heap.size w w4) := Lib.hid (fun w4 h4 =>
        ⟨(hown.alloc _).kept (row := none) ⟨h4.os, h4.tape, h4.output, h4.size, fun k hk _ => h4.block k hk⟩ (by cases Value.ownBlock u5 <;> simp), (hb.alloc hb.size _).trans (h4.mono (by have := hb.size; simp; omega))⟩)
      clear hq hqq hown
      go_wp2_with (first
        | (go_at_call 42; (with_reducible refine (C.out _).mono ?_); rintro e w4 ⟨rfl, hb4⟩; obtain ⟨hown4, hb5⟩ := HO.out _ hb4; clear hb4)
        | (at_builtin; go_must (refine wpList_app hb5 hb5.size _ 9 rfl _ _ 63 rfl Tryz.underlying63 _ 1 16 infoStr rfl (by decide) _ i _ rfl hown4 1 rfl rfl (by simp [Value.oneCell']) (by unfold maxLen; omega) (by omega) ?_); intro v' w1 hown1 hb1 _))
      go_roundw
      case rel => exact ⟨i + 1, by omega, by go_num, by rw [HS.out]; exact hown1, hb1⟩
      case measure => simp [intOf]; omega
    · have hown2 : wr.ownsRow w.heap.size 9 1 u5 n (strs (l.map fun x => x.to)) := by
        have h1 := hown
        rw [show i = n by omega, List.take_of_length_le (by rw [HR.out.1]; exact Nat.le_refl _)] at h1
        exact h1
      obtain ⟨A', c', hv, hst, hnil⟩ := ownsRow_strs2 hown2 (by unfold maxLen; omega)
      clear hown hown2
      rw [hv]
      clear hv
      go_wp2
      go_ret
      exact ⟨A', c', rfl, hst, hnil, hb⟩
end Go.Proofs.YthhjgndaiimgjaaGreatDoor
end
