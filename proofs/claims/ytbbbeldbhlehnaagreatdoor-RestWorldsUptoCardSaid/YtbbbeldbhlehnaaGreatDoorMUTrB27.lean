/- Parts of a proof, laid together. -/
import Derived.Test.YtbbbeldbhlehnaaGreatDoorShelf
import Derived.Maps.OwnSet
import Derived.Carry
import Derived.BigQuiet
import Derived.Deep.CutRange
import Derived.Test.YtbbbeldbhlehnaaGreatDoorMUTrB25
set_option linter.unusedSimpArgs false
set_option linter.unusedVariables false
section
set_option maxRecDepth 100000
namespace Gno
open Go
theorem decD_one {n : Nat} (h : n < 10) : Lib.decDigits n = [UInt8.ofNat (48 + n)] := by rw [Lib.decDigits, dif_pos h]
theorem decD_two {n : Nat} (h1 : ¬ n < 10) (h : n < 100) : Lib.decDigits n = twL n := by
 rw [Lib.decDigits, dif_neg h1, decD_one (by omega)]; rfl
theorem decD_nu {n : Nat} (h : n < 100) : Lib.decDigits n = nuL n := by
 unfold nuL
 by_cases h1 : n < 10
 ·rw [if_pos h1, decD_one h1]
 ·rw [if_neg h1, decD_two h1 h]
theorem tw_low {n : Nat} (h : n < 10) : (⟨#[48]⟩ : ByteArray) ++ B (nuL n) = B (twL n) := by
 have : (⟨#[48]⟩ : ByteArray) = B [48] := rfl
 rw [this, B_app]
 unfold nuL twL
 rw [if_pos h, Nat.div_eq_of_lt h, Nat.mod_eq_of_lt h]
 rfl
theorem nu_high {n : Nat} (h : ¬ n < 10) : nuL n = twL n := by unfold nuL; rw [if_neg h]
theorem nu_size (n : Nat) : (B (nuL n)).size ≤ 2 := by rw [B_size]; unfold nuL; split <;> simp [twL]
end Gno
namespace Go.Proofs.YtbbbeldbhlehnaaGreatDoor
open Go.RowKit Gno
theorem itoa_any (n : Nat) (h : n < 100) (w : World) : Calls Tryz.prog 131 #[.int .i64 n] w fun e w' => e = .returned (.string (B (nuL n))) ∧ w' = w := by
 have := Go.Proofs.Tryz.strconv_Itoa_small n h w
 rw [decD_nu h] at this
 exact this
set_option maxHeartbeats 4000000 in
theorem twoP_any (n : Nat) (h : n < 100) (w : World) : Calls Tryz.prog 129 #[.int .i64 n] w fun e w' => e = .returned (.string (B (twL n))) ∧ w = w' := by
 have C := Lib.hid (fun w => itoa_any n h w)
 by_cases h1 : n < 10
 ·have HX := Lib.hid (tw_low h1)
  have hs := nu_size n
  obtain ⟨s, hs0⟩ : ∃ s, s = B (nuL n) := ⟨_, rfl⟩
  rw [← hs0] at C HX hs
  clear hs0
  go_enter Tryz.func129, Tryz.ntmps129
  go_wp2_with (go_at_call 131; (with_reducible refine (C.out _).mono ?_); rintro e w1 ⟨rfl, rfl⟩)
  go_ret
  exact ⟨retO_str HX.out, rfl⟩
 ·have HX := Lib.hid (nu_high h1)
  obtain ⟨s, hs0⟩ : ∃ s, s = B (nuL n) := ⟨_, rfl⟩
  rw [← hs0] at C
  have HS : Hid (s = B (twL n)) := Lib.hid (by rw [hs0, HX.out])
  clear hs0 HX
  go_enter Tryz.func129, Tryz.ntmps129
  go_wp2_with (go_at_call 131; (with_reducible refine (C.out _).mono ?_); rintro e w1 ⟨rfl, rfl⟩)
  go_ret
  exact ⟨retO_str HS.out, rfl⟩
theorem two_of (H : Nat) (h : H < 100) (s : ByteArray) (hs : s = B (twL H)) (w : World) : Calls Tryz.prog 129 #[.int .i64 H] w fun e w' => e = .returned (.string s) ∧ w = w' := by
 rw [hs]; exact twoP_any H h w
theorem itoa_of (H : Nat) (h : H < 100) (s : ByteArray) (hs : s = B (nuL H)) (w : World) : Calls Tryz.prog 131 #[.int .i64 H] w fun e w' => e = .returned (.string s) ∧ w = w' := by
 rw [hs]; exact (itoa_any H h w).mono fun e w' ⟨h1, h2⟩ => ⟨h1, h2.symm⟩
set_option maxHeartbeats 4000000 in
theorem wide_any (h m : Nat) (hh : h < 100) (hm : m < 100) (w : World) : Calls Tryz.prog 128 #[.int .i64 h, .int .i64 m] w fun e w' => e = .returned (.string (B (layL 2 h m))) ∧ w = w' := by
 obtain ⟨a, ha⟩ : ∃ a, a = B (twL h) := ⟨_, rfl⟩
 obtain ⟨b, hb⟩ : ∃ b, b = B (twL m) := ⟨_, rfl⟩
 have D1 := Lib.hid (two_of h hh a ha)
 have D2 := Lib.hid (two_of m hm b hb)
 have HX : Hid (a ++ ⟨#[58]⟩ ++ b = B (layL 2 h m)) := Lib.hid (by
  rw [ha, hb]
  show B (twL h) ++ B [58] ++ B (twL m) = _
  rw [B_app, B_app]
  rw [show layL 2 h m = twL h ++ (58 :: twL m) by unfold layL; rw [if_neg (by decide), if_neg (by decide)]]; simp)
 have s1 : a.size ≤ 2 := by rw [ha]; exact tw_le _
 have s2 : b.size ≤ 2 := by rw [hb]; exact tw_le _
 clear ha hb
 go_enter Tryz.func128, Tryz.ntmps128
 go_wp2_with (first | (go_at_call 129; first | ((with_reducible refine (D1.out _).mono ?_); rintro e w1 ⟨rfl, rfl⟩) | ((with_reducible refine (D2.out _).mono ?_); rintro e w2 ⟨rfl, rfl⟩)))
 go_ret
 exact ⟨retO_str HX.out, rfl⟩
theorem wide_4 (h m : Nat) : layL 4 h m = layL 2 h m := rfl
set_option maxHeartbeats 4000000 in
theorem basic_any (h m : Nat) (hh : h < 100) (hm : m < 100) (w : World) : Calls Tryz.prog 132 #[.int .i64 h, .int .i64 m] w fun e w' => e = .returned (.string (B (layL 1 h m))) ∧ w = w' := by
 obtain ⟨a, ha⟩ : ∃ a, a = B (twL h) := ⟨_, rfl⟩
 obtain ⟨b, hb⟩ : ∃ b, b = B (twL m) := ⟨_, rfl⟩
 have D1 := Lib.hid (two_of h hh a ha)
 have D2 := Lib.hid (two_of m hm b hb)
 have HX : Hid (a ++ b = B (layL 1 h m)) := Lib.hid (by
  rw [ha, hb]
  show B (twL h) ++ B (twL m) = _
  rw [B_app]
  rfl)
 have s1 : a.size ≤ 2 := by rw [ha]; exact tw_le _
 have s2 : b.size ≤ 2 := by rw [hb]; exact tw_le _
 clear ha hb
 go_enter Tryz.func132, Tryz.ntmps132
 go_wp2_with (first | (go_at_call 129; first | ((with_reducible refine (D1.out _).mono ?_); rintro e w1 ⟨rfl, rfl⟩) | ((with_reducible refine (D2.out _).mono ?_); rintro e w2 ⟨rfl, rfl⟩)))
 go_ret
 exact ⟨retO_str HX.out, rfl⟩
set_option maxHeartbeats 4000000 in
theorem short_one (h m : Nat) (hh : h < 100) (hm : m < 100) (hz : m = 0) (w : World) : Calls Tryz.prog 130 #[.int .i64 h, .int .i64 m] w fun e w' => e = .returned (.string (B (layL 3 h m))) ∧ w = w' := by
 obtain ⟨a, ha⟩ : ∃ a, a = B (nuL h) := ⟨_, rfl⟩
 obtain ⟨b, hb⟩ : ∃ b, b = B (twL m) := ⟨_, rfl⟩
 have D1 := Lib.hid (itoa_of h hh a ha)
 have D2 := Lib.hid (two_of m hm b hb)
 have HX : Hid (a = B (layL 3 h m)) := Lib.hid (by
  rw [ha]
  show B (nuL h) = _
  rw [show layL 3 h m = nuL h by unfold layL; rw [if_neg (by decide), if_pos rfl, if_pos hz]])
 have s1 : a.size ≤ 2 := by rw [ha]; exact nu_le _
 have s2 : b.size ≤ 2 := by rw [hb]; exact tw_le _
 clear ha hb
 go_enter Tryz.func130, Tryz.ntmps130
 go_wp2_with (first | (go_at_call 131; ((with_reducible refine (D1.out _).mono ?_); rintro e w1 ⟨rfl, rfl⟩)) | (go_at_call 129; ((with_reducible refine (D2.out _).mono ?_); rintro e w2 ⟨rfl, rfl⟩)))
 go_ret
 exact ⟨retO_str HX.out, rfl⟩
set_option maxHeartbeats 4000000 in
theorem short_two (h m : Nat) (hh : h < 100) (hm : m < 100) (hz : ¬ m = 0) (w : World) : Calls Tryz.prog 130 #[.int .i64 h, .int .i64 m] w fun e w' => e = .returned (.string (B (layL 3 h m))) ∧ w = w' := by
 obtain ⟨a, ha⟩ : ∃ a, a = B (nuL h) := ⟨_, rfl⟩
 obtain ⟨b, hb⟩ : ∃ b, b = B (twL m) := ⟨_, rfl⟩
 have D1 := Lib.hid (itoa_of h hh a ha)
 have D2 := Lib.hid (two_of m hm b hb)
 have HX : Hid (a ++ ⟨#[58]⟩ ++ b = B (layL 3 h m)) := Lib.hid (by
  rw [ha, hb]
  show B (nuL h) ++ B [58] ++ B (twL m) = _
  rw [B_app, B_app]
  rw [show layL 3 h m = nuL h ++ (58 :: twL m) by unfold layL; rw [if_neg (by decide), if_pos rfl, if_neg hz]]; simp)
 have s1 : a.size ≤ 2 := by rw [ha]; exact nu_le _
 have s2 : b.size ≤ 2 := by rw [hb]; exact tw_le _
 clear ha hb
 go_enter Tryz.func130, Tryz.ntmps130
 go_wp2_with (first | (go_at_call 131; ((with_reducible refine (D1.out _).mono ?_); rintro e w1 ⟨rfl, rfl⟩)) | (go_at_call 129; ((with_reducible refine (D2.out _).mono ?_); rintro e w2 ⟨rfl, rfl⟩)))
 go_ret
 exact ⟨retO_str HX.out, rfl⟩
end Go.Proofs.YtbbbeldbhlehnaaGreatDoor
end
section
set_option maxRecDepth 100000
namespace Gno
open Go Go.Maps
def heldR (v : Value) : Option (DataW Value × List MemPlace) := some (.held v, [])
def styV (a z : ByteArray) (f : Nat) : Value := .agg #[.string a, .string z, .func (.func f) #[] #[]]
theorem heldR_mk (v : Value) : heldR v = some (.held v, []) := rfl
theorem wpList_insert_own {H : Type} {P : Program} (w : World) {ops : Array Oper} {rest : List Oper} {o : Oper} {a : Act} {Q : Exit → Act → World → Prop}
 (hg : o.guard = none) (m x v : Operand) (t : TypeId) (hop : o.op = Op.insert t m x v)
 (k e : TypeId) (K : Keyed P k) (ht : P.underlying t = some (.map k e)) (R : Value → Option (DataW H × List MemPlace)) (b n : Nat) (D : DataW H)
 (hm : a.eval m = .map (some b)) (hown : w.ownsMap P k R b n D) (hn : n < maxLen) (key val : Value) (kl : Lit) (hx : a.eval x = key) (hv : a.eval v = val) (hkey : keyOf P k key = some kl)
 (d : DataW H) (ps : List MemPlace) (hval : R val = some (d, ps))
 (hK : ∀ w', w'.ownsMap P k R b (n + 1) (D.put kl d) → w.grownBy w' (some b) → wpList P ops Q rest (a.put o.dst undef) w') :
 wpList P ops Q (o :: rest) a w := by
 refine wpList_plain hg fun K' hK' => ?_
 obtain ⟨w', hrun, r1, r2⟩ := hown.update K ht hn hkey hval
 unfold Oper.wp
 simp [execOp, hop, hm, hx, hv, hrun, Result.andThen]
 exact hK' _ _ (hK w' r1 r2)
end Gno
namespace Go.Proofs.YtbbbeldbhlehnaaGreatDoor
open Go.RowKit Gno Go.Maps
def V1 : Value := styV ⟨#[]⟩ ⟨#[]⟩ 132
def V2 : Value := styV ⟨#[]⟩ ⟨#[90]⟩ 128
def V3 : Value := styV ⟨#[71, 77, 84]⟩ ⟨#[71, 77, 84]⟩ 130
def V4 : Value := styV ⟨#[71, 77, 84]⟩ ⟨#[71, 77, 84]⟩ 128
def stylesD : DataW Value := ((((DataW.map []).put (.int .i64 1) (.held V1)).put (.int .i64 2) (.held V2)).put (.int .i64 3) (.held V3)).put (.int .i64 4) (.held V4)
theorem below_own {w w1 w2 : World} (h : Below w.heap.size w w1) (hg : w1.grownBy w2 (some w.heap.size)) (hs : w.heap.size ≤ w1.heap.size) : Below w.heap.size w w2 := h.grown hg hs fun k hk => by injection hk with hk; omega
theorem keyed_int : Keyed Tryz.prog 3 := int_keyed Tryz.underlying3
set_option maxHeartbeats 4000000 in
theorem styles_any (w : World) : Calls Tryz.prog 54 #[] w fun e w' => e = .returned (.map (some w.heap.size)) ∧ w'.ownsMap Tryz.prog 3 heldR w.heap.size 4 stylesD ∧ Below w.heap.size w w' := by
 have h0 : (w.alloc (.map #[] 0)).ownsMap Tryz.prog 3 heldR w.heap.size 0 (.map []) := World.ownsMap_made w _ _ _
 have hb0 : Below w.heap.size w (w.alloc (.map #[] 0)) := (Below.refl _ w).alloc (Nat.le_refl _) _
 have hmm := @run_makeMap Tryz.prog
 go_enter Tryz.func54, Tryz.ntmps54
 go_wp2_with (refine wpList_insert_own _ rfl _ _ _ 98 rfl 3 96 keyed_int Tryz.underlying98 heldR w.heap.size _ _ rfl (by assumption) (by unfold maxLen; omega) _ _ _ rfl rfl (keyOf_int_mk Tryz.underlying3 (by decide)) _ [] (heldR_mk _) ?_; intro w1 hown1 hgrow1; have hbw := below_own (by assumption) hgrow1 (Below.size (by assumption)); clear hgrow1)
 go_ret
 exact ⟨rfl, by assumption, by assumption⟩
end Go.Proofs.YtbbbeldbhlehnaaGreatDoor
end
section
set_option maxRecDepth 100000
namespace Go.Proofs.YtbbbeldbhlehnaaGreatDoor
open Go.RowKit Gno Go.Maps
theorem zero_style (w : World) : (zeroValue 96).run Tryz.prog w = .ok (.agg #[.string ⟨#[]⟩, .string ⟨#[]⟩, .nilFunc]) w := by kernel_rfl
def LookAt (w : World) (b : Nat) (k : Int) (a z : ByteArray) (f : Nat) : Prop := (Instr.lookup 98 (.map (some b)) (.int .i64 k) true).run Tryz.prog w = .ok (.tuple #[.agg #[.string a, .string z, .func (.func f) #[] #[]], .bool true]) w
theorem look_of {w : World} {b : Nat} (h : w.ownsMap Tryz.prog 3 heldR b 4 stylesD) {k : Int} (hk : (Lit.int .i64 k).wf = true) {V : Value} (hat : stylesD.atKey (.int .i64 k) (.held (.agg #[.string ⟨#[]⟩, .string ⟨#[]⟩, .nilFunc])) = .held V) {s : Bool} (hs : Maps.has stylesD (.int .i64 k) = s) :
 (Instr.lookup 98 (.map (some b)) (.int .i64 k) true).run Tryz.prog w = .ok (.tuple #[V, .bool s]) w := by
 obtain ⟨v, ps, hrun, hv⟩ := h.look_ok keyed_int Tryz.underlying98 (zero_style w) (heldR_mk _) (keyOf_int_mk Tryz.underlying3 hk)
 rw [hat] at hv
 simp only [heldR, Option.some.injEq, Prod.mk.injEq, DataW.held.injEq] at hv
 rw [hrun, hv.1, hs]
theorem look_1 {w : World} {b : Nat} (h : w.ownsMap Tryz.prog 3 heldR b 4 stylesD) : LookAt w b 1 ⟨#[]⟩ ⟨#[]⟩ 132 := look_of h (by decide) (by rfl) (by rfl)
theorem look_2 {w : World} {b : Nat} (h : w.ownsMap Tryz.prog 3 heldR b 4 stylesD) : LookAt w b 2 ⟨#[]⟩ ⟨#[90]⟩ 128 := look_of h (by decide) (by rfl) (by rfl)
theorem look_3 {w : World} {b : Nat} (h : w.ownsMap Tryz.prog 3 heldR b 4 stylesD) : LookAt w b 3 ⟨#[71, 77, 84]⟩ ⟨#[71, 77, 84]⟩ 130 := look_of h (by decide) (by rfl) (by rfl)
theorem look_4 {w : World} {b : Nat} (h : w.ownsMap Tryz.prog 3 heldR b 4 stylesD) : LookAt w b 4 ⟨#[71, 77, 84]⟩ ⟨#[71, 77, 84]⟩ 128 := look_of h (by decide) (by rfl) (by rfl)
theorem stylesD_map : stylesD = .map [(.int .i64 1, .held V1), (.int .i64 2, .held V2), (.int .i64 3, .held V3), (.int .i64 4, .held V4)] := by rfl
theorem look_no {w : World} {b : Nat} (h : w.ownsMap Tryz.prog 3 heldR b 4 stylesD) {k : Int} (hw : (Lit.int .i64 k).wf = true) (hk : kindB k = false) : (Instr.lookup 98 (.map (some b)) (.int .i64 k) true).run Tryz.prog w = .ok (.tuple #[.agg #[.string ⟨#[]⟩, .string ⟨#[]⟩, .nilFunc], .bool false]) w := by
 have h1 : ¬ (1 ≤ k ∧ k ≤ 4) := fun h => by rw [kindB_iff.2 h] at hk; cases hk
 have e1 : decide ((1 : Int) = k) = false := decide_eq_false (by omega)
 have e2 : decide ((2 : Int) = k) = false := decide_eq_false (by omega)
 have e3 : decide ((3 : Int) = k) = false := decide_eq_false (by omega)
 have e4 : decide ((4 : Int) = k) = false := decide_eq_false (by omega)
 refine look_of h hw ?_ ?_
 ·rw [stylesD_map]
  simp only [DataW.atKey, List.find?, Lit.sameKey]
  simp only [true_and, e1, e2, e3, e4]
 ·rw [stylesD_map]
  simp [Maps.has, Lit.sameKey]
  omega
end Go.Proofs.YtbbbeldbhlehnaaGreatDoor
end
section
set_option maxRecDepth 100000
namespace Gno
open Go Go.RowKit
theorem lay_size (k : Int) (h m : Nat) : (B (layL k h m)).size ≤ 6 := by
 rw [B_size]; unfold layL nuL twL
 split
 ·simp
 ·split
  ·split <;> split <;> simp
  ·simp
end Gno
namespace Go.Proofs.YtbbbeldbhlehnaaGreatDoor
open Go.RowKit Gno Go.Maps
theorem short_any (h m : Nat) (hh : h < 100) (hm : m < 100) (w : World) : Calls Tryz.prog 130 #[.int .i64 h, .int .i64 m] w fun e w' => e = .returned (.string (B (layL 3 h m))) ∧ w = w' := by
 by_cases hz : m = 0
 ·exact short_one h m hh hm hz w
 ·exact short_two h m hh hm hz w
theorem lay_1 (H M : Nat) (hh : H < 100) (hm : M < 100) (s : ByteArray) (hs : s = B (layL 1 H M)) (x y : Int) (hx : x = H) (hy : y = M) (w : World) : Calls Tryz.prog 132 #[.int .i64 x, .int .i64 y] w fun e w' => e = .returned (.string s) ∧ w' = w := by
 rw [hx, hy, hs]; exact (basic_any H M hh hm w).mono fun e w' ⟨h1, h2⟩ => ⟨h1, h2.symm⟩
theorem lay_2 (H M : Nat) (hh : H < 100) (hm : M < 100) (s : ByteArray) (hs : s = B (layL 2 H M)) (x y : Int) (hx : x = H) (hy : y = M) (w : World) : Calls Tryz.prog 128 #[.int .i64 x, .int .i64 y] w fun e w' => e = .returned (.string s) ∧ w' = w := by
 rw [hx, hy, hs]; exact (wide_any H M hh hm w).mono fun e w' ⟨h1, h2⟩ => ⟨h1, h2.symm⟩
theorem lay_4 (H M : Nat) (hh : H < 100) (hm : M < 100) (s : ByteArray) (hs : s = B (layL 4 H M)) (x y : Int) (hx : x = H) (hy : y = M) (w : World) : Calls Tryz.prog 128 #[.int .i64 x, .int .i64 y] w fun e w' => e = .returned (.string s) ∧ w' = w := lay_2 H M hh hm s (by rw [hs, wide_4]) x y hx hy w
theorem lay_3 (H M : Nat) (hh : H < 100) (hm : M < 100) (s : ByteArray) (hs : s = B (layL 3 H M)) (x y : Int) (hx : x = H) (hy : y = M) (w : World) : Calls Tryz.prog 130 #[.int .i64 x, .int .i64 y] w fun e w' => e = .returned (.string s) ∧ w' = w := by
 rw [hx, hy, hs]; exact (short_any H M hh hm w).mono fun e w' ⟨h1, h2⟩ => ⟨h1, h2.symm⟩
theorem below_cell {B : Nat} {w w1 : World} (h : Below B w w1) (hB : B ≤ w1.heap.size) (o : Obj) (n : Nat) : Below B w ((w1.alloc o).drewN n) := by
 have h2 := h.alloc hB o
 exact ⟨h2.os, h2.tape, h2.output, h2.size, h2.block⟩
set_option maxHeartbeats 4000000 in
theorem show_kind (k n : Int) (hw : (Lit.int .i64 k).wf = true) (hk : kindB k = false) (w : World) : Calls Tryz.prog 58 #[.int .i64 k, .int .i64 n] w fun e w' => e = .returned (.tuple #[.string (showT k n), .int .i64 (showE k n)]) ∧ Below w.heap.size w w' := by
 rw [(showE_kind hk).1, (showE_kind hk).2]
 have C := Lib.hid (fun w => styles_any w)
 have HL := Lib.hid (fun (w1 : World) (h : w1.ownsMap Tryz.prog 3 heldR w.heap.size 4 stylesD) => look_no h hw hk)
 have hnf := fun (a : Addr) (w : World) => run_store Tryz.prog w a .nilFunc .plain rfl
 go_enter Tryz.func58, Tryz.ntmps58
 go_wp2_with (go_at_call 54; (with_reducible refine (C.out _).mono ?_); rintro e w1 ⟨rfl, hown, hb1⟩; have hlk := HL.out w1 hown)
 go_ret2
 exact ⟨rfl, below_cell hb1 hb1.size _ 0⟩
set_option maxHeartbeats 4000000 in
theorem show_lo (k n : Int) (hk : kindB k = true) (hn : offOk n = false) (a z : ByteArray) (f : Nat) (HL0 : ∀ (w1 : World) (b : Nat) (h : w1.ownsMap Tryz.prog 3 heldR b 4 stylesD), LookAt w1 b k a z f) (hl : n < -57600) (w : World) : Calls Tryz.prog 58 #[.int .i64 k, .int .i64 n] w fun e w' => e = .returned (.tuple #[.string (showT k n), .int .i64 (showE k n)]) ∧ Below w.heap.size w w' := by
 rw [(showE_range hk hn).1, (showE_range hk hn).2]
 have C := Lib.hid (fun w => styles_any w)
 have HL := Lib.hid (fun (w1 : World) h => HL0 w1 w.heap.size h)
 unfold LookAt at HL
 have hnf := fun (w : World) => fun (x : Addr) => run_store Tryz.prog w x (.func (.func f) #[] #[]) .plain rfl
 have hd1 : decide (n < -57600) = true := decide_eq_true hl
 go_enter Tryz.func58, Tryz.ntmps58
 go_wp2_with (go_at_call 54; (with_reducible refine (C.out _).mono ?_); rintro e w1 ⟨rfl, hown, hb1⟩; have hlk := HL.out w1 hown)
 go_ret2
 exact ⟨rfl, below_cell hb1 hb1.size _ 0⟩
set_option maxHeartbeats 4000000 in
theorem show_hi (k n : Int) (hk : kindB k = true) (hn : offOk n = false) (a z : ByteArray) (f : Nat) (HL0 : ∀ (w1 : World) (b : Nat) (h : w1.ownsMap Tryz.prog 3 heldR b 4 stylesD), LookAt w1 b k a z f) (hl : 57600 < n) (w : World) : Calls Tryz.prog 58 #[.int .i64 k, .int .i64 n] w fun e w' => e = .returned (.tuple #[.string (showT k n), .int .i64 (showE k n)]) ∧ Below w.heap.size w w' := by
 rw [(showE_range hk hn).1, (showE_range hk hn).2]
 have C := Lib.hid (fun w => styles_any w)
 have HL := Lib.hid (fun (w1 : World) h => HL0 w1 w.heap.size h)
 unfold LookAt at HL
 have hnf := fun (w : World) => fun (x : Addr) => run_store Tryz.prog w x (.func (.func f) #[] #[]) .plain rfl
 have hd1 : decide (n < -57600) = false := decide_eq_false (by omega)
 have hd2 : decide (57600 < n) = true := decide_eq_true hl
 go_enter Tryz.func58, Tryz.ntmps58
 go_wp2_with (go_at_call 54; (with_reducible refine (C.out _).mono ?_); rintro e w1 ⟨rfl, hown, hb1⟩; have hlk := HL.out w1 hown)
 go_ret2
 exact ⟨rfl, below_cell hb1 hb1.size _ 0⟩
set_option maxHeartbeats 4000000 in
theorem show_mod (k n : Int) (hk : kindB k = true) (hn : offOk n = false) (a z : ByteArray) (f : Nat) (HL0 : ∀ (w1 : World) (b : Nat) (h : w1.ownsMap Tryz.prog 3 heldR b 4 stylesD), LookAt w1 b k a z f) (h1 : -57600 ≤ n) (h2 : n ≤ 57600) (w : World) : Calls Tryz.prog 58 #[.int .i64 k, .int .i64 n] w fun e w' => e = .returned (.tuple #[.string (showT k n), .int .i64 (showE k n)]) ∧ Below w.heap.size w w' := by
 rw [(showE_range hk hn).1, (showE_range hk hn).2]
 have C := Lib.hid (fun w => styles_any w)
 have HL := Lib.hid (fun (w1 : World) h => HL0 w1 w.heap.size h)
 unfold LookAt at HL
 have hnf := fun (w : World) => fun (x : Addr) => run_store Tryz.prog w x (.func (.func f) #[] #[]) .plain rfl
 have hm : ¬ n.tmod 60 = 0 := fun h => by
  rw [offOk_iff.2 ⟨h1, h2, tmod60.1 h⟩] at hn
  cases hn
 have hd1 : decide (n < -57600) = false := decide_eq_false (by omega)
 have hd2 : decide (57600 < n) = false := decide_eq_false (by omega)
 go_enter Tryz.func58, Tryz.ntmps58
 go_wp2_with (go_at_call 54; (with_reducible refine (C.out _).mono ?_); rintro e w1 ⟨rfl, hown, hb1⟩; have hlk := HL.out w1 hown)
 go_ret2
 exact ⟨rfl, below_cell hb1 hb1.size _ 0⟩
set_option maxHeartbeats 4000000 in
theorem show_1n (n : Int) (hn : offOk n = true) (hs : n < 0) (w : World) : Calls Tryz.prog 58 #[.int .i64 1, .int .i64 n] w fun e w' => e = .returned (.tuple #[.string (showT 1 n), .int .i64 (showE 1 n)]) ∧ Below w.heap.size w w' := by
 obtain ⟨h1, h2, h3⟩ := offOk_iff.1 hn
 rw [(showE_ok (by decide) hn).1]
 have ht := tmod60.2 h3
 have C := Lib.hid (fun w => styles_any w)
 have HL := Lib.hid (fun (w1 : World) (h : w1.ownsMap Tryz.prog 3 heldR w.heap.size 4 stylesD) => look_1 h)
 unfold LookAt at HL
 have hnf := fun (w : World) => fun (x : Addr) => run_store Tryz.prog w x (.func (.func 132) #[] #[]) .plain rfl
 obtain ⟨H, hH⟩ : ∃ H : Nat, H = n.natAbs / 60 / 60 := ⟨_, rfl⟩
 obtain ⟨M, hM⟩ : ∃ M : Nat, M = n.natAbs / 60 % 60 := ⟨_, rfl⟩
 obtain ⟨s, hs0⟩ : ∃ s, s = B (layL 1 H M) := ⟨_, rfl⟩
 have D := Lib.hid (lay_1 H M (by omega) (by omega) s hs0)
 have HX : Hid (⟨#[]⟩ ++ ⟨#[45]⟩ ++ s = showT 1 n) := Lib.hid (by
  rw [hs0]
  show B [] ++ B [45] ++ B (layL 1 H M) = _
  rw [B_app, B_app]
  exact showT_of (by decide) hn (by rw [showL_some (by omega), ← hH, ← hM, sg_neg (by omega)]; rfl))
 have s1 : s.size ≤ 6 := by rw [hs0]; exact lay_size _ _ _
 clear hs0
 have hq : n.tdiv 60 < 0 := by
  have := Int.mul_tdiv_add_tmod n 60
  omega
 go_enter Tryz.func58, Tryz.ntmps58
 go_upto_region 11 with (first | (go_at_call 54; (with_reducible refine (C.out _).mono ?_); rintro e w1 ⟨rfl, hown, hb1⟩; have hlk := HL.out w1 hown) | fail)
 all_goals
  go_quiet ((go_at_call 132; exact Calls.quiet_of_same (D.out _ _ (by first | exact (neg_h hs h1).trans (by omega) | exact (neg_h2 hs h1).trans (by omega)) (by exact (neg_s hs h1).trans (by omega)) _)))
  go_wp2
  go_ret2
  exact ⟨retO_pair HX.out, below_cell hb1 hb1.size _ _⟩
set_option maxHeartbeats 4000000 in
theorem show_1q (n : Int) (hn : offOk n = true) (hs : 0 ≤ n) (w : World) : Calls Tryz.prog 58 #[.int .i64 1, .int .i64 n] w fun e w' => e = .returned (.tuple #[.string (showT 1 n), .int .i64 (showE 1 n)]) ∧ Below w.heap.size w w' := by
 obtain ⟨h1, h2, h3⟩ := offOk_iff.1 hn
 rw [(showE_ok (by decide) hn).1]
 have ht := tmod60.2 h3
 have C := Lib.hid (fun w => styles_any w)
 have HL := Lib.hid (fun (w1 : World) (h : w1.ownsMap Tryz.prog 3 heldR w.heap.size 4 stylesD) => look_1 h)
 unfold LookAt at HL
 have hnf := fun (w : World) => fun (x : Addr) => run_store Tryz.prog w x (.func (.func 132) #[] #[]) .plain rfl
 obtain ⟨H, hH⟩ : ∃ H : Nat, H = n.natAbs / 60 / 60 := ⟨_, rfl⟩
 obtain ⟨M, hM⟩ : ∃ M : Nat, M = n.natAbs / 60 % 60 := ⟨_, rfl⟩
 obtain ⟨s, hs0⟩ : ∃ s, s = B (layL 1 H M) := ⟨_, rfl⟩
 have D := Lib.hid (lay_1 H M (by omega) (by omega) s hs0)
 have HX : Hid (⟨#[]⟩ ++ ⟨#[43]⟩ ++ s = showT 1 n) := Lib.hid (by
  rw [hs0]
  show B [] ++ B [43] ++ B (layL 1 H M) = _
  rw [B_app, B_app]
  exact showT_of (by decide) hn (by rw [showL_some (by omega), ← hH, ← hM, sg_pos (by omega)]; rfl))
 have s1 : s.size ≤ 6 := by rw [hs0]; exact lay_size _ _ _
 clear hs0
 have hq : ¬ n.tdiv 60 < 0 := by rw [Int.tdiv_eq_ediv_of_nonneg (by omega)]; omega
 go_enter Tryz.func58, Tryz.ntmps58
 go_upto_region 11 with (first | (go_at_call 54; (with_reducible refine (C.out _).mono ?_); rintro e w1 ⟨rfl, hown, hb1⟩; have hlk := HL.out w1 hown) | fail)
 all_goals
  go_quiet ((go_at_call 132; exact Calls.quiet_of_same (D.out _ _ (by first | omega | exact pos_h (by omega) (by omega) hH) (by first | omega | exact pos_s (by omega) (by omega) hM) _)))
  go_wp2
  go_ret2
  exact ⟨retO_pair HX.out, below_cell hb1 hb1.size _ _⟩
set_option maxHeartbeats 4000000 in
theorem show_2z (n : Int) (hn : offOk n = true) (hs : n = 0) (w : World) : Calls Tryz.prog 58 #[.int .i64 2, .int .i64 n] w fun e w' => e = .returned (.tuple #[.string (showT 2 n), .int .i64 (showE 2 n)]) ∧ Below w.heap.size w w' := by
 obtain ⟨h1, h2, h3⟩ := offOk_iff.1 hn
 rw [(showE_ok (by decide) hn).1]
 have ht := tmod60.2 h3
 have C := Lib.hid (fun w => styles_any w)
 have HL := Lib.hid (fun (w1 : World) (h : w1.ownsMap Tryz.prog 3 heldR w.heap.size 4 stylesD) => look_2 h)
 unfold LookAt at HL
 have hnf := fun (w : World) => fun (x : Addr) => run_store Tryz.prog w x (.func (.func 128) #[] #[]) .plain rfl
 have HX : Hid ((⟨#[90]⟩ : ByteArray) = showT 2 n) := Lib.hid (showT_of (l := [90]) (by decide) hn (by rw [showL_zero hs (by decide)]; rfl))
 subst hs
 go_enter Tryz.func58, Tryz.ntmps58
 go_wp2_with (go_at_call 54; (with_reducible refine (C.out _).mono ?_); rintro e w1 ⟨rfl, hown, hb1⟩; have hlk := HL.out w1 hown)
 go_ret2
 exact ⟨retO_pair HX.out, below_cell hb1 hb1.size _ 0⟩
set_option maxHeartbeats 4000000 in
theorem show_2n (n : Int) (hn : offOk n = true) (hs : n < 0) (w : World) : Calls Tryz.prog 58 #[.int .i64 2, .int .i64 n] w fun e w' => e = .returned (.tuple #[.string (showT 2 n), .int .i64 (showE 2 n)]) ∧ Below w.heap.size w w' := by
 obtain ⟨h1, h2, h3⟩ := offOk_iff.1 hn
 rw [(showE_ok (by decide) hn).1]
 have ht := tmod60.2 h3
 have C := Lib.hid (fun w => styles_any w)
 have HL := Lib.hid (fun (w1 : World) (h : w1.ownsMap Tryz.prog 3 heldR w.heap.size 4 stylesD) => look_2 h)
 unfold LookAt at HL
 have hnf := fun (w : World) => fun (x : Addr) => run_store Tryz.prog w x (.func (.func 128) #[] #[]) .plain rfl
 obtain ⟨H, hH⟩ : ∃ H : Nat, H = n.natAbs / 60 / 60 := ⟨_, rfl⟩
 obtain ⟨M, hM⟩ : ∃ M : Nat, M = n.natAbs / 60 % 60 := ⟨_, rfl⟩
 obtain ⟨s, hs0⟩ : ∃ s, s = B (layL 2 H M) := ⟨_, rfl⟩
 have D := Lib.hid (lay_2 H M (by omega) (by omega) s hs0)
 have HX : Hid (⟨#[]⟩ ++ ⟨#[45]⟩ ++ s = showT 2 n) := Lib.hid (by
  rw [hs0]
  show B [] ++ B [45] ++ B (layL 2 H M) = _
  rw [B_app, B_app]
  exact showT_of (by decide) hn (by rw [showL_some (by omega), ← hH, ← hM, sg_neg (by omega)]; rfl))
 have s1 : s.size ≤ 6 := by rw [hs0]; exact lay_size _ _ _
 clear hs0
 have hq : n.tdiv 60 < 0 := by
  have := Int.mul_tdiv_add_tmod n 60
  omega
 go_enter Tryz.func58, Tryz.ntmps58
 go_upto_region 11 with (first | (go_at_call 54; (with_reducible refine (C.out _).mono ?_); rintro e w1 ⟨rfl, hown, hb1⟩; have hlk := HL.out w1 hown) | fail)
 all_goals
  go_quiet ((go_at_call 128; exact Calls.quiet_of_same (D.out _ _ (by first | exact (neg_h hs h1).trans (by omega) | exact (neg_h2 hs h1).trans (by omega)) (by exact (neg_s hs h1).trans (by omega)) _)))
  go_wp2
  go_ret2
  exact ⟨retO_pair HX.out, below_cell hb1 hb1.size _ _⟩
set_option maxHeartbeats 4000000 in
theorem show_2p (n : Int) (hn : offOk n = true) (hs : 0 < n) (w : World) : Calls Tryz.prog 58 #[.int .i64 2, .int .i64 n] w fun e w' => e = .returned (.tuple #[.string (showT 2 n), .int .i64 (showE 2 n)]) ∧ Below w.heap.size w w' := by
 obtain ⟨h1, h2, h3⟩ := offOk_iff.1 hn
 rw [(showE_ok (by decide) hn).1]
 have ht := tmod60.2 h3
 have C := Lib.hid (fun w => styles_any w)
 have HL := Lib.hid (fun (w1 : World) (h : w1.ownsMap Tryz.prog 3 heldR w.heap.size 4 stylesD) => look_2 h)
 unfold LookAt at HL
 have hnf := fun (w : World) => fun (x : Addr) => run_store Tryz.prog w x (.func (.func 128) #[] #[]) .plain rfl
 obtain ⟨H, hH⟩ : ∃ H : Nat, H = n.natAbs / 60 / 60 := ⟨_, rfl⟩
 obtain ⟨M, hM⟩ : ∃ M : Nat, M = n.natAbs / 60 % 60 := ⟨_, rfl⟩
 obtain ⟨s, hs0⟩ : ∃ s, s = B (layL 2 H M) := ⟨_, rfl⟩
 have D := Lib.hid (lay_2 H M (by omega) (by omega) s hs0)
 have HX : Hid (⟨#[]⟩ ++ ⟨#[43]⟩ ++ s = showT 2 n) := Lib.hid (by
  rw [hs0]
  show B [] ++ B [43] ++ B (layL 2 H M) = _
  rw [B_app, B_app]
  exact showT_of (by decide) hn (by rw [showL_some (by omega), ← hH, ← hM, sg_pos (by omega)]; rfl))
 have s1 : s.size ≤ 6 := by rw [hs0]; exact lay_size _ _ _
 clear hs0
 have hq : ¬ n.tdiv 60 < 0 := by rw [Int.tdiv_eq_ediv_of_nonneg (by omega)]; omega
 go_enter Tryz.func58, Tryz.ntmps58
 go_upto_region 11 with (first | (go_at_call 54; (with_reducible refine (C.out _).mono ?_); rintro e w1 ⟨rfl, hown, hb1⟩; have hlk := HL.out w1 hown) | fail)
 all_goals
  go_quiet ((go_at_call 128; exact Calls.quiet_of_same (D.out _ _ (by first | omega | exact pos_h (by omega) (by omega) hH) (by first | omega | exact pos_s (by omega) (by omega) hM) _)))
  go_wp2
  go_ret2
  exact ⟨retO_pair HX.out, below_cell hb1 hb1.size _ _⟩
set_option maxHeartbeats 4000000 in
theorem show_3z (n : Int) (hn : offOk n = true) (hs : n = 0) (w : World) : Calls Tryz.prog 58 #[.int .i64 3, .int .i64 n] w fun e w' => e = .returned (.tuple #[.string (showT 3 n), .int .i64 (showE 3 n)]) ∧ Below w.heap.size w w' := by
 obtain ⟨h1, h2, h3⟩ := offOk_iff.1 hn
 rw [(showE_ok (by decide) hn).1]
 have ht := tmod60.2 h3
 have C := Lib.hid (fun w => styles_any w)
 have HL := Lib.hid (fun (w1 : World) (h : w1.ownsMap Tryz.prog 3 heldR w.heap.size 4 stylesD) => look_3 h)
 unfold LookAt at HL
 have hnf := fun (w : World) => fun (x : Addr) => run_store Tryz.prog w x (.func (.func 130) #[] #[]) .plain rfl
 have HX : Hid ((⟨#[71, 77, 84]⟩ : ByteArray) = showT 3 n) := Lib.hid (showT_of (l := [71, 77, 84]) (by decide) hn (by rw [showL_zero hs (by decide)]; rfl))
 subst hs
 go_enter Tryz.func58, Tryz.ntmps58
 go_wp2_with (go_at_call 54; (with_reducible refine (C.out _).mono ?_); rintro e w1 ⟨rfl, hown, hb1⟩; have hlk := HL.out w1 hown)
 go_ret2
 exact ⟨retO_pair HX.out, below_cell hb1 hb1.size _ 0⟩
set_option maxHeartbeats 4000000 in
theorem show_3n (n : Int) (hn : offOk n = true) (hs : n < 0) (w : World) : Calls Tryz.prog 58 #[.int .i64 3, .int .i64 n] w fun e w' => e = .returned (.tuple #[.string (showT 3 n), .int .i64 (showE 3 n)]) ∧ Below w.heap.size w w' := by
 obtain ⟨h1, h2, h3⟩ := offOk_iff.1 hn
 rw [(showE_ok (by decide) hn).1]
 have ht := tmod60.2 h3
 have C := Lib.hid (fun w => styles_any w)
 have HL := Lib.hid (fun (w1 : World) (h : w1.ownsMap Tryz.prog 3 heldR w.heap.size 4 stylesD) => look_3 h)
 unfold LookAt at HL
 have hnf := fun (w : World) => fun (x : Addr) => run_store Tryz.prog w x (.func (.func 130) #[] #[]) .plain rfl
 obtain ⟨H, hH⟩ : ∃ H : Nat, H = n.natAbs / 60 / 60 := ⟨_, rfl⟩
 obtain ⟨M, hM⟩ : ∃ M : Nat, M = n.natAbs / 60 % 60 := ⟨_, rfl⟩
 obtain ⟨s, hs0⟩ : ∃ s, s = B (layL 3 H M) := ⟨_, rfl⟩
 have D := Lib.hid (lay_3 H M (by omega) (by omega) s hs0)
 have HX : Hid (⟨#[71, 77, 84]⟩ ++ ⟨#[45]⟩ ++ s = showT 3 n) := Lib.hid (by
  rw [hs0]
  show B [71, 77, 84] ++ B [45] ++ B (layL 3 H M) = _
  rw [B_app, B_app]
  exact showT_of (by decide) hn (by rw [showL_some (by omega), ← hH, ← hM, sg_neg (by omega)]; rfl))
 have s1 : s.size ≤ 6 := by rw [hs0]; exact lay_size _ _ _
 clear hs0
 have hq : n.tdiv 60 < 0 := by
  have := Int.mul_tdiv_add_tmod n 60
  omega
 go_enter Tryz.func58, Tryz.ntmps58
 go_upto_region 11 with (first | (go_at_call 54; (with_reducible refine (C.out _).mono ?_); rintro e w1 ⟨rfl, hown, hb1⟩; have hlk := HL.out w1 hown) | fail)
 all_goals
  go_quiet ((go_at_call 130; exact Calls.quiet_of_same (D.out _ _ (by first | exact (neg_h hs h1).trans (by omega) | exact (neg_h2 hs h1).trans (by omega)) (by exact (neg_s hs h1).trans (by omega)) _)))
  go_wp2
  go_ret2
  exact ⟨retO_pair HX.out, below_cell hb1 hb1.size _ _⟩
set_option maxHeartbeats 4000000 in
theorem show_3p (n : Int) (hn : offOk n = true) (hs : 0 < n) (w : World) : Calls Tryz.prog 58 #[.int .i64 3, .int .i64 n] w fun e w' => e = .returned (.tuple #[.string (showT 3 n), .int .i64 (showE 3 n)]) ∧ Below w.heap.size w w' := by
 obtain ⟨h1, h2, h3⟩ := offOk_iff.1 hn
 rw [(showE_ok (by decide) hn).1]
 have ht := tmod60.2 h3
 have C := Lib.hid (fun w => styles_any w)
 have HL := Lib.hid (fun (w1 : World) (h : w1.ownsMap Tryz.prog 3 heldR w.heap.size 4 stylesD) => look_3 h)
 unfold LookAt at HL
 have hnf := fun (w : World) => fun (x : Addr) => run_store Tryz.prog w x (.func (.func 130) #[] #[]) .plain rfl
 obtain ⟨H, hH⟩ : ∃ H : Nat, H = n.natAbs / 60 / 60 := ⟨_, rfl⟩
 obtain ⟨M, hM⟩ : ∃ M : Nat, M = n.natAbs / 60 % 60 := ⟨_, rfl⟩
 obtain ⟨s, hs0⟩ : ∃ s, s = B (layL 3 H M) := ⟨_, rfl⟩
 have D := Lib.hid (lay_3 H M (by omega) (by omega) s hs0)
 have HX : Hid (⟨#[71, 77, 84]⟩ ++ ⟨#[43]⟩ ++ s = showT 3 n) := Lib.hid (by
  rw [hs0]
  show B [71, 77, 84] ++ B [43] ++ B (layL 3 H M) = _
  rw [B_app, B_app]
  exact showT_of (by decide) hn (by rw [showL_some (by omega), ← hH, ← hM, sg_pos (by omega)]; rfl))
 have s1 : s.size ≤ 6 := by rw [hs0]; exact lay_size _ _ _
 clear hs0
 have hq : ¬ n.tdiv 60 < 0 := by rw [Int.tdiv_eq_ediv_of_nonneg (by omega)]; omega
 go_enter Tryz.func58, Tryz.ntmps58
 go_upto_region 11 with (first | (go_at_call 54; (with_reducible refine (C.out _).mono ?_); rintro e w1 ⟨rfl, hown, hb1⟩; have hlk := HL.out w1 hown) | fail)
 all_goals
  go_quiet ((go_at_call 130; exact Calls.quiet_of_same (D.out _ _ (by first | omega | exact pos_h (by omega) (by omega) hH) (by first | omega | exact pos_s (by omega) (by omega) hM) _)))
  go_wp2
  go_ret2
  exact ⟨retO_pair HX.out, below_cell hb1 hb1.size _ _⟩
set_option maxHeartbeats 4000000 in
theorem show_4z (n : Int) (hn : offOk n = true) (hs : n = 0) (w : World) : Calls Tryz.prog 58 #[.int .i64 4, .int .i64 n] w fun e w' => e = .returned (.tuple #[.string (showT 4 n), .int .i64 (showE 4 n)]) ∧ Below w.heap.size w w' := by
 obtain ⟨h1, h2, h3⟩ := offOk_iff.1 hn
 rw [(showE_ok (by decide) hn).1]
 have ht := tmod60.2 h3
 have C := Lib.hid (fun w => styles_any w)
 have HL := Lib.hid (fun (w1 : World) (h : w1.ownsMap Tryz.prog 3 heldR w.heap.size 4 stylesD) => look_4 h)
 unfold LookAt at HL
 have hnf := fun (w : World) => fun (x : Addr) => run_store Tryz.prog w x (.func (.func 128) #[] #[]) .plain rfl
 have HX : Hid ((⟨#[71, 77, 84]⟩ : ByteArray) = showT 4 n) := Lib.hid (showT_of (l := [71, 77, 84]) (by decide) hn (by rw [showL_zero hs (by decide)]; rfl))
 subst hs
 go_enter Tryz.func58, Tryz.ntmps58
 go_wp2_with (go_at_call 54; (with_reducible refine (C.out _).mono ?_); rintro e w1 ⟨rfl, hown, hb1⟩; have hlk := HL.out w1 hown)
 go_ret2
 exact ⟨retO_pair HX.out, below_cell hb1 hb1.size _ 0⟩
set_option maxHeartbeats 4000000 in
theorem show_4n (n : Int) (hn : offOk n = true) (hs : n < 0) (w : World) : Calls Tryz.prog 58 #[.int .i64 4, .int .i64 n] w fun e w' => e = .returned (.tuple #[.string (showT 4 n), .int .i64 (showE 4 n)]) ∧ Below w.heap.size w w' := by
 obtain ⟨h1, h2, h3⟩ := offOk_iff.1 hn
 rw [(showE_ok (by decide) hn).1]
 have ht := tmod60.2 h3
 have C := Lib.hid (fun w => styles_any w)
 have HL := Lib.hid (fun (w1 : World) (h : w1.ownsMap Tryz.prog 3 heldR w.heap.size 4 stylesD) => look_4 h)
 unfold LookAt at HL
 have hnf := fun (w : World) => fun (x : Addr) => run_store Tryz.prog w x (.func (.func 128) #[] #[]) .plain rfl
 obtain ⟨H, hH⟩ : ∃ H : Nat, H = n.natAbs / 60 / 60 := ⟨_, rfl⟩
 obtain ⟨M, hM⟩ : ∃ M : Nat, M = n.natAbs / 60 % 60 := ⟨_, rfl⟩
 obtain ⟨s, hs0⟩ : ∃ s, s = B (layL 4 H M) := ⟨_, rfl⟩
 have D := Lib.hid (lay_4 H M (by omega) (by omega) s hs0)
 have HX : Hid (⟨#[71, 77, 84]⟩ ++ ⟨#[45]⟩ ++ s = showT 4 n) := Lib.hid (by
  rw [hs0]
  show B [71, 77, 84] ++ B [45] ++ B (layL 4 H M) = _
  rw [B_app, B_app]
  exact showT_of (by decide) hn (by rw [showL_some (by omega), ← hH, ← hM, sg_neg (by omega)]; rfl))
 have s1 : s.size ≤ 6 := by rw [hs0]; exact lay_size _ _ _
 clear hs0
 have hq : n.tdiv 60 < 0 := by
  have := Int.mul_tdiv_add_tmod n 60
  omega
 go_enter Tryz.func58, Tryz.ntmps58
 go_upto_region 11 with (first | (go_at_call 54; (with_reducible refine (C.out _).mono ?_); rintro e w1 ⟨rfl, hown, hb1⟩; have hlk := HL.out w1 hown) | fail)
 all_goals
  go_quiet ((go_at_call 128; exact Calls.quiet_of_same (D.out _ _ (by first | exact (neg_h hs h1).trans (by omega) | exact (neg_h2 hs h1).trans (by omega)) (by exact (neg_s hs h1).trans (by omega)) _)))
  go_wp2
  go_ret2
  exact ⟨retO_pair HX.out, below_cell hb1 hb1.size _ _⟩
set_option maxHeartbeats 4000000 in
theorem show_4p (n : Int) (hn : offOk n = true) (hs : 0 < n) (w : World) : Calls Tryz.prog 58 #[.int .i64 4, .int .i64 n] w fun e w' => e = .returned (.tuple #[.string (showT 4 n), .int .i64 (showE 4 n)]) ∧ Below w.heap.size w w' := by
 obtain ⟨h1, h2, h3⟩ := offOk_iff.1 hn
 rw [(showE_ok (by decide) hn).1]
 have ht := tmod60.2 h3
 have C := Lib.hid (fun w => styles_any w)
 have HL := Lib.hid (fun (w1 : World) (h : w1.ownsMap Tryz.prog 3 heldR w.heap.size 4 stylesD) => look_4 h)
 unfold LookAt at HL
 have hnf := fun (w : World) => fun (x : Addr) => run_store Tryz.prog w x (.func (.func 128) #[] #[]) .plain rfl
 obtain ⟨H, hH⟩ : ∃ H : Nat, H = n.natAbs / 60 / 60 := ⟨_, rfl⟩
 obtain ⟨M, hM⟩ : ∃ M : Nat, M = n.natAbs / 60 % 60 := ⟨_, rfl⟩
 obtain ⟨s, hs0⟩ : ∃ s, s = B (layL 4 H M) := ⟨_, rfl⟩
 have D := Lib.hid (lay_4 H M (by omega) (by omega) s hs0)
 have HX : Hid (⟨#[71, 77, 84]⟩ ++ ⟨#[43]⟩ ++ s = showT 4 n) := Lib.hid (by
  rw [hs0]
  show B [71, 77, 84] ++ B [43] ++ B (layL 4 H M) = _
  rw [B_app, B_app]
  exact showT_of (by decide) hn (by rw [showL_some (by omega), ← hH, ← hM, sg_pos (by omega)]; rfl))
 have s1 : s.size ≤ 6 := by rw [hs0]; exact lay_size _ _ _
 clear hs0
 have hq : ¬ n.tdiv 60 < 0 := by rw [Int.tdiv_eq_ediv_of_nonneg (by omega)]; omega
 go_enter Tryz.func58, Tryz.ntmps58
 go_upto_region 11 with (first | (go_at_call 54; (with_reducible refine (C.out _).mono ?_); rintro e w1 ⟨rfl, hown, hb1⟩; have hlk := HL.out w1 hown) | fail)
 all_goals
  go_quiet ((go_at_call 128; exact Calls.quiet_of_same (D.out _ _ (by first | omega | exact pos_h (by omega) (by omega) hH) (by first | omega | exact pos_s (by omega) (by omega) hM) _)))
  go_wp2
  go_ret2
  exact ⟨retO_pair HX.out, below_cell hb1 hb1.size _ _⟩
theorem show_range (k n : Int) (hk : kindB k = true) (hn : offOk n = false) (a z : ByteArray) (f : Nat) (HL0 : ∀ (w1 : World) (b : Nat) (h : w1.ownsMap Tryz.prog 3 heldR b 4 stylesD), LookAt w1 b k a z f) (w : World) : Calls Tryz.prog 58 #[.int .i64 k, .int .i64 n] w fun e w' => e = .returned (.tuple #[.string (showT k n), .int .i64 (showE k n)]) ∧ Below w.heap.size w w' := by
 by_cases h1 : n < -57600
 ·exact show_lo k n hk hn a z f HL0 h1 w
 ·by_cases h2 : 57600 < n
  ·exact show_hi k n hk hn a z f HL0 h2 w
  ·exact show_mod k n hk hn a z f HL0 (by omega) (by omega) w
theorem show_any (k n : Int) (hw : (Lit.int .i64 k).wf = true) (w : World) : Calls Tryz.prog 58 #[.int .i64 k, .int .i64 n] w fun e w' => e = .returned (.tuple #[.string (showT k n), .int .i64 (showE k n)]) ∧ Below w.heap.size w w' := by
 cases hk : kindB k
 ·exact show_kind k n hw hk w
 ·have h := kindB_iff.1 hk
  have hx : k = 1 ∨ k = 2 ∨ k = 3 ∨ k = 4 := by omega
  cases hn : offOk n
  ·rcases hx with rfl | rfl | rfl | rfl
   ·exact show_range 1 n hk hn _ _ _ (fun _ _ h => look_1 h) w
   ·exact show_range 2 n hk hn _ _ _ (fun _ _ h => look_2 h) w
   ·exact show_range 3 n hk hn _ _ _ (fun _ _ h => look_3 h) w
   ·exact show_range 4 n hk hn _ _ _ (fun _ _ h => look_4 h) w
  ·rcases hx with rfl | rfl | rfl | rfl
   ·by_cases hs : n < 0
    ·exact show_1n n hn hs w
    ·exact show_1q n hn (by omega) w
   ·by_cases hz : n = 0
    ·exact show_2z n hn hz w
    ·by_cases hs : n < 0
     ·exact show_2n n hn hs w
     ·exact show_2p n hn (by omega) w
   ·by_cases hz : n = 0
    ·exact show_3z n hn hz w
    ·by_cases hs : n < 0
     ·exact show_3n n hn hs w
     ·exact show_3p n hn (by omega) w
   ·by_cases hz : n = 0
    ·exact show_4z n hn hz w
    ·by_cases hs : n < 0
     ·exact show_4n n hn hs w
     ·exact show_4p n hn (by omega) w
end Go.Proofs.YtbbbeldbhlehnaaGreatDoor
end
