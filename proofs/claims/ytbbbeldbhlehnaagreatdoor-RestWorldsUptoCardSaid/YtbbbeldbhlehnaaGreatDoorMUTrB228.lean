/- Parts of a proof, laid together. -/
import Derived.Sort.Walk0
import Derived.Deep.RegionHeld3
import Derived.RangeFuncRecord
import Derived.Test.YtbbbeldbhlehnaaGreatDoorMUTrB226
import Derived.Test.YtbbbeldbhlehnaaGreatDoorMUTrB227
import Derived.Test.YtbbbeldbhlehnaaGreatDoorMUTrB22
import Derived.Test.YtbbbeldbhlehnaaGreatDoorMUTrB29
set_option linter.unusedSimpArgs false
set_option linter.unusedVariables false
section
namespace Gno
open Go
def leB (a b : ByteArray) : Prop := lessB b a = false
def sortB (l : List ByteArray) : List ByteArray := l.mergeSort (fun a b => !lessB b a)
theorem sortB_perm (l : List ByteArray) : (sortB l).Perm l := List.mergeSort_perm _ _
theorem sortB_len (l : List ByteArray) : (sortB l).length = l.length := (sortB_perm l).length_eq
theorem sortB_map (l : List ByteArray) : ((l.map fun s => s.toList).mergeSort fun x y => decide (x ≤ y)) = (sortB l).map fun s => s.toList := by
 unfold sortB
 refine (List.map_mergeSort (f := fun s : ByteArray => s.toList) fun a _ b _ => ?_).symm
 unfold lessB
 rw [Go.Proofs.bytesLess_eq]
 rw [Bool.eq_iff_iff, Bool.not_eq_true', decide_eq_false_iff_not, decide_eq_true_iff]
 exact Iff.rfl
def putAt {α : Type} (es : List α) (x : α) (j : Nat) : List α := es.take j ++ x :: es.drop j
def Behind (es : List ByteArray) (x : ByteArray) (j : Nat) : Prop := ∀ i y, j ≤ i → es[i]? = some y → lessB x y = true
def zoneHas (l : List Us) (mt : ByteArray) (t : Int) (z : Zn) : Bool := same (metaU l z.name t) mt
def zonesL (d : Dt) (l : List Us) (mt : ByteArray) (t : Int) : List ByteArray := (d.zs.filter (zoneHas l mt t)).map (·.name)
def zonesS (d : Dt) (l : List Us) (mt : ByteArray) (t : Int) : List ByteArray := sortB (zonesL d l mt t)
noncomputable def zonesE (d : Dt) (l : List Us) (mt : ByteArray) (t : Int) : Int := if askedE d l t ≠ 0 then askedE d l t else if nameOk mt = true then 0 else 5
theorem filt_step {α : Type} {p : α → Bool} {l : List α} {i : Nat} {x : α} (h : l[i]? = some x) : (l.take (i + 1)).filter p = if p x = true then (l.take i).filter p ++ [x] else (l.take i).filter p := by
 rw [take_snoc' h, List.filter_append]
 by_cases e : p x = true
 ·rw [if_pos e, List.filter_cons_of_pos e]; rfl
 ·rw [if_neg e, List.filter_cons_of_neg e]; simp
end Gno
end
section
namespace Gno
open Go
structure RightU (d : Dt) (l : List Us) : Prop where
 data : dataE d = 0
 few : l.length ≤ 10
 mts : ∀ u ∈ l, badMt u = false
 zones : ∀ u ∈ l, noZone d u = false
 times : ∀ u ∈ l, badUse u = false
 apart : l.Pairwise (fun a b => clash a b = false)
theorem rightU_of {d : Dt} {l : List Us} (h : usesE d l = 0) : RightU d l := by
 unfold usesE at h
 have e0 : dataE d = 0 := by
  by_cases e : dataE d = 0
  ·exact e
  ·rw [if_pos e] at h; exact h
 rw [if_neg (by simp [e0])] at h
 by_cases e1 : 10 < l.length
 ·rw [if_pos e1] at h; cases h
 rw [if_neg e1] at h
 by_cases e2 : hasP badMt l = true
 ·rw [if_pos e2] at h; cases h
 rw [if_neg e2] at h
 by_cases e3 : hasP (noZone d) l = true
 ·rw [if_pos e3] at h; cases h
 rw [if_neg e3] at h
 by_cases e4 : hasP badUse l = true
 ·rw [if_pos e4] at h; cases h
 rw [if_neg e4] at h
 by_cases e5 : overU l = true
 ·rw [if_pos e5] at h; cases h
 have key : ∀ {p : Us → Bool}, ¬ hasP p l = true → ∀ u ∈ l, p u = false := fun {p} hp u hu => by
  rw [hasP_any, List.any_eq_true] at hp
  cases hq : p u
  ·rfl
  ·exact absurd ⟨u, hu, hq⟩ hp
 exact ⟨e0, by omega, key e2, key e3, key e4, (overU_iff l).1 (by simpa using e5)⟩
theorem RightU.sub {d : Dt} {l m : List Us} (h : RightU d l) (hs : m.Sublist l) : RightU d m where
 data := h.data
 few := Nat.le_trans hs.length_le h.few
 mts := fun u hu => h.mts u (hs.subset hu)
 zones := fun u hu => h.zones u (hs.subset hu)
 times := fun u hu => h.times u (hs.subset hu)
 apart := h.apart.sublist hs
def swapL {α : Type} (l : List α) (a b : Nat) (x y : α) : List α := (l.set a y).set b x
end Gno
end
section
namespace Gno
open Go Go.RowKit Go.Proofs.YtbbbeldbhlehnaaGreatDoor
def UsAt (w : World) (b o : Nat) (u : Us) : Prop :=
 w.cell? ⟨b, o, none⟩ = some (.string u.zone) ∧ w.cell? ⟨b, o + 1, none⟩ = some (.int .i64 u.fr) ∧ w.cell? ⟨b, o + 2, none⟩ = some (.int .i64 u.til) ∧ w.cell? ⟨b, o + 3, none⟩ = some (.string u.mt)
def UsesAt : World → Nat → Option Addr → Nat → List Us → Prop := SlAt 4 (fun w B b o u => UsAt w b o u ∧ u.zone.size ≤ maxLen ∧ u.mt.size ≤ maxLen)
theorem UsAt.below {w w' : World} {B b o : Nat} {u : Us} (h : UsAt w b o u) (hb : Below B w w') (hB : b < B) : UsAt w' b o u :=
 ⟨(hb.cell hB).trans h.1, (hb.cell hB).trans h.2.1, (hb.cell hB).trans h.2.2.1, (hb.cell hB).trans h.2.2.2⟩
theorem keeps_us : Keeps (fun w B b o u => UsAt w b o u ∧ u.zone.size ≤ maxLen ∧ u.mt.size ≤ maxLen) := fun _ _ _ _ _ _ _ hb hB hbB h => ⟨h.1.below hb (by omega), h.2.1, h.2.2⟩
theorem uses_get {w : World} {B : Nat} {A : Option Addr} {n : Nat} {l : List Us} (h : UsesAt w B A n l) {i : Nat} (hi : i < n) :
 ∃ b o q, A = some ⟨b, o, none⟩ ∧ b < B ∧ l[i]? = some q ∧ q.zone.size ≤ maxLen ∧ q.mt.size ≤ maxLen ∧ ∀ W, Below B w W → UsAt W b (o + i * 4) q := by
 obtain ⟨b, o, q, h1, h2, h3, h4⟩ := SlAt.get keeps_us h hi
 exact ⟨b, o, q, h1, h2, h3, (h4 w (Below.refl _ _)).2.1, (h4 w (Below.refl _ _)).2.2, fun W hW => (h4 W hW).1⟩
theorem UsesAt.next {w W : World} {A : Option Addr} {n : Nat} {l : List Us} (h : UsesAt w w.heap.size A n l) (hb : Below w.heap.size w W) : UsesAt W W.heap.size A n l :=
 SlAt.below keeps_us (SlAt.below keeps_us h hb (Nat.le_refl _)) (Below.refl W.heap.size _) hb.size
def usCells (u : Us) : List Value := [.string u.zone, .int .i64 u.fr, .int .i64 u.til, .string u.mt]
def uss (l : List Us) : List Value := l.flatMap usCells
theorem uss_cons (u : Us) (l : List Us) : uss (u :: l) = .string u.zone :: .int .i64 u.fr :: .int .i64 u.til :: .string u.mt :: uss l := rfl
theorem uss_len (l : List Us) : (uss l).length = l.length * 4 := by
 induction l with
 | nil => rfl
 | cons a t ih => rw [uss_cons]; simp only [List.length_cons]; rw [ih]; omega
theorem uss_get : ∀ (l : List Us) (i : Nat) (x : Us), l[i]? = some x → (uss l)[i * 4]? = some (.string x.zone) ∧ (uss l)[i * 4 + 1]? = some (.int .i64 x.fr) ∧ (uss l)[i * 4 + 2]? = some (.int .i64 x.til) ∧ (uss l)[i * 4 + 3]? = some (.string x.mt)
 | a :: t, 0, x, h => by
   obtain rfl : a = x := by simpa using h
   exact ⟨rfl, rfl, rfl, rfl⟩
 | a :: t, i + 1, x, h => by
   have ih := uss_get t i x (by simpa using h)
   rw [uss_cons, show (i + 1) * 4 = i * 4 + 1 + 1 + 1 + 1 by omega]
   simp only [List.getElem?_cons_succ]
   exact ih
theorem uss_one (l : List Us) : ∀ v ∈ uss l, v.oneCell' = true := by
 intro v hv
 unfold uss at hv
 obtain ⟨u, hu, hx⟩ := List.mem_flatMap.1 hv
 simp [usCells] at hx
 rcases hx with rfl | rfl | rfl | rfl <;> rfl
end Gno
namespace Go.Proofs.YtbbbeldbhlehnaaGreatDoor
open Go.ChangeShapes Go.WideShapes Go.ChangeAt Go.RowKit Gno
theorem infoUse : (Tryz.prog.info? 151).map (fun i => (i.zero, i.size, i.bytes)) = some (some (.agg #[.string ⟨#[]⟩, .int .i64 0, .int .i64 0, .string ⟨#[]⟩]), 4, 48) := by kernel_rfl
theorem uss_own {w : World} {B : Nat} {g cap n : Nat} {l : List Us} (h : w.ownsRow B 151 4 (.slice (some ⟨g, 0, none⟩) n cap) n (uss l)) : ∀ i x, l[i]? = some x → UsAt w g (i * 4) x := by
 intro i x hx
 obtain ⟨g0, g1, g2, g3⟩ := uss_get l i x hx
 have hadd : ∀ j, (⟨g, 0, none⟩ : Addr).add j = ⟨g, 0 + j, none⟩ := fun j => by unfold Addr.add; split <;> simp_all
 have c0 := h.cells (g := g) rfl _ _ g0
 have c1 := h.cells (g := g) rfl _ _ g1
 have c2 := h.cells (g := g) rfl _ _ g2
 have c3 := h.cells (g := g) rfl _ _ g3
 rw [hadd, Nat.zero_add] at c0 c1 c2 c3
 exact ⟨c0, c1, c2, c3⟩
end Go.Proofs.YtbbbeldbhlehnaaGreatDoor
end
section
namespace Go.Proofs.YtbbbeldbhlehnaaGreatDoor
open Go.RowKit Gno
theorem nanStr_any (a : ByteArray) (w : World) : Calls Tryz.prog 166 #[.string a] w fun e w' => e = .returned (.bool false) ∧ w = w' := by
 have h : (a.toList != a.toList) = false := by simp
 go_enter Tryz.func166, Tryz.ntmps166
 go_wp2
 go_ret
 exact ⟨rfl, rfl⟩
theorem nanInt_any (a : Int) (w : World) : Calls Tryz.prog 167 #[.int .i64 a] w fun e w' => e = .returned (.bool false) ∧ w = w' := by
 have h : (a != a) = false := by simp
 go_enter Tryz.func167, Tryz.ntmps167
 go_wp2
 go_ret
 exact ⟨rfl, rfl⟩
theorem cmpStr_any (a b : ByteArray) (w : World) : Calls Tryz.prog 101 #[.string a, .string b] w fun e w' => e = .returned (.int .i64 (cmpB a b)) ∧ w = w' := by
 have C := Lib.hid nanStr_any
 have hor := less_or a b
 rcases less_tri a b with h | h | h
 ·have e : cmpB a b = -1 := by unfold cmpB; rw [if_pos h]
  have h1 : Op.bytesLess a.toList b.toList = true := h
  rw [e]
  clear hor h e
  go_enter Tryz.func101, Tryz.ntmps101
  go_wp2_with (go_at_call 166; (with_reducible refine (C.out _ _).mono ?_); rintro e w1 ⟨rfl, rfl⟩)
  go_ret
  exact ⟨rfl, rfl⟩
 ·have hl : lessB a b = false := by rw [h]; exact less_irrefl _
  have e : cmpB a b = 0 := by unfold cmpB; rw [hl, h, less_irrefl]; rfl
  have h1 : Op.bytesLess a.toList b.toList = false := hl
  have h2 : (a.toList == b.toList) = true := (same_iff a b).2 h
  rw [e]
  clear hor h e hl
  go_enter Tryz.func101, Tryz.ntmps101
  go_wp2_with (go_at_call 166; (with_reducible refine (C.out _ _).mono ?_); rintro e w1 ⟨rfl, rfl⟩)
  go_ret
  exact ⟨rfl, rfl⟩
 ·have hl : lessB a b = false := bl_asymm _ _ h
  have e : cmpB a b = 1 := by unfold cmpB; rw [hl, h]; rfl
  have h1 : Op.bytesLess a.toList b.toList = false := hl
  have h2 : (a.toList == b.toList) = false := by
   rw [h1, h] at hor
   simpa using hor
  rw [e]
  clear hor h e hl
  go_enter Tryz.func101, Tryz.ntmps101
  go_wp2_with (go_at_call 166; (with_reducible refine (C.out _ _).mono ?_); rintro e w1 ⟨rfl, rfl⟩)
  go_ret
  exact ⟨rfl, rfl⟩
theorem cmpInt_any (a b : Int) (w : World) : Calls Tryz.prog 102 #[.int .i64 a, .int .i64 b] w fun e w' => e = .returned (.int .i64 (cmpN a b)) ∧ w = w' := by
 have C := Lib.hid nanInt_any
 rcases Int.lt_trichotomy a b with h | h | h
 ·have e : cmpN a b = -1 := by unfold cmpN; rw [if_pos h]
  have h1 : decide (a < b) = true := decide_eq_true h
  rw [e]
  clear e
  go_enter Tryz.func102, Tryz.ntmps102
  go_wp2_with (go_at_call 167; (with_reducible refine (C.out _ _).mono ?_); rintro e w1 ⟨rfl, rfl⟩)
  go_ret
  exact ⟨rfl, rfl⟩
 ·have e : cmpN a b = 0 := by unfold cmpN; rw [if_neg (by omega), if_neg (by omega)]
  have h1 : decide (a < b) = false := decide_eq_false (by omega)
  have h2 : decide (b < a) = false := decide_eq_false (by omega)
  rw [e]
  clear e h
  go_enter Tryz.func102, Tryz.ntmps102
  go_wp2_with (go_at_call 167; (with_reducible refine (C.out _ _).mono ?_); rintro e w1 ⟨rfl, rfl⟩)
  go_ret
  exact ⟨rfl, rfl⟩
 ·have e : cmpN a b = 1 := by unfold cmpN; rw [if_neg (by omega), if_pos h]
  have h1 : decide (a < b) = false := decide_eq_false (by omega)
  have h2 : decide (b < a) = true := decide_eq_true h
  rw [e]
  clear e
  go_enter Tryz.func102, Tryz.ntmps102
  go_wp2_with (go_at_call 167; (with_reducible refine (C.out _ _).mono ?_); rintro e w1 ⟨rfl, rfl⟩)
  go_ret
  exact ⟨rfl, rfl⟩
def orN (x y : Int) : Int := if x ≠ 0 then x else y
theorem or_any (b : Nat) (x y : Int) (w : World) (h0 : w.cell? ⟨b, 0, none⟩ = some (.int .i64 x)) (h1 : w.cell? ⟨b, 1, none⟩ = some (.int .i64 y)) :
 Calls Tryz.prog 100 #[.slice (some ⟨b, 0, none⟩) 2 2] w fun e w' => e = .returned (.int .i64 (orN x y)) ∧ w = w' := by
 by_cases hx : x = 0
 ·subst hx
  by_cases hy : y = 0
  ·subst hy
   go_enter Tryz.func100, Tryz.ntmps100
   go_wp2
   refine wp_loop_rounds 3 ?_
   rw [rounds_succ]
   go_wp2
   rw [rounds_succ]
   go_wp2
   rw [rounds_succ]
   go_wp2
   go_ret
   exact ⟨rfl, rfl⟩
  ·have hyb : (y != 0) = true := by simpa using hy
   have e : orN 0 y = y := by unfold orN; rw [if_neg (by simp)]
   rw [e]
   clear e hy
   go_enter Tryz.func100, Tryz.ntmps100
   go_wp2
   refine wp_loop_rounds 2 ?_
   rw [rounds_succ]
   go_wp2
   rw [rounds_succ]
   go_wp2
   go_ret
   exact ⟨rfl, rfl⟩
 ·have hxb : (x != 0) = true := by simpa using hx
  have e : orN x y = x := by unfold orN; rw [if_pos hx]
  rw [e]
  clear e hx
  go_enter Tryz.func100, Tryz.ntmps100
  go_wp2
  refine wp_loop_rounds 1 ?_
  rw [rounds_succ]
  go_wp2
  go_ret
  exact ⟨rfl, rfl⟩
theorem useCmp_or (a b : Us) : orN (cmpB a.zone b.zone) (cmpN a.fr b.fr) = useCmp a b := rfl
end Go.Proofs.YtbbbeldbhlehnaaGreatDoor
end
section
namespace Go.Proofs.YtbbbeldbhlehnaaGreatDoor
open Go.RowKit Gno
def PredUse (P : Program) (g : Nat) (lb : Array Value) (p : Us → Bool) (l : List Us) (w : World) : Prop :=
 ∀ (W : World) (x : Us), x ∈ l → Below w.heap.size w W → Calls P g (#[.agg #[.string x.zone, .int .i64 x.fr, .int .i64 x.til, .string x.mt]] ++ lb) W fun e w' => e = .returned (.bool (p x)) ∧ Below W.heap.size W w'
set_option maxRecDepth 100000 in
set_option maxHeartbeats 4000000 in
theorem indexUse_any (g : Nat) (lb : Array Value) (eg : ∀ args w, (callFunc g args).run Tryz.prog w = .ok (.enter g args) w) (p : Us → Bool) (A : Option Addr) (n cap : Nat) (l : List Us) (w : World)
 (hR : UsesAt w w.heap.size A n l) (hp : PredUse Tryz.prog g lb p l w) :
 Calls Tryz.prog 164 #[.slice A n cap, .func (.func g) #[] lb] w fun e w' => e = .returned (.int .i64 (fst p l 0)) ∧ Below w.heap.size w w' := by
 have hn : n ≤ 9223372036854775807 := hR.2.1
 have HR := Lib.hid hR
 have HP := Lib.hid hp
 clear hR hp
 go_enter Tryz.func164, Tryz.ntmps164
 go_wp2
 go_loopw [8] (fun b0 wr => ∃ i : Nat, i ≤ n ∧ b0 = .int .i64 i ∧ Hid (fst p (l.drop i) i = fst p l 0) ∧ Below w.heap.size w wr) (fun b0 _ => n - (intOf b0).toNat)
 case atStart => exact ⟨0, Nat.zero_le _, rfl, Lib.hid (by simp), Below.refl _ _⟩
 case round =>
  obtain ⟨i, hi, rfl, hfd, hb⟩ := hrel
  by_cases hlt : i < n
  ·obtain ⟨b, o, q, hA, hbB, hq, hqs, hqs2, hqq⟩ := uses_get HR.out hlt
   subst hA
   obtain ⟨e0, e1, e2, e3⟩ := hqq _ hb
   have hmem : q ∈ l := List.mem_of_getElem? hq
   have FD := Lib.hid (fst_drop (p := p) hq)
   have c := HP.out wr q hmem hb
   clear hq hqq hmem
   cases hpk : p q
   ·rw [hpk] at c
    have C := Lib.hid c
    have HX := Lib.hid ((FD.out.2 hpk).symm.trans hfd.out)
    clear c hfd hpk
    go_wp2_with (go_at_fn g; (with_reducible refine C.out.mono ?_); rintro e w4 ⟨rfl, hb4⟩; have hb5 := hb.trans (hb4.mono hb.size); clear hb4)
    go_roundw
    case rel => exact ⟨i + 1, by omega, by go_num, HX, hb5⟩
    case measure => simp [intOf]; omega
   ·rw [hpk] at c
    have C := Lib.hid c
    have HX := Lib.hid ((FD.out.1 hpk).symm.trans hfd.out)
    clear c hfd hpk
    go_wp2_with (go_at_fn g; (with_reducible refine C.out.mono ?_); rintro e w4 ⟨rfl, hb4⟩; have hb5 := hb.trans (hb4.mono hb.size); clear hb4)
    go_ret
    exact ⟨ret_int HX.out, hb5⟩
  ·have HX := Lib.hid ((fst_end (p := p) (by have := HR.out.1; omega)).symm.trans hfd.out)
   go_wp2
   go_ret
   exact ⟨ret_int HX.out, hb⟩
theorem containsUse_any (g : Nat) (lb : Array Value) (eg : ∀ args w, (callFunc g args).run Tryz.prog w = .ok (.enter g args) w) (p : Us → Bool) (A : Option Addr) (n cap : Nat) (l : List Us) (w : World)
 (hR : UsesAt w w.heap.size A n l) (hp : PredUse Tryz.prog g lb p l w) :
 Calls Tryz.prog 93 #[.slice A n cap, .func (.func g) #[] lb] w fun e w' => e = .returned (.bool (hasP p l)) ∧ Below w.heap.size w w' := by
 have C := Lib.hid (indexUse_any g lb eg p A n cap l w hR hp)
 clear hR hp eg
 go_enter Tryz.func93, Tryz.ntmps93
 go_wp2_with (go_at_call 164; (with_reducible refine C.out.mono ?_); rintro e w4 ⟨rfl, hb4⟩)
 go_ret
 exact ⟨ret_bool rfl, hb4⟩
end Go.Proofs.YtbbbeldbhlehnaaGreatDoor
end
section
namespace Go.Proofs.YtbbbeldbhlehnaaGreatDoor
open Go.ChangeShapes Go.WideShapes Go.ChangeAt Go.RowKit Gno
theorem cellsUse : Tryz.prog.cellsOf 151 = 4 := by kernel_rfl
section
variable {H : Type} {enc : TypeId × Value → H} {w : World} {base : Nat} {spare : Nat → Bool} {held : Bool}
end
end Go.Proofs.YtbbbeldbhlehnaaGreatDoor
end
