/- What must be in any case of data. -/
import Derived.Lib.Replace
import Derived.Deep.RegionHeld3
import Derived.BigRegion
import Derived.Test.YtbbbeldbhlehnaaGreatDoorMUTrB226
import Derived.Test.YtbbbeldbhlehnaaGreatDoorMUTrB29
import Derived.Test.YtbbbeldbhlehnaaGreatDoorMUTrB26
import Derived.Test.YtbbbeldbhlehnaaGreatDoorMUTrB24
set_option linter.unusedSimpArgs false
set_option linter.unusedVariables false
section
namespace Gno
open Go
def Dist (l : List ByteArray) : Prop := ∀ (i j : Nat) (a b : ByteArray), i < j → l[i]? = some a → l[j]? = some b → same a b = false
theorem dist_of {l : List ByteArray} (h : dup l = false) : Dist l := fun i j a b hij ha hb => by
 cases hs : same a b
 ·rfl
 ·have : dup l = true := dup_yes (i := j) (m := j) (v := b) hb (Nat.le_refl _) (by
   unfold amongTo
   rw [List.any_eq_true]
   refine ⟨a, ?_, by rw [same_comm]; exact hs⟩
   exact List.mem_of_getElem? (i := i) (by rw [List.getElem?_take_of_lt hij]; exact ha))
  rw [h] at this; cases this
structure Right (d : Dt) : Prop where
 many : manyD d = false
 dist : Dist (zNames d ++ lNames d)
 noto : ∀ l ∈ d.ls, noTo d l.to = false
 lead : ∀ l ∈ d.ls, 0 ≤ leadN d l.name
theorem right_of {d : Dt} (h : dataE d = 0) : Right d := by
 have h0 : manyD d = false := by
  cases e : manyD d
  ·rfl
  ·unfold dataE at h; rw [if_pos e] at h; exact absurd h (by decide)
 have h1 : dE1 d = 0 := by unfold dataE at h; rwa [if_neg (by rw [h0]; simp)] at h
 have h2 : dE2 d = 0 := by
  unfold dE1 at h1; split at h1
  ·exact absurd h1 (by decide)
  ·exact h1
 have h3 : dE3 d = 0 := by
  unfold dE2 at h2; split at h2
  ·exact absurd h2 (by decide)
  ·exact h2
 have h4 : dE4 d = 0 := by
  unfold dE3 at h3; split at h3
  ·exact absurd h3 (by decide)
  ·exact h3
 have hd : (dup (sNames d) || dup (zNames d ++ lNames d)) = false := by
  cases e : (dup (sNames d) || dup (zNames d ++ lNames d))
  ·rfl
  ·unfold dE4 at h4; rw [if_pos e] at h4; exact absurd h4 (by decide)
 have h5 : dE5 d = 0 := by unfold dE4 at h4; rwa [if_neg (by rw [hd]; simp)] at h4
 have h6 : dE6 d = 0 := by
  unfold dE5 at h5; split at h5
  ·rename_i q; exact absurd h5 q
  ·exact h5
 have h7 : dE7 d = 0 := by
  unfold dE6 at h6; split at h6
  ·exact absurd h6 (by decide)
  ·exact h6
 have h8 : dE8 d = 0 := by
  unfold dE7 at h7; split at h7
  ·exact absurd h7 (by decide)
  ·exact h7
 have h9 : dE9 d = 0 := by
  unfold dE8 at h8; split at h8
  ·exact absurd h8 (by decide)
  ·exact h8
 have ht : anyI (fun _ => noTo d) (lTos d) = false := by
  cases e : anyI (fun _ => noTo d) (lTos d)
  ·rfl
  ·unfold dE9 at h9; rw [if_pos e] at h9; exact absurd h9 (by decide)
 have h10 : dE10 d = 0 := by unfold dE9 at h9; rwa [if_neg (by rw [ht]; simp)] at h9
 have hl : anyI (fun _ => noLead d) (lNames d) = false := by
  cases e : anyI (fun _ => noLead d) (lNames d)
  ·rfl
  ·unfold dE10 at h10; rw [if_pos e] at h10; exact absurd h10 (by decide)
 rw [anyI_any] at ht hl
 rw [Bool.or_eq_false_iff] at hd
 refine ⟨h0, dist_of hd.2, fun l hl' => ?_, fun l hl' => ?_⟩
 ·have := List.any_eq_false.1 ht l.to (List.mem_map.2 ⟨l, hl', rfl⟩)
  simpa using this
 ·have := List.any_eq_false.1 hl l.name (List.mem_map.2 ⟨l, hl', rfl⟩)
  unfold noLead at this
  simpa using this
theorem same_refl (a : ByteArray) : same a a = true := (same_iff a a).2 rfl
theorem Right.zz {d : Dt} (h : Right d) {i j : Nat} {a b : Zn} (hij : i < j) (ha : d.zs[i]? = some a) (hb : d.zs[j]? = some b) : same a.name b.name = false := by
 have hi := (List.getElem?_eq_some_iff.1 ha).1
 have hj := (List.getElem?_eq_some_iff.1 hb).1
 refine h.dist i j _ _ hij ?_ ?_
 ·rw [List.getElem?_append_left (by simp [zNames]; exact hi)]; simp [zNames, ha]
 ·rw [List.getElem?_append_left (by simp [zNames]; exact hj)]; simp [zNames, hb]
theorem Right.zoneOwn {d : Dt} (h : Right d) {k : Nat} {z : Zn} (hz : d.zs[k]? = some z) : zoneN d z.name = k := by
 have := fst_at (p := isZone z.name) d.zs 0 k (fun j x hj hx => h.zz hj hx hz) ⟨z, hz, same_refl _⟩
 unfold zoneN; rw [this]; simp
theorem Right.leadZone {d : Dt} (h : Right d) {k : Nat} {z : Zn} (hz : d.zs[k]? = some z) : leadN d z.name = k := by
 unfold leadN
 rw [lead_zone (by rw [h.zoneOwn hz]; omega), h.zoneOwn hz]
def moreD (d : Dt) (A : Option Addr) (c : Nat) (x : Lk) : Dt := { d with lA := A, ln := d.ln + 1, lc := c, ls := d.ls ++ [x] }
end Gno
end
section
namespace Gno
open Go
def noSave (r : Rl) : Bool := r.sv == 0
noncomputable def offK (rs : List Rl) (std t : Int) : Int := if 0 ≤ (latest rs std t).1 then (latest rs std t).1 else fst noSave rs 0
noncomputable def offRl (rs : List Rl) (std t : Int) : Option Rl := if offK rs std t < 0 then none else rs[(offK rs std t).toNat]?
noncomputable def offR (d : Dt) (x : Er) (t : Int) : Option Rl := if x.set < 0 then none else match d.ss[x.set.toNat]? with | some s => offRl s.rs x.std t | none => none
noncomputable def offSv (d : Dt) (x : Er) (t : Int) : Int := match offR d x t with | some r => r.sv | none => x.save
noncomputable def offLe (d : Dt) (x : Er) (t : Int) : ByteArray := match offR d x t with | some r => r.le | none => ⟨#[]⟩
def repl (s le : ByteArray) : ByteArray := if markN s < 0 then s else s.extract 0 (markN s).toNat ++ le ++ s.extract ((markN s).toNat + 2) s.size
noncomputable def offAb (d : Dt) (x : Er) (t : Int) : ByteArray := repl x.fmt (offLe d x t)
noncomputable def offTo (d : Dt) (x : Er) (t : Int) : Int := x.std + offSv d x t
def til (t : Int) (x : Er) : Bool := decide (t < x.til)
def eraK (es : List Er) (t : Int) : Int := fst (til t) es 0
theorem offR_none {d : Dt} {x : Er} {t : Int} (h : x.set < 0) : offR d x t = none := by unfold offR; rw [if_pos h]
theorem offR_set {d : Dt} {x : Er} {t : Int} {s : St} (h : ¬ x.set < 0) (hs : d.ss[x.set.toNat]? = some s) : offR d x t = offRl s.rs x.std t := by unfold offR; rw [if_neg h, hs]
theorem off_none {d : Dt} {x : Er} {t : Int} (h : offR d x t = none) : offSv d x t = x.save ∧ offLe d x t = ⟨#[]⟩ := by unfold offSv offLe; rw [h]; exact ⟨rfl, rfl⟩
theorem off_some {d : Dt} {x : Er} {t : Int} {r : Rl} (h : offR d x t = some r) : offSv d x t = r.sv ∧ offLe d x t = r.le := by unfold offSv offLe; rw [h]; exact ⟨rfl, rfl⟩
theorem offK_range (rs : List Rl) (std t : Int) : -1 ≤ offK rs std t ∧ offK rs std t < rs.length := by
 unfold offK
 have h := latestTo_bd rs std t rs.length
 split
 ·unfold latest; omega
 ·rcases fst_range noSave rs 0 (by omega) with e | e <;> omega
theorem offRl_is {rs : List Rl} {std t : Int} (h : 0 ≤ offK rs std t) : ∃ r, rs[(offK rs std t).toNat]? = some r ∧ offRl rs std t = some r := by
 have hr := offK_range rs std t
 refine ⟨rs[(offK rs std t).toNat]'(by omega), List.getElem?_eq_getElem _, ?_⟩
 unfold offRl
 rw [if_neg (by omega)]
 exact List.getElem?_eq_getElem _
theorem offRl_no {rs : List Rl} {std t : Int} (h : offK rs std t < 0) : offRl rs std t = none := by unfold offRl; rw [if_pos h]
theorem offRl_mem {rs : List Rl} {std t : Int} {r : Rl} (h : offRl rs std t = some r) : r ∈ rs := by
 unfold offRl at h
 split at h
 ·cases h
 ·exact List.mem_of_getElem? h
theorem fst_is {α : Type} (p : α → Bool) : ∀ (l : List α) (k : Int), 0 ≤ k → 0 ≤ fst p l k → ∃ y, l[(fst p l k - k).toNat]? = some y ∧ p y = true
 | [], k, hk, h => by simp [fst] at h
 | a :: t, k, hk, h => by
   by_cases ha : p a = true
   ·have e1 : fst p (a :: t) k = k := by show (if p a = true then k else fst p t (k + 1)) = k; rw [if_pos ha]
    rw [e1]
    exact ⟨a, by simp, ha⟩
   ·have e1 : fst p (a :: t) k = fst p t (k + 1) := by show (if p a = true then k else fst p t (k + 1)) = _; rw [if_neg ha]
    rw [e1] at h ⊢
    obtain ⟨y, hy, hp⟩ := fst_is p t (k + 1) (by omega) h
    have hr : k + 1 ≤ fst p t (k + 1) := by rcases fst_range p t (k + 1) (by omega) with e | e <;> omega
    exact ⟨y, by rw [show (fst p t (k + 1) - k).toNat = (fst p t (k + 1) - (k + 1)).toNat + 1 by omega, List.getElem?_cons_succ]; exact hy, hp⟩
structure RightE (d : Dt) : Prop extends Right d where
 rules : ∀ s ∈ d.ss, ∀ r ∈ s.rs, r.e = 0
 eras : ∀ z ∈ d.zs, ∀ i x, z.es[i]? = some x → eraOk d.sn x (aheadOf z.es i) = true
 ends : ∀ z ∈ d.zs, aheadOf z.es z.es.length = 1893456000
 fmts : ∀ z ∈ d.zs, ∀ x ∈ z.es, fmtOk x.fmt = true
theorem setsE_zero : ∀ {ss : List St}, setsE ss = 0 → ∀ s ∈ ss, firstE s.rs = 0
 | [], _, s, h => by cases h
 | a :: t, h, s, hs => by
   unfold setsE at h
   by_cases ha : firstE a.rs ≠ 0
   ·rw [if_pos ha] at h; exact absurd h ha
   ·rw [if_neg ha] at h
    rcases List.mem_cons.1 hs with rfl | hs
    ·exact Classical.not_not.1 ha
    ·exact setsE_zero h s hs
theorem aheads_mem {es : List Er} {i : Nat} {x : Er} (h : es[i]? = some x) : (x, aheadOf es i) ∈ aheads 0 es := by
 rw [aheads_split h, ← ahead_is]
 simp
theorem rightE_of {d : Dt} (h : dataE d = 0) : RightE d := by
 have hr := right_of h
 have h0 : manyD d = false := hr.many
 have h1 : dE1 d = 0 := by unfold dataE at h; rwa [if_neg (by rw [h0]; simp)] at h
 have h2 : dE2 d = 0 := by
  unfold dE1 at h1; split at h1
  ·exact absurd h1 (by decide)
  ·exact h1
 have h3 : dE3 d = 0 := by
  unfold dE2 at h2; split at h2
  ·exact absurd h2 (by decide)
  ·exact h2
 have h4 : dE4 d = 0 := by
  unfold dE3 at h3; split at h3
  ·exact absurd h3 (by decide)
  ·exact h3
 have h5 : dE5 d = 0 := by
  unfold dE4 at h4; split at h4
  ·exact absurd h4 (by decide)
  ·exact h4
 have hs : setsE d.ss = 0 := by
  unfold dE5 at h5; split at h5
  ·exact h5
  ·rename_i q; exact Classical.not_not.1 q
 have h6 : dE6 d = 0 := by unfold dE5 at h5; rwa [if_neg (by rw [hs]; simp)] at h5
 have he : (erasL d.zs).any (badE d) = false := by
  cases e : (erasL d.zs).any (badE d)
  ·rfl
  ·unfold dE6 at h6; rw [if_pos e] at h6; exact absurd h6 (by decide)
 have h7 : dE7 d = 0 := by unfold dE6 at h6; rwa [if_neg (by rw [he]; simp)] at h6
 have hn : anyI (fun _ => badEnd) d.zs = false := by
  cases e : anyI (fun _ => badEnd) d.zs
  ·rfl
  ·unfold dE7 at h7; rw [if_pos e] at h7; exact absurd h7 (by decide)
 have h8 : dE8 d = 0 := by unfold dE7 at h7; rwa [if_neg (by rw [hn]; simp)] at h7
 have hf : (erasL d.zs).any badF = false := by
  cases e : (erasL d.zs).any badF
  ·rfl
  ·unfold dE8 at h8; rw [if_pos e] at h8; exact absurd h8 (by decide)
 rw [List.any_eq_false] at he hf
 rw [anyI_any, List.any_eq_false] at hn
 have mem : ∀ z ∈ d.zs, ∀ i x, z.es[i]? = some x → (x, aheadOf z.es i) ∈ erasL d.zs := fun z hz i x hx => List.mem_flatMap.2 ⟨z, hz, aheads_mem hx⟩
 refine { toRight := hr, rules := fun s hs' => firstE_zero (setsE_zero hs s hs'), eras := fun z hz i x hx => ?_, ends := fun z hz => ?_, fmts := fun z hz x hx => ?_ }
 ·have := he _ (mem z hz i x hx)
  unfold badE at this
  simpa using this
 ·have := hn z hz
  unfold badEnd at this
  simpa using this
 ·obtain ⟨i, hi⟩ := List.getElem?_of_mem hx
  have := hf _ (mem z hz i x hi)
  unfold badF at this
  simpa using this
theorem eraOk_is {ns : Int} {x : Er} {ah : Int} (h : eraOk ns x ah = true) : (-50400 ≤ x.std ∧ x.std ≤ 50400) ∧ (-1 ≤ x.set ∧ x.set < ns) ∧ (0 ≤ x.save ∧ x.save ≤ 7200) ∧ (x.set < 0 ∨ x.save = 0) ∧ ah < x.til := by
 unfold eraOk at h
 simpa [and_assoc] using h
theorem ahead_last {es : List Er} (h : 0 < es.length) : ∃ x, es[es.length - 1]? = some x ∧ aheadOf es es.length = x.til := by
 obtain ⟨n, hn⟩ : ∃ n, es.length = n + 1 := ⟨es.length - 1, by omega⟩
 have hx := List.getElem?_eq_getElem (l := es) (i := n) (by omega)
 refine ⟨es[n]'(by omega), by rw [show es.length - 1 = n by omega]; exact hx, ?_⟩
 have key : ∀ m, m = n + 1 → aheadOf es m = (es[n]'(by omega)).til := by
  rintro _ rfl
  simp only [aheadOf]
  rw [hx]
 exact key _ hn
theorem RightE.era {d : Dt} (h : RightE d) {z : Zn} (hz : z ∈ d.zs) {t : Int} (h1 : t < 1893456000) :
 ∃ x, z.es[(eraK z.es t).toNat]? = some x ∧ x ∈ z.es ∧ 0 ≤ eraK z.es t ∧ eraK z.es t < z.es.length ∧ t < x.til := by
 have he := h.ends z hz
 have hpos : 0 < z.es.length := by
  rcases Nat.eq_zero_or_pos z.es.length with q | q
  ·rw [q] at he; simp [aheadOf] at he
  ·exact q
 obtain ⟨x, hx, hxe⟩ := ahead_last hpos
 have hnn : 0 ≤ eraK z.es t := (fst_nn (til t) z.es 0 (by omega)).2 ⟨x, List.mem_of_getElem? hx, by unfold til; simp; omega⟩
 have hr : eraK z.es t < z.es.length := by
  rcases fst_range (til t) z.es 0 (by omega) with e | e
  ·unfold eraK; omega
  ·unfold eraK; omega
 have hq := List.getElem?_eq_getElem (l := z.es) (i := (eraK z.es t).toNat) (by omega)
 refine ⟨_, hq, List.mem_of_getElem? hq, hnn, hr, ?_⟩
 have := fst_is (til t) z.es 0 (by omega) (show 0 ≤ fst (til t) z.es 0 from hnn)
 obtain ⟨y, hy, hp⟩ := this
 have e : (fst (til t) z.es 0 - 0).toNat = (eraK z.es t).toNat := by unfold eraK; congr 1; omega
 rw [e, hq] at hy
 injection hy with hy
 subst hy
 simpa [til] using hp
end Gno
end
section
namespace Gno
open Go
theorem count_le (sub : List UInt8) : ∀ (f : Nat) (s : List UInt8), Lib.countFrom sub f s ≤ f
 | 0, s => by simp [Lib.countFrom]
 | f + 1, s => by
   unfold Lib.countFrom
   split
   ·omega
   ·have := count_le sub f (s.drop ((Lib.index s sub).toNat + sub.length)); omega
theorem count_zero {s sub : List UInt8} (h : Lib.count s sub = 0) : Lib.index s sub = -1 := by
 unfold Lib.count Lib.countFrom at h
 split at h
 ·rename_i q; exact beq_iff_eq.1 q
 ·omega
theorem bytes_ext {a b : ByteArray} (h : a.data.toList = b.data.toList) : a = b := by
 obtain ⟨⟨a⟩⟩ := a
 obtain ⟨⟨b⟩⟩ := b
 simp at h
 rw [h]
theorem ex_list (s : ByteArray) (i j : Nat) : (s.extract i j).data.toList = (s.data.toList.drop i).take (j - i) := by
 simp [ByteArray.data_extract, List.extract_eq_take_drop]
theorem repl_one (s le : ByteArray) (hne : (pct.data.toList == le.data.toList) = false) :
 (⟨(Lib.replace s.data.toList pct.data.toList le.data.toList 1).toArray⟩ : ByteArray) = repl s le := by
 unfold Lib.replace
 rw [if_neg (by rw [hne]; simp)]
 by_cases hc : Lib.count s.data.toList pct.data.toList = 0
 ·have hi := count_zero hc
  have hm : markN s = -1 := hi
  have e0 : Lib.replaceNum s.data.toList pct.data.toList 1 = 0 := by
   unfold Lib.replaceNum
   rw [hc, if_pos (by omega)]
  rw [e0, Lib.replaceK]
  unfold repl
  rw [if_pos (by omega)]
 ·obtain ⟨i, hi⟩ := Lib.index_of_count (s := s.data.toList) (old := pct.data.toList) (by omega)
  have hm : markN s = i := hi
  have e0 : Lib.replaceNum s.data.toList pct.data.toList 1 = 0 + 1 := by
   unfold Lib.replaceNum
   rw [if_neg (by omega)]; rfl
  rw [e0, Lib.replaceK_hit _ _ _ _ _ hi, Lib.replaceK]
  unfold repl
  rw [if_neg (by omega), hm]
  apply bytes_ext
  have hr : i + 2 ≤ s.size := by
   rcases mark_cases s with q | ⟨j, q, hj⟩
   ·omega
   ·omega
  rw [ByteArray.data_append, ByteArray.data_append, Array.toList_append, Array.toList_append, ex_list, ex_list]
  have hl : s.data.toList.length = s.size := by simp
  have ht : (s.data.toList.drop (i + 2)).take (s.size - (i + 2)) = s.data.toList.drop (i + 2) := List.take_of_length_le (by rw [List.length_drop, hl]; omega)
  simp only [Int.toNat_natCast, List.drop_zero, Nat.sub_zero, ht]
  rfl
end Gno
end
section
namespace Go.Proofs.YtbbbeldbhlehnaaGreatDoor
open Go.RowKit Gno
def PredEra (P : Program) (g : Nat) (lb : Array Value) (p : Er → Bool) (l : List Er) (w : World) : Prop :=
 ∀ (W : World) (x : Er), x ∈ l → Below w.heap.size w W → Calls P g (#[.agg #[.int .i64 x.std, .int .i64 x.set, .int .i64 x.save, .string x.fmt, .int .i64 x.til]] ++ lb) W fun e w' => e = .returned (.bool (p x)) ∧ Below W.heap.size W w'
set_option maxRecDepth 100000 in
set_option maxHeartbeats 4000000 in
theorem indexEra_any (g : Nat) (lb : Array Value) (eg : ∀ args w, (callFunc g args).run Tryz.prog w = .ok (.enter g args) w) (p : Er → Bool) (A : Option Addr) (n cap : Nat) (l : List Er) (w : World)
 (hR : ErasAt w w.heap.size A n l) (hp : PredEra Tryz.prog g lb p l w) :
 Calls Tryz.prog 109 #[.slice A n cap, .func (.func g) #[] lb] w fun e w' => e = .returned (.int .i64 (fst p l 0)) ∧ Below w.heap.size w w' := by
 have hn : n ≤ 9223372036854775807 := hR.2.1
 have HR := Lib.hid hR
 have HP := Lib.hid hp
 clear hR hp
 go_enter Tryz.func109, Tryz.ntmps109
 go_wp2
 go_loopw [8] (fun b0 wr => ∃ i : Nat, i ≤ n ∧ b0 = .int .i64 i ∧ Hid (fst p (l.drop i) i = fst p l 0) ∧ Below w.heap.size w wr) (fun b0 _ => n - (intOf b0).toNat)
 case atStart => exact ⟨0, Nat.zero_le _, rfl, Lib.hid (by simp), Below.refl _ _⟩
 case round =>
  obtain ⟨i, hi, rfl, hfd, hb⟩ := hrel
  by_cases hlt : i < n
  ·obtain ⟨b, o, q, hA, hbB, hq, hqs, hqq⟩ := eras_get HR.out hlt
   subst hA
   obtain ⟨e0, e1, e2, e3, e4⟩ := hqq _ hb
   have hmem : q ∈ l := List.mem_of_getElem? hq
   have FD := Lib.hid (fst_drop (p := p) hq)
   have c := HP.out wr q hmem hb
   clear hq hqq hmem
   cases hpk : p q
   ·rw [hpk] at c
    have C := Lib.hid c
    have HX := Lib.hid ((FD.out.2 hpk).symm.trans hfd.out)
    clear c hfd hpk
    go_wp2_with (go_at_fn g; (with_reducible refine C.out.mono ?_); rintro e w4 ⟨rfl, hb4⟩; have hb5 := hb.trans (hb4.mono hb.size); clear hb4)
    go_roundw
    case rel => exact ⟨i + 1, by omega, by go_num, HX, hb5⟩
    case measure => simp [intOf]; omega
   ·rw [hpk] at c
    have C := Lib.hid c
    have HX := Lib.hid ((FD.out.1 hpk).symm.trans hfd.out)
    clear c hfd hpk
    go_wp2_with (go_at_fn g; (with_reducible refine C.out.mono ?_); rintro e w4 ⟨rfl, hb4⟩; have hb5 := hb.trans (hb4.mono hb.size); clear hb4)
    go_ret
    exact ⟨ret_int HX.out, hb5⟩
  ·have HX := Lib.hid ((fst_end (p := p) (by have := HR.out.1; omega)).symm.trans hfd.out)
   go_wp2
   go_ret
   exact ⟨ret_int HX.out, hb⟩
def PredRule (P : Program) (g : Nat) (lb : Array Value) (p : Rl → Bool) (l : List Rl) (w : World) : Prop :=
 ∀ (W : World) (x : Rl), x ∈ l → Below w.heap.size w W → Calls P g (#[.agg #[.int .i64 x.fy, .int .i64 x.ty, .int .i64 x.mo, .int .i64 x.k, .int .i64 x.wk, .int .i64 x.d, .int .i64 x.a, .int .i64 x.sv, .string x.le]] ++ lb) W fun e w' => e = .returned (.bool (p x)) ∧ Below W.heap.size W w'
set_option maxRecDepth 100000 in
set_option maxHeartbeats 4000000 in
theorem indexRule_any (g : Nat) (lb : Array Value) (eg : ∀ args w, (callFunc g args).run Tryz.prog w = .ok (.enter g args) w) (p : Rl → Bool) (A : Option Addr) (n cap : Nat) (l : List Rl) (w : World)
 (hR : RulesAt w w.heap.size A n l) (hp : PredRule Tryz.prog g lb p l w) :
 Calls Tryz.prog 173 #[.slice A n cap, .func (.func g) #[] lb] w fun e w' => e = .returned (.int .i64 (fst p l 0)) ∧ Below w.heap.size w w' := by
 have hn : n ≤ 9223372036854775807 := hR.2.1
 have HR := Lib.hid hR
 have HP := Lib.hid hp
 clear hR hp
 go_enter Tryz.func173, Tryz.ntmps173
 go_wp2
 go_loopw [8] (fun b0 wr => ∃ i : Nat, i ≤ n ∧ b0 = .int .i64 i ∧ Hid (fst p (l.drop i) i = fst p l 0) ∧ Below w.heap.size w wr) (fun b0 _ => n - (intOf b0).toNat)
 case atStart => exact ⟨0, Nat.zero_le _, rfl, Lib.hid (by simp), Below.refl _ _⟩
 case round =>
  obtain ⟨i, hi, rfl, hfd, hb⟩ := hrel
  by_cases hlt : i < n
  ·obtain ⟨b, o, q, hA, hbB, hq, hqs, hqq⟩ := RulesAt.get HR.out hlt
   subst hA
   obtain ⟨e0, e1, e2, e3, e4, e5, e6, e7, e8⟩ := hqq _ hb
   have hmem : q ∈ l := List.mem_of_getElem? hq
   have FD := Lib.hid (fst_drop (p := p) hq)
   have c := HP.out wr q hmem hb
   clear hq hqq hmem
   cases hpk : p q
   ·rw [hpk] at c
    have C := Lib.hid c
    have HX := Lib.hid ((FD.out.2 hpk).symm.trans hfd.out)
    clear c hfd hpk
    go_wp2_with (go_at_fn g; (with_reducible refine C.out.mono ?_); rintro e w4 ⟨rfl, hb4⟩; have hb5 := hb.trans (hb4.mono hb.size); clear hb4)
    go_roundw
    case rel => exact ⟨i + 1, by omega, by go_num, HX, hb5⟩
    case measure => simp [intOf]; omega
   ·rw [hpk] at c
    have C := Lib.hid c
    have HX := Lib.hid ((FD.out.1 hpk).symm.trans hfd.out)
    clear c hfd hpk
    go_wp2_with (go_at_fn g; (with_reducible refine C.out.mono ?_); rintro e w4 ⟨rfl, hb4⟩; have hb5 := hb.trans (hb4.mono hb.size); clear hb4)
    go_ret
    exact ⟨ret_int HX.out, hb5⟩
  ·have HX := Lib.hid ((fst_end (p := p) (by have := HR.out.1; omega)).symm.trans hfd.out)
   go_wp2
   go_ret
   exact ⟨ret_int HX.out, hb⟩
end Go.Proofs.YtbbbeldbhlehnaaGreatDoor
end
section
namespace Gno
open Go
def sEu : ByteArray := ⟨#[101, 117]⟩
def sLMT : ByteArray := ⟨#[76, 77, 84]⟩
def sCEsT : ByteArray := ⟨#[67, 69, 37, 115, 84]⟩
def sXT : ByteArray := ⟨#[88, 84]⟩
def sOld : ByteArray := ⟨#[69, 47, 79, 108, 100, 95, 84, 111, 119, 110]⟩
def sAW : ByteArray := ⟨#[65, 47, 87, 101, 115, 116]⟩
def sTown : ByteArray := ⟨#[84, 111, 119, 110]⟩
def sTt : ByteArray := ⟨#[84]⟩
def sXx1 : ByteArray := ⟨#[88]⟩
def euD (k : Nat) (s2 : Int) (t : ByteArray) : Dt :=
 { sA := some ⟨k + 2, 0, none⟩, sn := 1, sc := 1, ss := [⟨sEu, some ⟨k + 1, 0, none⟩, 2, 2, springs⟩],
   zA := some ⟨k + 5, 0, none⟩, zn := 2, zc := 2, zs := [⟨sOld, some ⟨k + 3, 0, none⟩, 2, 2, [⟨1800, -1, 0, sLMT, 500000000⟩, ⟨3600, 0, 0, sCEsT, 1893456000⟩]⟩, ⟨sAW, some ⟨k + 4, 0, none⟩, 1, 1, [⟨-18000, s2, 3600, sXT, 1893456000⟩]⟩],
   lA := some ⟨k + 6, 0, none⟩, ln := 2, lc := 2, ls := [⟨sTown, t⟩, ⟨sTt, sTown⟩] }
theorem eu_sets (k : Nat) (s2 : Int) (t : ByteArray) : setsE (euD k s2 t).ss = 0 := by
 show (if firstE springs ≠ 0 then firstE springs else 0) = 0
 rw [springs_ok]; rfl
theorem eu_some (k : Nat) (s2 : Int) (t : ByteArray) (h3 : anyI (fun _ => badNm) (allNames (euD k s2 t)) = false) : dataE (euD k s2 t) = dE6 (euD k s2 t) := by
 unfold dataE dE1 dE2 dE3 dE4 dE5
 rw [if_neg (by rw [show manyD (euD k s2 t) = false from rfl]; simp), if_neg (by rw [show anyI (fun _ => manyRules) (euD k s2 t).ss = false from rfl]; simp),
  if_neg (by rw [show anyI (fun _ => manyEras) (euD k s2 t).zs = false from rfl]; simp), if_neg (by rw [h3]; simp),
  if_neg (by rw [show (dup (sNames (euD k s2 t)) || dup (zNames (euD k s2 t) ++ lNames (euD k s2 t))) = false from by kernel_rfl]; simp), if_neg (by rw [eu_sets]; simp)]
theorem eu_ok (k : Nat) : dataE (euD k (-1) sOld) = 0 := by
 rw [eu_some k (-1) sOld (by kernel_rfl)]
 unfold dE6 dE7 dE8 dE9 dE10
 rw [if_neg (by rw [show (erasL (euD k (-1) sOld).zs).any (badE (euD k (-1) sOld)) = false from by kernel_rfl]; simp),
  if_neg (by rw [show anyI (fun _ => badEnd) (euD k (-1) sOld).zs = false from by kernel_rfl]; simp),
  if_neg (by rw [show (erasL (euD k (-1) sOld).zs).any badF = false from by kernel_rfl]; simp),
  if_neg (by rw [show anyI (fun _ => noTo (euD k (-1) sOld)) (lTos (euD k (-1) sOld)) = false from by kernel_rfl]; simp),
  if_neg (by rw [show anyI (fun _ => noLead (euD k (-1) sOld)) (lNames (euD k (-1) sOld)) = false from by kernel_rfl]; simp)]
end Gno
namespace Go.Proofs.YtbbbeldbhlehnaaGreatDoor
open Go.RowKit Gno
def euO0 (k : Nat) : Obj := .cells #[.slice (some ⟨k + 1 + 1, 0, none⟩) 1 1, .slice (some ⟨k + 1 + 1 + 1 + 1 + 1, 0, none⟩) 2 2, .slice (some ⟨k + 1 + 1 + 1 + 1 + 1 + 1, 0, none⟩) 2 2] 26
def euO1 : Obj := .cells #[.int .i64 1980, .int .i64 2029, .int .i64 3, .int .i64 2, .int .i64 0, .int .i64 0, .int .i64 7200, .int .i64 3600, .string ⟨#[68]⟩,
 .int .i64 1980, .int .i64 2029, .int .i64 10, .int .i64 2, .int .i64 0, .int .i64 0, .int .i64 7200, .int .i64 0, .string ⟨#[83]⟩] 123
def euO2 (k : Nat) : Obj := .cells #[.string ⟨#[101, 117]⟩, .slice (some ⟨k + 1, 0, none⟩) 2 2] 115
def euO3 : Obj := .cells #[.int .i64 1800, .int .i64 (-1), .int .i64 0, .string ⟨#[76, 77, 84]⟩, .int .i64 500000000, .int .i64 3600, .int .i64 0, .int .i64 0, .string ⟨#[67, 69, 37, 115, 84]⟩, .int .i64 1893456000] 125
def euO4 (s2 : Int) : Obj := .cells #[.int .i64 (-18000), .int .i64 s2, .int .i64 3600, .string ⟨#[88, 84]⟩, .int .i64 1893456000] 125
def euO5 (k : Nat) : Obj := .cells #[.string ⟨#[69, 47, 79, 108, 100, 95, 84, 111, 119, 110]⟩, .slice (some ⟨k + 1 + 1 + 1, 0, none⟩) 2 2, .string ⟨#[65, 47, 87, 101, 115, 116]⟩, .slice (some ⟨k + 1 + 1 + 1 + 1, 0, none⟩) 1 1] 54
def euO6 (t : ByteArray) : Obj := .cells #[.string ⟨#[84, 111, 119, 110]⟩, .string t, .string ⟨#[84]⟩, .string ⟨#[84, 111, 119, 110]⟩] 127
def euW (w : World) : World := ((((((w.alloc (euO0 w.heap.size)).alloc euO1).alloc (euO2 w.heap.size)).alloc euO3).alloc (euO4 (-1))).alloc (euO5 w.heap.size)).alloc (euO6 sOld)
theorem euW_size (w : World) : (euW w).heap.size = w.heap.size + 7 := by simp [euW]
theorem euW_below (w : World) : Below w.heap.size w (euW w) :=
 ((((((((Below.refl _ _).alloc (Nat.le_refl _) _).alloc (by simp) _).alloc (by simp; omega) _).alloc (by simp; omega) _).alloc (by simp; omega) _).alloc (by simp; omega) _).alloc (by simp; omega) _)
structure EuIn (W : World) (k : Nat) (s2 : Int) (t : ByteArray) : Prop where
 o1 : W.heap[k + 1]? = some euO1
 o2 : W.heap[k + 2]? = some (euO2 k)
 o3 : W.heap[k + 3]? = some euO3
 o4 : W.heap[k + 4]? = some (euO4 s2)
 o5 : W.heap[k + 5]? = some (euO5 k)
 o6 : W.heap[k + 6]? = some (euO6 t)
theorem EuIn.below {W W' : World} {B k : Nat} {s2 : Int} {t : ByteArray} (h : EuIn W k s2 t) (hb : Below B W W') (hB : k + 7 ≤ B) : EuIn W' k s2 t :=
 ⟨(hb.block _ (by omega)).trans h.o1, (hb.block _ (by omega)).trans h.o2, (hb.block _ (by omega)).trans h.o3, (hb.block _ (by omega)).trans h.o4, (hb.block _ (by omega)).trans h.o5, (hb.block _ (by omega)).trans h.o6⟩
theorem push_at (w : World) (o : Obj) (b : Nat) (h : b = w.heap.size) : (w.alloc o).heap[b]? = some o := by subst h; exact World.alloc_heap_new w o
theorem push_past (w : World) (o : Obj) (b : Nat) (h : b < w.heap.size) : (w.alloc o).heap[b]? = w.heap[b]? := Below.heap_alloc _ _ _ h
theorem cell_of {W : World} {b o : Nat} {cs : Array Value} {T : TypeId} {v : Value} (h : W.heap[b]? = some (.cells cs T)) (hv : cs[o]? = some v) : W.cell? ⟨b, o, none⟩ = some v := by simp [World.cell?, h, hv]
theorem frozen_of {W : World} {b o : Nat} {cs : Array Value} {T : TypeId} (h : W.heap[b]? = some (.cells cs T)) : W.frozen? ⟨b, o, none⟩ = false := by simp [World.frozen?, h]
theorem euW_o0 (w : World) : (euW w).heap[w.heap.size]? = some (euO0 w.heap.size) := by
 unfold euW
 rw [push_past _ _ _ (by simp; omega), push_past _ _ _ (by simp; omega), push_past _ _ _ (by simp; omega), push_past _ _ _ (by simp; omega), push_past _ _ _ (by simp; omega), push_past _ _ _ (by simp), push_at _ _ _ rfl]
theorem euW_in (w : World) : EuIn (euW w) w.heap.size (-1) sOld := by
 unfold euW
 refine ⟨?_, ?_, ?_, ?_, ?_, ?_⟩
 ·rw [push_past _ _ _ (by simp <;> omega), push_past _ _ _ (by simp <;> omega), push_past _ _ _ (by simp <;> omega), push_past _ _ _ (by simp <;> omega), push_past _ _ _ (by simp), push_at _ _ _ (by simp)]
 ·rw [push_past _ _ _ (by simp <;> omega), push_past _ _ _ (by simp <;> omega), push_past _ _ _ (by simp <;> omega), push_past _ _ _ (by simp), push_at _ _ _ (by simp)]
 ·rw [push_past _ _ _ (by simp <;> omega), push_past _ _ _ (by simp <;> omega), push_past _ _ _ (by simp), push_at _ _ _ (by simp)]
 ·rw [push_past _ _ _ (by simp <;> omega), push_past _ _ _ (by simp), push_at _ _ _ (by simp)]
 ·rw [push_past _ _ _ (by simp), push_at _ _ _ (by simp)]
 ·rw [push_at _ _ _ (by simp)]
set_option maxRecDepth 100000 in
theorem europe_any (w : World) : Calls Tryz.prog 87 #[] w fun e w' => e = .returned (euD w.heap.size (-1) sOld).val ∧ w' = euW w := by
 go_enter Tryz.func87, Tryz.ntmps87
 go_wp2_with (go_at_call 163; refine (spring_any _).mono ?_; rintro e w1 ⟨rfl, rfl⟩)
 refine bodyPost_ret (results_cell_row rfl _ _ w.heap.size 26 _ (0, 0) _ rfl (euW_o0 w) Tryz.underlying26 rfl (by kernel_rfl)) rfl ⟨rfl, rfl⟩
theorem eu_rules {W : World} {k B : Nat} {s2 : Int} {t : ByteArray} (h : EuIn W k s2 t) (hB : k + 1 < B) : RulesAt W B (some ⟨k + 1, 0, none⟩) 2 springs := by
 have h1 := h.o1
 unfold euO1 at h1
 refine ⟨rfl, by decide, fun _ => ⟨k + 1, 0, rfl, hB, fun i r hr => ?_⟩⟩
 match i, hr with
 | 0, hr =>
   obtain rfl : sA = r := by simpa [springs] using hr
   exact ⟨⟨by simp [sA, World.cell?, h1], by simp [sA, World.cell?, h1], by simp [sA, World.cell?, h1], by simp [sA, World.cell?, h1], by simp [sA, World.cell?, h1], by simp [sA, World.cell?, h1], by simp [sA, World.cell?, h1], by simp [sA, World.cell?, h1], by simp [sA, World.cell?, h1]⟩, by decide⟩
 | 1, hr =>
   obtain rfl : sB = r := by simpa [springs] using hr
   exact ⟨⟨by simp [sB, World.cell?, h1], by simp [sB, World.cell?, h1], by simp [sB, World.cell?, h1], by simp [sB, World.cell?, h1], by simp [sB, World.cell?, h1], by simp [sB, World.cell?, h1], by simp [sB, World.cell?, h1], by simp [sB, World.cell?, h1], by simp [sB, World.cell?, h1]⟩, by decide⟩
 | i + 2, hr => simp [springs] at hr
theorem eu_data {W : World} {k B : Nat} {s2 : Int} {t : ByteArray} (h : EuIn W k s2 t) (hB : k + 7 ≤ B) (ht : t.size ≤ maxLen) : DataAt W B (euD k s2 t) := by
 have h2 := h.o2
 have h3 := h.o3
 have h4 := h.o4
 have h5 := h.o5
 have h6 := h.o6
 unfold euO2 at h2
 unfold euO3 at h3
 unfold euO4 at h4
 unfold euO5 at h5
 unfold euO6 at h6
 have m2 : (2 : Nat) ≤ maxLen := by unfold maxLen; omega
 have m1 : (1 : Nat) ≤ maxLen := by unfold maxLen; omega
 refine ⟨⟨rfl, m1, fun _ => ⟨k + 2, 0, rfl, by omega, fun i q hq => ?_⟩⟩, ⟨rfl, m2, fun _ => ⟨k + 5, 0, rfl, by omega, fun i q hq => ?_⟩⟩, ⟨rfl, m2, fun _ => ⟨k + 6, 0, rfl, by omega, fun i q hq => ?_⟩⟩, (by unfold fmtMax; show (2 : Nat) ≤ _; omega)⟩
 ·match i, hq with
  | 0, hq =>
    obtain rfl : (⟨sEu, some ⟨k + 1, 0, none⟩, 2, 2, springs⟩ : St) = q := by simpa [euD] using hq
    exact ⟨⟨by simp [World.cell?, h2, sEu], by simp [World.cell?, h2]⟩, m2, eu_rules h (by omega)⟩
  | i + 1, hq => simp [euD] at hq
 ·match i, hq with
  | 0, hq =>
    obtain rfl : (⟨sOld, some ⟨k + 3, 0, none⟩, 2, 2, [⟨1800, -1, 0, sLMT, 500000000⟩, ⟨3600, 0, 0, sCEsT, 1893456000⟩]⟩ : Zn) = q := by simpa [euD] using hq
    refine ⟨⟨by simp [World.cell?, h5, sOld], by simp [World.cell?, h5]⟩, (show (10 : Nat) ≤ maxLen by unfold maxLen; omega), ⟨rfl, m2, fun _ => ⟨k + 3, 0, rfl, by omega, fun j x hx => ?_⟩⟩⟩
    match j, hx with
    | 0, hx =>
      obtain rfl : (⟨1800, -1, 0, sLMT, 500000000⟩ : Er) = x := by simpa using hx
      exact ⟨⟨by simp [World.cell?, h3], by simp [World.cell?, h3], by simp [World.cell?, h3], by simp [World.cell?, h3, sLMT], by simp [World.cell?, h3]⟩, (show (3 : Nat) ≤ fmtMax by unfold fmtMax; omega)⟩
    | 1, hx =>
      obtain rfl : (⟨3600, 0, 0, sCEsT, 1893456000⟩ : Er) = x := by simpa using hx
      exact ⟨⟨by simp [World.cell?, h3], by simp [World.cell?, h3], by simp [World.cell?, h3], by simp [World.cell?, h3, sCEsT], by simp [World.cell?, h3]⟩, (show (5 : Nat) ≤ fmtMax by unfold fmtMax; omega)⟩
    | j + 2, hx => simp at hx
  | 1, hq =>
    obtain rfl : (⟨sAW, some ⟨k + 4, 0, none⟩, 1, 1, [⟨-18000, s2, 3600, sXT, 1893456000⟩]⟩ : Zn) = q := by simpa [euD] using hq
    refine ⟨⟨by simp [World.cell?, h5, sAW], by simp [World.cell?, h5]⟩, (show (6 : Nat) ≤ maxLen by unfold maxLen; omega), ⟨rfl, m1, fun _ => ⟨k + 4, 0, rfl, by omega, fun j x hx => ?_⟩⟩⟩
    match j, hx with
    | 0, hx =>
      obtain rfl : (⟨-18000, s2, 3600, sXT, 1893456000⟩ : Er) = x := by simpa using hx
      exact ⟨⟨by simp [World.cell?, h4], by simp [World.cell?, h4], by simp [World.cell?, h4], by simp [World.cell?, h4, sXT], by simp [World.cell?, h4]⟩, (show (2 : Nat) ≤ fmtMax by unfold fmtMax; omega)⟩
    | j + 1, hx => simp at hx
  | i + 2, hq => simp [euD] at hq
 ·match i, hq with
  | 0, hq =>
    obtain rfl : (⟨sTown, t⟩ : Lk) = q := by simpa [euD] using hq
    exact ⟨⟨by simp [World.cell?, h6, sTown], by simp [World.cell?, h6]⟩, (show (4 : Nat) ≤ maxLen by unfold maxLen; omega), ht⟩
  | 1, hq =>
    obtain rfl : (⟨sTt, sTown⟩ : Lk) = q := by simpa [euD] using hq
    exact ⟨⟨by simp [World.cell?, h6, sTt], by simp [World.cell?, h6, sTown]⟩, (show (1 : Nat) ≤ maxLen by unfold maxLen; omega), (show (4 : Nat) ≤ maxLen by unfold maxLen; omega)⟩
  | i + 2, hq => simp [euD] at hq
theorem set_obj {W : World} {b o : Nat} {cs : Array Value} {T : TypeId} (h : W.heap[b]? = some (.cells cs T)) (v : Value) : (W.setCell ⟨b, o, none⟩ v).heap[b]? = some (.cells (cs.setIfInBounds o v) T) := by
 unfold World.setCell
 simp [Array.getElem?_modify, h]
end Go.Proofs.YtbbbeldbhlehnaaGreatDoor
end
section
namespace Go.Proofs.YtbbbeldbhlehnaaGreatDoor
open Go.RowKit Gno
theorem eu_mk (W : World) : Calls Tryz.prog 87 #[] W fun e w' => e = .returned (.agg #[.slice (some ⟨W.heap.size + 2, 0, none⟩) 1 1, .slice (some ⟨W.heap.size + 5, 0, none⟩) 2 2, .slice (some ⟨W.heap.size + 6, 0, none⟩) 2 2]) ∧ w' = euW W := europe_any W
theorem euW_next {w0 w : World} (h : Below w0.heap.size w0 w) : Below w0.heap.size w0 (euW w) := h.trans ((euW_below w).mono h.size)
theorem old_le : sOld.size ≤ maxLen := (show (10 : Nat) ≤ maxLen by unfold maxLen; omega)
end Go.Proofs.YtbbbeldbhlehnaaGreatDoor
end
