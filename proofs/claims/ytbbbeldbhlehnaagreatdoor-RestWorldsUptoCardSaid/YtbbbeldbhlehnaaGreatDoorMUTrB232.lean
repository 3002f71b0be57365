/- Parts of a proof, laid together. -/
import Derived.Test.YtbbbeldbhlehnaaGreatDoorMUTrB228
import Derived.Test.YtbbbeldbhlehnaaGreatDoorMUTrB210
import Derived.Test.YtbbbeldbhlehnaaGreatDoorMUTrB229
import Derived.Test.YtbbbeldbhlehnaaGreatDoorMUTrB20
import Derived.Test.YtbbbeldbhlehnaaGreatDoorMUTrB26
set_option linter.unusedSimpArgs false
set_option linter.unusedVariables false
section
namespace Gno
open Go
structure Wd where
 d : Dt
 uA : Option Addr
 un : Nat
 uc : Nat
 us : List Us
 bA : Option Addr
 bn : Nat
 bc : Nat
 bs : List Bk
def Wd.val (x : Wd) : Value := .agg #[.slice x.d.sA x.d.sn x.d.sc, .slice x.d.zA x.d.zn x.d.zc, .slice x.d.lA x.d.ln x.d.lc, .slice x.uA x.un x.uc, .slice x.bA x.bn x.bc]
noncomputable def worldE (x : Wd) : Int := if usesE x.d x.us ≠ 0 then usesE x.d x.us else booksE x.bs
noncomputable def preE (x : Wd) (loc : ByteArray) (p : Int) : Int := if worldE x ≠ 0 then worldE x else if p < 1 ∨ 4 < p then 8 else if bookN x.bs loc < 0 then 4 else 0
noncomputable def nameE (x : Wd) (loc nm : ByteArray) (t p : Int) : Int := if preE x loc p ≠ 0 then preE x loc p else if leadN x.d nm < 0 then 4 else if t < 0 ∨ 1893456000 ≤ t then 3 else 0
noncomputable def wdsE (x : Wd) (loc : ByteArray) (t p : Int) : Int := if preE x loc p ≠ 0 then preE x loc p else if t < 0 ∨ 1893456000 ≤ t then 3 else 0
noncomputable def offN (d : Dt) (z : Zn) (t : Int) : Int := offTo d (eraOf z t) t - (offTo d (eraOf z t) t).tmod 60
noncomputable def offS (d : Dt) (z : Zn) (t : Int) : ByteArray := showT 3 (offN d z t)
def sSlS : ByteArray := ⟨#[47, 115]⟩
def sSlD : ByteArray := ⟨#[47, 100]⟩
def useKey (m : ByteArray) (sv : Int) : ByteArray := if sv = 0 then m ++ sSlS else m ++ sSlD
noncomputable def byName (x : Wd) (k : Int) (z : Zn) (t : Int) : ByteArray :=
 if (metaU x.us z.name t).size = 0 then offS x.d z t else if (lookB x.bs (useKey (metaU x.us z.name t) (offSv x.d (eraOf z t) t)) k).2 = true then (lookB x.bs (useKey (metaU x.us z.name t) (offSv x.d (eraOf z t) t)) k).1 else offS x.d z t
def byCity (x : Wd) (k : Int) (z : Zn) : ByteArray := if (lookB x.bs z.name k).2 = true then (lookB x.bs z.name k).1 else cityT z.name
noncomputable def calledZ (x : Wd) (k : Int) (z : Zn) (t p : Int) : ByteArray := if p = 2 then z.name else if p = 4 then byCity x k z else if p = 3 then byName x k z t else offS x.d z t
noncomputable def nameT (x : Wd) (loc nm : ByteArray) (t p : Int) : ByteArray :=
 if nameE x loc nm t p ≠ 0 then ⟨#[]⟩ else match x.d.zs[(leadN x.d nm).toNat]? with | some z => calledZ x (bookN x.bs loc) z t p | none => ⟨#[]⟩
noncomputable def wdsL (x : Wd) (loc : ByteArray) (t p : Int) : List ByteArray := if wdsE x loc t p ≠ 0 then [] else x.d.zs.map fun z => calledZ x (bookN x.bs loc) z t p
structure RightW (x : Wd) : Prop where
 uses : usesE x.d x.us = 0
 books : booksE x.bs = 0
theorem rightW_of {x : Wd} (h : worldE x = 0) : RightW x := by
 unfold worldE at h
 by_cases e : usesE x.d x.us = 0
 ·rw [if_neg (by simp [e])] at h; exact ⟨e, h⟩
 ·rw [if_pos e] at h; exact absurd h e
theorem RightW.data {x : Wd} (h : RightW x) : dataE x.d = 0 := (rightU_of h.uses).data
theorem worldE_of {x : Wd} (h : RightW x) : worldE x = 0 := by unfold worldE; rw [if_neg (by simp [h.uses])]; exact h.books
theorem preE_zero {x : Wd} {loc : ByteArray} {p : Int} (h : preE x loc p = 0) : RightW x ∧ 1 ≤ p ∧ p ≤ 4 ∧ 0 ≤ bookN x.bs loc := by
 unfold preE at h
 by_cases e : worldE x = 0
 ·rw [if_neg (by simp [e])] at h
  by_cases e1 : p < 1 ∨ 4 < p
  ·rw [if_pos e1] at h; cases h
  ·rw [if_neg e1] at h
   by_cases e2 : bookN x.bs loc < 0
   ·rw [if_pos e2] at h; cases h
   ·exact ⟨rightW_of e, by omega, by omega, by omega⟩
 ·rw [if_pos e] at h; exact absurd h e
theorem offN_ok {d : Dt} (hd : RightE d) {z : Zn} (hz : z ∈ d.zs) {t : Int} (ht : t < 1893456000) (ho : -57600 ≤ offTo d (eraOf z t) t ∧ offTo d (eraOf z t) t ≤ 57600) : showE 3 (offN d z t) = 0 := by
 refine (showE_ok (by decide) ?_).1
 unfold offOk offN
 rw [decide_eq_true_eq]
 have h1 := Int.tmod_add_tdiv_mul (offTo d (eraOf z t) t) 60
 obtain ⟨a, ha⟩ : ∃ a, a = offTo d (eraOf z t) t := ⟨_, rfl⟩
 rw [← ha] at ho h1 ⊢
 obtain ⟨q, hq⟩ : ∃ q, q = a.tdiv 60 := ⟨_, rfl⟩
 rw [← hq] at h1
 have h2 : a - a.tmod 60 = q * 60 := by omega
 rw [h2]
 have hb : (-60 < a.tmod 60 ∧ a.tmod 60 < 60) ∧ ((0 ≤ a → 0 ≤ a.tmod 60) ∧ (a ≤ 0 → a.tmod 60 ≤ 0)) := by
  rcases Int.le_total 0 a with h | h
  ·have e : a.tmod 60 = a % 60 := Int.tmod_eq_emod_of_nonneg h
   rw [e]; omega
  ·obtain ⟨b, hb⟩ : ∃ b, a = -b := ⟨-a, by omega⟩
   have e : a.tmod 60 = -(b % 60) := by rw [hb, Int.neg_tmod, Int.tmod_eq_emod_of_nonneg (by omega)]
   rw [e]; omega
 omega
theorem nameOk_len {s : ByteArray} (h : nameOk s = true) : 1 ≤ s.size ∧ s.size ≤ 12 := by
 unfold nameOk at h
 rw [Bool.and_eq_true, decide_eq_true_eq] at h
 exact h.1
theorem inPairs_true {key : ByteArray} {r : ByteArray × Bool} : ∀ {l : List Pr}, (inPairs key r l).2 = true → (∃ p ∈ l, p.key = key ∧ (inPairs key r l).1 = p.text ∧ p.text.size ≠ 0) ∨ inPairs key r l = r
 | [], h => .inr rfl
 | p :: t, h => by
   unfold inPairs at h ⊢
   by_cases e : isKey key p = true
   ·rw [if_pos e] at h ⊢
    refine .inl ⟨p, by simp, (same_iff _ _).1 e, rfl, fun h0 => ?_⟩
    have : p.text.toList.isEmpty = true := by
     rw [List.isEmpty_iff, ByteArray.toList_eq]
     exact List.eq_nil_of_length_eq_zero (by simpa using h0)
    simp [this] at h
   ·rw [if_neg e] at h ⊢
    rcases inPairs_true h with ⟨q, hq, h1, h2, h3⟩ | h1
    ·exact .inl ⟨q, by simp [hq], h1, h2, h3⟩
    ·exact .inr h1
theorem lookN_true {bs : List Bk} {key : ByteArray} : ∀ (f : Nat) (k : Int), (lookN bs key f k).2 = true → ∃ b ∈ bs, ∃ p ∈ b.ps, p.key = key ∧ (lookN bs key f k).1 = p.text ∧ p.text.size ≠ 0
 | 0, k, h => by cases h
 | f + 1, k, h => by
   unfold lookN at h ⊢
   by_cases e : k < 0
   ·rw [if_pos e] at h; cases h
   ·rw [if_neg e] at h ⊢
    cases hb : bs[k.toNat]? with
    | none => rw [hb] at h; cases h
    | some b =>
      rw [hb] at h
      simp only at h ⊢
      rcases inPairs_true h with ⟨p, hp, h1, h2, h3⟩ | h1
      ·exact ⟨b, List.mem_of_getElem? hb, p, hp, h1, h2, h3⟩
      ·rw [h1] at h ⊢
       exact lookN_true f b.par h
theorem look_true {bs : List Bk} {key : ByteArray} {k : Int} (hb : booksE bs = 0) (h : (lookB bs key k).2 = true) : nameOk key = true ∧ 1 ≤ (lookB bs key k).1.size ∧ (lookB bs key k).1.size ≤ 12 := by
 obtain ⟨b, hbm, p, hp, h1, h2, h3⟩ := lookN_true _ k h
 have hbad := (booksE_zero hb).2.2.1
 have hx : badBook b = false := by
  cases hq : badBook b
  ·rfl
  ·rw [anyI_any, List.any_eq_false] at hbad
   exact absurd hq (hbad b hbm)
 unfold badBook at hx
 rw [Bool.or_eq_false_iff, hasP_any, List.any_eq_false] at hx
 have hpb := hx.2 p hp
 unfold badPair at hpb
 simp at hpb
 refine ⟨h1 ▸ hpb.1, ?_, ?_⟩
 ·show 1 ≤ (lookN bs key (k + 1).toNat k).1.size
  rw [h2]; omega
 ·show (lookN bs key (k + 1).toNat k).1.size ≤ 12
  rw [h2]; omega
end Gno
end
section
namespace Gno
open Go
theorem names_ok {d : Dt} (h : dataE d = 0) : ∀ z ∈ d.zs, nameOk z.name = true := by
 have h0 : manyD d = false := (right_of h).many
 have h1 : dE1 d = 0 := by unfold dataE at h; rwa [if_neg (by rw [h0]; simp)] at h
 have h2 : dE2 d = 0 := by
  unfold dE1 at h1; split at h1
  ·exact absurd h1 (by decide)
  ·exact h1
 have h3 : dE3 d = 0 := by
  unfold dE2 at h2; split at h2
  ·exact absurd h2 (by decide)
  ·exact h2
 intro z hz
 cases hq : nameOk z.name
 ·exfalso
  have hx : anyI (fun _ => badNm) (allNames d) = true := by
   rw [anyI_any, List.any_eq_true]
   refine ⟨z.name, ?_, by unfold badNm; rw [hq]; rfl⟩
   have : z.name ∈ zNames d := List.mem_map.2 ⟨z, hz, rfl⟩
   unfold allNames
   simp [this]
  unfold dE3 at h3
  rw [if_pos hx] at h3
  exact absurd h3 (by decide)
 ·rfl
theorem ends_last {s : ByteArray} (h : ends s 47 = false) : s.data.toList.getLast? ≠ some 47 := by
 intro e
 have hne : s.data.toList ≠ [] := fun q => by rw [q] at e; cases e
 have hlen : s.data.toList.length = s.size := by rw [Array.length_toList]; rfl
 have h1 : 1 ≤ s.size := by
  have := List.length_pos_iff.2 hne
  omega
 have hl : s.data.toList[s.size - 1]? = some 47 := by
  rw [List.getLast?_eq_getElem?, hlen] at e
  exact e
 have b := PlainAid.get_bt s (s.size - 1) (by omega)
 have hv : s[s.size - 1] = 47 := by
  have := (List.getElem?_eq_some_iff.1 hl).2
  exact this
 rw [hv] at b
 unfold ends at h
 rw [decide_eq_true h1, Bool.true_and, decide_eq_false_iff_not] at h
 exact h b.symm
theorem nameOk_ends {s : ByteArray} (h : nameOk s = true) : ends s 47 = false := by
 unfold nameOk at h
 simp at h
 exact h.2.2.1
theorem city_pos {s : ByteArray} (h : nameOk s = true) : 1 ≤ (cityT s).size ∧ (cityT s).size ≤ 12 := by
 have hs := nameOk_len h
 have h1 := city_size s
 refine ⟨?_, by omega⟩
 have hlen : s.data.toList.length = s.size := by rw [Array.length_toList]; rfl
 have hp := cityF_pos s.data.toList [] (ends_last (nameOk_ends h)) (.inr (fun q => by rw [q] at hlen; simp at hlen; omega))
 have h2 : (cityT s).size = (cityL s.data.toList).length := by
  show (cityL s.data.toList).toArray.size = _
  rw [List.size_toArray]
 rw [h2]
 exact List.length_pos_iff.2 hp
theorem offTo_bd {d : Dt} (hr : RightE d) {z : Zn} (hz : z ∈ d.zs) {t : Int} (ht : t < 1893456000) : -57600 ≤ offTo d (eraOf z t) t ∧ offTo d (eraOf z t) t ≤ 57600 := by
 obtain ⟨x, hx, hxm, hk0, hk1, hxt⟩ := hr.era hz ht
 rw [eraOf_is hx]
 have hx1 := eraOk_is (hr.eras z hz _ x hx)
 have hb := off_bd hr hx1.2.2.1 t
 unfold offTo
 have h1 := hx1.1
 have h2 := hb.1
 omega
theorem offS_ok {d : Dt} (hr : RightE d) {z : Zn} (hz : z ∈ d.zs) {t : Int} (ht : t < 1893456000) : showE 3 (offN d z t) = 0 := offN_ok hr hz ht (offTo_bd hr hz ht)
theorem offS_tells {d : Dt} (hr : RightE d) {z : Zn} (hz : z ∈ d.zs) {t : Int} (ht : t < 1893456000) : Tells 3 (offS d z t) (offN d z t) := ⟨offS_ok hr hz ht, rfl⟩
theorem offS_size {d : Dt} (hr : RightE d) {z : Zn} (hz : z ∈ d.zs) {t : Int} (ht : t < 1893456000) : 1 ≤ (offS d z t).size ∧ (offS d z t).size ≤ 9 := by
 refine ⟨?_, showT_size _ _⟩
 have h := showE_zero (offS_ok hr hz ht)
 unfold offS
 rw [(showE_ok h.1 h.2).2, B_size]
 unfold showL
 split
 ·decide
 ·simp [aheadL]
theorem called_size {x : Wd} (h : RightW x) {k : Int} {z : Zn} (hz : z ∈ x.d.zs) {t p : Int} (ht : t < 1893456000) : 1 ≤ (calledZ x k z t p).size ∧ (calledZ x k z t p).size ≤ 12 := by
 have hr := rightE_of h.data
 have ho := offS_size hr hz ht
 have hn := names_ok h.data z hz
 have ho' : 1 ≤ (offS x.d z t).size ∧ (offS x.d z t).size ≤ 12 := ⟨ho.1, by omega⟩
 unfold calledZ
 split
 ·exact nameOk_len hn
 split
 ·unfold byCity
  split
  ·rename_i q; exact (look_true h.books q).2
  ·exact city_pos hn
 split
 ·unfold byName
  split
  ·exact ho'
  split
  ·rename_i q; exact (look_true h.books q).2
  ·exact ho'
 ·exact ho'
theorem wdsE_zero {x : Wd} {loc : ByteArray} {t p : Int} (h : wdsE x loc t p = 0) : preE x loc p = 0 ∧ 0 ≤ t ∧ t < 1893456000 := by
 unfold wdsE at h
 by_cases e : preE x loc p = 0
 ·rw [if_neg (by simp [e])] at h
  by_cases q : t < 0 ∨ 1893456000 ≤ t
  ·rw [if_pos q] at h; cases h
  ·exact ⟨e, by omega, by omega⟩
 ·rw [if_pos e] at h; exact absurd h e
theorem nameE_is {x : Wd} {loc nm : ByteArray} {t p : Int} (h : preE x loc p = 0) (h1 : 0 ≤ leadN x.d nm) (h2 : 0 ≤ t ∧ t < 1893456000) : nameE x loc nm t p = 0 := by
 unfold nameE
 rw [if_neg (by simp [h]), if_neg (by omega), if_neg (by omega)]
theorem nameT_is {x : Wd} {loc nm : ByteArray} {t p : Int} (h : nameE x loc nm t p = 0) {z : Zn} (hz : x.d.zs[(leadN x.d nm).toNat]? = some z) : nameT x loc nm t p = calledZ x (bookN x.bs loc) z t p := by
 unfold nameT
 rw [if_neg (by simp [h]), hz]
structure NameOk (x : Wd) (loc nm : ByteArray) (t p : Int) (z : Zn) : Prop where
 right : RightW x
 pat : 1 ≤ p ∧ p ≤ 4
 book : 0 ≤ bookN x.bs loc
 lead : 0 ≤ leadN x.d nm
 time : 0 ≤ t ∧ t < 1893456000
 hz : x.d.zs[(leadN x.d nm).toNat]? = some z
 told : nameT x loc nm t p = calledZ x (bookN x.bs loc) z t p
theorem NameOk.pre {x : Wd} {loc nm : ByteArray} {t p : Int} {z : Zn} (h : NameOk x loc nm t p z) (q : Int) (hq : 1 ≤ q ∧ q ≤ 4) : preE x loc q = 0 := by
 have h1 := h.book
 unfold preE
 rw [if_neg (by simp [worldE_of h.right]), if_neg (by omega), if_neg (by omega)]
theorem NameOk.mem {x : Wd} {loc nm : ByteArray} {t p : Int} {z : Zn} (h : NameOk x loc nm t p z) : z ∈ x.d.zs := List.mem_of_getElem? h.hz
theorem NameOk.own {x : Wd} {loc nm : ByteArray} {t p : Int} {z : Zn} (h : NameOk x loc nm t p z) : nameE x loc z.name t p = 0 ∧ nameT x loc z.name t p = nameT x loc nm t p := by
 have hr := right_of h.right.data
 have hl : leadN x.d z.name = ((leadN x.d nm).toNat : Int) := hr.leadZone h.hz
 have h0 := h.lead
 have hE : nameE x loc z.name t p = 0 := nameE_is (h.pre p h.pat) (by omega) h.time
 exact ⟨hE, by rw [nameT_is hE (by rw [hl, Int.toNat_natCast]; exact h.hz), h.told]⟩
theorem NameOk.zone {x : Wd} {loc nm : ByteArray} {t p : Int} {z : Zn} (h : NameOk x loc nm t p z) : zoneK x.d nm = leadN x.d nm ∧ zoneEr x.d nm = 0 := zone_is h.right.data (by have := h.lead; omega)
theorem NameOk.at_ {x : Wd} {loc nm : ByteArray} {t p : Int} {z : Zn} (h : NameOk x loc nm t p z) : oaE x.d nm t = 0 ∧ oaTo x.d nm t = offTo x.d (eraOf z t) t := by
 have hz := h.zone
 have ht := h.time
 have hE : oaE x.d nm t = 0 := by unfold oaE; rw [if_neg (by simp [hz.2]), if_neg (by omega)]
 exact ⟨hE, (at_good hE (by rw [hz.1]; exact h.hz)).1⟩
theorem NameOk.read {x : Wd} {loc nm : ByteArray} {t p : Int} {z : Zn} (h : NameOk x loc nm t p z) : readN 3 (offS x.d z t) = oaTo x.d nm t - (oaTo x.d nm t).tmod 60 ∧ readE 3 (offS x.d z t) = 0 := by
 have := read_yes (offS_tells (rightE_of h.right.data) h.mem h.time.2)
 rw [h.at_.2]
 exact this
def heirB (loc : ByteArray) (k : Int) : Bk := ⟨loc, k, none, 0, 0, []⟩
def heirW (x : Wd) (bA : Option Addr) (bn bc : Nat) (loc : ByteArray) (k : Int) : Wd := { x with bA := bA, bn := bn, bc := bc, bs := x.bs ++ [heirB loc k] }
end Gno
end
