/- Parts of a proof, laid together. -/
import Derived.Lib.Replace
import Derived.Lib.LastIndexLaws
import Derived.Test.YtbbbeldbhlehnaaGreatDoorMUTrB24
set_option linter.unusedSimpArgs false
set_option linter.unusedVariables false
section
namespace Gno
open Go
structure Pr where
 key : ByteArray
 text : ByteArray
structure Bk where
 loc : ByteArray
 par : Int
 A : Option Addr
 n : Nat
 cap : Nat
 ps : List Pr
end Gno
namespace Go.Proofs.YtbbbeldbhlehnaaGreatDoor
open Go.RowKit Gno
def PairAt (w : World) (b o : Nat) (p : Pr) : Prop := w.cell? ⟨b, o, none⟩ = some (.string p.key) ∧ w.cell? ⟨b, o + 1, none⟩ = some (.string p.text)
def PairsAt (w : World) (B : Nat) (A : Option Addr) (n : Nat) (ps : List Pr) : Prop :=
 ps.length = n ∧ n ≤ maxLen ∧ (0 < n → ∃ b o, A = some ⟨b, o, none⟩ ∧ b < B ∧ ∀ i p, ps[i]? = some p → PairAt w b (o + i * 2) p ∧ p.key.size ≤ maxLen ∧ p.text.size ≤ maxLen)
theorem PairsAt.below {B B' : Nat} {w w' : World} {A : Option Addr} {n : Nat} {ps : List Pr} (h : PairsAt w B A n ps) (hb : Below B' w w') (hB : B ≤ B') : PairsAt w' B A n ps :=
 ⟨h.1, h.2.1, fun hn => by
  obtain ⟨b, o, e, hbB, hc⟩ := h.2.2 hn
  have hl : b < B' := by omega
  exact ⟨b, o, e, hbB, fun i p hi => ⟨⟨(hb.cell hl).trans (hc i p hi).1.1, (hb.cell hl).trans (hc i p hi).1.2⟩, (hc i p hi).2⟩⟩⟩
theorem PairsAt.more {B B' : Nat} {w : World} {A : Option Addr} {n : Nat} {ps : List Pr} (h : PairsAt w B A n ps) (hB : B ≤ B') : PairsAt w B' A n ps :=
 ⟨h.1, h.2.1, fun hn => by
  obtain ⟨b, o, e, hbB, hc⟩ := h.2.2 hn
  exact ⟨b, o, e, by omega, hc⟩⟩
def BookAt (w : World) (b o : Nat) (k : Bk) : Prop :=
 w.cell? ⟨b, o, none⟩ = some (.string k.loc) ∧ w.cell? ⟨b, o + 1, none⟩ = some (.int .i64 k.par) ∧ w.cell? ⟨b, o + 2, none⟩ = some (.slice k.A k.n k.cap)
def BooksAt (w : World) (B : Nat) (A : Option Addr) (n : Nat) (bs : List Bk) : Prop :=
 bs.length = n ∧ n ≤ maxLen ∧ (0 < n → ∃ b o, A = some ⟨b, o, none⟩ ∧ b < B ∧ ∀ i k, bs[i]? = some k → BookAt w b (o + i * 3) k ∧ k.loc.size ≤ maxLen ∧ PairsAt w B k.A k.n k.ps)
theorem BooksAt.below {B B' : Nat} {w w' : World} {A : Option Addr} {n : Nat} {bs : List Bk} (h : BooksAt w B A n bs) (hb : Below B' w w') (hB : B ≤ B') : BooksAt w' B A n bs :=
 ⟨h.1, h.2.1, fun hn => by
  obtain ⟨b, o, e, hbB, hc⟩ := h.2.2 hn
  have hl : b < B' := by omega
  exact ⟨b, o, e, hbB, fun i k hi => ⟨⟨(hb.cell hl).trans (hc i k hi).1.1, (hb.cell hl).trans (hc i k hi).1.2.1, (hb.cell hl).trans (hc i k hi).1.2.2⟩, (hc i k hi).2.1, (hc i k hi).2.2.below hb hB⟩⟩⟩
theorem BooksAt.more {B B' : Nat} {w : World} {A : Option Addr} {n : Nat} {bs : List Bk} (h : BooksAt w B A n bs) (hB : B ≤ B') : BooksAt w B' A n bs :=
 ⟨h.1, h.2.1, fun hn => by
  obtain ⟨b, o, e, hbB, hc⟩ := h.2.2 hn
  exact ⟨b, o, e, by omega, fun i k hi => ⟨(hc i k hi).1, (hc i k hi).2.1, (hc i k hi).2.2.more hB⟩⟩⟩
def PredB (P : Program) (g : Nat) (lb : Array Value) (p : Bk → Bool) (bs : List Bk) (w : World) : Prop :=
 ∀ (W : World) (k : Bk), k ∈ bs → Below w.heap.size w W → Calls P g (#[.agg #[.string k.loc, .int .i64 k.par, .slice k.A k.n k.cap]] ++ lb) W fun e w' => e = .returned (.bool (p k)) ∧ Below W.heap.size W w'
set_option maxRecDepth 100000 in
set_option maxHeartbeats 4000000 in
theorem indexB_any (g : Nat) (lb : Array Value) (eg : ∀ args w, (callFunc g args).run Tryz.prog w = .ok (.enter g args) w) (p : Bk → Bool) (A : Option Addr) (n cap : Nat) (bs : List Bk) (w : World)
 (hR : BooksAt w w.heap.size A n bs) (hp : PredB Tryz.prog g lb p bs w) :
 Calls Tryz.prog 147 #[.slice A n cap, .func (.func g) #[] lb] w fun e w' => e = .returned (.int .i64 (fst p bs 0)) ∧ Below w.heap.size w w' := by
 have hn : n ≤ 9223372036854775807 := hR.2.1
 have HR := Lib.hid hR
 have HP := Lib.hid hp
 clear hR hp
 go_enter Tryz.func147, Tryz.ntmps147
 go_wp2
 go_loopw [8] (fun b0 wr => ∃ i : Nat, i ≤ n ∧ b0 = .int .i64 i ∧ Hid (fst p (bs.drop i) i = fst p bs 0) ∧ Below w.heap.size w wr) (fun b0 _ => n - (intOf b0).toNat)
 case atStart => exact ⟨0, Nat.zero_le _, rfl, Lib.hid (by simp), Below.refl _ _⟩
 case round =>
  obtain ⟨i, hi, rfl, hfd, hb⟩ := hrel
  by_cases hlt : i < n
  ·have hR2 := HR.out.below hb (Nat.le_refl _)
   obtain ⟨b, o, hA, hbB, hc⟩ := hR2.2.2 (by omega)
   subst hA
   have hl : i < bs.length := by rw [hR2.1]; exact hlt
   obtain ⟨⟨e0, e1, e2⟩, hle, hps⟩ := hc i _ (List.getElem?_eq_getElem hl)
   obtain ⟨k, hk⟩ : ∃ k, k = bs[i] := ⟨_, rfl⟩
   have hki : bs[i]? = some k := by rw [hk]; exact List.getElem?_eq_getElem hl
   have hmem : k ∈ bs := by rw [hk]; exact List.getElem_mem hl
   rw [← hk] at e0 e1 e2
   have FD := Lib.hid (fst_drop (p := p) hki)
   have c := HP.out wr k hmem hb
   clear hc hR2 hk hki hl hle hps hmem
   cases hpk : p k
   ·rw [hpk] at c
    have C := Lib.hid c
    have HX := Lib.hid ((FD.out.2 hpk).symm.trans hfd.out)
    clear c hfd hpk
    go_wp2_with (go_at_fn g; (with_reducible refine C.out.mono ?_); rintro e w4 ⟨rfl, hb4⟩; have hb5 := hb.trans (hb4.mono hb.size); clear hb4)
    go_roundw
    case rel => exact ⟨i + 1, by omega, by go_num, HX, hb5⟩
    case measure => simp [intOf]; omega
   ·rw [hpk] at c
    have C := Lib.hid c
    have HX := Lib.hid ((FD.out.1 hpk).symm.trans hfd.out)
    clear c hfd hpk
    go_wp2_with (go_at_fn g; (with_reducible refine C.out.mono ?_); rintro e w4 ⟨rfl, hb4⟩; have hb5 := hb.trans (hb4.mono hb.size); clear hb4)
    go_ret
    exact ⟨ret_int HX.out, hb5⟩
  ·have HX := Lib.hid ((fst_end (p := p) (by have := HR.out.1; omega)).symm.trans hfd.out)
   go_wp2
   go_ret
   exact ⟨ret_int HX.out, hb⟩
end Go.Proofs.YtbbbeldbhlehnaaGreatDoor
end
section
namespace Gno
def IsTop (g : Int → Int) (lo hi t m : Int) : Prop := ∃ y, lo ≤ y ∧ y ≤ hi ∧ g y = m ∧ m ≤ t ∧ ∀ z, y < z → z ≤ hi → t < g z
open Classical in
noncomputable def topOf (g : Int → Int) (lo hi t : Int) : Option Int := if h : ∃ m, IsTop g lo hi t m then some h.choose else none
theorem IsTop.uniq {g : Int → Int} {lo hi t m m' : Int} (h : IsTop g lo hi t m) (h' : IsTop g lo hi t m') : m = m' := by
 obtain ⟨y, h1, h2, h3, h4, h5⟩ := h
 obtain ⟨z, k1, k2, k3, k4, k5⟩ := h'
 rcases Int.lt_trichotomy y z with q | q | q
 ·have := h5 z q k2; omega
 ·subst q; omega
 ·have := k5 y q h2; omega
theorem topOf_some {g : Int → Int} {lo hi t m : Int} (h : IsTop g lo hi t m) : topOf g lo hi t = some m := by
 have hx : ∃ m, IsTop g lo hi t m := ⟨m, h⟩
 unfold topOf
 rw [dif_pos hx, hx.choose_spec.uniq h]
theorem topOf_none {g : Int → Int} {lo hi t : Int} (h : ∀ z, lo ≤ z → z ≤ hi → t < g z) : topOf g lo hi t = none := by
 unfold topOf
 rw [dif_neg]
 rintro ⟨m, y, h1, h2, h3, h4, _⟩
 have := h y h1 h2
 omega
theorem topOf_late {g : Int → Int} {lo hi t : Int} (h : t < g (hi + 1)) : topOf g lo (hi + 1) t = topOf g lo hi t := by
 by_cases hx : ∃ m, IsTop g lo hi t m
 ·obtain ⟨m, hm⟩ := hx
  rw [topOf_some hm]
  obtain ⟨y, h1, h2, h3, h4, h5⟩ := hm
  refine topOf_some ⟨y, h1, by omega, h3, h4, fun z q1 q2 => ?_⟩
  rcases Int.lt_or_le hi z with q3 | q3
  ·obtain rfl : z = hi + 1 := by omega
   exact h
  ·exact h5 z q1 q3
 ·have e1 : topOf g lo hi t = none := by unfold topOf; rw [dif_neg hx]
  rw [e1]
  unfold topOf
  rw [dif_neg]
  rintro ⟨m, y, h1, h2, h3, h4, h5⟩
  rcases Int.lt_or_le hi y with q | q
  ·obtain rfl : y = hi + 1 := by omega
   omega
  ·exact hx ⟨m, y, h1, q, h3, h4, fun z q1 q2 => h5 z q1 (by omega)⟩
theorem topOf_here {g : Int → Int} {lo hi t : Int} (hl : lo ≤ hi) (h : g hi ≤ t) : topOf g lo hi t = some (g hi) :=
 topOf_some ⟨hi, hl, Int.le_refl _, rfl, h, fun z q1 q2 => by omega⟩
def lstep (k : Int) (s : Int × Int) (o : Option Int) : Int × Int :=
 match o with
 | none => s
 | some m => if s.1 < 0 ∨ s.2 ≤ m then (k, m) else s
theorem lstep_if (k m : Int) (s : Int × Int) : ((s.1 < 0 ∨ s.2 ≤ m) ∧ lstep k s (some m) = (k, m)) ∨ (¬ (s.1 < 0 ∨ s.2 ≤ m) ∧ lstep k s (some m) = s) := by
 by_cases c : s.1 < 0 ∨ s.2 ≤ m
 ·exact .inl ⟨c, by simp only [lstep]; rw [if_pos c]⟩
 ·exact .inr ⟨c, by simp only [lstep]; rw [if_neg c]⟩
theorem lstep_up_yes (g : Int → Int) (lo hi t k : Int) (s c : Int × Int) (hc : c = lstep k s (topOf g lo hi t)) (hl : lo ≤ hi + 1) (hg : ∀ y, lo ≤ y → y ≤ hi → g y < g (hi + 1))
 (h : g (hi + 1) ≤ t) (hu : c.1 < 0 ∨ c.2 ≤ g (hi + 1)) : lstep k s (topOf g lo (hi + 1) t) = (k, g (hi + 1)) := by
 rw [topOf_here hl h]
 rcases lstep_if k (g (hi + 1)) s with ⟨_, e⟩ | ⟨q, e⟩
 ·exact e
 ·exfalso
  by_cases hx : ∃ m, IsTop g lo hi t m
  ·obtain ⟨m, hm⟩ := hx
   rw [topOf_some hm] at hc
   obtain ⟨y, h1, h2, h3, h4, h5⟩ := hm
   have hlt := hg y h1 h2
   rcases lstep_if k m s with ⟨q2, e2⟩ | ⟨q2, e2⟩
   ·exact q (by omega)
   ·rw [e2] at hc
    rw [hc] at hu
    exact q hu
  ·have e1 : topOf g lo hi t = none := by unfold topOf; rw [dif_neg hx]
   rw [e1] at hc
   simp only [lstep] at hc
   rw [hc] at hu
   exact q hu
theorem lstep_up_no (g : Int → Int) (lo hi t k : Int) (s c : Int × Int) (hc : c = lstep k s (topOf g lo hi t)) (hl : lo ≤ hi + 1) (hg : ∀ y, lo ≤ y → y ≤ hi → g y < g (hi + 1))
 (hu : ¬ (g (hi + 1) ≤ t ∧ (c.1 < 0 ∨ c.2 ≤ g (hi + 1)))) : lstep k s (topOf g lo (hi + 1) t) = c := by
 by_cases h : g (hi + 1) ≤ t
 ·rw [topOf_here hl h]
  have hn : ¬ (c.1 < 0 ∨ c.2 ≤ g (hi + 1)) := fun q => hu ⟨h, q⟩
  by_cases hx : ∃ m, IsTop g lo hi t m
  ·obtain ⟨m, hm⟩ := hx
   rw [topOf_some hm] at hc
   obtain ⟨y, h1, h2, h3, h4, h5⟩ := hm
   have hlt := hg y h1 h2
   rcases lstep_if k m s with ⟨q2, e2⟩ | ⟨q2, e2⟩
   ·rw [e2] at hc
    rw [hc] at hn
    exact absurd (.inr (by simp only; omega)) hn
   ·rw [e2] at hc
    rcases lstep_if k (g (hi + 1)) s with ⟨q, e⟩ | ⟨q, e⟩
    ·rw [hc] at hn
     exact absurd q hn
    ·rw [e, hc]
  ·have e1 : topOf g lo hi t = none := by unfold topOf; rw [dif_neg hx]
   rw [e1] at hc
   simp only [lstep] at hc
   rcases lstep_if k (g (hi + 1)) s with ⟨q, e⟩ | ⟨q, e⟩
   ·rw [hc] at hn
    exact absurd q hn
   ·rw [e, hc]
 ·rw [topOf_late (by omega), hc]
def Rl.g (r : Rl) (std : Int) (y : Int) : Int := beginN y r.mo r.k r.wk r.d r.a std
noncomputable def Rl.e (r : Rl) : Int := ruleE r.fy r.ty r.mo r.k r.wk r.d r.a r.sv r.le
noncomputable def Rl.top (r : Rl) (std t : Int) : Option Int := topOf (r.g std) r.fy r.ty t
noncomputable def latestTo (rs : List Rl) (std t : Int) : Nat → Int × Int
 | 0 => (-1, 0)
 | i + 1 => match rs[i]? with
   | some r => lstep i (latestTo rs std t i) (r.top std t)
   | none => latestTo rs std t i
noncomputable def latest (rs : List Rl) (std t : Int) : Int × Int := latestTo rs std t rs.length
theorem lstep_bd (k : Int) (s : Int × Int) (o : Option Int) (hk : 0 ≤ k) (h : -1 ≤ s.1 ∧ s.1 < k) : -1 ≤ (lstep k s o).1 ∧ (lstep k s o).1 < k + 1 := by
 unfold lstep
 split
 ·omega
 ·split
  ·simp only; omega
  ·omega
theorem latestTo_bd (rs : List Rl) (std t : Int) : ∀ i, -1 ≤ (latestTo rs std t i).1 ∧ (latestTo rs std t i).1 < i
 | 0 => by simp [latestTo]
 | i + 1 => by
   have ih := latestTo_bd rs std t i
   unfold latestTo
   split
   ·have := lstep_bd i (latestTo rs std t i) (Rl.top ‹_› std t) (by omega) ih
    omega
   ·omega
theorem begin_year {y mo k wk d a std : Int} (h1 : findE y mo k wk d = 0) (h2 : findE (y + 1) mo k wk d = 0) : beginN y mo k wk d a std < beginN (y + 1) mo k wk d a std := by
 have f1 := (isDate_iff _ _ _).1 (found_pos h1)
 have f2 := (isDate_iff _ _ _).1 (found_pos h2)
 have s1 := size_bd y mo f1.2.1.1 f1.2.1.2
 have s2 := size_bd (y + 1) mo f1.2.1.1 f1.2.1.2
 have l1 := lp_01 y
 have l2 := lp_01 (y + 1)
 have b := begin_succ y
 have ha : aheadY y mo ≤ aheadY (y + 1) mo + 1 := by unfold aheadY; split <;> omega
 unfold beginN num
 omega
theorem beginN_lt_nat {mo k wk d a std y : Int} : ∀ n : Nat, (∀ z, y ≤ z → z ≤ y + n + 1 → findE z mo k wk d = 0) → beginN y mo k wk d a std < beginN (y + n + 1) mo k wk d a std
 | 0, h => by
   have := begin_year (a := a) (std := std) (h y (by omega) (by omega)) (h (y + 1) (by omega) (by omega))
   simpa using this
 | n + 1, h => by
   have ih := beginN_lt_nat (a := a) (std := std) n (fun z h1 h2 => h z h1 (by omega))
   have := begin_year (a := a) (std := std) (h (y + n + 1) (by omega) (by omega)) (h (y + n + 1 + 1) (by omega) (by omega))
   rw [show y + ((n + 1 : Nat) : Int) + 1 = y + n + 1 + 1 by omega]
   omega
theorem beginN_lt {mo k wk d a std lo hi y z : Int} (h : ∀ z, lo ≤ z → z ≤ hi → findE z mo k wk d = 0) (h1 : lo ≤ y) (h2 : y < z) (h3 : z ≤ hi) : beginN y mo k wk d a std < beginN z mo k wk d a std := by
 have := beginN_lt_nat (a := a) (std := std) (y := y) (z - y - 1).toNat (fun q q1 q2 => h q (by omega) (by omega))
 rw [show y + ((z - y - 1).toNat : Int) + 1 = z by omega] at this
 exact this
end Gno
end
section
namespace Gno
theorem latestTo_none {rs : List Rl} {std t : Int} {i : Nat} {r : Rl} (hr : rs[i]? = some r) (h : ∀ z, r.fy ≤ z → z ≤ r.ty → t < r.g std z) : latestTo rs std t (i + 1) = latestTo rs std t i := by
 simp only [latestTo, hr, Rl.top]
 rw [topOf_none h]
 rfl
theorem latestTo_top {rs : List Rl} {std t : Int} {i : Nat} {r : Rl} {y : Int} (hr : rs[i]? = some r) (h1 : r.fy ≤ y) (h2 : y ≤ r.ty) (h3 : r.g std y ≤ t) (h : ∀ z, y < z → z ≤ r.ty → t < r.g std z) :
 ((latestTo rs std t i).1 < 0 ∨ (latestTo rs std t i).2 ≤ r.g std y → latestTo rs std t (i + 1) = ((i : Int), r.g std y)) ∧
 (¬ ((latestTo rs std t i).1 < 0 ∨ (latestTo rs std t i).2 ≤ r.g std y) → latestTo rs std t (i + 1) = latestTo rs std t i) := by
 have e : latestTo rs std t (i + 1) = lstep i (latestTo rs std t i) (some (r.g std y)) := by
  simp only [latestTo, hr, Rl.top]
  rw [topOf_some ⟨y, h1, h2, rfl, h3, h⟩]
 rw [e]
 rcases lstep_if (i : Int) (r.g std y) (latestTo rs std t i) with ⟨q, e2⟩ | ⟨q, e2⟩
 ·exact ⟨fun _ => e2, fun h => absurd q h⟩
 ·exact ⟨fun h => absurd h q, fun _ => e2⟩
end Gno
namespace Go.Proofs.YtbbbeldbhlehnaaGreatDoor
open Go.RowKit Gno
set_option maxRecDepth 100000 in
set_option maxHeartbeats 4000000 in
theorem latest_any (A : Option Addr) (n cap : Nat) (rs : List Rl) (std t : Int) (w : World) (hR : RulesAt w w.heap.size A n rs) (hE : ∀ r ∈ rs, r.e = 0) (hs1 : -50400 ≤ std) (hs2 : std ≤ 50400) :
 Calls Tryz.prog 172 #[.slice A n cap, .int .i64 std, .int .i64 t] w fun e w' => e = .returned (.tuple #[.int .i64 (latest rs std t).1, .int .i64 (latest rs std t).2]) ∧ Below w.heap.size w w' := by
 have hn : n ≤ 9223372036854775807 := hR.2.1
 have HR := Lib.hid hR
 have HE := Lib.hid hE
 clear hR hE
 go_enter Tryz.func172, Tryz.ntmps172
 go_wp2
 go_loopw [8, 9, 16] (fun b8 b9 b16 wr => ∃ (i : Nat) (best when_ : Int), i ≤ n ∧ b16 = .int .i64 i ∧ b8 = .int .i64 best ∧ b9 = .int .i64 when_ ∧ (best, when_) = latestTo rs std t i ∧ Below w.heap.size w wr) (fun _ _ b16 _ => n - (intOf b16).toNat)
 case atStart => exact ⟨0, -1, 0, Nat.zero_le _, rfl, rfl, rfl, rfl, Below.refl _ _⟩
 case round =>
  obtain ⟨i, best, when_, hi, rfl, rfl, rfl, hst, hb⟩ := hrel
  have HS := Lib.hid hst
  clear hst
  obtain ⟨wo, hwo⟩ : ∃ wo : World, wo = wr := ⟨_, rfl⟩
  rw [← hwo]
  rw [← hwo] at hb
  clear hwo
  by_cases hlt : i < n
  ·have hR2 := HR.out.below hb (Nat.le_refl _)
   obtain ⟨b, o, hA, hbB, hc⟩ := hR2.2.2 (by omega)
   subst hA
   have hl : i < rs.length := by rw [hR2.1]; exact hlt
   obtain ⟨⟨e0, e1, e2, e3, e4, e5, e6, e7, e8⟩, hle⟩ := hc i _ (List.getElem?_eq_getElem hl)
   obtain ⟨r, hr⟩ : ∃ r, r = rs[i] := ⟨_, rfl⟩
   have hri : rs[i]? = some r := by rw [hr]; exact List.getElem?_eq_getElem hl
   have hre := HE.out r (by rw [hr]; exact List.getElem_mem hl)
   rw [← hr] at e0 e1 e2 e3 e4 e5 e6 e7 e8 hle
   obtain ⟨hB, ho, hL, hY⟩ := ruleE_zero hre
   obtain ⟨p1, p2, p3, _, ⟨p6, p7⟩, _⟩ := (ruleBasic_iff _ _ _ _ _).1 hB
   have BG : Hid (∀ y, r.fy ≤ y → y ≤ r.ty → ∀ w, Calls Tryz.prog 226 #[.agg #[.int .i64 r.fy, .int .i64 r.ty, .int .i64 r.mo, .int .i64 r.k, .int .i64 r.wk, .int .i64 r.d, .int .i64 r.a, .int .i64 r.sv, .string r.le], .int .i64 y, .int .i64 std] w fun e w' => e = .returned (.int .i64 (r.g std y)) ∧ Below w.heap.size w w') := Lib.hid (fun y (h1 : r.fy ≤ y) (h2 : y ≤ r.ty) w => begin9_any r.fy r.ty r.mo r.k r.wk r.d r.a r.sv y std r.le w (hY y h1 h2) p6 p7 hs1 hs2)
   have HLN := Lib.hid (fun h => latestTo_none (t := t) (std := std) hri h)
   have HLT := Lib.hid (fun y h1 h2 h3 h => latestTo_top (t := t) (std := std) (y := y) hri h1 h2 h3 h)
   have hzo : w.heap.size ≤ wo.heap.size := hb.size
   have hbo : b < wo.heap.size := by omega
   clear hc hR2 hr hri hre hB ho hL hY p6 p7 hl
   have hty : 1970 ≤ r.fy ∧ r.ty ≤ 2029 := by omega
   obtain ⟨hfy, hty⟩ := hty
   go_wp2
   go_loopw [8, 9, 12] (fun b8 b9 b12 wr2 => ∃ y : Int, r.fy - 1 ≤ y ∧ y ≤ r.ty ∧ b12 = .int .i64 y ∧ b8 = .int .i64 best ∧ b9 = .int .i64 when_ ∧ Hid (∀ z, y < z → z ≤ r.ty → t < r.g std z) ∧
    Below (wo.heap.size + 1) (wo.alloc (.cells #[.int .i64 r.fy, .int .i64 r.ty, .int .i64 r.mo, .int .i64 r.k, .int .i64 r.wk, .int .i64 r.d, .int .i64 r.a, .int .i64 r.sv, .string r.le] 123)) wr2) (fun _ _ b12 _ => (intOf b12).toNat)
   case atStart => exact ⟨r.ty, by omega, by omega, rfl, rfl, rfl, fun z h1 h2 => by omega, Below.refl _ _⟩
   case round =>
    obtain ⟨y, y1, y2, rfl, rfl, rfl, hnone, hb2⟩ := hrel
    obtain ⟨c0, c1, c2, c3, c4, c5, c6, c7, c8⟩ := box9 hb2
    by_cases hy : r.fy ≤ y
    ·by_cases hg : t < r.g std y
     ·have hg' : decide (t < r.g std y) = true := by simpa using hg
      have HN : Hid (∀ z, y - 1 < z → z ≤ r.ty → t < r.g std z) := fun z h1 h2 => by
       rcases Int.lt_or_le y z with q | q
       ·exact hnone.out z q h2
       ·obtain rfl : z = y := by omega
        exact hg
      clear hnone hg
      go_wp2_with (go_at_call 226; (with_reducible refine (BG.out y hy y2 _).mono ?_); rintro e w4 ⟨rfl, hb4⟩; have hb5 := hb2.trans (hb4.mono (box_le hb2)); clear hb4 hb2)
      go_roundw
      case rel => exact ⟨y - 1, by omega, by omega, rfl, rfl, rfl, HN, hb5⟩
      case measure => simp [intOf]; omega
     ·have hg' : decide (t < r.g std y) = false := by simpa using hg
      have HT := Lib.hid (HLT.out y hy y2 (by omega) hnone.out)
      rw [← HS.out] at HT
      by_cases hu : best < 0
      ·have hu' : decide (best < 0) = true := by simpa using hu
       have HX := Lib.hid (HT.out.1 (.inl hu))
       clear hnone hg HT hu
       go_wp2_with (go_at_call 226; (with_reducible refine (BG.out y hy y2 _).mono ?_); rintro e w4 ⟨rfl, hb4⟩; have hb5 := hb2.trans (hb4.mono (box_le hb2)); clear hb4 hb2)
       go_roundw
       case rel => exact ⟨i + 1, i, r.g std y, by omega, by go_num, rfl, rfl, HX.out.symm, hb.trans ((box_below hb5).mono hzo)⟩
       case measure => simp [intOf]; omega
      ·have hu' : decide (best < 0) = false := by simpa using hu
       by_cases hv : when_ ≤ r.g std y
       ·have hv' : decide (when_ ≤ r.g std y) = true := by simpa using hv
        have HX := Lib.hid (HT.out.1 (.inr hv))
        clear hnone hg HT hu hv
        go_wp2_with (go_at_call 226; (with_reducible refine (BG.out y hy y2 _).mono ?_); rintro e w4 ⟨rfl, hb4⟩; have hb5 := hb2.trans (hb4.mono (box_le hb2)); clear hb4 hb2)
        go_roundw
        case rel => exact ⟨i + 1, i, r.g std y, by omega, by go_num, rfl, rfl, HX.out.symm, hb.trans ((box_below hb5).mono hzo)⟩
        case measure => simp [intOf]; omega
       ·have hv' : decide (when_ ≤ r.g std y) = false := by simpa using hv
        have HX := Lib.hid (HT.out.2 (fun h => h.elim hu hv))
        clear hnone hg HT hu hv
        go_wp2_with (go_at_call 226; (with_reducible refine (BG.out y hy y2 _).mono ?_); rintro e w4 ⟨rfl, hb4⟩; have hb5 := hb2.trans (hb4.mono (box_le hb2)); clear hb4 hb2)
        go_roundw
        case rel => exact ⟨i + 1, best, when_, by omega, by go_num, rfl, rfl, HX.out.symm, hb.trans ((box_below hb5).mono hzo)⟩
        case measure => simp [intOf]; omega
    ·have HX := Lib.hid (HLN.out (fun z h1 h2 => hnone.out z (by omega) h2))
     rw [← HS.out] at HX
     clear hnone
     go_wp2
     go_roundw
     case rel => exact ⟨i + 1, best, when_, by omega, by go_num, rfl, rfl, HX.out.symm, hb.trans ((box_below hb2).mono hzo)⟩
     case measure => simp [intOf]; omega
  ·have hin : i = rs.length := by have := HR.out.1; omega
   have HX := Lib.hid (show (best, when_) = latest rs std t by unfold latest; rw [HS.out, hin])
   clear hin
   go_wp2
   go_ret2
   exact ⟨by rw [← HX.out]; rfl, hb⟩
end Go.Proofs.YtbbbeldbhlehnaaGreatDoor
end
section
namespace Gno
def RS (c : Int × Int) (rule when_ : Int) (is_ : Bool) : Prop := (is_ = true ∧ rule = c.1 ∧ when_ = c.2 ∧ 0 ≤ c.1) ∨ (is_ = false ∧ rule = 0 ∧ when_ = 0 ∧ c.1 < 0)
def lastB (c : Int × Int) : Bool := decide (0 ≤ c.1)
def lastR (c : Int × Int) : Int := if 0 ≤ c.1 then c.1 else 0
def lastW (c : Int × Int) : Int := if 0 ≤ c.1 then c.2 else 0
theorem RS.is {c : Int × Int} {rule when_ : Int} {is_ : Bool} (h : RS c rule when_ is_) : is_ = lastB c ∧ rule = lastR c ∧ when_ = lastW c := by
 unfold lastB lastR lastW
 rcases h with ⟨a, b, d, e⟩ | ⟨a, b, d, e⟩
 ·rw [if_pos e, if_pos e]; exact ⟨by simp [a, e], b, d⟩
 ·rw [if_neg (by omega), if_neg (by omega)]; exact ⟨by simp [a]; omega, b, d⟩
theorem topOf_empty {g : Int → Int} {lo hi t : Int} (h : hi < lo) : topOf g lo hi t = none := topOf_none fun z h1 h2 => by omega
def UpTo (g : Int → Int) (lo t k : Int) (s : Int × Int) (y : Int) (c : Int × Int) : Prop := c = lstep k s (topOf g lo (y - 1) t)
theorem UpTo.start {g : Int → Int} {lo t k : Int} {s : Int × Int} : UpTo g lo t k s lo s := by
 unfold UpTo; rw [topOf_empty (by omega)]; rfl
theorem UpTo.yes {g : Int → Int} {lo t k y : Int} {s c : Int × Int} (h : UpTo g lo t k s y c) (hl : lo ≤ y) (hg : ∀ z, lo ≤ z → z < y → g z < g y) (h1 : g y ≤ t) (hu : c.1 < 0 ∨ c.2 ≤ g y) : UpTo g lo t k s (y + 1) (k, g y) := by
 have e : y - 1 + 1 = y := by omega
 have := lstep_up_yes g lo (y - 1) t k s c h (by omega) (fun z q1 q2 => by rw [e]; exact hg z q1 (by omega)) (by rw [e]; exact h1) (by rw [e]; exact hu)
 rw [e] at this
 unfold UpTo
 rw [show y + 1 - 1 = y by omega, this]
theorem UpTo.no {g : Int → Int} {lo t k y : Int} {s c : Int × Int} (h : UpTo g lo t k s y c) (hl : lo ≤ y) (hg : ∀ z, lo ≤ z → z < y → g z < g y) (hu : ¬ (g y ≤ t ∧ (c.1 < 0 ∨ c.2 ≤ g y))) : UpTo g lo t k s (y + 1) c := by
 have e : y - 1 + 1 = y := by omega
 have := lstep_up_no g lo (y - 1) t k s c h (by omega) (fun z q1 q2 => by rw [e]; exact hg z q1 (by omega)) (by rw [e]; exact hu)
 rw [e] at this
 unfold UpTo
 rw [show y + 1 - 1 = y by omega, this]
theorem latestTo_up {rs : List Rl} {std t y : Int} {i : Nat} {r : Rl} {c : Int × Int} (hr : rs[i]? = some r) (h : UpTo (r.g std) r.fy t i (latestTo rs std t i) y c) (hy : y = r.ty + 1) : c = latestTo rs std t (i + 1) := by
 simp only [latestTo, hr, Rl.top]
 unfold UpTo at h
 rw [h, hy, show r.ty + 1 - 1 = r.ty by omega]
end Gno
namespace Go.Proofs.YtbbbeldbhlehnaaGreatDoor
open Go.RowKit Gno
theorem ret_3 {a b a' b' : Int} {c c' : Bool} (h : a = a') (h2 : b = b') (h3 : c = c') : Ending.returned (.tuple #[.int .i64 a, .int .i64 b, .bool c]) = .returned (.tuple #[.int .i64 a', .int .i64 b', .bool c']) := by rw [h, h2, h3]
set_option maxRecDepth 100000 in
set_option maxHeartbeats 4000000 in
theorem last_any (A : Option Addr) (n cap : Nat) (rs : List Rl) (std t : Int) (w : World) (hR : RulesAt w w.heap.size A n rs) (hE : ∀ r ∈ rs, r.e = 0) (hs1 : -50400 ≤ std) (hs2 : std ≤ 50400) :
 Calls Tryz.prog 153 #[.slice A n cap, .int .i64 std, .int .i64 t] w fun e w' => e = .returned (.tuple #[.int .i64 (lastR (latest rs std t)), .int .i64 (lastW (latest rs std t)), .bool (lastB (latest rs std t))]) ∧ Below w.heap.size w w' := by
 have hn : n ≤ 9223372036854775807 := hR.2.1
 have HR := Lib.hid hR
 have HE := Lib.hid hE
 clear hR hE
 go_enter Tryz.func153, Tryz.ntmps153
 go_wp2
 go_loopw [9, 10, 11, 12] (fun b9 b10 b11 b12 wr => ∃ (i : Nat) (rule when_ : Int) (is_ : Bool), i ≤ n ∧ b12 = .int .i64 i ∧ b9 = .int .i64 rule ∧ b10 = .int .i64 when_ ∧ b11 = .bool is_ ∧ RS (latestTo rs std t i) rule when_ is_ ∧ Below w.heap.size w wr) (fun _ _ _ b12 _ => n - (intOf b12).toNat)
 case atStart => exact ⟨0, 0, 0, false, Nat.zero_le _, rfl, rfl, rfl, rfl, .inr ⟨rfl, rfl, rfl, by simp [latestTo]⟩, Below.refl _ _⟩
 case round =>
  obtain ⟨i, rule, when_, is_, hi, rfl, rfl, rfl, rfl, hst, hb⟩ := hrel
  have HS := Lib.hid hst
  clear hst
  obtain ⟨wo, hwo⟩ : ∃ wo : World, wo = wr := ⟨_, rfl⟩
  rw [← hwo]
  rw [← hwo] at hb
  clear hwo
  by_cases hlt : i < n
  ·have hR2 := HR.out.below hb (Nat.le_refl _)
   obtain ⟨b, o, hA, hbB, hc⟩ := hR2.2.2 (by omega)
   subst hA
   have hl : i < rs.length := by rw [hR2.1]; exact hlt
   obtain ⟨hra, hle⟩ := hc i _ (List.getElem?_eq_getElem hl)
   obtain ⟨r, hr⟩ : ∃ r, r = rs[i] := ⟨_, rfl⟩
   have hri : rs[i]? = some r := by rw [hr]; exact List.getElem?_eq_getElem hl
   have hre := HE.out r (by rw [hr]; exact List.getElem_mem hl)
   rw [← hr] at hra hle
   obtain ⟨hB, ho, hL, hY⟩ := ruleE_zero hre
   obtain ⟨p1, p2, p3, _, ⟨p6, p7⟩, _⟩ := (ruleBasic_iff _ _ _ _ _).1 hB
   have BG : Hid (∀ y, r.fy ≤ y → y ≤ r.ty → ∀ w, Calls Tryz.prog 204 #[.agg #[.int .i64 r.fy, .int .i64 r.ty, .int .i64 r.mo, .int .i64 r.k, .int .i64 r.wk, .int .i64 r.d, .int .i64 r.a, .int .i64 r.sv, .string r.le], .int .i64 y, .int .i64 std] w fun e w' => e = .returned (.int .i64 (r.g std y)) ∧ Below w.heap.size w w') := Lib.hid (fun y (h1 : r.fy ≤ y) (h2 : y ≤ r.ty) w => begins9_any r.fy r.ty r.mo r.k r.wk r.d r.a r.sv y std r.le w (hY y h1 h2) p6 p7 hs1 hs2)
   have HG : Hid (∀ y, y ≤ r.ty → ∀ z, r.fy ≤ z → z < y → r.g std z < r.g std y) := Lib.hid (fun y h1 z h2 h3 => beginN_lt (lo := r.fy) (hi := r.ty) hY h2 h3 h1)
   have HUP := Lib.hid (fun (c : Int × Int) (y : Int) h h2 => latestTo_up (std := std) (t := t) (y := y) (c := c) hri h h2)
   have HUS : Hid (UpTo (r.g std) r.fy t i (latestTo rs std t i) r.fy (latestTo rs std t i)) := UpTo.start
   have hzo : w.heap.size ≤ wo.heap.size := hb.size
   have hbo : b < wo.heap.size := by omega
   have HRA := Lib.hid hra
   obtain ⟨e0, e1, e2, e3, e4, e5, e6, e7, e8⟩ := hra
   clear hc hR2 hr hri hre hB ho hL hY p6 p7 hl
   have hty : 1970 ≤ r.fy ∧ r.ty ≤ 2029 := by omega
   obtain ⟨hfy, hty⟩ := hty
   go_wp2
   go_loopw [9, 10, 11, 13] (fun b9 b10 b11 b13 wr2 => ∃ (y rule when_ : Int) (is_ : Bool) (c : Int × Int), r.fy ≤ y ∧ y ≤ r.ty + 1 ∧ b13 = .int .i64 y ∧ b9 = .int .i64 rule ∧ b10 = .int .i64 when_ ∧ b11 = .bool is_ ∧ RS c rule when_ is_ ∧
    UpTo (r.g std) r.fy t i (latestTo rs std t i) y c ∧ Below wo.heap.size wo wr2) (fun _ _ _ b13 _ => (2030 - intOf b13).toNat)
   case atStart => exact ⟨r.fy, rule, when_, is_, _, by omega, by omega, rfl, rfl, rfl, rfl, HS.out, HUS.out, Below.refl _ _⟩
   case round =>
    obtain ⟨y, rule', when', is', c, y1, y2, rfl, rfl, rfl, rfl, hrs, hup, hb2⟩ := hrel
    have hra2 := HRA.out.below hb2 hbo
    obtain ⟨f0, f1, f2, f3, f4, f5, f6, f7, f8⟩ := hra2
    have HC := Lib.hid hup
    clear hup
    by_cases hy : y ≤ r.ty
    ·by_cases hg : r.g std y ≤ t
     ·have hg' : decide (r.g std y ≤ t) = true := by simpa using hg
      rcases hrs with ⟨rfl, h2, h3, h4⟩ | ⟨rfl, h2, h3, h4⟩
      ·by_cases hv : when' ≤ r.g std y
       ·have hv' : decide (when' ≤ r.g std y) = true := by simpa using hv
        have HX := Lib.hid (HC.out.yes y1 (HG.out y hy) hg (.inr (by omega)))
        clear h2 h3 h4 hg hv
        go_wp2_with (go_at_call 204; (with_reducible refine (BG.out y y1 hy _).mono ?_); rintro e w4 ⟨rfl, hb4⟩; have hb5 := hb2.trans (hb4.mono hb2.size); clear hb4 hb2)
        go_roundw
        case rel => exact ⟨y + 1, i, r.g std y, true, (i, r.g std y), by omega, by omega, rfl, rfl, rfl, rfl, .inl ⟨rfl, rfl, rfl, by simp⟩, HX.out, hb5⟩
        case measure => simp [intOf]; omega
       ·have hv' : decide (when' ≤ r.g std y) = false := by simpa using hv
        have HX := Lib.hid (HC.out.no y1 (HG.out y hy) (fun q => by omega))
        have HRS : Hid (RS c rule' when' true) := .inl ⟨rfl, h2, h3, h4⟩
        clear h2 h3 h4 hg hv
        go_wp2_with (go_at_call 204; (with_reducible refine (BG.out y y1 hy _).mono ?_); rintro e w4 ⟨rfl, hb4⟩; have hb5 := hb2.trans (hb4.mono hb2.size); clear hb4 hb2)
        go_roundw
        case rel => exact ⟨y + 1, rule', when', true, c, by omega, by omega, rfl, rfl, rfl, rfl, HRS.out, HX.out, hb5⟩
        case measure => simp [intOf]; omega
      ·have HX := Lib.hid (HC.out.yes y1 (HG.out y hy) hg (.inl h4))
       clear h2 h3 h4 hg
       go_wp2_with (go_at_call 204; (with_reducible refine (BG.out y y1 hy _).mono ?_); rintro e w4 ⟨rfl, hb4⟩; have hb5 := hb2.trans (hb4.mono hb2.size); clear hb4 hb2)
       go_roundw
       case rel => exact ⟨y + 1, i, r.g std y, true, (i, r.g std y), by omega, by omega, rfl, rfl, rfl, rfl, .inl ⟨rfl, rfl, rfl, by simp⟩, HX.out, hb5⟩
       case measure => simp [intOf]; omega
     ·have hg' : decide (r.g std y ≤ t) = false := by simpa using hg
      have HX := Lib.hid (HC.out.no y1 (HG.out y hy) (fun q => hg q.1))
      have HRS := Lib.hid hrs
      clear hrs hg
      go_wp2_with (go_at_call 204; (with_reducible refine (BG.out y y1 hy _).mono ?_); rintro e w4 ⟨rfl, hb4⟩; have hb5 := hb2.trans (hb4.mono hb2.size); clear hb4 hb2)
      go_roundw
      case rel => exact ⟨y + 1, rule', when', is', c, by omega, by omega, rfl, rfl, rfl, rfl, HRS.out, HX.out, hb5⟩
      case measure => simp [intOf]; omega
    ·have HX := Lib.hid (HUP.out c y HC.out (by omega))
     have HRS := Lib.hid hrs
     rw [HX.out] at HRS
     clear hrs
     go_wp2
     go_roundw
     case rel => exact ⟨i + 1, rule', when', is', by omega, by go_num, rfl, rfl, rfl, HRS.out, hb.trans (hb2.mono hzo)⟩
     case measure => simp [intOf]; omega
  ·have hin : i = rs.length := by have := HR.out.1; omega
   have HX := Lib.hid (show is_ = lastB (latest rs std t) ∧ rule = lastR (latest rs std t) ∧ when_ = lastW (latest rs std t) by unfold latest; rw [← hin]; exact HS.out.is)
   clear hin
   go_wp2
   go_ret3
   exact ⟨ret_3 HX.out.2.1 HX.out.2.2 HX.out.1, hb⟩
end Go.Proofs.YtbbbeldbhlehnaaGreatDoor
end
section
namespace Gno
noncomputable def firstE : List Rl → Int
 | [] => 0
 | r :: rest => if r.e ≠ 0 then r.e else firstE rest
theorem firstE_zero : ∀ {rs : List Rl}, firstE rs = 0 → ∀ r ∈ rs, r.e = 0
 | [], _, r, hr => by cases hr
 | q :: rest, h, r, hr => by
   unfold firstE at h
   by_cases hq : q.e ≠ 0
   ·rw [if_pos hq] at h; exact absurd h hq
   ·rw [if_neg hq] at h
    rcases List.mem_cons.1 hr with rfl | hr
    ·omega
    ·exact firstE_zero h r hr
theorem firstE_all : ∀ {rs : List Rl}, (∀ r ∈ rs, r.e = 0) → firstE rs = 0
 | [], _ => rfl
 | q :: rest, h => by
   unfold firstE
   rw [if_neg (by have := h q (by simp); omega)]
   exact firstE_all fun r hr => h r (by simp [hr])
theorem firstE_drop {rs : List Rl} {i : Nat} {r : Rl} (hr : rs[i]? = some r) : (r.e ≠ 0 → firstE (rs.drop i) = r.e) ∧ (r.e = 0 → firstE (rs.drop i) = firstE (rs.drop (i + 1))) := by
 have hi : i < rs.length := (List.getElem?_eq_some_iff.1 hr).1
 have he : rs[i] = r := (List.getElem?_eq_some_iff.1 hr).2
 rw [List.drop_eq_getElem_cons hi, he]
 constructor
 ·intro h; unfold firstE; rw [if_pos h]
 ·intro h; rw [firstE, if_neg (by omega)]
def tOk (t : Int) : Bool := decide (0 ≤ t ∧ t ≤ 1893455999)
noncomputable def lastE (rs : List Rl) (std t : Int) : Int :=
 if 4 < rs.length then 2 else if firstE rs ≠ 0 then firstE rs else if (stdOk std && tOk t) = false then 3 else if lastB (latest rs std t) = true then 0 else 4
noncomputable def lastK (rs : List Rl) (std t : Int) : Int := if lastE rs std t = 0 then (latest rs std t).1 else 0
noncomputable def lastT (rs : List Rl) (std t : Int) : Int := if lastE rs std t = 0 then (latest rs std t).2 else 0
section
variable {rs : List Rl} {std t : Int}
end
end Gno
namespace Go.Proofs.YtbbbeldbhlehnaaGreatDoor
open Go.RowKit Gno
end Go.Proofs.YtbbbeldbhlehnaaGreatDoor
end
section
namespace Gno
open Go
structure Er where
 std : Int
 set : Int
 save : Int
 fmt : ByteArray
 til : Int
structure Zn where
 name : ByteArray
 A : Option Addr
 n : Nat
 cap : Nat
 es : List Er
structure St where
 name : ByteArray
 A : Option Addr
 n : Nat
 cap : Nat
 rs : List Rl
structure Lk where
 name : ByteArray
 to : ByteArray
structure Dt where
 sA : Option Addr
 sn : Nat
 sc : Nat
 ss : List St
 zA : Option Addr
 zn : Nat
 zc : Nat
 zs : List Zn
 lA : Option Addr
 ln : Nat
 lc : Nat
 ls : List Lk
def zNames (d : Dt) : List ByteArray := d.zs.map fun z => z.name
def sNames (d : Dt) : List ByteArray := d.ss.map fun z => z.name
def lNames (d : Dt) : List ByteArray := d.ls.map fun z => z.name
def lTos (d : Dt) : List ByteArray := d.ls.map fun z => z.to
def isZone (name : ByteArray) (z : Zn) : Bool := same z.name name
def isLink (name : ByteArray) (l : Lk) : Bool := same l.name name
def zoneN (d : Dt) (name : ByteArray) : Int := fst (isZone name) d.zs 0
def linkN (d : Dt) (name : ByteArray) : Int := fst (isLink name) d.ls 0
def leadT (d : Dt) : Nat → ByteArray → Int
 | 0, _ => -1
 | f + 1, name => if 0 ≤ zoneN d name then zoneN d name else match d.ls[(linkN d name).toNat]? with
   | some l => if linkN d name < 0 then -1 else leadT d f l.to
   | none => -1
def leadN (d : Dt) (name : ByteArray) : Int := leadT d (d.ls.length + 1) name
def manyRules (s : St) : Bool := decide (s.n < 1) || decide (4 < s.n)
def manyEras (z : Zn) : Bool := decide (z.n < 1) || decide (4 < z.n)
def badNm (s : ByteArray) : Bool := !nameOk s
def namesBad (d : Dt) : Bool := anyI (fun _ => badNm) (sNames d) || anyI (fun _ => badNm) (zNames d) || anyI (fun _ => badNm) (lNames d) || anyI (fun _ => badNm) (lTos d)
noncomputable def setsE : List St → Int
 | [] => 0
 | s :: t => if firstE s.rs ≠ 0 then firstE s.rs else setsE t
def eraOk (ns : Int) (x : Er) (ahead : Int) : Bool :=
 decide (-50400 ≤ x.std ∧ x.std ≤ 50400) && (decide (-1 ≤ x.set ∧ x.set < ns) && (decide (0 ≤ x.save ∧ x.save ≤ 7200) && (decide (x.set < 0 ∨ x.save = 0) && decide (ahead < x.til))))
def aheadOf (es : List Er) (i : Nat) : Int := match i with
 | 0 => 0
 | j + 1 => match es[j]? with
   | some x => x.til
   | none => 0
def badEra (ns : Int) (es : List Er) (i : Nat) (x : Er) : Bool := !eraOk ns x (aheadOf es i)
def badEras (ns : Int) (z : Zn) : Bool := anyI (badEra ns z.es) z.es
def badEnd (z : Zn) : Bool := decide (aheadOf z.es z.es.length ≠ 1893456000)
end Gno
end
section
namespace Gno
def isBook (loc : ByteArray) (k : Bk) : Bool := same k.loc loc
def bookN (bs : List Bk) (loc : ByteArray) : Int := fst (isBook loc) bs 0
end Gno
namespace Go.Proofs.YtbbbeldbhlehnaaGreatDoor
open Go.RowKit Gno
theorem bookF_any (o : Nat) (loc : ByteArray) (k : Bk) (w : World) (hc : w.cell? ⟨o, 0, none⟩ = some (.string loc)) (ho : o < w.heap.size) :
 Calls Tryz.prog 148 #[.agg #[.string k.loc, .int .i64 k.par, .slice k.A k.n k.cap], .pointer (some ⟨o, 0, none⟩)] w fun e w' => e = .returned (.bool (isBook loc k)) ∧ Below w.heap.size w w' := by
 have hc2 : (w.alloc (.cells #[.string k.loc, .int .i64 k.par, .slice k.A k.n k.cap] 43)).cell? ⟨o, 0, none⟩ = some (.string loc) := (((Below.refl _ _).alloc (Nat.le_refl _) _).cell ho).trans hc
 go_enter Tryz.func148, Tryz.ntmps148
 go_wp2
 go_ret
 exact ⟨ret_bool rfl, (Below.refl _ _).alloc (Nat.le_refl _) _⟩
set_option maxRecDepth 100000 in
set_option maxHeartbeats 4000000 in
theorem book_any (A : Option Addr) (n cap : Nat) (bs : List Bk) (loc : ByteArray) (w : World) (hR : BooksAt w w.heap.size A n bs) :
 Calls Tryz.prog 72 #[.slice A n cap, .string loc] w fun e w' => e = .returned (.int .i64 (bookN bs loc)) ∧ Below w.heap.size w w' := by
 have hb0 : Below w.heap.size w (w.alloc (.cells #[.string loc] 9)) := (Below.refl _ _).alloc (Nat.le_refl _) _
 have C := Lib.hid (indexB_any 148 #[.pointer (some ⟨w.heap.size, 0, none⟩)] (enters_of Tryz.func148 (by kernel_rfl) rfl) (isBook loc) A n cap bs (w.alloc (.cells #[.string loc] 9))
  ((hR.below hb0 (Nat.le_refl _)).more hb0.size) (fun W k hk hbW => bookF_any w.heap.size loc k W ((hbW.cell (by simp)).trans (by first | (simp [go_sem]; done) | go_simp)) (by have := hbW.size; simp at this; omega)))
 have HB := Lib.hid hb0
 clear hR hb0
 have hmf : ∀ (fn : Fn) (first cap : Array Value) (w : World), (Instr.makeFunc fn first cap).run Tryz.prog w = .ok (.func fn first cap) w := fun _ _ _ _ => rfl
 go_enter Tryz.func72, Tryz.ntmps72
 go_wp2_with (go_at_call 147; (with_reducible refine C.out.mono ?_); rintro e w4 ⟨rfl, hb4⟩)
 go_ret
 exact ⟨rfl, HB.out.trans (hb4.mono HB.out.size)⟩
set_option maxRecDepth 100000 in
set_option maxHeartbeats 4000000 in
theorem bookAt_any (A : Option Addr) (n cap : Nat) (bs : List Bk) (loc : ByteArray) (w : World) (hR : BooksAt w w.heap.size A n bs) :
 Calls Tryz.prog 42 #[.slice A n cap, .string loc] w fun e w' => e = .returned (.int .i64 (bookN bs loc)) ∧ Below w.heap.size w w' := by
 have hn : n ≤ 9223372036854775807 := hR.2.1
 have HR := Lib.hid hR
 clear hR
 go_enter Tryz.func42, Tryz.ntmps42
 go_wp2
 go_loopw [5] (fun b0 wr => ∃ i : Nat, i ≤ n ∧ b0 = .int .i64 i ∧ Hid (fst (isBook loc) (bs.drop i) i = bookN bs loc) ∧ Below w.heap.size w wr) (fun b0 _ => n - (intOf b0).toNat)
 case atStart => exact ⟨0, Nat.zero_le _, rfl, Lib.hid (by simp [bookN]), Below.refl _ _⟩
 case round =>
  obtain ⟨i, hi, rfl, hfd, hb⟩ := hrel
  by_cases hlt : i < n
  ·have hR2 := HR.out.below hb (Nat.le_refl _)
   obtain ⟨b, o, hA, hbB, hc⟩ := hR2.2.2 (by omega)
   subst hA
   have hl : i < bs.length := by rw [hR2.1]; exact hlt
   obtain ⟨⟨e0, e1, e2⟩, hle, hps⟩ := hc i _ (List.getElem?_eq_getElem hl)
   obtain ⟨k, hk⟩ : ∃ k, k = bs[i] := ⟨_, rfl⟩
   have hki : bs[i]? = some k := by rw [hk]; exact List.getElem?_eq_getElem hl
   rw [← hk] at e0 e1 e2
   have FD := Lib.hid (fst_drop (p := isBook loc) hki)
   clear hc hR2 hk hki hl hle hps
   cases hpk : isBook loc k
   ·have HX := Lib.hid ((FD.out.2 hpk).symm.trans hfd.out)
    have hq : (k.loc.toList == loc.toList) = false := hpk
    clear hfd hpk
    go_wp2
    go_roundw
    case rel => exact ⟨i + 1, by omega, by go_num, HX, hb⟩
    case measure => simp [intOf]; omega
   ·have HX := Lib.hid ((FD.out.1 hpk).symm.trans hfd.out)
    have hq : (k.loc.toList == loc.toList) = true := hpk
    clear hfd hpk
    go_wp2
    go_ret
    exact ⟨ret_int HX.out, hb⟩
  ·have HX := Lib.hid ((fst_end (p := isBook loc) (by have := HR.out.1; omega)).symm.trans hfd.out)
   go_wp2
   go_ret
   exact ⟨ret_int HX.out, hb⟩
end Go.Proofs.YtbbbeldbhlehnaaGreatDoor
end
section
namespace Gno
def isKey (key : ByteArray) (p : Pr) : Bool := same p.key key
def noText : ByteArray := ⟨#[]⟩
def inPairs (key : ByteArray) (r : ByteArray × Bool) : List Pr → ByteArray × Bool
 | [] => r
 | p :: t => if isKey key p = true then (p.text, !p.text.toList.isEmpty) else inPairs key r t
theorem inPairs_drop {key : ByteArray} {r : ByteArray × Bool} {l : List Pr} {i : Nat} {p : Pr} (h : l[i]? = some p) : (isKey key p = true → inPairs key r (l.drop i) = (p.text, !p.text.toList.isEmpty)) ∧ (isKey key p = false → inPairs key r (l.drop i) = inPairs key r (l.drop (i + 1))) := by
 have hi : i < l.length := (List.getElem?_eq_some_iff.1 h).1
 have he : l[i] = p := (List.getElem?_eq_some_iff.1 h).2
 rw [List.drop_eq_getElem_cons hi, he]
 exact ⟨fun q => by rw [inPairs, if_pos q], fun q => by rw [inPairs, if_neg (by simp [q])]⟩
theorem inPairs_end {key : ByteArray} {r : ByteArray × Bool} {l : List Pr} {i : Nat} (h : ¬ i < l.length) : inPairs key r (l.drop i) = r := by
 rw [List.drop_of_length_le (by omega)]; rfl
def lookN (bs : List Bk) (key : ByteArray) : Nat → Int → ByteArray × Bool
 | 0, _ => (noText, false)
 | f + 1, k => if k < 0 then (noText, false) else match bs[k.toNat]? with
   | none => (noText, false)
   | some b => inPairs key (lookN bs key f b.par) b.ps
def parOk (bs : List Bk) : Prop := ∀ (i : Nat) b, bs[i]? = some b → -1 ≤ b.par ∧ b.par < i
theorem lookN_more {bs : List Bk} {key : ByteArray} (h : parOk bs) : ∀ (f g : Nat) (k : Int), -1 ≤ k → k < f → k < g → lookN bs key f k = lookN bs key g k
 | 0, 0, _, _, _, _ => rfl
 | 0, g + 1, k, h0, h1, _ => by
   rw [lookN, lookN, if_pos (by omega)]
 | f + 1, 0, k, h0, _, h2 => by
   rw [lookN, lookN, if_pos (by omega)]
 | f + 1, g + 1, k, h0, h1, h2 => by
   rw [lookN, lookN]
   by_cases hk : k < 0
   ·rw [if_pos hk, if_pos hk]
   ·rw [if_neg hk, if_neg hk]
    cases hb : bs[k.toNat]? with
    | none => rfl
    | some b =>
      have := h _ b hb
      simp only
      rw [lookN_more h f g b.par this.1 (by omega) (by omega)]
def lookB (bs : List Bk) (key : ByteArray) (k : Int) : ByteArray × Bool := lookN bs key (k + 1).toNat k
theorem look_neg {bs : List Bk} {key : ByteArray} {k : Int} (h : k < 0) : lookB bs key k = (noText, false) := by
 unfold lookB
 rw [show (k + 1).toNat = 0 by omega]; rfl
theorem look_at {bs : List Bk} {key : ByteArray} (h : parOk bs) {k : Int} (h0 : 0 ≤ k) {b : Bk} (hb : bs[k.toNat]? = some b) : lookB bs key k = inPairs key (lookB bs key b.par) b.ps := by
 have hp := h _ b hb
 unfold lookB
 rw [show (k + 1).toNat = k.toNat + 1 by omega, lookN, if_neg (by omega), hb]
 simp only
 rw [lookN_more h k.toNat (b.par + 1).toNat b.par hp.1 (by omega) (by omega)]
end Gno
namespace Go.Proofs.YtbbbeldbhlehnaaGreatDoor
end Go.Proofs.YtbbbeldbhlehnaaGreatDoor
end
section
namespace Go.Proofs.YtbbbeldbhlehnaaGreatDoor
open Go.RowKit Gno
set_option maxRecDepth 100000 in
set_option maxHeartbeats 4000000 in
theorem look_any (A : Option Addr) (n cap : Nat) (bs : List Bk) (k : Int) (key : ByteArray) (w : World) (hR : BooksAt w w.heap.size A n bs) (hP : parOk bs) (hk : -1 ≤ k) (hk2 : k < n) :
 Calls Tryz.prog 203 #[.slice A n cap, .int .i64 k, .string key] w fun e w' => e = .returned (.tuple #[.string (lookB bs key k).1, .bool (lookB bs key k).2]) ∧ Below w.heap.size w w' := by
 have hn : n ≤ 9223372036854775807 := hR.2.1
 have HR := Lib.hid hR
 have HP := Lib.hid hP
 clear hR hP
 obtain ⟨V, hV⟩ : ∃ V, V = lookB bs key k := ⟨_, rfl⟩
 rw [← hV]
 have HV := Lib.hid hV.symm
 clear hV
 go_enter Tryz.func203, Tryz.ntmps203
 go_wp2
 go_loopw [1] (fun b0 wr => ∃ j : Int, -1 ≤ j ∧ j < n ∧ b0 = .int .i64 j ∧ Hid (lookB bs key j = V) ∧ Below w.heap.size w wr) (fun b0 _ => (intOf b0 + 1).toNat)
 case atStart => exact ⟨k, hk, hk2, rfl, HV, Below.refl _ _⟩
 case round =>
  clear hk hk2 HV
  obtain ⟨j, hj, hj2, rfl, hfd, hb⟩ := hrel
  obtain ⟨wo, hwo⟩ : ∃ wo : World, wo = wr := ⟨_, rfl⟩
  rw [← hwo]
  rw [← hwo] at hb
  clear hwo
  by_cases hj0 : 0 ≤ j
  ·have hR2 := HR.out.below hb (Nat.le_refl _)
   obtain ⟨b, o, hA, hbB, hc⟩ := hR2.2.2 (by omega)
   subst hA
   have hl : j.toNat < bs.length := by rw [hR2.1]; omega
   obtain ⟨⟨e0, e1, e2⟩, hle, hps⟩ := hc j.toNat _ (List.getElem?_eq_getElem hl)
   obtain ⟨q, hq⟩ : ∃ q, q = bs[j.toNat] := ⟨_, rfl⟩
   have hqi : bs[j.toNat]? = some q := by rw [hq]; exact List.getElem?_eq_getElem hl
   rw [← hq] at e0 e1 e2 hps
   have hpar := HP.out _ q hqi
   have p1 := hpar.1
   have p2 : q.par < j := by omega
   have HL := Lib.hid ((look_at HP.out hj0 hqi).symm.trans hfd.out)
   have hzo : w.heap.size ≤ wo.heap.size := hb.size
   have hbo : b < wo.heap.size := by omega
   have HQ := Lib.hid (hps.more hzo)
   have hm : q.n ≤ 9223372036854775807 := hps.2.1
   clear hc hR2 hq hqi hl hle hps hpar hfd
   go_wp2
   go_loopw [23] (fun b1 wr2 => ∃ i : Nat, i ≤ q.n ∧ b1 = .int .i64 i ∧ Hid (inPairs key (lookB bs key q.par) (q.ps.drop i) = V) ∧ Below wo.heap.size wo wr2) (fun b1 _ => q.n - (intOf b1).toNat)
   case atStart => exact ⟨0, Nat.zero_le _, rfl, Lib.hid (by simpa using HL.out), Below.refl _ _⟩
   case round =>
    clear HL
    obtain ⟨i, hi, rfl, hfi, hb2⟩ := hrel
    have d1 : wr.cell? ⟨b, o + j.toNat * 3 + 1, none⟩ = some (.int .i64 q.par) := (hb2.cell hbo).trans e1
    have d2 : wr.cell? ⟨b, o + j.toNat * 3 + 2, none⟩ = some (.slice q.A q.n q.cap) := (hb2.cell hbo).trans e2
    have hb3 : Below w.heap.size w wr := hb.trans (hb2.mono hzo)
    clear e0 e1 e2
    by_cases hlt : i < q.n
    ·have hQ2 := HQ.out.below hb2 (Nat.le_refl _)
     obtain ⟨c, f, hA2, hcB, hcc⟩ := hQ2.2.2 (by omega)
     rw [hA2] at d2
     have hl : i < q.ps.length := by rw [hQ2.1]; exact hlt
     obtain ⟨⟨g0, g1⟩, hgg⟩ := hcc i _ (List.getElem?_eq_getElem hl)
     obtain ⟨r, hr⟩ : ∃ r, r = q.ps[i] := ⟨_, rfl⟩
     have hri : q.ps[i]? = some r := by rw [hr]; exact List.getElem?_eq_getElem hl
     rw [← hr] at g0 g1
     have FD := Lib.hid (inPairs_drop (key := key) (r := lookB bs key q.par) hri)
     clear hgg hcc hQ2 hr hri hl
     cases hpk : isKey key r
     ·have HX := Lib.hid ((FD.out.2 hpk).symm.trans hfi.out)
      have hs : (r.key.toList == key.toList) = false := hpk
      clear hfi hpk
      go_wp2
      go_roundw
      case rel => exact ⟨i + 1, by omega, by go_num, HX, hb2.alloc hb2.size _⟩
      case measure => simp [intOf]; omega
     ·have HX := Lib.hid ((FD.out.1 hpk).symm.trans hfi.out)
      have hs : (r.key.toList == key.toList) = true := hpk
      clear hfi hpk
      go_wp2
      go_region
      go_wp2
      go_ret2
      exact ⟨by rw [← HX.out]; rfl, (hb3.alloc hb3.size _).drew⟩
    ·have HX := Lib.hid ((inPairs_end (key := key) (r := lookB bs key q.par) (by have := HQ.out.1; omega)).symm.trans hfi.out)
     go_wp2
     go_roundw
     case rel => exact ⟨q.par, p1, by omega, rfl, HX, hb3⟩
     case measure => simp [intOf]; omega
  ·have HX := Lib.hid ((look_neg (bs := bs) (key := key) (k := j) (by omega)).symm.trans hfd.out)
   go_wp2
   go_ret2
   exact ⟨by rw [← HX.out]; rfl, hb⟩
end Go.Proofs.YtbbbeldbhlehnaaGreatDoor
end
section
namespace Go.Proofs.YtbbbeldbhlehnaaGreatDoor
open Go.RowKit Gno
set_option maxRecDepth 100000 in
set_option maxHeartbeats 4000000 in
theorem textOf_any (A : Option Addr) (n cap : Nat) (bs : List Bk) (k : Int) (key : ByteArray) (w : World) (hR : BooksAt w w.heap.size A n bs) (hP : parOk bs) (hk : -1 ≤ k) (hk2 : k < n) :
 Calls Tryz.prog 78 #[.slice A n cap, .int .i64 k, .string key] w fun e w' => e = .returned (.tuple #[.string (lookB bs key k).1, .bool (lookB bs key k).2]) ∧ Below w.heap.size w w' := by
 have hn : n ≤ 9223372036854775807 := hR.2.1
 have HR := Lib.hid hR
 have HP := Lib.hid hP
 clear hR hP
 obtain ⟨V, hV⟩ : ∃ V, V = lookB bs key k := ⟨_, rfl⟩
 rw [← hV]
 have HV := Lib.hid hV.symm
 clear hV
 go_enter Tryz.func78, Tryz.ntmps78
 go_wp2
 go_loopw [1] (fun b0 wr => ∃ j : Int, -1 ≤ j ∧ j < n ∧ b0 = .int .i64 j ∧ Hid (lookB bs key j = V) ∧ Below w.heap.size w wr) (fun b0 _ => (intOf b0 + 1).toNat)
 case atStart => exact ⟨k, hk, hk2, rfl, HV, Below.refl _ _⟩
 case round =>
  clear hk hk2 HV
  obtain ⟨j, hj, hj2, rfl, hfd, hb⟩ := hrel
  obtain ⟨wo, hwo⟩ : ∃ wo : World, wo = wr := ⟨_, rfl⟩
  rw [← hwo]
  rw [← hwo] at hb
  clear hwo
  by_cases hj0 : 0 ≤ j
  ·have hR2 := HR.out.below hb (Nat.le_refl _)
   obtain ⟨b, o, hA, hbB, hc⟩ := hR2.2.2 (by omega)
   subst hA
   have hl : j.toNat < bs.length := by rw [hR2.1]; omega
   obtain ⟨⟨e0, e1, e2⟩, hle, hps⟩ := hc j.toNat _ (List.getElem?_eq_getElem hl)
   obtain ⟨q, hq⟩ : ∃ q, q = bs[j.toNat] := ⟨_, rfl⟩
   have hqi : bs[j.toNat]? = some q := by rw [hq]; exact List.getElem?_eq_getElem hl
   rw [← hq] at e0 e1 e2 hps
   have hpar := HP.out _ q hqi
   have p1 := hpar.1
   have p2 : q.par < j := by omega
   have HL := Lib.hid ((look_at HP.out hj0 hqi).symm.trans hfd.out)
   have hzo : w.heap.size ≤ wo.heap.size := hb.size
   have hbo : b < wo.heap.size := by omega
   have HQ := Lib.hid (hps.more hzo)
   have hm : q.n ≤ 9223372036854775807 := hps.2.1
   clear hc hR2 hq hqi hl hle hps hpar hfd
   go_wp2
   go_loopw [8] (fun b1 wr2 => ∃ i : Nat, i ≤ q.n ∧ b1 = .int .i64 i ∧ Hid (inPairs key (lookB bs key q.par) (q.ps.drop i) = V) ∧ Below wo.heap.size wo wr2) (fun b1 _ => q.n - (intOf b1).toNat)
   case atStart => exact ⟨0, Nat.zero_le _, rfl, Lib.hid (by simpa using HL.out), Below.refl _ _⟩
   case round =>
    clear HL
    obtain ⟨i, hi, rfl, hfi, hb2⟩ := hrel
    have d1 : wr.cell? ⟨b, o + j.toNat * 3 + 1, none⟩ = some (.int .i64 q.par) := (hb2.cell hbo).trans e1
    have d2 : wr.cell? ⟨b, o + j.toNat * 3 + 2, none⟩ = some (.slice q.A q.n q.cap) := (hb2.cell hbo).trans e2
    have hb3 : Below w.heap.size w wr := hb.trans (hb2.mono hzo)
    clear e0 e1 e2
    by_cases hlt : i < q.n
    ·have hQ2 := HQ.out.below hb2 (Nat.le_refl _)
     obtain ⟨c, f, hA2, hcB, hcc⟩ := hQ2.2.2 (by omega)
     rw [hA2] at d2
     have hl : i < q.ps.length := by rw [hQ2.1]; exact hlt
     obtain ⟨⟨g0, g1⟩, hgg⟩ := hcc i _ (List.getElem?_eq_getElem hl)
     obtain ⟨r, hr⟩ : ∃ r, r = q.ps[i] := ⟨_, rfl⟩
     have hri : q.ps[i]? = some r := by rw [hr]; exact List.getElem?_eq_getElem hl
     rw [← hr] at g0 g1
     have FD := Lib.hid (inPairs_drop (key := key) (r := lookB bs key q.par) hri)
     clear hgg hcc hQ2 hr hri hl
     cases hpk : isKey key r
     ·have HX := Lib.hid ((FD.out.2 hpk).symm.trans hfi.out)
      have hs : (r.key.toList == key.toList) = false := hpk
      clear hfi hpk
      go_wp2
      go_roundw
      case rel => exact ⟨i + 1, by omega, by go_num, HX, hb2⟩
      case measure => simp [intOf]; omega
     ·have HX := Lib.hid ((FD.out.1 hpk).symm.trans hfi.out)
      have hs : (r.key.toList == key.toList) = true := hpk
      clear hfi hpk
      go_wp2
      go_region
      go_wp2
      go_ret2
      exact ⟨by rw [← HX.out]; rfl, hb3.drew⟩
    ·have HX := Lib.hid ((inPairs_end (key := key) (r := lookB bs key q.par) (by have := HQ.out.1; omega)).symm.trans hfi.out)
     go_wp2
     go_roundw
     case rel => exact ⟨q.par, p1, by omega, rfl, HX, hb3⟩
     case measure => simp [intOf]; omega
  ·have HX := Lib.hid ((look_neg (bs := bs) (key := key) (k := j) (by omega)).symm.trans hfd.out)
   go_wp2
   go_ret2
   exact ⟨by rw [← HX.out]; rfl, hb⟩
end Go.Proofs.YtbbbeldbhlehnaaGreatDoor
end
section
namespace Gno
def manyPairs (k : Bk) : Bool := decide (8 < k.n)
def badPair (p : Pr) : Bool := !nameOk p.key || decide (12 < p.text.size)
end Gno
namespace Go.Proofs.YtbbbeldbhlehnaaGreatDoor
open Go.RowKit Gno
def PredP (P : Program) (g : Nat) (lb : Array Value) (p : Pr → Bool) (bs : List Pr) (w : World) : Prop :=
 ∀ (W : World) (k : Pr), k ∈ bs → Below w.heap.size w W → Calls P g (#[.agg #[.string k.key, .string k.text]] ++ lb) W fun e w' => e = .returned (.bool (p k)) ∧ Below W.heap.size W w'
set_option maxRecDepth 100000 in
set_option maxHeartbeats 4000000 in
theorem indexP_any (g : Nat) (lb : Array Value) (eg : ∀ args w, (callFunc g args).run Tryz.prog w = .ok (.enter g args) w) (p : Pr → Bool) (A : Option Addr) (n cap : Nat) (bs : List Pr) (w : World)
 (hR : PairsAt w w.heap.size A n bs) (hp : PredP Tryz.prog g lb p bs w) :
 Calls Tryz.prog 168 #[.slice A n cap, .func (.func g) #[] lb] w fun e w' => e = .returned (.int .i64 (fst p bs 0)) ∧ Below w.heap.size w w' := by
 have hn : n ≤ 9223372036854775807 := hR.2.1
 have HR := Lib.hid hR
 have HP := Lib.hid hp
 clear hR hp
 go_enter Tryz.func168, Tryz.ntmps168
 go_wp2
 go_loopw [8] (fun b0 wr => ∃ i : Nat, i ≤ n ∧ b0 = .int .i64 i ∧ Hid (fst p (bs.drop i) i = fst p bs 0) ∧ Below w.heap.size w wr) (fun b0 _ => n - (intOf b0).toNat)
 case atStart => exact ⟨0, Nat.zero_le _, rfl, Lib.hid (by simp), Below.refl _ _⟩
 case round =>
  obtain ⟨i, hi, rfl, hfd, hb⟩ := hrel
  by_cases hlt : i < n
  ·have hR2 := HR.out.below hb (Nat.le_refl _)
   obtain ⟨b, o, hA, hbB, hc⟩ := hR2.2.2 (by omega)
   subst hA
   have hl : i < bs.length := by rw [hR2.1]; exact hlt
   obtain ⟨⟨e0, e1⟩, hle, hps⟩ := hc i _ (List.getElem?_eq_getElem hl)
   obtain ⟨k, hk⟩ : ∃ k, k = bs[i] := ⟨_, rfl⟩
   have hki : bs[i]? = some k := by rw [hk]; exact List.getElem?_eq_getElem hl
   have hmem : k ∈ bs := by rw [hk]; exact List.getElem_mem hl
   rw [← hk] at e0 e1
   have FD := Lib.hid (fst_drop (p := p) hki)
   have c := HP.out wr k hmem hb
   clear hc hR2 hk hki hl hle hps hmem
   cases hpk : p k
   ·rw [hpk] at c
    have C := Lib.hid c
    have HX := Lib.hid ((FD.out.2 hpk).symm.trans hfd.out)
    clear c hfd hpk
    go_wp2_with (go_at_fn g; (with_reducible refine C.out.mono ?_); rintro e w4 ⟨rfl, hb4⟩; have hb5 := hb.trans (hb4.mono hb.size); clear hb4)
    go_roundw
    case rel => exact ⟨i + 1, by omega, by go_num, HX, hb5⟩
    case measure => simp [intOf]; omega
   ·rw [hpk] at c
    have C := Lib.hid c
    have HX := Lib.hid ((FD.out.1 hpk).symm.trans hfd.out)
    clear c hfd hpk
    go_wp2_with (go_at_fn g; (with_reducible refine C.out.mono ?_); rintro e w4 ⟨rfl, hb4⟩; have hb5 := hb.trans (hb4.mono hb.size); clear hb4)
    go_ret
    exact ⟨ret_int HX.out, hb5⟩
  ·have HX := Lib.hid ((fst_end (p := p) (by have := HR.out.1; omega)).symm.trans hfd.out)
   go_wp2
   go_ret
   exact ⟨ret_int HX.out, hb⟩
theorem containsB_any (g : Nat) (lb : Array Value) (eg : ∀ args w, (callFunc g args).run Tryz.prog w = .ok (.enter g args) w) (p : Bk → Bool) (A : Option Addr) (n cap : Nat) (bs : List Bk) (w : World)
 (hR : BooksAt w w.heap.size A n bs) (hp : PredB Tryz.prog g lb p bs w) :
 Calls Tryz.prog 103 #[.slice A n cap, .func (.func g) #[] lb] w fun e w' => e = .returned (.bool (hasP p bs)) ∧ Below w.heap.size w w' := by
 have C := Lib.hid (indexB_any g lb eg p A n cap bs w hR hp)
 clear hR hp eg
 go_enter Tryz.func103, Tryz.ntmps103
 go_wp2_with (go_at_call 147; (with_reducible refine C.out.mono ?_); rintro e w4 ⟨rfl, hb4⟩)
 go_ret
 exact ⟨ret_bool rfl, hb4⟩
theorem containsP_any (g : Nat) (lb : Array Value) (eg : ∀ args w, (callFunc g args).run Tryz.prog w = .ok (.enter g args) w) (p : Pr → Bool) (A : Option Addr) (n cap : Nat) (bs : List Pr) (w : World)
 (hR : PairsAt w w.heap.size A n bs) (hp : PredP Tryz.prog g lb p bs w) :
 Calls Tryz.prog 105 #[.slice A n cap, .func (.func g) #[] lb] w fun e w' => e = .returned (.bool (hasP p bs)) ∧ Below w.heap.size w w' := by
 have C := Lib.hid (indexP_any g lb eg p A n cap bs w hR hp)
 clear hR hp eg
 go_enter Tryz.func105, Tryz.ntmps105
 go_wp2_with (go_at_call 168; (with_reducible refine C.out.mono ?_); rintro e w4 ⟨rfl, hb4⟩)
 go_ret
 exact ⟨ret_bool rfl, hb4⟩
theorem many_any (k : Bk) (w : World) :
 Calls Tryz.prog 104 #[.agg #[.string k.loc, .int .i64 k.par, .slice k.A k.n k.cap]] w fun e w' => e = .returned (.bool (manyPairs k)) ∧ Below w.heap.size w w' := by
 go_enter Tryz.func104, Tryz.ntmps104
 go_wp2
 go_ret
 exact ⟨ret_bool (by rw [Bool.eq_iff_iff]; simp [manyPairs]; try omega), (Below.refl _ _).alloc (Nat.le_refl _) _⟩
end Go.Proofs.YtbbbeldbhlehnaaGreatDoor
end
section
namespace Go.Proofs.YtbbbeldbhlehnaaGreatDoor
open Go.RowKit Gno
theorem badPair_any (p : Pr) (w : World) (hk : p.key.size ≤ maxLen) :
 Calls Tryz.prog 106 #[.agg #[.string p.key, .string p.text]] w fun e w' => e = .returned (.bool (badPair p)) ∧ Below w.heap.size w w' := by
 have C := Lib.hid (fun w => name_any p.key w hk)
 have HB : Hid (∀ w1, Below (w.alloc (.cells #[.string p.key, .string p.text] 163)).heap.size (w.alloc (.cells #[.string p.key, .string p.text] 163)) w1 → Below w.heap.size w w1 ∧ w1.cell? ⟨w.heap.size, 1, none⟩ = some (.string p.text)) := Lib.hid (fun w1 hb1 =>
  ⟨((Below.refl _ _).alloc (Nat.le_refl _) _).trans (hb1.mono (by simp)), (hb1.cell (by simp)).trans (by first | (simp [go_sem]; done) | go_simp)⟩)
 clear hk
 obtain ⟨b, hb⟩ : ∃ b, nameOk p.key = b := ⟨_, rfl⟩
 simp only [hb] at C
 cases b
 all_goals
  go_enter Tryz.func106, Tryz.ntmps106
  go_wp2_with (go_at_call 43; (with_reducible refine (C.out _).mono ?_); rintro e w1 ⟨rfl, hb1⟩; obtain ⟨h1, g1⟩ := HB.out _ hb1; clear hb1)
  go_ret
  exact ⟨ret_bool (by rw [Bool.eq_iff_iff]; simp [badPair, hb]; try omega), h1⟩
end Go.Proofs.YtbbbeldbhlehnaaGreatDoor
end
section
namespace Gno
open Go
def badBook (k : Bk) : Bool := !nameOk k.loc || hasP badPair k.ps
def fallAt (ps : List Pr) (i : Nat) : Bool := match i with
 | 0 => false
 | j + 1 => match ps[j]?, ps[j + 1]? with
   | some a, some b => !lessB a.key b.key
   | _, _ => false
def fallsB (k : Bk) : Bool := anyTo (fallAt k.ps) k.ps.length
def badPar (i : Nat) (k : Bk) : Bool := decide (k.par < -1) || decide ((i : Int) ≤ k.par)
def locs (bs : List Bk) : List ByteArray := bs.map fun k => k.loc
def booksE (bs : List Bk) : Int :=
 if 4 < bs.length then 2 else if anyI (fun _ => manyPairs) bs = true then 2 else if anyI (fun _ => badBook) bs = true then 5 else
 if dup (locs bs) = true then 6 else if anyI (fun _ => fallsB) bs = true then 6 else if anyI badPar bs = true then 3 else 0
theorem booksE_long {bs : List Bk} (h : 4 < bs.length) : booksE bs = 2 := by unfold booksE; rw [if_pos h]
theorem booksE_many {bs : List Bk} (h : ¬ 4 < bs.length) (h1 : anyI (fun _ => manyPairs) bs = true) : booksE bs = 2 := by unfold booksE; rw [if_neg h, if_pos h1]
theorem booksE_name {bs : List Bk} (h : ¬ 4 < bs.length) (h1 : anyI (fun _ => manyPairs) bs = false) (h2 : anyI (fun _ => badBook) bs = true) : booksE bs = 5 := by
 unfold booksE; rw [if_neg h, if_neg (by simp [h1]), if_pos h2]
theorem booksE_dup {bs : List Bk} (h : ¬ 4 < bs.length) (h1 : anyI (fun _ => manyPairs) bs = false) (h2 : anyI (fun _ => badBook) bs = false) (h3 : dup (locs bs) = true) : booksE bs = 6 := by
 unfold booksE; rw [if_neg h, if_neg (by simp [h1]), if_neg (by simp [h2]), if_pos h3]
theorem booksE_fall {bs : List Bk} (h : ¬ 4 < bs.length) (h1 : anyI (fun _ => manyPairs) bs = false) (h2 : anyI (fun _ => badBook) bs = false) (h3 : anyI (fun _ => fallsB) bs = true) : booksE bs = 6 := by
 unfold booksE; rw [if_neg h, if_neg (by simp [h1]), if_neg (by simp [h2])]
 by_cases h4 : dup (locs bs) = true
 ·rw [if_pos h4]
 ·rw [if_neg h4, if_pos h3]
theorem booksE_par {bs : List Bk} (h : ¬ 4 < bs.length) (h1 : anyI (fun _ => manyPairs) bs = false) (h2 : anyI (fun _ => badBook) bs = false) (h3 : dup (locs bs) = false) (h4 : anyI (fun _ => fallsB) bs = false) (h5 : anyI badPar bs = true) : booksE bs = 3 := by
 unfold booksE; rw [if_neg h, if_neg (by simp [h1]), if_neg (by simp [h2]), if_neg (by simp [h3]), if_neg (by simp [h4]), if_pos h5]
theorem booksE_ok {bs : List Bk} (h : ¬ 4 < bs.length) (h1 : anyI (fun _ => manyPairs) bs = false) (h2 : anyI (fun _ => badBook) bs = false) (h3 : dup (locs bs) = false) (h4 : anyI (fun _ => fallsB) bs = false) (h5 : anyI badPar bs = false) : booksE bs = 0 := by
 unfold booksE; rw [if_neg h, if_neg (by simp [h1]), if_neg (by simp [h2]), if_neg (by simp [h3]), if_neg (by simp [h4]), if_neg (by simp [h5])]
theorem booksE_zero {bs : List Bk} (h : booksE bs = 0) : bs.length ≤ 4 ∧ anyI (fun _ => manyPairs) bs = false ∧ anyI (fun _ => badBook) bs = false ∧ dup (locs bs) = false ∧ anyI (fun _ => fallsB) bs = false ∧ anyI badPar bs = false := by
 unfold booksE at h
 split at h
 ·omega
 split at h
 ·omega
 split at h
 ·omega
 split at h
 ·omega
 split at h
 ·omega
 split at h
 ·omega
 simp_all
end Gno
end
section
namespace Gno
def sA : Rl := ⟨1980, 2029, 3, 2, 0, 0, 7200, 3600, ⟨#[68]⟩⟩
def sB : Rl := ⟨1980, 2029, 10, 2, 0, 0, 7200, 0, ⟨#[83]⟩⟩
def springs : List Rl := [sA, sB]
theorem last_fine {y m w : Int} (hy : isYM y m = true) (h1 : 0 ≤ w) (h2 : w ≤ 6) : findE y m 2 w 0 = 0 := by
 have hym : (1970 ≤ y ∧ y ≤ 2029) ∧ (1 ≤ m ∧ m ≤ 12) := by simpa [isYM, isYear, isMonth] using hy
 have l := last_is w 0 (pick1 y m) (size y m) h1 h2
 have ho : onE 2 w 0 = 0 := by unfold onE; simp; omega
 unfold findE
 rw [if_neg (by omega), if_neg (by rw [hy]; simp), if_neg]
 unfold findR
 omega
theorem spring_years (m : Int) (h1 : 1 ≤ m) (h2 : m ≤ 12) : yearsOk 1980 2029 m 2 0 0 := fun z h3 h4 => last_fine (by simp [isYM, isYear, isMonth]; omega) (by omega) (by omega)
theorem sA_ok : sA.e = 0 := ruleE_ok rfl rfl (by decide) (spring_years 3 (by omega) (by omega))
theorem sB_ok : sB.e = 0 := ruleE_ok rfl rfl (by decide) (spring_years 10 (by omega) (by omega))
theorem springs_ok : firstE springs = 0 := firstE_all fun r hr => by
 rcases List.mem_cons.1 hr with rfl | hr
 ·exact sA_ok
 ·rcases List.mem_cons.1 hr with rfl | hr
  ·exact sB_ok
  ·cases hr
theorem spring_top (m a : Int) (h1 : 1 ≤ m) (h2 : m ≤ 12) (std t y : Int) (hy1 : 1980 ≤ y) (hy2 : y ≤ 2029) (hle : beginN y m 2 0 0 a std ≤ t) (hgt : y < 2029 → t < beginN (y + 1) m 2 0 0 a std) :
 topOf (fun y => beginN y m 2 0 0 a std) 1980 2029 t = some (beginN y m 2 0 0 a std) := by
 refine topOf_some ⟨y, hy1, hy2, rfl, hle, fun z q1 q2 => ?_⟩
 have h := hgt (by omega)
 rcases Int.lt_or_le (y + 1) z with q | q
 ·have := beginN_lt (a := a) (std := std) (lo := 1980) (hi := 2029) (spring_years m h1 h2) (y := y + 1) (z := z) (by omega) q q2
  show t < beginN z m 2 0 0 a std
  omega
 ·obtain rfl : z = y + 1 := by omega
  exact h
theorem latest2 (r q : Rl) (std t : Int) : latest [r, q] std t = lstep 1 (lstep 0 (-1, 0) (r.top std t)) (q.top std t) := rfl
end Gno
namespace Go.Proofs.YtbbbeldbhlehnaaGreatDoor
open Go.RowKit Gno
theorem spring_any (w : World) :
 Calls Tryz.prog 163 #[] w fun e w' => e = .returned (.slice (some ⟨w.heap.size, 0, none⟩) 2 2) ∧
  (w.alloc (.cells #[.int .i64 1980, .int .i64 2029, .int .i64 3, .int .i64 2, .int .i64 0, .int .i64 0, .int .i64 7200, .int .i64 3600, .string ⟨#[68]⟩,
   .int .i64 1980, .int .i64 2029, .int .i64 10, .int .i64 2, .int .i64 0, .int .i64 0, .int .i64 7200, .int .i64 0, .string ⟨#[83]⟩] 123)) = w' := by
 go_enter Tryz.func163, Tryz.ntmps163
 go_wp2
 go_ret
 exact ⟨rfl, rfl⟩
end Go.Proofs.YtbbbeldbhlehnaaGreatDoor
end
section
set_option maxRecDepth 100000
namespace Gno
open Go
def usB (b : UInt8) : UInt8 := if b = 95 then 32 else b
def cityF : List UInt8 → List UInt8 → List UInt8
 | acc, [] => acc
 | acc, b :: t => if b = 47 then cityF [] t else cityF (acc ++ [usB b]) t
def cityL (l : List UInt8) : List UInt8 := cityF [] l
def cityT (s : ByteArray) : ByteArray := ⟨(cityL s.data.toList).toArray⟩
theorem cityF_no : ∀ (l acc : List UInt8), (∀ b ∈ l, b ≠ 47) → cityF acc l = acc ++ l.map usB
 | [], acc, _ => by simp [cityF]
 | b :: t, acc, h => by
   rw [cityF, if_neg (h b (by simp)), cityF_no t _ (fun c hc => h c (by simp [hc]))]
   simp
theorem cityF_slash : ∀ (l acc m : List UInt8), cityF acc (l ++ 47 :: m) = cityF [] m
 | [], acc, m => by rw [List.nil_append, cityF, if_pos rfl]
 | b :: t, acc, m => by
   rw [List.cons_append, cityF]
   split
   ·exact cityF_slash t _ m
   ·exact cityF_slash t _ m
theorem rep_one : ∀ s : List UInt8, Lib.replaceK [95] [32] (Lib.count s [95]) s = s.map usB
 | [] => by
   rw [show Lib.count [] [95] = 0 from rfl]; rfl
 | b :: t => by
   have ih := rep_one t
   by_cases h : b = 95
   ·subst h
    have hi : Lib.index (95 :: t) [95] = ((0 : Nat) : Int) := by simp [Lib.index]
    rw [Lib.count_cons_eq, Nat.add_comm, Lib.replaceK_hit _ _ _ _ 0 hi]
    simp only [List.take_zero, List.nil_append, List.length_singleton, Nat.zero_add, List.drop_succ_cons, List.drop_zero, List.map_cons]
    rw [ih]
    rfl
   ·rw [Lib.count_cons_ne _ _ _ h]
    have hu : usB b = b := by unfold usB; rw [if_neg h]
    cases hc : Lib.count t [95] with
    | zero =>
      rw [hc] at ih
      rw [List.map_cons, hu, ← ih]
      rfl
    | succ k =>
      obtain ⟨i, hi⟩ := Lib.index_of_count (s := t) (old := [95]) (by omega)
      have hi2 : Lib.index (b :: t) [95] = ((i + 1 : Nat) : Int) := by
       have h1 : ([95] : List UInt8).isPrefixOf (b :: t) = false := by
        simp only [List.isPrefixOf, Bool.and_true]
        simpa using fun e : 95 = b => h e.symm
       unfold Lib.index
       rw [h1, hi]
       have : (((i : Nat) : Int) == -1) = false := by rw [beq_eq_false_iff_ne]; omega
       simp [this]
      rw [hc, Lib.replaceK_hit _ _ _ _ i hi] at ih
      rw [Lib.replaceK_hit _ _ _ _ (i + 1) hi2, List.map_cons, hu, ← ih]
      simp only [List.take_succ_cons, List.length_singleton, List.drop_succ_cons, List.cons_append]
theorem rep_all (s : List UInt8) : Lib.replaceAll s [95] [32] = s.map usB := by
 unfold Lib.replaceAll Lib.replace Lib.replaceNum
 rw [if_neg (by decide), if_pos (.inl (by omega))]
 exact rep_one s
theorem occ_slash {s : List UInt8} {j : Nat} : Lib.occAt s [47] j = true ↔ s[j]? = some 47 := by
 unfold Lib.occAt
 cases h : s.drop j with
 | nil =>
   have : s[j]? = none := by rw [List.getElem?_eq_none]; have := List.drop_eq_nil_iff.1 h; omega
   rw [this]; simp [List.isPrefixOf]
 | cons b t =>
   have : s[j]? = some b := by
    have h1 : (s.drop j)[0]? = some b := by rw [h]; rfl
    rwa [List.getElem?_drop, Nat.add_zero] at h1
   rw [this]
   simp only [List.isPrefixOf, Bool.and_true, beq_iff_eq, Option.some.injEq]
   exact eq_comm
theorem city_prog (l : List UInt8) : Lib.replaceAll (l.drop (Lib.lastIndex l [47] + 1).toNat) [95] [32] = cityL l := by
 rw [rep_all]
 unfold cityL
 have hno : ∀ {m : List UInt8}, (∀ j, j < m.length → m[j]? ≠ some 47) → ∀ b ∈ m, b ≠ 47 := fun {m} h b hb e => by
  obtain ⟨j, hj⟩ := List.getElem?_of_mem hb
  exact h j (List.getElem?_eq_some_iff.1 hj).1 (by rw [hj, e])
 unfold Lib.lastIndex
 split
 ·rename_i h0
  have hl1 : 1 ≤ l.length := h0
  have hk : l.length - [(47 : UInt8)].length + 1 = l.length := by show l.length - 1 + 1 = _; omega
  rw [hk]
  rcases Lib.lastOcc_spec l [47] l.length with ⟨e, hn⟩ | ⟨i, hi, e, hc, hn⟩
  ·rw [e, show ((-1 : Int) + 1).toNat = 0 from rfl, List.drop_zero, cityF_no l [] (hno fun j hj hq => by
    have := hn j hj
    rw [occ_slash.2 hq] at this; cases this)]
   rfl
  ·rw [e, show (((i : Nat) : Int) + 1).toNat = i + 1 by omega]
   have hi47 := occ_slash.1 hc
   have hs : l = l.take i ++ 47 :: l.drop (i + 1) := by
    have h1 := List.take_append_drop i l
    rw [List.drop_eq_getElem_cons hi, (List.getElem?_eq_some_iff.1 hi47).2] at h1
    exact h1.symm
   conv => rhs; rw [hs]
   rw [cityF_slash, cityF_no _ [] (hno fun j hj hq => by
    rw [List.length_drop] at hj
    rw [List.getElem?_drop] at hq
    have := hn (i + 1 + j) (by omega) (by omega)
    rw [occ_slash.2 hq] at this; cases this)]
   rfl
 ·rename_i h0
  have : l = [] := List.eq_nil_of_length_eq_zero (by have : ¬ 1 ≤ l.length := h0; omega)
  subst this
  rfl
theorem cityF_len : ∀ (l acc : List UInt8), (cityF acc l).length ≤ acc.length + l.length
 | [], acc => by simp [cityF]
 | b :: t, acc => by
   rw [cityF]
   split
   ·have := cityF_len t []; simp at this ⊢; omega
   ·have := cityF_len t (acc ++ [usB b]); simp at this ⊢; omega
theorem city_size (s : ByteArray) : (cityT s).size ≤ s.size := by
 have := cityF_len s.data.toList []
 show (cityL s.data.toList).toArray.size ≤ _
 rw [List.size_toArray]
 unfold cityL
 simpa using this
theorem cityF_pos : ∀ (l acc : List UInt8), l.getLast? ≠ some 47 → (acc ≠ [] ∨ l ≠ []) → cityF acc l ≠ []
 | [], acc, _, h => by
   rcases h with h | h
   ·simpa [cityF] using h
   ·exact absurd rfl h
 | [b], acc, hl, _ => by
   have : b ≠ 47 := fun e => hl (by rw [e]; rfl)
   rw [cityF, if_neg this]
   simp [cityF]
 | b :: c :: t, acc, hl, _ => by
   have hl2 : (c :: t).getLast? ≠ some 47 := by simpa [List.getLast?_cons_cons] using hl
   rw [cityF]
   split
   ·exact cityF_pos (c :: t) [] hl2 (.inr (by simp))
   ·exact cityF_pos (c :: t) _ hl2 (.inr (by simp))
end Gno
end
