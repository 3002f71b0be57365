/- The walk of RulesLater. -/
import Derived.Test.YtlmphmfadikdpaaRulesTells
import Derived.Test.YtlmphmfadikdpaaLatestLaw
import Derived.Test.YtlmphmfadikdpaaChoose
set_option linter.unusedVariables false
namespace Gno
theorem lastE_inv {rs : List Rl} {std t : Int} (h : lastE rs std t = 0) : ¬ 4 < rs.length ∧ (∀ r ∈ rs, r.e = 0) ∧ stdOk std = true ∧ tOk t = true ∧ 0 ≤ (latest rs std t).1 ∧ lastK rs std t = (latest rs std t).1 ∧ lastT rs std t = (latest rs std t).2 := by
  have e := h
  unfold lastE at h
  by_cases h1 : 4 < rs.length
  · rw [if_pos h1] at h; omega
  · rw [if_neg h1] at h
    by_cases h2 : firstE rs ≠ 0
    · rw [if_pos h2] at h; exact absurd h h2
    · rw [if_neg h2] at h
      cases h3 : (stdOk std && tOk t)
      · rw [if_pos h3] at h; omega
      · rw [if_neg (by rw [h3]; simp)] at h
        by_cases h4 : lastB (latest rs std t) = true
        · have h5 : 0 ≤ (latest rs std t).1 := by simpa [lastB] using h4
          have h6 : stdOk std = true ∧ tOk t = true := by simpa using h3
          have := lastE_ok (std := std) (t := t) h1 (by omega) h3 h5
          exact ⟨h1, firstE_zero (by omega), h6.1, h6.2, h5, this.2.1, this.2.2⟩
        · rw [if_neg h4] at h; omega
/-- what the last one of the list tells of a year of one of its rules. -/
theorem last_tells {rs : List Rl} {std t : Int} {j : Nat} {r : Rl} (hr : rs[j]? = some r) {y : Int} (h1 : r.fy ≤ y) (h2 : y ≤ r.ty) (h : lastE rs std t = 0) :
    0 ≤ lastK rs std t ∧ lastK rs std t < rs.length ∧ lastT rs std t ≤ t ∧ (t < r.g std y ∨ r.g std y ≤ lastT rs std t) := by
  obtain ⟨_, hE, _, _, h5, h6, h7⟩ := lastE_inv h
  have g := (latest_good rs std t hE).2 h5
  rw [h6, h7]
  have hj : j < rs.length := (List.getElem?_eq_some_iff.1 hr).1
  refine ⟨h5, g.1, g.2.1, ?_⟩
  rcases Int.lt_or_le t (r.g std y) with q | q
  · exact .inl q
  · exact .inr (g.2.2.2.1 j r hj hr y h1 h2 q)
theorem none_tells {rs : List Rl} {std t : Int} {j : Nat} {r : Rl} (hr : rs[j]? = some r) (hre : r.e = 0) {y : Int} (h1 : r.fy ≤ y) (h2 : y ≤ r.ty) (hs : stdOk std = true) (h : lastE rs std t = 4) :
    t < r.g std y ∨ (∃ q ∈ rs, q.e = 4) := by
  unfold lastE at h
  by_cases q1 : 4 < rs.length
  · rw [if_pos q1] at h; omega
  · rw [if_neg q1] at h
    by_cases q2 : firstE rs ≠ 0
    · rw [if_pos q2] at h
      refine .inr ?_
      have key : ∀ l : List Rl, firstE l = 4 → ∃ q ∈ l, q.e = 4 := by
        intro l
        induction l with
        | nil => intro hl; simp [firstE] at hl
        | cons p l ih =>
          intro hl
          unfold firstE at hl
          by_cases hp : p.e ≠ 0
          · rw [if_pos hp] at hl; exact ⟨p, by simp, hl⟩
          · rw [if_neg hp] at hl
            obtain ⟨q, hq, he⟩ := ih hl
            exact ⟨q, by simp [hq], he⟩
      exact key rs h
    · rw [if_neg q2] at h
      cases h3 : (stdOk std && tOk t)
      · rw [if_pos h3] at h; omega
      · rw [if_neg (by rw [h3]; simp)] at h
        by_cases h4 : lastB (latest rs std t) = true
        · rw [if_pos h4] at h; omega
        · have hE := firstE_zero (rs := rs) (by omega)
          have hlt : (latest rs std t).1 < 0 := by
            rcases Int.lt_or_le (latest rs std t).1 0 with w | w
            · exact w
            · exact absurd (by simp [lastB, w]) h4
          exact .inl ((latest_good rs std t hE).1 hlt j r (List.getElem?_eq_some_iff.1 hr).1 hr y h1 h2)
/-- who asks later than one who was told is told, unless he asks too late. -/
theorem later_tells {rs : List Rl} {std s t : Int} (h : lastE rs std s = 0) (hst : s ≤ t) (ht : lastE rs std t ≠ 0) : lastE rs std t = 3 := by
  obtain ⟨h1, hE, hs, h4, h5, h6, h7⟩ := lastE_inv h
  have h0 := firstE_all hE
  cases hb : tOk t
  · exact (lastE_range h1 h0 (by simp [hb])).1
  · exact absurd (lastE_ok h1 h0 (by simp [hs, hb]) (latest_mono rs std s t hE hst h5).1).1 ht
theorem later_mono {rs : List Rl} {std s t : Int} (h : lastE rs std s = 0) (hst : s ≤ t) (ht : lastE rs std t = 0) : lastT rs std s ≤ lastT rs std t := by
  obtain ⟨h1, hE, hs, h4, h5, h6, h7⟩ := lastE_inv h
  obtain ⟨_, _, _, _, _, _, k7⟩ := lastE_inv ht
  rw [h7, k7]
  exact (latest_mono rs std s t hE hst h5).2
theorem told {rs : List Rl} {std s : Int} (h : lastE rs std s = 0) : ∃ (j : Nat) (r : Rl), lastK rs std s = (j : Int) ∧ j < rs.length ∧ rs[j]? = some r ∧ r.e = 0 ∧ lastT rs std s ≤ s ∧ s ≤ 1893455999 ∧ stdOk std = true ∧ ∃ y, r.fy ≤ y ∧ y ≤ r.ty ∧ r.g std y = lastT rs std s := by
  obtain ⟨h1, hE, hs, h4, h5, h6, h7⟩ := lastE_inv h
  obtain ⟨g1, g2, ⟨r, gr, y, y1, y2, y3⟩, _⟩ := (latest_good rs std s hE).2 h5
  have hj := (List.getElem?_eq_some_iff.1 gr).1
  refine ⟨(latest rs std s).1.toNat, r, by rw [h6]; omega, hj, gr, ?_, by rw [h7]; exact g2, ((tOk_iff s).1 h4).2, hs, y, y1, y2, by rw [h7]; exact y3⟩
  have : rs[(latest rs std s).1.toNat] = r := (List.getElem?_eq_some_iff.1 gr).2
  exact hE r (by rw [← this]; exact List.getElem_mem hj)
theorem told_again {rs : List Rl} {std s : Int} (h : lastE rs std s = 0) (ha : 0 ≤ lastT rs std s) : lastE rs std (lastT rs std s) = 0 ∧ lastK rs std (lastT rs std s) = lastK rs std s ∧ lastT rs std (lastT rs std s) = lastT rs std s := by
  obtain ⟨h1, hE, hs, h4, h5, h6, h7⟩ := lastE_inv h
  have g2 := ((latest_good rs std s hE).2 h5).2.1
  have ht := (tOk_iff s).1 h4
  rw [h7] at ha
  rw [h6, h7]
  have e := latest_again rs std s hE h5
  obtain ⟨a, ea⟩ : ∃ a, a = (latest rs std s).2 := ⟨_, rfl⟩
  have hta : tOk a = true := (tOk_iff a).2 ⟨by omega, by omega⟩
  have := lastE_ok (t := a) h1 (firstE_all hE) (by rw [hs, hta]; rfl) (by rw [ea, e]; exact h5)
  rw [ea, e] at this
  exact this
/-- whether one of the years from lo up to y is told a. -/
def Seen (g : Int → Int) (lo y a : Int) (b : Bool) : Prop := b = true ↔ ∃ z, lo ≤ z ∧ z < y ∧ g z = a
theorem Seen.start (g : Int → Int) (lo a : Int) : Seen g lo lo a false := ⟨fun h => absurd h (by decide), fun ⟨z, h1, h2, _⟩ => by omega⟩
theorem Seen.was {g : Int → Int} {lo y a : Int} (h : Seen g lo y a true) : Seen g lo (y + 1) a true := by
  refine ⟨fun _ => ?_, fun _ => rfl⟩
  obtain ⟨z, h1, h2, h3⟩ := h.1 rfl
  exact ⟨z, h1, by omega, h3⟩
theorem Seen.yes {g : Int → Int} {lo y a : Int} {b : Bool} (h0 : lo ≤ y) (h : g y = a) : Seen g lo (y + 1) a true := ⟨fun _ => ⟨y, h0, by omega, h⟩, fun _ => rfl⟩
theorem Seen.no {g : Int → Int} {lo y a : Int} (h : Seen g lo y a false) (hn : g y ≠ a) : Seen g lo (y + 1) a false := by
  refine ⟨fun q => absurd q (by decide), fun ⟨z, h1, h2, h3⟩ => ?_⟩
  rcases Int.lt_or_le z y with q | q
  · exact h.2 ⟨z, h1, q, h3⟩
  · obtain rfl : z = y := by omega
    exact absurd h3 hn
theorem Seen.last {g : Int → Int} {lo hi y a : Int} {b : Bool} (h : Seen g lo y a b) (hy : hi < y) (hx : ∃ z, lo ≤ z ∧ z ≤ hi ∧ g z = a) : b = true := by
  obtain ⟨z, h1, h2, h3⟩ := hx
  exact h.2 ⟨z, h1, by omega, h3⟩
end Gno
namespace Go.Proofs.Ytlmphmfadikdpaa
open Go.RowKit Gno
/-- what At tells of a right rule. -/
theorem at_right (r : Rl) (std y : Int) (w : World) (hle : r.le.size ≤ maxLen) (he : r.e = 0) (hs : stdOk std = true) (h1 : r.fy ≤ y) (h2 : y ≤ r.ty) :
    Calls Try.prog 35 #[.agg #[.int .i64 r.fy, .int .i64 r.ty, .int .i64 r.mo, .int .i64 r.k, .int .i64 r.wk, .int .i64 r.d, .int .i64 r.a, .int .i64 r.sv, .string r.le], .int .i64 y, .int .i64 std] w fun e w' => e = .returned (.tuple #[.int .i64 (r.g std y), .int .i64 0]) ∧ Below w.heap.size w w' := by
  have h := at9_any r.fy r.ty r.mo r.k r.wk r.d r.a r.sv y std r.le w hle
  have e : ruleE r.fy r.ty r.mo r.k r.wk r.d r.a r.sv r.le = 0 := he
  have E1 : atN r.fy r.ty r.mo r.k r.wk r.d r.a r.sv r.le y std = r.g std y := by unfold atN; rw [if_neg (by omega), if_pos ⟨⟨h1, h2⟩, hs⟩]; rfl
  have E2 : atE r.fy r.ty r.mo r.k r.wk r.d r.a r.sv r.le y std = 0 := by unfold atE; rw [if_neg (by omega), if_pos ⟨⟨h1, h2⟩, hs⟩]
  rw [E1, E2] at h
  exact h
set_option maxRecDepth 100000 in
set_option maxHeartbeats 4000000 in
theorem rulesLater_no1 (A : Option Addr) (n cap : Nat) (rs : List Rl) (std one two : Int) (w : World) (hR : RulesAt w w.heap.size A n rs) (k a e1 i b e2 : Int) (he : (e1 != 0) = true)
    (l1 : ∀ w, RulesAt w w.heap.size A n rs → Calls Try.prog 40 #[.slice A n cap, .int .i64 std, .int .i64 one] w fun e w' => e = .returned (.tuple #[.int .i64 k, .int .i64 a, .int .i64 e1]) ∧ Below w.heap.size w w')
    (l2 : ∀ w, RulesAt w w.heap.size A n rs → Calls Try.prog 40 #[.slice A n cap, .int .i64 std, .int .i64 two] w fun e w' => e = .returned (.tuple #[.int .i64 i, .int .i64 b, .int .i64 e2]) ∧ Below w.heap.size w w') :
    Calls Try.prog 14 #[.slice A n cap, .int .i64 std, .int .i64 one, .int .i64 two] w fun e w' => e = .returned (.bool true) ∧ Below w.heap.size w w' := by
  have HR := Lib.hid hR
  have L1 := Lib.hid l1
  have L2 := Lib.hid l2
  clear hR l1 l2
  go_enter Try.func14, Try.ntmps14
  go_wp2_with fail
  refine (L1.out _ HR.out).mono ?_
  rintro e w1 ⟨rfl, hb1⟩
  go_wp2_with fail
  refine (L2.out _ ((HR.out.below hb1 (Nat.le_refl _)).more hb1.size)).mono ?_
  rintro e w2 ⟨rfl, hb2⟩
  have h2 : Below w.heap.size w w2 := hb1.trans (hb2.mono hb1.size)
  clear hb1 hb2
  go_wp2_with fail
  refine (rulesBegun_any _).mono ?_
  rintro e w3 ⟨rfl, hb3⟩
  have h3 : Below w.heap.size w w3 := h2.trans (hb3.mono h2.size)
  go_wp2
  go_ret
  exact ⟨rfl, h3⟩

set_option maxRecDepth 100000 in
set_option maxHeartbeats 4000000 in
theorem rulesLater_no2 (A : Option Addr) (n cap : Nat) (rs : List Rl) (std one two : Int) (w : World) (hR : RulesAt w w.heap.size A n rs) (k a i b e2 : Int) (he : (e2 != 0) = true) (hq : two < one ∨ e2 = 3)
    (l1 : ∀ w, RulesAt w w.heap.size A n rs → Calls Try.prog 40 #[.slice A n cap, .int .i64 std, .int .i64 one] w fun e w' => e = .returned (.tuple #[.int .i64 k, .int .i64 a, .int .i64 0]) ∧ Below w.heap.size w w')
    (l2 : ∀ w, RulesAt w w.heap.size A n rs → Calls Try.prog 40 #[.slice A n cap, .int .i64 std, .int .i64 two] w fun e w' => e = .returned (.tuple #[.int .i64 i, .int .i64 b, .int .i64 e2]) ∧ Below w.heap.size w w') :
    Calls Try.prog 14 #[.slice A n cap, .int .i64 std, .int .i64 one, .int .i64 two] w fun e w' => e = .returned (.bool true) ∧ Below w.heap.size w w' := by
  have HR := Lib.hid hR
  have L1 := Lib.hid l1
  have L2 := Lib.hid l2
  clear hR l1 l2
  by_cases ho : two < one
  · clear hq
    go_enter Try.func14, Try.ntmps14
    go_wp2_with fail
    refine (L1.out _ HR.out).mono ?_
    rintro e w1 ⟨rfl, hb1⟩
    go_wp2_with fail
    refine (L2.out _ ((HR.out.below hb1 (Nat.le_refl _)).more hb1.size)).mono ?_
    rintro e w2 ⟨rfl, hb2⟩
    have h2 : Below w.heap.size w w2 := hb1.trans (hb2.mono hb1.size)
    clear hb1 hb2
    go_wp2_with fail
    refine (rulesBegun_any _).mono ?_
    rintro e w3 ⟨rfl, hb3⟩
    have h3 : Below w.heap.size w w3 := h2.trans (hb3.mono h2.size)
    go_wp2
    go_ret
    exact ⟨rfl, h3⟩
  · obtain rfl : e2 = 3 := by omega
    clear hq he
    go_enter Try.func14, Try.ntmps14
    go_wp2_with fail
    refine (L1.out _ HR.out).mono ?_
    rintro e w1 ⟨rfl, hb1⟩
    go_wp2_with fail
    refine (L2.out _ ((HR.out.below hb1 (Nat.le_refl _)).more hb1.size)).mono ?_
    rintro e w2 ⟨rfl, hb2⟩
    have h2 : Below w.heap.size w w2 := hb1.trans (hb2.mono hb1.size)
    clear hb1 hb2
    go_wp2_with fail
    refine (rulesBegun_any _).mono ?_
    rintro e w3 ⟨rfl, hb3⟩
    have h3 : Below w.heap.size w w3 := h2.trans (hb3.mono h2.size)
    go_wp2
    go_ret
    exact ⟨rfl, h3⟩

set_option maxRecDepth 100000 in
set_option maxHeartbeats 4000000 in
theorem rulesLater_lt (A : Option Addr) (n cap : Nat) (rs : List Rl) (std one two : Int) (w : World) (hR : RulesAt w w.heap.size A n rs) (k : Int) (j : Nat) (r : Rl) (a i b : Int) (hot : one < two) (hab : a ≤ b) (hkj : k = (j : Int)) (hri : rs[j]? = some r)
    (l1 : ∀ w, RulesAt w w.heap.size A n rs → Calls Try.prog 40 #[.slice A n cap, .int .i64 std, .int .i64 one] w fun e w' => e = .returned (.tuple #[.int .i64 k, .int .i64 a, .int .i64 0]) ∧ Below w.heap.size w w')
    (l2 : ∀ w, RulesAt w w.heap.size A n rs → Calls Try.prog 40 #[.slice A n cap, .int .i64 std, .int .i64 two] w fun e w' => e = .returned (.tuple #[.int .i64 i, .int .i64 b, .int .i64 0]) ∧ Below w.heap.size w w')
    (l3 : 0 ≤ a → ∀ w, RulesAt w w.heap.size A n rs → Calls Try.prog 40 #[.slice A n cap, .int .i64 std, .int .i64 a] w fun e w' => e = .returned (.tuple #[.int .i64 k, .int .i64 a, .int .i64 0]) ∧ Below w.heap.size w w')
    (he : r.e = 0) (hs : stdOk std = true) (hex : ∃ z, r.fy ≤ z ∧ z ≤ r.ty ∧ r.g std z = a) :
    Calls Try.prog 14 #[.slice A n cap, .int .i64 std, .int .i64 one, .int .i64 two] w fun e w' => e = .returned (.bool true) ∧ Below w.heap.size w w' := by
  have hbas := (ruleBasic_iff _ _ _ _ _).1 (ruleE_zero he).1
  have y1 := hbas.1
  have y2 := hbas.2.1
  have y3 := hbas.2.2.1
  have hjl := (List.getElem?_eq_some_iff.1 hri).1
  have hlen := hR.1
  have hn : n ≤ 9223372036854775807 := hR.2.1
  have hjn : j < n := by omega
  have hk0 : 0 ≤ k := by omega
  have hkn : k < (n : Int) := by omega
  have hkt : j = k.toNat := by omega
  obtain ⟨o, f, hA, hbB, hc⟩ := hR.2.2 (by omega)
  subst hA
  obtain ⟨⟨e0, e1, e2, e3, e4, e5, e6, e7, e8⟩, hle⟩ := hc j r hri
  rw [hkt] at e0 e1 e2 e3 e4 e5 e6 e7 e8
  have AT := Lib.hid (fun y h1 h2 w => at_right r std y w hle he hs h1 h2)
  have HC := Lib.hid (⟨e0, e1, e2, e3, e4, e5, e6, e7, e8⟩ : _ ∧ _ ∧ _ ∧ _ ∧ _ ∧ _ ∧ _ ∧ _ ∧ _)
  have HR := Lib.hid hR
  have L1 := Lib.hid l1
  have L2 := Lib.hid l2
  have L3 := Lib.hid l3
  have HX := Lib.hid hex
  clear hR l1 l2 l3 hc he hs hle hex hbas hri hjl hkt hkj hlen hjn e0 e1 e2 e3 e4 e5 e6 e7 e8
  skip
  go_enter Try.func14, Try.ntmps14
  go_wp2_with fail
  refine (L1.out _ HR.out).mono ?_
  rintro e w1 ⟨rfl, hb1⟩
  go_wp2_with fail
  refine (L2.out _ ((HR.out.below hb1 (Nat.le_refl _)).more hb1.size)).mono ?_
  rintro e w2 ⟨rfl, hb2⟩
  have h2 : Below w.heap.size w w2 := hb1.trans (hb2.mono hb1.size)
  clear hb1 hb2
  have cells : Hid (∀ w', Below w.heap.size w w' → w'.cell? ⟨o, f + k.toNat * 9, none⟩ = some (.int .i64 r.fy) ∧ w'.cell? ⟨o, f + k.toNat * 9 + 1, none⟩ = some (.int .i64 r.ty) ∧ w'.cell? ⟨o, f + k.toNat * 9 + 2, none⟩ = some (.int .i64 r.mo) ∧ w'.cell? ⟨o, f + k.toNat * 9 + 3, none⟩ = some (.int .i64 r.k) ∧
      w'.cell? ⟨o, f + k.toNat * 9 + 4, none⟩ = some (.int .i64 r.wk) ∧ w'.cell? ⟨o, f + k.toNat * 9 + 5, none⟩ = some (.int .i64 r.d) ∧ w'.cell? ⟨o, f + k.toNat * 9 + 6, none⟩ = some (.int .i64 r.a) ∧ w'.cell? ⟨o, f + k.toNat * 9 + 7, none⟩ = some (.int .i64 r.sv) ∧ w'.cell? ⟨o, f + k.toNat * 9 + 8, none⟩ = some (.string r.le)) := Lib.hid (fun w' hb => by
    obtain ⟨e0, e1, e2, e3, e4, e5, e6, e7, e8⟩ := HC.out
    exact ⟨(hb.cell hbB).trans e0, (hb.cell hbB).trans e1, (hb.cell hbB).trans e2, (hb.cell hbB).trans e3, (hb.cell hbB).trans e4, (hb.cell hbB).trans e5, (hb.cell hbB).trans e6, (hb.cell hbB).trans e7, (hb.cell hbB).trans e8⟩)
  obtain ⟨c0, c1, c2, c3, c4, c5, c6, c7, c8⟩ := cells.out _ h2
  go_wp2
  go_loopw [15, 16] (fun b0 b1 wr => ∃ (s : Bool) (y : Int), r.fy ≤ y ∧ y ≤ r.ty + 1 ∧ b0 = .bool s ∧ b1 = .int .i64 y ∧ Hid (Seen (r.g std) r.fy y a s) ∧ Below w.heap.size w wr) (fun _ b1 _ => (r.ty + 1 - intOf b1).toNat)
  case atStart => exact ⟨false, r.fy, Int.le_refl _, by omega, rfl, rfl, Lib.hid (Seen.start _ _ _), h2⟩
  case round =>
    obtain ⟨s, y, hy1, hy2, rfl, rfl, hS, hb⟩ := hrel
    clear c0 c1 c2 c3 c4 c5 c6 c7 c8
    obtain ⟨c0, c1, c2, c3, c4, c5, c6, c7, c8⟩ := cells.out _ hb
    by_cases hlt : y ≤ r.ty
    · have AY := Lib.hid (AT.out y hy1 hlt)
      obtain ⟨m, hm⟩ : ∃ m, m = r.g std y := ⟨_, rfl⟩
      rw [← hm] at AY
      cases s
      · by_cases hma : m = a
        · have hmb : (m == a) = true := by simpa using hma
          have HS := Lib.hid (Seen.yes (g := r.g std) (a := a) (b := true) hy1 (by rw [← hm]; exact hma))
          clear hma hm
          go_wp2_with (go_at_call 35; (with_reducible refine (AY.out _).mono ?_); rintro e w4 ⟨rfl, hb4⟩; have hb5 := hb.trans (hb4.mono hb.size); clear hb4)
          go_roundw
          case rel => exact ⟨true, y + 1, by omega, by omega, rfl, rfl, HS, hb5⟩
          case measure => simp [intOf]; omega
        · have hmb : (m == a) = false := by simpa using hma
          have HS := Lib.hid (Seen.no hS.out (by rw [← hm]; exact hma))
          clear hma hm
          go_wp2_with (go_at_call 35; (with_reducible refine (AY.out _).mono ?_); rintro e w4 ⟨rfl, hb4⟩; have hb5 := hb.trans (hb4.mono hb.size); clear hb4)
          go_roundw
          case rel => exact ⟨false, y + 1, by omega, by omega, rfl, rfl, HS, hb5⟩
          case measure => simp [intOf]; omega
      · have HS := Lib.hid (Seen.was hS.out)
        clear hm
        go_wp2_with (go_at_call 35; (with_reducible refine (AY.out _).mono ?_); rintro e w4 ⟨rfl, hb4⟩; have hb5 := hb.trans (hb4.mono hb.size); clear hb4)
        go_roundw
        case rel => exact ⟨true, y + 1, by omega, by omega, rfl, rfl, HS, hb5⟩
        case measure => simp [intOf]; omega
    · have hst : s = true := hS.out.last (by omega) HX.out
      subst hst
      clear hS
      by_cases ha : a < 0
      · go_wp2_with fail
        refine (rulesBegun_any _).mono ?_
        rintro e w3 ⟨rfl, hb3⟩
        have h3 : Below w.heap.size w w3 := hb.trans (hb3.mono hb.size)
        go_wp2
        go_ret
        exact ⟨rfl, h3⟩
      · go_wp2_with fail
        refine (L3.out (by omega) _ ((HR.out.below hb (Nat.le_refl _)).more hb.size)).mono ?_
        rintro e w4 ⟨rfl, hb4⟩
        have h4 : Below w.heap.size w w4 := hb.trans (hb4.mono hb.size)
        clear hb4
        go_wp2_with fail
        refine (rulesBegun_any _).mono ?_
        rintro e w3 ⟨rfl, hb3⟩
        have h3 : Below w.heap.size w w3 := h4.trans (hb3.mono h4.size)
        go_wp2
        go_ret
        exact ⟨rfl, h3⟩

set_option maxRecDepth 100000 in
set_option maxHeartbeats 4000000 in
theorem rulesLater_eq (A : Option Addr) (n cap : Nat) (rs : List Rl) (std one two : Int) (w : World) (hR : RulesAt w w.heap.size A n rs) (k : Int) (j : Nat) (r : Rl) (a i b : Int) (hot : one = two) (hij : k = i) (hab : a = b) (hkj : k = (j : Int)) (hri : rs[j]? = some r)
    (l1 : ∀ w, RulesAt w w.heap.size A n rs → Calls Try.prog 40 #[.slice A n cap, .int .i64 std, .int .i64 one] w fun e w' => e = .returned (.tuple #[.int .i64 k, .int .i64 a, .int .i64 0]) ∧ Below w.heap.size w w')
    (l2 : ∀ w, RulesAt w w.heap.size A n rs → Calls Try.prog 40 #[.slice A n cap, .int .i64 std, .int .i64 two] w fun e w' => e = .returned (.tuple #[.int .i64 i, .int .i64 b, .int .i64 0]) ∧ Below w.heap.size w w')
    (l3 : 0 ≤ a → ∀ w, RulesAt w w.heap.size A n rs → Calls Try.prog 40 #[.slice A n cap, .int .i64 std, .int .i64 a] w fun e w' => e = .returned (.tuple #[.int .i64 k, .int .i64 a, .int .i64 0]) ∧ Below w.heap.size w w')
    (he : r.e = 0) (hs : stdOk std = true) (hex : ∃ z, r.fy ≤ z ∧ z ≤ r.ty ∧ r.g std z = a) :
    Calls Try.prog 14 #[.slice A n cap, .int .i64 std, .int .i64 one, .int .i64 two] w fun e w' => e = .returned (.bool true) ∧ Below w.heap.size w w' := by
  have hbas := (ruleBasic_iff _ _ _ _ _).1 (ruleE_zero he).1
  have y1 := hbas.1
  have y2 := hbas.2.1
  have y3 := hbas.2.2.1
  have hjl := (List.getElem?_eq_some_iff.1 hri).1
  have hlen := hR.1
  have hn : n ≤ 9223372036854775807 := hR.2.1
  have hjn : j < n := by omega
  have hk0 : 0 ≤ k := by omega
  have hkn : k < (n : Int) := by omega
  have hkt : j = k.toNat := by omega
  obtain ⟨o, f, hA, hbB, hc⟩ := hR.2.2 (by omega)
  subst hA
  obtain ⟨⟨e0, e1, e2, e3, e4, e5, e6, e7, e8⟩, hle⟩ := hc j r hri
  rw [hkt] at e0 e1 e2 e3 e4 e5 e6 e7 e8
  have AT := Lib.hid (fun y h1 h2 w => at_right r std y w hle he hs h1 h2)
  have HC := Lib.hid (⟨e0, e1, e2, e3, e4, e5, e6, e7, e8⟩ : _ ∧ _ ∧ _ ∧ _ ∧ _ ∧ _ ∧ _ ∧ _ ∧ _)
  have HR := Lib.hid hR
  have L1 := Lib.hid l1
  have L2 := Lib.hid l2
  have L3 := Lib.hid l3
  have HX := Lib.hid hex
  clear hR l1 l2 l3 hc he hs hle hex hbas hri hjl hkt hkj hlen hjn e0 e1 e2 e3 e4 e5 e6 e7 e8
  subst hij; subst hab; subst hot
  go_enter Try.func14, Try.ntmps14
  go_wp2_with fail
  refine (L1.out _ HR.out).mono ?_
  rintro e w1 ⟨rfl, hb1⟩
  go_wp2_with fail
  refine (L2.out _ ((HR.out.below hb1 (Nat.le_refl _)).more hb1.size)).mono ?_
  rintro e w2 ⟨rfl, hb2⟩
  have h2 : Below w.heap.size w w2 := hb1.trans (hb2.mono hb1.size)
  clear hb1 hb2
  have cells : Hid (∀ w', Below w.heap.size w w' → w'.cell? ⟨o, f + k.toNat * 9, none⟩ = some (.int .i64 r.fy) ∧ w'.cell? ⟨o, f + k.toNat * 9 + 1, none⟩ = some (.int .i64 r.ty) ∧ w'.cell? ⟨o, f + k.toNat * 9 + 2, none⟩ = some (.int .i64 r.mo) ∧ w'.cell? ⟨o, f + k.toNat * 9 + 3, none⟩ = some (.int .i64 r.k) ∧
      w'.cell? ⟨o, f + k.toNat * 9 + 4, none⟩ = some (.int .i64 r.wk) ∧ w'.cell? ⟨o, f + k.toNat * 9 + 5, none⟩ = some (.int .i64 r.d) ∧ w'.cell? ⟨o, f + k.toNat * 9 + 6, none⟩ = some (.int .i64 r.a) ∧ w'.cell? ⟨o, f + k.toNat * 9 + 7, none⟩ = some (.int .i64 r.sv) ∧ w'.cell? ⟨o, f + k.toNat * 9 + 8, none⟩ = some (.string r.le)) := Lib.hid (fun w' hb => by
    obtain ⟨e0, e1, e2, e3, e4, e5, e6, e7, e8⟩ := HC.out
    exact ⟨(hb.cell hbB).trans e0, (hb.cell hbB).trans e1, (hb.cell hbB).trans e2, (hb.cell hbB).trans e3, (hb.cell hbB).trans e4, (hb.cell hbB).trans e5, (hb.cell hbB).trans e6, (hb.cell hbB).trans e7, (hb.cell hbB).trans e8⟩)
  obtain ⟨c0, c1, c2, c3, c4, c5, c6, c7, c8⟩ := cells.out _ h2
  go_wp2
  go_loopw [15, 16] (fun b0 b1 wr => ∃ (s : Bool) (y : Int), r.fy ≤ y ∧ y ≤ r.ty + 1 ∧ b0 = .bool s ∧ b1 = .int .i64 y ∧ Hid (Seen (r.g std) r.fy y a s) ∧ Below w.heap.size w wr) (fun _ b1 _ => (r.ty + 1 - intOf b1).toNat)
  case atStart => exact ⟨false, r.fy, Int.le_refl _, by omega, rfl, rfl, Lib.hid (Seen.start _ _ _), h2⟩
  case round =>
    obtain ⟨s, y, hy1, hy2, rfl, rfl, hS, hb⟩ := hrel
    clear c0 c1 c2 c3 c4 c5 c6 c7 c8
    obtain ⟨c0, c1, c2, c3, c4, c5, c6, c7, c8⟩ := cells.out _ hb
    by_cases hlt : y ≤ r.ty
    · have AY := Lib.hid (AT.out y hy1 hlt)
      obtain ⟨m, hm⟩ : ∃ m, m = r.g std y := ⟨_, rfl⟩
      rw [← hm] at AY
      cases s
      · by_cases hma : m = a
        · have hmb : (m == a) = true := by simpa using hma
          have HS := Lib.hid (Seen.yes (g := r.g std) (a := a) (b := true) hy1 (by rw [← hm]; exact hma))
          clear hma hm
          go_wp2_with (go_at_call 35; (with_reducible refine (AY.out _).mono ?_); rintro e w4 ⟨rfl, hb4⟩; have hb5 := hb.trans (hb4.mono hb.size); clear hb4)
          go_roundw
          case rel => exact ⟨true, y + 1, by omega, by omega, rfl, rfl, HS, hb5⟩
          case measure => simp [intOf]; omega
        · have hmb : (m == a) = false := by simpa using hma
          have HS := Lib.hid (Seen.no hS.out (by rw [← hm]; exact hma))
          clear hma hm
          go_wp2_with (go_at_call 35; (with_reducible refine (AY.out _).mono ?_); rintro e w4 ⟨rfl, hb4⟩; have hb5 := hb.trans (hb4.mono hb.size); clear hb4)
          go_roundw
          case rel => exact ⟨false, y + 1, by omega, by omega, rfl, rfl, HS, hb5⟩
          case measure => simp [intOf]; omega
      · have HS := Lib.hid (Seen.was hS.out)
        clear hm
        go_wp2_with (go_at_call 35; (with_reducible refine (AY.out _).mono ?_); rintro e w4 ⟨rfl, hb4⟩; have hb5 := hb.trans (hb4.mono hb.size); clear hb4)
        go_roundw
        case rel => exact ⟨true, y + 1, by omega, by omega, rfl, rfl, HS, hb5⟩
        case measure => simp [intOf]; omega
    · have hst : s = true := hS.out.last (by omega) HX.out
      subst hst
      clear hS
      by_cases ha : a < 0
      · go_wp2_with fail
        refine (rulesBegun_any _).mono ?_
        rintro e w3 ⟨rfl, hb3⟩
        have h3 : Below w.heap.size w w3 := hb.trans (hb3.mono hb.size)
        go_wp2
        go_ret
        exact ⟨rfl, h3⟩
      · go_wp2_with fail
        refine (L3.out (by omega) _ ((HR.out.below hb (Nat.le_refl _)).more hb.size)).mono ?_
        rintro e w4 ⟨rfl, hb4⟩
        have h4 : Below w.heap.size w w4 := hb.trans (hb4.mono hb.size)
        clear hb4
        go_wp2_with fail
        refine (rulesBegun_any _).mono ?_
        rintro e w3 ⟨rfl, hb3⟩
        have h3 : Below w.heap.size w w3 := h4.trans (hb3.mono h4.size)
        go_wp2
        go_ret
        exact ⟨rfl, h3⟩

set_option maxRecDepth 100000 in
set_option maxHeartbeats 4000000 in
theorem rulesLater_gt (A : Option Addr) (n cap : Nat) (rs : List Rl) (std one two : Int) (w : World) (hR : RulesAt w w.heap.size A n rs) (k : Int) (j : Nat) (r : Rl) (a i b : Int) (hot : two < one) (hkj : k = (j : Int)) (hri : rs[j]? = some r)
    (l1 : ∀ w, RulesAt w w.heap.size A n rs → Calls Try.prog 40 #[.slice A n cap, .int .i64 std, .int .i64 one] w fun e w' => e = .returned (.tuple #[.int .i64 k, .int .i64 a, .int .i64 0]) ∧ Below w.heap.size w w')
    (l2 : ∀ w, RulesAt w w.heap.size A n rs → Calls Try.prog 40 #[.slice A n cap, .int .i64 std, .int .i64 two] w fun e w' => e = .returned (.tuple #[.int .i64 i, .int .i64 b, .int .i64 0]) ∧ Below w.heap.size w w')
    (l3 : 0 ≤ a → ∀ w, RulesAt w w.heap.size A n rs → Calls Try.prog 40 #[.slice A n cap, .int .i64 std, .int .i64 a] w fun e w' => e = .returned (.tuple #[.int .i64 k, .int .i64 a, .int .i64 0]) ∧ Below w.heap.size w w')
    (he : r.e = 0) (hs : stdOk std = true) (hex : ∃ z, r.fy ≤ z ∧ z ≤ r.ty ∧ r.g std z = a) :
    Calls Try.prog 14 #[.slice A n cap, .int .i64 std, .int .i64 one, .int .i64 two] w fun e w' => e = .returned (.bool true) ∧ Below w.heap.size w w' := by
  have hbas := (ruleBasic_iff _ _ _ _ _).1 (ruleE_zero he).1
  have y1 := hbas.1
  have y2 := hbas.2.1
  have y3 := hbas.2.2.1
  have hjl := (List.getElem?_eq_some_iff.1 hri).1
  have hlen := hR.1
  have hn : n ≤ 9223372036854775807 := hR.2.1
  have hjn : j < n := by omega
  have hk0 : 0 ≤ k := by omega
  have hkn : k < (n : Int) := by omega
  have hkt : j = k.toNat := by omega
  obtain ⟨o, f, hA, hbB, hc⟩ := hR.2.2 (by omega)
  subst hA
  obtain ⟨⟨e0, e1, e2, e3, e4, e5, e6, e7, e8⟩, hle⟩ := hc j r hri
  rw [hkt] at e0 e1 e2 e3 e4 e5 e6 e7 e8
  have AT := Lib.hid (fun y h1 h2 w => at_right r std y w hle he hs h1 h2)
  have HC := Lib.hid (⟨e0, e1, e2, e3, e4, e5, e6, e7, e8⟩ : _ ∧ _ ∧ _ ∧ _ ∧ _ ∧ _ ∧ _ ∧ _ ∧ _)
  have HR := Lib.hid hR
  have L1 := Lib.hid l1
  have L2 := Lib.hid l2
  have L3 := Lib.hid l3
  have HX := Lib.hid hex
  clear hR l1 l2 l3 hc he hs hle hex hbas hri hjl hkt hkj hlen hjn e0 e1 e2 e3 e4 e5 e6 e7 e8
  skip
  go_enter Try.func14, Try.ntmps14
  go_wp2_with fail
  refine (L1.out _ HR.out).mono ?_
  rintro e w1 ⟨rfl, hb1⟩
  go_wp2_with fail
  refine (L2.out _ ((HR.out.below hb1 (Nat.le_refl _)).more hb1.size)).mono ?_
  rintro e w2 ⟨rfl, hb2⟩
  have h2 : Below w.heap.size w w2 := hb1.trans (hb2.mono hb1.size)
  clear hb1 hb2
  have cells : Hid (∀ w', Below w.heap.size w w' → w'.cell? ⟨o, f + k.toNat * 9, none⟩ = some (.int .i64 r.fy) ∧ w'.cell? ⟨o, f + k.toNat * 9 + 1, none⟩ = some (.int .i64 r.ty) ∧ w'.cell? ⟨o, f + k.toNat * 9 + 2, none⟩ = some (.int .i64 r.mo) ∧ w'.cell? ⟨o, f + k.toNat * 9 + 3, none⟩ = some (.int .i64 r.k) ∧
      w'.cell? ⟨o, f + k.toNat * 9 + 4, none⟩ = some (.int .i64 r.wk) ∧ w'.cell? ⟨o, f + k.toNat * 9 + 5, none⟩ = some (.int .i64 r.d) ∧ w'.cell? ⟨o, f + k.toNat * 9 + 6, none⟩ = some (.int .i64 r.a) ∧ w'.cell? ⟨o, f + k.toNat * 9 + 7, none⟩ = some (.int .i64 r.sv) ∧ w'.cell? ⟨o, f + k.toNat * 9 + 8, none⟩ = some (.string r.le)) := Lib.hid (fun w' hb => by
    obtain ⟨e0, e1, e2, e3, e4, e5, e6, e7, e8⟩ := HC.out
    exact ⟨(hb.cell hbB).trans e0, (hb.cell hbB).trans e1, (hb.cell hbB).trans e2, (hb.cell hbB).trans e3, (hb.cell hbB).trans e4, (hb.cell hbB).trans e5, (hb.cell hbB).trans e6, (hb.cell hbB).trans e7, (hb.cell hbB).trans e8⟩)
  obtain ⟨c0, c1, c2, c3, c4, c5, c6, c7, c8⟩ := cells.out _ h2
  go_wp2
  go_loopw [15, 16] (fun b0 b1 wr => ∃ (s : Bool) (y : Int), r.fy ≤ y ∧ y ≤ r.ty + 1 ∧ b0 = .bool s ∧ b1 = .int .i64 y ∧ Hid (Seen (r.g std) r.fy y a s) ∧ Below w.heap.size w wr) (fun _ b1 _ => (r.ty + 1 - intOf b1).toNat)
  case atStart => exact ⟨false, r.fy, Int.le_refl _, by omega, rfl, rfl, Lib.hid (Seen.start _ _ _), h2⟩
  case round =>
    obtain ⟨s, y, hy1, hy2, rfl, rfl, hS, hb⟩ := hrel
    clear c0 c1 c2 c3 c4 c5 c6 c7 c8
    obtain ⟨c0, c1, c2, c3, c4, c5, c6, c7, c8⟩ := cells.out _ hb
    by_cases hlt : y ≤ r.ty
    · have AY := Lib.hid (AT.out y hy1 hlt)
      obtain ⟨m, hm⟩ : ∃ m, m = r.g std y := ⟨_, rfl⟩
      rw [← hm] at AY
      cases s
      · by_cases hma : m = a
        · have hmb : (m == a) = true := by simpa using hma
          have HS := Lib.hid (Seen.yes (g := r.g std) (a := a) (b := true) hy1 (by rw [← hm]; exact hma))
          clear hma hm
          go_wp2_with (go_at_call 35; (with_reducible refine (AY.out _).mono ?_); rintro e w4 ⟨rfl, hb4⟩; have hb5 := hb.trans (hb4.mono hb.size); clear hb4)
          go_roundw
          case rel => exact ⟨true, y + 1, by omega, by omega, rfl, rfl, HS, hb5⟩
          case measure => simp [intOf]; omega
        · have hmb : (m == a) = false := by simpa using hma
          have HS := Lib.hid (Seen.no hS.out (by rw [← hm]; exact hma))
          clear hma hm
          go_wp2_with (go_at_call 35; (with_reducible refine (AY.out _).mono ?_); rintro e w4 ⟨rfl, hb4⟩; have hb5 := hb.trans (hb4.mono hb.size); clear hb4)
          go_roundw
          case rel => exact ⟨false, y + 1, by omega, by omega, rfl, rfl, HS, hb5⟩
          case measure => simp [intOf]; omega
      · have HS := Lib.hid (Seen.was hS.out)
        clear hm
        go_wp2_with (go_at_call 35; (with_reducible refine (AY.out _).mono ?_); rintro e w4 ⟨rfl, hb4⟩; have hb5 := hb.trans (hb4.mono hb.size); clear hb4)
        go_roundw
        case rel => exact ⟨true, y + 1, by omega, by omega, rfl, rfl, HS, hb5⟩
        case measure => simp [intOf]; omega
    · have hst : s = true := hS.out.last (by omega) HX.out
      subst hst
      clear hS
      by_cases ha : a < 0
      · go_wp2_with fail
        refine (rulesBegun_any _).mono ?_
        rintro e w3 ⟨rfl, hb3⟩
        have h3 : Below w.heap.size w w3 := hb.trans (hb3.mono hb.size)
        go_wp2
        go_ret
        exact ⟨rfl, h3⟩
      · go_wp2_with fail
        refine (L3.out (by omega) _ ((HR.out.below hb (Nat.le_refl _)).more hb.size)).mono ?_
        rintro e w4 ⟨rfl, hb4⟩
        have h4 : Below w.heap.size w w4 := hb.trans (hb4.mono hb.size)
        clear hb4
        go_wp2_with fail
        refine (rulesBegun_any _).mono ?_
        rintro e w3 ⟨rfl, hb3⟩
        have h3 : Below w.heap.size w w3 := h4.trans (hb3.mono h4.size)
        go_wp2
        go_ret
        exact ⟨rfl, h3⟩

theorem rulesLater_walk (A : Option Addr) (n cap : Nat) (rs : List Rl) (std one two : Int) (w : World) (hR : RulesAt w w.heap.size A n rs) :
    Calls Try.prog 14 #[.slice A n cap, .int .i64 std, .int .i64 one, .int .i64 two] w fun e w' => e = .returned (.bool true) ∧ Below w.heap.size w w' := by
  have l1 := fun w h => lastP_any A n cap rs std one w h
  have l2 := fun w h => lastP_any A n cap rs std two w h
  by_cases h1 : lastE rs std one = 0
  · rw [h1] at l1
    by_cases h2 : lastE rs std two = 0
    · rw [h2] at l2
      obtain ⟨j, r, k1, k2, k3, k4, k5, k6, k7, k8⟩ := told h1
      have l3 : 0 ≤ lastT rs std one → ∀ w, RulesAt w w.heap.size A n rs → Calls Try.prog 40 #[.slice A n cap, .int .i64 std, .int .i64 (lastT rs std one)] w fun e w' => e = .returned (.tuple #[.int .i64 j, .int .i64 (lastT rs std one), .int .i64 0]) ∧ Below w.heap.size w w' := fun ha w h => by
        have t := told_again h1 ha
        have := lastP_any A n cap rs std (lastT rs std one) w h
        rw [t.1, t.2.1, t.2.2, k1] at this
        exact this
      rw [k1] at l1
      rcases Int.lt_trichotomy one two with q | q | q
      · exact rulesLater_lt A n cap rs std one two w hR _ j r _ _ _ q (later_mono h1 (by omega) h2) rfl k3 l1 l2 l3 k4 k7 k8
      · exact rulesLater_eq A n cap rs std one two w hR _ j r _ _ _ q (by rw [← q, k1]) (by rw [q]) rfl k3 l1 l2 l3 k4 k7 k8
      · exact rulesLater_gt A n cap rs std one two w hR _ j r _ _ _ q rfl k3 l1 l2 l3 k4 k7 k8
    · refine rulesLater_no2 A n cap rs std one two w hR _ _ _ _ _ (by simpa using h2) ?_ l1 l2
      rcases Int.lt_or_le two one with q | q
      · exact .inl q
      · exact .inr (later_tells h1 q h2)
  · exact rulesLater_no1 A n cap rs std one two w hR _ _ _ _ _ _ (by simpa using h1) l1 l2
end Go.Proofs.Ytlmphmfadikdpaa
