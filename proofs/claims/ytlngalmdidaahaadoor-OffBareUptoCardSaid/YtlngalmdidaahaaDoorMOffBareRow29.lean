/- Parts of a proof, laid together. -/
import Derived.Deep.AppendLies
import Derived.Deep.RegionLaw
import Derived.BigRegion
import Derived.Deep.RegionHeld3
import Derived.Test.YtlngalmdidaahaaDoorMOffBareRow28
import Derived.Test.YtlngalmdidaahaaDoorMOffBareRow27
import Derived.Test.YtlngalmdidaahaaDoorMOffBareRow18
import Derived.Test.YtlngalmdidaahaaDoorMOffBareRow13
import Derived.Test.YtlngalmdidaahaaDoorMOffBareRow11
import Derived.Test.YtlngalmdidaahaaDoorMOffBareRow5
set_option linter.unusedSimpArgs false
set_option linter.unusedVariables false
/-! gnomonref.CheckData: the links' names. -/
section
set_option linter.unusedVariables false
namespace Go.Proofs.YtlngalmdidaahaaDoor
open Go.RowKit Gno
theorem below_drew' {B : Nat} {w w' : World} (h : Below B w w') : Below B w w'.drew := ⟨h.os, h.tape, h.output, h.size, h.block⟩
theorem own_drew {w : World} {B : Nat} {e : TypeId} {sz : Nat} {v : Value} {n : Nat} {xs : List Value} (h : w.ownsRow B e sz v n xs) : w.drew.ownsRow B e sz v n xs := h
theorem near_of {w : World} {v : Value} {g n cap H : Nat} (h : v.ownBlock = some g ∨ g = H) (hH : w.heap.size = H) : NearOr w v (.slice (some ⟨g, 0, none⟩) n cap) := by
  rcases h with h | h
  · exact .inl h.symm
  · exact .inr fun k hk => by simp [Value.ownBlock] at hk; omega
end Go.Proofs.YtlngalmdidaahaaDoor
end
/-! gnomonref.CheckData: the links' aims; the whole. -/
section
set_option linter.unusedVariables false
namespace Go.Proofs.YtlngalmdidaahaaDoor
open Go.RowKit Gno
end Go.Proofs.YtlngalmdidaahaaDoor
end
/-! gnomonref.CheckData, whole. -/
section
set_option linter.unusedVariables false
namespace Go.Proofs.YtlngalmdidaahaaDoor
open Go.RowKit Gno
theorem start_wr (d : Dt) (w : World) : WR d w (w.alloc (Dobj d)) :=
  ⟨(Below.refl _ _).alloc (Nat.le_refl _) _, World.alloc_heap_new w _, by simp⟩
theorem own_below {w w' : World} {B : Nat} {e : TypeId} {sz : Nat} {v : Value} {n : Nat} {xs : List Value} (h : w.ownsRow B e sz v n xs) (hb : Below w.heap.size w w') : w'.ownsRow B e sz v n xs := by
  refine ⟨h.1, ?_⟩
  rcases h.2 with h2 | ⟨g, cap, cur, h1, h2, h3, h4⟩
  · exact .inl h2
  · exact .inr ⟨g, cap, cur, h1, h2, (hb.block _ (Array.getElem?_eq_some_iff.1 h3).1).trans h3, h4⟩
theorem own_far {w w' : World} {B B' : Nat} {e e' : TypeId} {sz sz' : Nat} {v v' : Value} {n n' : Nat} {xs xs' : List Value} (h : w.ownsRow B e sz v n xs) (h' : w'.ownsRow B' e' sz' v' n' xs') (hB : w.heap.size ≤ B') : Apart v v' := by
  intro k h1 h2
  have := (h.lt k h1).2
  have := (h'.lt k h2).1
  omega
end Go.Proofs.YtlngalmdidaahaaDoor
end
/-! data.Zone and gnomonref.ZoneOf. -/
section
set_option linter.unusedVariables false
namespace Gno
open Go
noncomputable def zoneK (d : Dt) (nm : ByteArray) : Int := if dataE d ≠ 0 then 0 else if leadN d nm < 0 then 0 else leadN d nm
noncomputable def zoneEr (d : Dt) (nm : ByteArray) : Int := if dataE d ≠ 0 then dataE d else if leadN d nm < 0 then 4 else 0
theorem zone_bad {d : Dt} {nm : ByteArray} (h : dataE d ≠ 0) : zoneK d nm = 0 ∧ zoneEr d nm = dataE d := by unfold zoneK zoneEr; rw [if_pos h, if_pos h]; exact ⟨rfl, rfl⟩
theorem zone_none {d : Dt} {nm : ByteArray} (h : dataE d = 0) (h1 : leadN d nm < 0) : zoneK d nm = 0 ∧ zoneEr d nm = 4 := by
  unfold zoneK zoneEr; simp [h, h1]
theorem zone_is {d : Dt} {nm : ByteArray} (h : dataE d = 0) (h1 : ¬ leadN d nm < 0) : zoneK d nm = leadN d nm ∧ zoneEr d nm = 0 := by
  unfold zoneK zoneEr; simp [h, h1]
end Gno
namespace Go.Proofs.YtlngalmdidaahaaDoor
open Go.RowKit Gno
theorem MaxAt.next {w W : World} (h : MaxAt w w.heap.size) (hb : Below w.heap.size w W) : MaxAt W W.heap.size := by
  have h1 := h.below hb (Nat.le_refl _)
  exact ⟨by have := h1.1; have := hb.size; omega, h1.2⟩
set_option maxRecDepth 100000 in
set_option maxHeartbeats 4000000 in
theorem zone_any (d : Dt) (nm : ByteArray) (w : World) (hD : DataAt w w.heap.size d) (hMX : MaxAt w w.heap.size) :
    Calls Tryd.prog 7 #[d.val, .string nm] w fun e w' => e = .returned (.tuple #[.int .i64 (zoneK d nm), .int .i64 (zoneEr d nm)]) ∧ Below w.heap.size w w' := by
  have CK := Lib.hid ((check_any d (w.alloc (Dobj d)) (hD.next ((Below.refl w.heap.size w).alloc (Nat.le_refl _) (Dobj d))) (hMX.next ((Below.refl w.heap.size w).alloc (Nat.le_refl _) (Dobj d)))).mono fun e w' h => (⟨h.1, (((Below.refl w.heap.size w).alloc (Nat.le_refl _) (Dobj d)).trans (h.2.mono (by simp))), (h.2.cell (p := ⟨w.heap.size, 0, none⟩) (by simp)).trans (by rw [World.cell?_alloc_at _ _ _ _ rfl]; rfl), (h.2.cell (p := ⟨w.heap.size, 1, none⟩) (by simp)).trans (by rw [World.cell?_alloc_at _ _ _ _ rfl]; rfl), (h.2.cell (p := ⟨w.heap.size, 2, none⟩) (by simp)).trans (by rw [World.cell?_alloc_at _ _ _ _ rfl]; rfl)⟩ : e = .returned (.int .i64 (dataE d)) ∧ Below w.heap.size w w' ∧ w'.cell? ⟨w.heap.size, 0, none⟩ = some (.slice d.sA d.sn d.sc) ∧ w'.cell? ⟨w.heap.size, 1, none⟩ = some (.slice d.zA d.zn d.zc) ∧ w'.cell? ⟨w.heap.size, 2, none⟩ = some (.slice d.lA d.ln d.lc)))
  have LD := Lib.hid (fun w1 (hb : Below w.heap.size w w1) => (lead_any d nm w1 (hD.next hb)).mono fun e w' h => (⟨h.1, hb.trans (h.2.mono hb.size)⟩ : e = .returned (.int .i64 (leadN d nm)) ∧ Below w.heap.size w w'))
  clear hD hMX
  unfold Dt.val at *
  by_cases h0 : dataE d = 0
  · by_cases h1 : leadN d nm < 0
    · have HX := Lib.hid (zone_none h0 h1)
      have hb0 : decide (leadN d nm < 0) = true := by simpa using h1
      rw [h0] at CK
      clear h0 h1
      go_enter Tryd.func7, Tryd.ntmps7
      go_wp2_with (first
        | (go_at_call 8; (with_reducible refine CK.out.mono ?_); rintro e w1 ⟨rfl, hb1, c0, c1, c2⟩)
        | (go_at_call 12; (with_reducible refine (LD.out _ hb1).mono ?_); rintro e w2 ⟨rfl, hb2⟩))
      go_ret2
      exact ⟨ret_ii HX.out.1.symm HX.out.2.symm, hb2⟩
    · have HX := Lib.hid (zone_is h0 h1)
      have hb0 : decide (leadN d nm < 0) = false := by simpa using h1
      rw [h0] at CK
      clear h0 h1
      go_enter Tryd.func7, Tryd.ntmps7
      go_wp2_with (first
        | (go_at_call 8; (with_reducible refine CK.out.mono ?_); rintro e w1 ⟨rfl, hb1, c0, c1, c2⟩)
        | (go_at_call 12; (with_reducible refine (LD.out _ hb1).mono ?_); rintro e w2 ⟨rfl, hb2⟩))
      go_ret2
      exact ⟨ret_ii HX.out.1.symm HX.out.2.symm, hb2⟩
  · have HX := Lib.hid (zone_bad (nm := nm) h0)
    have hb0 : (dataE d != 0) = true := by simpa using h0
    clear h0 LD
    go_enter Tryd.func7, Tryd.ntmps7
    go_wp2_with (go_at_call 8; (with_reducible refine CK.out.mono ?_); rintro e w1 ⟨rfl, hb1, c0, c1, c2⟩)
    go_ret2
    exact ⟨ret_ii HX.out.1.symm HX.out.2.symm, hb1⟩
end Go.Proofs.YtlngalmdidaahaaDoor
end
/-! Plain: right data: where names and links lead; one link more. -/
section
set_option linter.unusedVariables false
namespace Gno
open Go
/-- no two of a list are the same. -/
def Dist (l : List ByteArray) : Prop := ∀ (i j : Nat) (a b : ByteArray), i < j → l[i]? = some a → l[j]? = some b → same a b = false
theorem dist_of {l : List ByteArray} (h : dup l = false) : Dist l := fun i j a b hij ha hb => by
  cases hs : same a b
  · rfl
  · have : dup l = true := dup_yes (i := j) (m := j) (v := b) hb (Nat.le_refl _) (by
      unfold amongTo
      rw [List.any_eq_true]
      refine ⟨a, ?_, by rw [same_comm]; exact hs⟩
      exact List.mem_of_getElem? (i := i) (by rw [List.getElem?_take_of_lt hij]; exact ha))
    rw [h] at this; cases this
structure Right (d : Dt) : Prop where
  many : manyD d = false
  dist : Dist (zNames d ++ lNames d)
  noto : ∀ l ∈ d.ls, noTo d l.to = false
  lead : ∀ l ∈ d.ls, 0 ≤ leadN d l.name
theorem right_of {d : Dt} (h : dataE d = 0) : Right d := by
  have h0 : manyD d = false := by
    cases e : manyD d
    · rfl
    · unfold dataE at h; rw [if_pos e] at h; exact absurd h (by decide)
  have h1 : dE1 d = 0 := by unfold dataE at h; rwa [if_neg (by rw [h0]; simp)] at h
  have h2 : dE2 d = 0 := by
    unfold dE1 at h1; split at h1
    · exact absurd h1 (by decide)
    · exact h1
  have h3 : dE3 d = 0 := by
    unfold dE2 at h2; split at h2
    · exact absurd h2 (by decide)
    · exact h2
  have h4 : dE4 d = 0 := by
    unfold dE3 at h3; split at h3
    · exact absurd h3 (by decide)
    · exact h3
  have hd : (dup (sNames d) || dup (zNames d ++ lNames d)) = false := by
    cases e : (dup (sNames d) || dup (zNames d ++ lNames d))
    · rfl
    · unfold dE4 at h4; rw [if_pos e] at h4; exact absurd h4 (by decide)
  have h5 : dE5 d = 0 := by unfold dE4 at h4; rwa [if_neg (by rw [hd]; simp)] at h4
  have h6 : dE6 d = 0 := by
    unfold dE5 at h5; split at h5
    · rename_i q; exact absurd h5 q
    · exact h5
  have h7 : dE7 d = 0 := by
    unfold dE6 at h6; split at h6
    · exact absurd h6 (by decide)
    · exact h6
  have h8 : dE8 d = 0 := by
    unfold dE7 at h7; split at h7
    · exact absurd h7 (by decide)
    · exact h7
  have h9 : dE9 d = 0 := by
    unfold dE8 at h8; split at h8
    · exact absurd h8 (by decide)
    · exact h8
  have ht : anyI (fun _ => noTo d) (lTos d) = false := by
    cases e : anyI (fun _ => noTo d) (lTos d)
    · rfl
    · unfold dE9 at h9; rw [if_pos e] at h9; exact absurd h9 (by decide)
  have h10 : dE10 d = 0 := by unfold dE9 at h9; rwa [if_neg (by rw [ht]; simp)] at h9
  have hl : anyI (fun _ => noLead d) (lNames d) = false := by
    cases e : anyI (fun _ => noLead d) (lNames d)
    · rfl
    · unfold dE10 at h10; rw [if_pos e] at h10; exact absurd h10 (by decide)
  rw [anyI_any] at ht hl
  rw [Bool.or_eq_false_iff] at hd
  refine ⟨h0, dist_of hd.2, fun l hl' => ?_, fun l hl' => ?_⟩
  · have := List.any_eq_false.1 ht l.to (List.mem_map.2 ⟨l, hl', rfl⟩)
    simpa using this
  · have := List.any_eq_false.1 hl l.name (List.mem_map.2 ⟨l, hl', rfl⟩)
    unfold noLead at this
    simpa using this
theorem same_refl (a : ByteArray) : same a a = true := (same_iff a a).2 rfl
theorem Right.zz {d : Dt} (h : Right d) {i j : Nat} {a b : Zn} (hij : i < j) (ha : d.zs[i]? = some a) (hb : d.zs[j]? = some b) : same a.name b.name = false := by
  have hi := (List.getElem?_eq_some_iff.1 ha).1
  have hj := (List.getElem?_eq_some_iff.1 hb).1
  refine h.dist i j _ _ hij ?_ ?_
  · rw [List.getElem?_append_left (by simp [zNames]; exact hi)]; simp [zNames, ha]
  · rw [List.getElem?_append_left (by simp [zNames]; exact hj)]; simp [zNames, hb]
theorem Right.zl {d : Dt} (h : Right d) {i j : Nat} {a : Zn} {b : Lk} (ha : d.zs[i]? = some a) (hb : d.ls[j]? = some b) : same a.name b.name = false := by
  have hi := (List.getElem?_eq_some_iff.1 ha).1
  refine h.dist i (d.zs.length + j) _ _ (by omega) ?_ ?_
  · rw [List.getElem?_append_left (by simp [zNames]; exact hi)]; simp [zNames, ha]
  · rw [List.getElem?_append_right (by simp [zNames])]; simp [zNames, lNames, hb]
theorem Right.ll {d : Dt} (h : Right d) {i j : Nat} {a b : Lk} (hij : i < j) (ha : d.ls[i]? = some a) (hb : d.ls[j]? = some b) : same a.name b.name = false := by
  refine h.dist (d.zs.length + i) (d.zs.length + j) _ _ (by omega) ?_ ?_
  · rw [List.getElem?_append_right (by simp [zNames])]; simp [zNames, lNames, ha]
  · rw [List.getElem?_append_right (by simp [zNames])]; simp [zNames, lNames, hb]
theorem Right.zoneOwn {d : Dt} (h : Right d) {k : Nat} {z : Zn} (hz : d.zs[k]? = some z) : zoneN d z.name = k := by
  have := fst_at (p := isZone z.name) d.zs 0 k (fun j x hj hx => h.zz hj hx hz) ⟨z, hz, same_refl _⟩
  unfold zoneN; rw [this]; simp
theorem Right.leadZone {d : Dt} (h : Right d) {k : Nat} {z : Zn} (hz : d.zs[k]? = some z) : leadN d z.name = k := by
  unfold leadN
  rw [lead_zone (by rw [h.zoneOwn hz]; omega), h.zoneOwn hz]
theorem zone_neg {d : Dt} {s : ByteArray} (h : ∀ z ∈ d.zs, same z.name s = false) : zoneN d s < 0 := by
  have := fst_nn (isZone s) d.zs 0 (by omega)
  unfold zoneN
  rcases Int.lt_or_le (fst (isZone s) d.zs 0) 0 with q | q
  · exact q
  · obtain ⟨z, hz, hp⟩ := this.1 q
    unfold isZone at hp
    rw [h z hz] at hp; cases hp
theorem link_neg {d : Dt} {s : ByteArray} (h : ∀ z ∈ d.ls, same z.name s = false) : linkN d s < 0 := by
  have := fst_nn (isLink s) d.ls 0 (by omega)
  unfold linkN
  rcases Int.lt_or_le (fst (isLink s) d.ls 0) 0 with q | q
  · exact q
  · obtain ⟨z, hz, hp⟩ := this.1 q
    unfold isLink at hp
    rw [h z hz] at hp; cases hp
theorem Right.linkNoZone {d : Dt} (h : Right d) {i : Nat} {l : Lk} (hl : d.ls[i]? = some l) : zoneN d l.name < 0 :=
  zone_neg fun z hz => by
    obtain ⟨j, hj⟩ := List.getElem?_of_mem hz
    exact h.zl hj hl
theorem Right.linkOwn {d : Dt} (h : Right d) {i : Nat} {l : Lk} (hl : d.ls[i]? = some l) : linkN d l.name = i := by
  have := fst_at (p := isLink l.name) d.ls 0 i (fun j x hj hx => h.ll hj hx hl) ⟨l, hl, same_refl _⟩
  unfold linkN; rw [this]; simp
theorem leadT_more (d : Dt) : ∀ (f : Nat) (s : ByteArray), 0 ≤ leadT d f s → leadT d (f + 1) s = leadT d f s
  | 0, s, h => by simp [leadT] at h
  | f + 1, s, h => by
    by_cases hz : 0 ≤ zoneN d s
    · rw [lead_zone hz, lead_zone hz]
    · have hr := linkN_range d s
      by_cases hl : linkN d s < 0
      · rw [lead_none hz hl] at h; exact absurd h (by decide)
      · have hq := List.getElem?_eq_getElem (l := d.ls) (i := (linkN d s).toNat) (by omega)
        rw [lead_link hz hl hq] at h ⊢
        rw [lead_link hz hl hq]
        exact leadT_more d f _ h
theorem leadT_le (d : Dt) {f : Nat} {s : ByteArray} (h : 0 ≤ leadT d f s) : ∀ g, leadT d (f + g) s = leadT d f s
  | 0 => rfl
  | g + 1 => by
    have ih := leadT_le d h g
    rw [← Nat.add_assoc, leadT_more d (f + g) s (by rw [ih]; exact h), ih]
/-- a link leads where what it leads to leads. -/
theorem Right.leadLink {d : Dt} (h : Right d) {i : Nat} {l : Lk} (hl : d.ls[i]? = some l) : leadN d l.name = leadN d l.to ∧ 0 ≤ leadN d l.name ∧ leadN d l.name < d.zs.length := by
  have h0 := h.lead l (List.mem_of_getElem? hl)
  have e : leadN d l.name = leadT d d.ls.length l.to := by
    unfold leadN
    exact lead_link (by have := h.linkNoZone hl; omega) (by rw [h.linkOwn hl]; omega) (by rw [h.linkOwn hl]; simpa using hl)
  refine ⟨?_, h0, ?_⟩
  · rw [e] at h0 ⊢
    unfold leadN
    exact (leadT_more d _ _ h0).symm
  · exact (leadT_range d _ _).2
/-- one link more. -/
def moreD (d : Dt) (A : Option Addr) (c : Nat) (x : Lk) : Dt := { d with lA := A, ln := d.ln + 1, lc := c, ls := d.ls ++ [x] }
theorem more_zone (d : Dt) (A : Option Addr) (c : Nat) (x : Lk) (s : ByteArray) : zoneN (moreD d A c x) s = zoneN d s := rfl
theorem fst_app {α : Type} {p : α → Bool} : ∀ (l : List α) (x : α) (k : Int), 0 ≤ k → fst p (l ++ [x]) k = if 0 ≤ fst p l k then fst p l k else if p x = true then k + l.length else -1
  | [], x, k, hk => by
    simp only [List.nil_append, fst]
    by_cases h : p x = true
    · simp [h]
    · simp [h]
  | a :: t, x, k, hk => by
    show fst p (a :: (t ++ [x])) k = _
    by_cases h : p a = true
    · have e1 : ∀ l, fst p (a :: l) k = k := fun l => by show (if p a = true then k else fst p l (k + 1)) = k; rw [if_pos h]
      rw [e1, e1, if_pos hk]
    · have e1 : ∀ l, fst p (a :: l) k = fst p l (k + 1) := fun l => by show (if p a = true then k else fst p l (k + 1)) = _; rw [if_neg h]
      rw [e1, e1, fst_app t x (k + 1) (by omega)]
      have e : k + 1 + (t.length : Int) = k + ((a :: t).length : Int) := by simp; omega
      rw [e]
theorem more_link (d : Dt) (A : Option Addr) (c : Nat) (x : Lk) (s : ByteArray) : linkN (moreD d A c x) s = if 0 ≤ linkN d s then linkN d s else if same x.name s = true then (d.ls.length : Int) else -1 := by
  unfold linkN
  show fst (isLink s) (d.ls ++ [x]) 0 = _
  rw [fst_app d.ls x 0 (by omega)]
  unfold isLink
  simp
/-- what leads to a zone leads there with one link more. -/
theorem more_lead (d : Dt) (A : Option Addr) (c : Nat) (x : Lk) : ∀ (f : Nat) (s : ByteArray), 0 ≤ leadT d f s → leadT (moreD d A c x) f s = leadT d f s
  | 0, s, h => by simp [leadT] at h
  | f + 1, s, h => by
    by_cases hz : 0 ≤ zoneN d s
    · rw [lead_zone hz, lead_zone (d := moreD d A c x) (by rw [more_zone]; exact hz), more_zone]
    · have hr := linkN_range d s
      by_cases hl : linkN d s < 0
      · rw [lead_none hz hl] at h; exact absurd h (by decide)
      · have hm : linkN (moreD d A c x) s = linkN d s := by rw [more_link, if_pos (by omega)]
        have hq := List.getElem?_eq_getElem (l := d.ls) (i := (linkN d s).toNat) (by omega)
        rw [lead_link hz hl hq] at h ⊢
        rw [lead_link (d := moreD d A c x) (l := d.ls[(linkN d s).toNat]'(by omega)) (by rw [more_zone]; exact hz) (by rw [hm]; exact hl) (by rw [hm]; show (d.ls ++ [x])[(linkN d s).toNat]? = _; rw [List.getElem?_append_left (by omega)]; exact hq)]
        exact more_lead d A c x f _ h
theorem more_leadN {d : Dt} {A : Option Addr} {c : Nat} {x : Lk} {s : ByteArray} (h : 0 ≤ leadN d s) : leadN (moreD d A c x) s = leadN d s := by
  unfold leadN at h ⊢
  have e : (moreD d A c x).ls.length + 1 = d.ls.length + 1 + 1 := by show (d.ls ++ [x]).length + 1 = _; simp
  rw [e, ← more_lead d A c x _ _ h]
  rw [← more_lead d A c x _ _ h] at h
  exact leadT_more _ _ _ h
/-- a name that no zone, no link has. -/
theorem lead_absent {d : Dt} {s : ByteArray} (hz : zoneN d s < 0) (hl : linkN d s < 0) : leadN d s = -1 := lead_none (by omega) hl
/-- one link more changes nothing of the others. -/
theorem more_same {d : Dt} {A : Option Addr} {c : Nat} {x : Lk} (h : Right d) {s : ByteArray} (hs : same x.name s = false) : leadN (moreD d A c x) s = leadN d s := by
  by_cases hz : 0 ≤ zoneN d s
  · exact more_leadN (by unfold leadN; rw [lead_zone hz]; exact hz)
  · by_cases hl : 0 ≤ linkN d s
    · have hr := linkN_range d s
      obtain ⟨l, hlm, hp⟩ := (fst_nn (isLink s) d.ls 0 (by omega)).1 hl
      have : l.name = s := (same_iff _ _).1 hp
      refine more_leadN ?_
      rw [← this]
      exact h.lead l hlm
    · have a1 : zoneN d s < 0 := by omega
      have a2 : linkN d s < 0 := by omega
      have a3 : linkN (moreD d A c x) s < 0 := by rw [more_link, if_neg hl, if_neg (by rw [hs]; simp)]; omega
      rw [lead_absent a1 a2, lead_absent (d := moreD d A c x) a1 a3]
/-- and leads where it says. -/
theorem more_new {d : Dt} {A : Option Addr} {c : Nat} {x : Lk} (h : Right d) (h2 : Right (moreD d A c x)) : leadN (moreD d A c x) x.name = leadN d x.to ∧ 0 ≤ leadN d x.to := by
  have hx : (moreD d A c x).ls[d.ls.length]? = some x := by show (d.ls ++ [x])[d.ls.length]? = _; simp
  obtain ⟨h3, h4, h5⟩ := h2.leadLink hx
  have h6 : 0 ≤ leadN d x.to := by
    by_cases hz : 0 ≤ zoneN d x.to
    · unfold leadN; rw [lead_zone hz]; exact hz
    · by_cases hl : 0 ≤ linkN d x.to
      · obtain ⟨l, hlm, hp⟩ := (fst_nn (isLink x.to) d.ls 0 (by omega)).1 hl
        have : l.name = x.to := (same_iff _ _).1 hp
        rw [← this]
        exact h.lead l hlm
      · exfalso
        have hz2 : ¬ 0 ≤ zoneN (moreD d A c x) x.to := by rw [more_zone]; exact hz
        by_cases hs : same x.name x.to = true
        · -- it leads to itself
          have hnt : x.name = x.to := (same_iff _ _).1 hs
          have key : ∀ f, leadT (moreD d A c x) f x.to = -1 := by
            intro f
            induction f with
            | zero => rfl
            | succ f ih =>
              have hm : linkN (moreD d A c x) x.to = d.ls.length := by rw [more_link, if_neg hl, if_pos hs]
              rw [lead_link (l := x) hz2 (by rw [hm]; omega) (by rw [hm]; simpa using hx)]
              exact ih
          rw [h3] at h4
          unfold leadN at h4
          rw [key] at h4
          exact absurd h4 (by decide)
        · have : leadN (moreD d A c x) x.to = -1 := lead_absent (by omega) (by rw [more_link, if_neg hl, if_neg hs]; omega)
          rw [h3, this] at h4
          exact absurd h4 (by decide)
  exact ⟨by rw [h3, more_leadN h6], h6⟩
end Gno
end
/-! IndexFunc at eras and rules. -/
section
set_option linter.unusedVariables false
namespace Go.Proofs.YtlngalmdidaahaaDoor
open Go.RowKit Gno

/-- the function that is handed in tells p of each Er. -/
def PredEra (P : Program) (g : Nat) (lb : Array Value) (p : Er → Bool) (l : List Er) (w : World) : Prop :=
  ∀ (W : World) (x : Er), x ∈ l → Below w.heap.size w W → Calls P g (#[.agg #[.int .i64 x.std, .int .i64 x.set, .int .i64 x.save, .string x.fmt, .int .i64 x.til]] ++ lb) W fun e w' => e = .returned (.bool (p x)) ∧ Below W.heap.size W w'
set_option maxRecDepth 100000 in
set_option maxHeartbeats 4000000 in
theorem indexEra_any (g : Nat) (lb : Array Value) (eg : ∀ args w, (callFunc g args).run Tryd.prog w = .ok (.enter g args) w) (p : Er → Bool) (A : Option Addr) (n cap : Nat) (l : List Er) (w : World)
    (hR : ErasAt w w.heap.size A n l) (hp : PredEra Tryd.prog g lb p l w) :
    Calls Tryd.prog 30 #[.slice A n cap, .func (.func g) #[] lb] w fun e w' => e = .returned (.int .i64 (fst p l 0)) ∧ Below w.heap.size w w' := by
  have hn : n ≤ 9223372036854775807 := hR.2.1
  have HR := Lib.hid hR
  have HP := Lib.hid hp
  clear hR hp
  go_enter Tryd.func30, Tryd.ntmps30
  go_wp2
  go_loopw [8] (fun b0 wr => ∃ i : Nat, i ≤ n ∧ b0 = .int .i64 i ∧ Hid (fst p (l.drop i) i = fst p l 0) ∧ Below w.heap.size w wr) (fun b0 _ => n - (intOf b0).toNat)
  case atStart => exact ⟨0, Nat.zero_le _, rfl, Lib.hid (by simp), Below.refl _ _⟩
  case round =>
    obtain ⟨i, hi, rfl, hfd, hb⟩ := hrel
    by_cases hlt : i < n
    · obtain ⟨b, o, q, hA, hbB, hq, hqs, hqq⟩ := eras_get HR.out hlt
      subst hA
      obtain ⟨e0, e1, e2, e3, e4⟩ := hqq _ hb
      have hmem : q ∈ l := List.mem_of_getElem? hq
      have FD := Lib.hid (fst_drop (p := p) hq)
      have c := HP.out wr q hmem hb
      clear hq hqq hmem
      cases hpk : p q
      · rw [hpk] at c
        have C := Lib.hid c
        have HX := Lib.hid ((FD.out.2 hpk).symm.trans hfd.out)
        clear c hfd hpk
        go_wp2_with (go_at_fn g; (with_reducible refine C.out.mono ?_); rintro e w4 ⟨rfl, hb4⟩; have hb5 := hb.trans (hb4.mono hb.size); clear hb4)
        go_roundw
        case rel => exact ⟨i + 1, by omega, by go_num, HX, hb5⟩
        case measure => simp [intOf]; omega
      · rw [hpk] at c
        have C := Lib.hid c
        have HX := Lib.hid ((FD.out.1 hpk).symm.trans hfd.out)
        clear c hfd hpk
        go_wp2_with (go_at_fn g; (with_reducible refine C.out.mono ?_); rintro e w4 ⟨rfl, hb4⟩; have hb5 := hb.trans (hb4.mono hb.size); clear hb4)
        go_ret
        exact ⟨ret_int HX.out, hb5⟩
    · have HX := Lib.hid ((fst_end (p := p) (by have := HR.out.1; omega)).symm.trans hfd.out)
      go_wp2
      go_ret
      exact ⟨ret_int HX.out, hb⟩

/-- the function that is handed in tells p of each Rl. -/
def PredRule (P : Program) (g : Nat) (lb : Array Value) (p : Rl → Bool) (l : List Rl) (w : World) : Prop :=
  ∀ (W : World) (x : Rl), x ∈ l → Below w.heap.size w W → Calls P g (#[.agg #[.int .i64 x.fy, .int .i64 x.ty, .int .i64 x.mo, .int .i64 x.k, .int .i64 x.wk, .int .i64 x.d, .int .i64 x.a, .int .i64 x.sv, .string x.le]] ++ lb) W fun e w' => e = .returned (.bool (p x)) ∧ Below W.heap.size W w'
set_option maxRecDepth 100000 in
set_option maxHeartbeats 4000000 in
theorem indexRule_any (g : Nat) (lb : Array Value) (eg : ∀ args w, (callFunc g args).run Tryd.prog w = .ok (.enter g args) w) (p : Rl → Bool) (A : Option Addr) (n cap : Nat) (l : List Rl) (w : World)
    (hR : RulesAt w w.heap.size A n l) (hp : PredRule Tryd.prog g lb p l w) :
    Calls Tryd.prog 50 #[.slice A n cap, .func (.func g) #[] lb] w fun e w' => e = .returned (.int .i64 (fst p l 0)) ∧ Below w.heap.size w w' := by
  have hn : n ≤ 9223372036854775807 := hR.2.1
  have HR := Lib.hid hR
  have HP := Lib.hid hp
  clear hR hp
  go_enter Tryd.func50, Tryd.ntmps50
  go_wp2
  go_loopw [8] (fun b0 wr => ∃ i : Nat, i ≤ n ∧ b0 = .int .i64 i ∧ Hid (fst p (l.drop i) i = fst p l 0) ∧ Below w.heap.size w wr) (fun b0 _ => n - (intOf b0).toNat)
  case atStart => exact ⟨0, Nat.zero_le _, rfl, Lib.hid (by simp), Below.refl _ _⟩
  case round =>
    obtain ⟨i, hi, rfl, hfd, hb⟩ := hrel
    by_cases hlt : i < n
    · obtain ⟨b, o, q, hA, hbB, hq, hqs, hqq⟩ := RulesAt.get HR.out hlt
      subst hA
      obtain ⟨e0, e1, e2, e3, e4, e5, e6, e7, e8⟩ := hqq _ hb
      have hmem : q ∈ l := List.mem_of_getElem? hq
      have FD := Lib.hid (fst_drop (p := p) hq)
      have c := HP.out wr q hmem hb
      clear hq hqq hmem
      cases hpk : p q
      · rw [hpk] at c
        have C := Lib.hid c
        have HX := Lib.hid ((FD.out.2 hpk).symm.trans hfd.out)
        clear c hfd hpk
        go_wp2_with (go_at_fn g; (with_reducible refine C.out.mono ?_); rintro e w4 ⟨rfl, hb4⟩; have hb5 := hb.trans (hb4.mono hb.size); clear hb4)
        go_roundw
        case rel => exact ⟨i + 1, by omega, by go_num, HX, hb5⟩
        case measure => simp [intOf]; omega
      · rw [hpk] at c
        have C := Lib.hid c
        have HX := Lib.hid ((FD.out.1 hpk).symm.trans hfd.out)
        clear c hfd hpk
        go_wp2_with (go_at_fn g; (with_reducible refine C.out.mono ?_); rintro e w4 ⟨rfl, hb4⟩; have hb5 := hb.trans (hb4.mono hb.size); clear hb4)
        go_ret
        exact ⟨ret_int HX.out, hb5⟩
    · have HX := Lib.hid ((fst_end (p := p) (by have := HR.out.1; omega)).symm.trans hfd.out)
      go_wp2
      go_ret
      exact ⟨ret_int HX.out, hb⟩
end Go.Proofs.YtlngalmdidaahaaDoor
end
/-! Data of two zones, and two links: what is right of them; the call that makes them. -/
section
set_option linter.unusedVariables false
namespace Gno
open Go
def sEu : ByteArray := ⟨#[101, 117]⟩
def sLMT : ByteArray := ⟨#[76, 77, 84]⟩
def sCEsT : ByteArray := ⟨#[67, 69, 37, 115, 84]⟩
def sXT : ByteArray := ⟨#[88, 84]⟩
def sOld : ByteArray := ⟨#[69, 47, 79, 108, 100, 95, 84, 111, 119, 110]⟩
def sAW : ByteArray := ⟨#[65, 47, 87, 101, 115, 116]⟩
def sTown : ByteArray := ⟨#[84, 111, 119, 110]⟩
def sTt : ByteArray := ⟨#[84]⟩
def sXx1 : ByteArray := ⟨#[88]⟩
def euD (k : Nat) (s2 : Int) (t : ByteArray) : Dt :=
  { sA := some ⟨k + 2, 0, none⟩, sn := 1, sc := 1, ss := [⟨sEu, some ⟨k + 1, 0, none⟩, 2, 2, springs⟩],
    zA := some ⟨k + 5, 0, none⟩, zn := 2, zc := 2, zs := [⟨sOld, some ⟨k + 3, 0, none⟩, 2, 2, [⟨1800, -1, 0, sLMT, 500000000⟩, ⟨3600, 0, 0, sCEsT, 1893456000⟩]⟩, ⟨sAW, some ⟨k + 4, 0, none⟩, 1, 1, [⟨-18000, s2, 3600, sXT, 1893456000⟩]⟩],
    lA := some ⟨k + 6, 0, none⟩, ln := 2, lc := 2, ls := [⟨sTown, t⟩, ⟨sTt, sTown⟩] }
theorem eu_sets (k : Nat) (s2 : Int) (t : ByteArray) : setsE (euD k s2 t).ss = 0 := by
  show (if firstE springs ≠ 0 then firstE springs else 0) = 0
  rw [springs_ok]; rfl
theorem eu_some (k : Nat) (s2 : Int) (t : ByteArray) (h3 : anyI (fun _ => badNm) (allNames (euD k s2 t)) = false) : dataE (euD k s2 t) = dE6 (euD k s2 t) := by
  unfold dataE dE1 dE2 dE3 dE4 dE5
  rw [if_neg (by rw [show manyD (euD k s2 t) = false from rfl]; simp), if_neg (by rw [show anyI (fun _ => manyRules) (euD k s2 t).ss = false from rfl]; simp),
    if_neg (by rw [show anyI (fun _ => manyEras) (euD k s2 t).zs = false from rfl]; simp), if_neg (by rw [h3]; simp),
    if_neg (by rw [show (dup (sNames (euD k s2 t)) || dup (zNames (euD k s2 t) ++ lNames (euD k s2 t))) = false from by kernel_rfl]; simp), if_neg (by rw [eu_sets]; simp)]
theorem eu_ok (k : Nat) : dataE (euD k (-1) sOld) = 0 := by
  rw [eu_some k (-1) sOld (by kernel_rfl)]
  unfold dE6 dE7 dE8 dE9 dE10
  rw [if_neg (by rw [show (erasL (euD k (-1) sOld).zs).any (badE (euD k (-1) sOld)) = false from by kernel_rfl]; simp),
    if_neg (by rw [show anyI (fun _ => badEnd) (euD k (-1) sOld).zs = false from by kernel_rfl]; simp),
    if_neg (by rw [show (erasL (euD k (-1) sOld).zs).any badF = false from by kernel_rfl]; simp),
    if_neg (by rw [show anyI (fun _ => noTo (euD k (-1) sOld)) (lTos (euD k (-1) sOld)) = false from by kernel_rfl]; simp),
    if_neg (by rw [show anyI (fun _ => noLead (euD k (-1) sOld)) (lNames (euD k (-1) sOld)) = false from by kernel_rfl]; simp)]
theorem eu_round (k : Nat) : dataE (euD k (-1) sTt) = 7 := by
  rw [eu_some k (-1) sTt (by kernel_rfl)]
  unfold dE6 dE7 dE8 dE9 dE10
  rw [if_neg (by rw [show (erasL (euD k (-1) sTt).zs).any (badE (euD k (-1) sTt)) = false from by kernel_rfl]; simp),
    if_neg (by rw [show anyI (fun _ => badEnd) (euD k (-1) sTt).zs = false from by kernel_rfl]; simp),
    if_neg (by rw [show (erasL (euD k (-1) sTt).zs).any badF = false from by kernel_rfl]; simp),
    if_neg (by rw [show anyI (fun _ => noTo (euD k (-1) sTt)) (lTos (euD k (-1) sTt)) = false from by kernel_rfl]; simp),
    if_pos (by rw [show anyI (fun _ => noLead (euD k (-1) sTt)) (lNames (euD k (-1) sTt)) = true from by kernel_rfl])]
theorem eu_range (k : Nat) : dataE (euD k 0 sOld) = 3 := by
  rw [eu_some k 0 sOld (by kernel_rfl)]
  unfold dE6
  rw [if_pos (by rw [show (erasL (euD k 0 sOld).zs).any (badE (euD k 0 sOld)) = true from by kernel_rfl])]
theorem eu_T (k : Nat) : zoneK (euD k (-1) sOld) sTt = 0 ∧ zoneEr (euD k (-1) sOld) sTt = 0 := by
  have h : leadN (euD k (-1) sOld) sTt = 0 := by kernel_rfl
  have := zone_is (eu_ok k) (nm := sTt) (by rw [h]; simp)
  rwa [h] at this
theorem eu_X (k : Nat) : zoneK (euD k (-1) sOld) sXx1 = 0 ∧ zoneEr (euD k (-1) sOld) sXx1 = 4 := by
  have h : leadN (euD k (-1) sOld) sXx1 = -1 := by kernel_rfl
  exact zone_none (eu_ok k) (nm := sXx1) (by rw [h]; simp)
end Gno
namespace Go.Proofs.YtlngalmdidaahaaDoor
open Go.RowKit Gno
def euO0 (k : Nat) : Obj := .cells #[.slice (some ⟨k + 1 + 1, 0, none⟩) 1 1, .slice (some ⟨k + 1 + 1 + 1 + 1 + 1, 0, none⟩) 2 2, .slice (some ⟨k + 1 + 1 + 1 + 1 + 1 + 1, 0, none⟩) 2 2] 26
def euO1 : Obj := .cells #[.int .i64 1980, .int .i64 2029, .int .i64 3, .int .i64 2, .int .i64 0, .int .i64 0, .int .i64 7200, .int .i64 3600, .string ⟨#[68]⟩,
        .int .i64 1980, .int .i64 2029, .int .i64 10, .int .i64 2, .int .i64 0, .int .i64 0, .int .i64 7200, .int .i64 0, .string ⟨#[83]⟩] 69
def euO2 (k : Nat) : Obj := .cells #[.string ⟨#[101, 117]⟩, .slice (some ⟨k + 1, 0, none⟩) 2 2] 53
def euO3 : Obj := .cells #[.int .i64 1800, .int .i64 (-1), .int .i64 0, .string ⟨#[76, 77, 84]⟩, .int .i64 500000000, .int .i64 3600, .int .i64 0, .int .i64 0, .string ⟨#[67, 69, 37, 115, 84]⟩, .int .i64 1893456000] 39
def euO4 (s2 : Int) : Obj := .cells #[.int .i64 (-18000), .int .i64 s2, .int .i64 3600, .string ⟨#[88, 84]⟩, .int .i64 1893456000] 39
def euO5 (k : Nat) : Obj := .cells #[.string ⟨#[69, 47, 79, 108, 100, 95, 84, 111, 119, 110]⟩, .slice (some ⟨k + 1 + 1 + 1, 0, none⟩) 2 2, .string ⟨#[65, 47, 87, 101, 115, 116]⟩, .slice (some ⟨k + 1 + 1 + 1 + 1, 0, none⟩) 1 1] 37
def euO6 (t : ByteArray) : Obj := .cells #[.string ⟨#[84, 111, 119, 110]⟩, .string t, .string ⟨#[84]⟩, .string ⟨#[84, 111, 119, 110]⟩] 61
def euW (w : World) : World := ((((((w.alloc (euO0 w.heap.size)).alloc euO1).alloc (euO2 w.heap.size)).alloc euO3).alloc (euO4 (-1))).alloc (euO5 w.heap.size)).alloc (euO6 sOld)
theorem euW_size (w : World) : (euW w).heap.size = w.heap.size + 7 := by simp [euW]
theorem euW_below (w : World) : Below w.heap.size w (euW w) :=
  ((((((((Below.refl _ _).alloc (Nat.le_refl _) _).alloc (by simp) _).alloc (by simp; omega) _).alloc (by simp; omega) _).alloc (by simp; omega) _).alloc (by simp; omega) _).alloc (by simp; omega) _)
/-- the blocks of the data. -/
structure EuIn (W : World) (k : Nat) (s2 : Int) (t : ByteArray) : Prop where
  o1 : W.heap[k + 1]? = some euO1
  o2 : W.heap[k + 2]? = some (euO2 k)
  o3 : W.heap[k + 3]? = some euO3
  o4 : W.heap[k + 4]? = some (euO4 s2)
  o5 : W.heap[k + 5]? = some (euO5 k)
  o6 : W.heap[k + 6]? = some (euO6 t)
theorem EuIn.below {W W' : World} {B k : Nat} {s2 : Int} {t : ByteArray} (h : EuIn W k s2 t) (hb : Below B W W') (hB : k + 7 ≤ B) : EuIn W' k s2 t :=
  ⟨(hb.block _ (by omega)).trans h.o1, (hb.block _ (by omega)).trans h.o2, (hb.block _ (by omega)).trans h.o3, (hb.block _ (by omega)).trans h.o4, (hb.block _ (by omega)).trans h.o5, (hb.block _ (by omega)).trans h.o6⟩
theorem push_at (w : World) (o : Obj) (b : Nat) (h : b = w.heap.size) : (w.alloc o).heap[b]? = some o := by subst h; exact World.alloc_heap_new w o
theorem push_past (w : World) (o : Obj) (b : Nat) (h : b < w.heap.size) : (w.alloc o).heap[b]? = w.heap[b]? := Below.heap_alloc _ _ _ h
theorem cell_of {W : World} {b o : Nat} {cs : Array Value} {T : TypeId} {v : Value} (h : W.heap[b]? = some (.cells cs T)) (hv : cs[o]? = some v) : W.cell? ⟨b, o, none⟩ = some v := by simp [World.cell?, h, hv]
theorem frozen_of {W : World} {b o : Nat} {cs : Array Value} {T : TypeId} (h : W.heap[b]? = some (.cells cs T)) : W.frozen? ⟨b, o, none⟩ = false := by simp [World.frozen?, h]
theorem euW_o0 (w : World) : (euW w).heap[w.heap.size]? = some (euO0 w.heap.size) := by
  unfold euW
  rw [push_past _ _ _ (by simp; omega), push_past _ _ _ (by simp; omega), push_past _ _ _ (by simp; omega), push_past _ _ _ (by simp; omega), push_past _ _ _ (by simp; omega), push_past _ _ _ (by simp), push_at _ _ _ rfl]
theorem euW_in (w : World) : EuIn (euW w) w.heap.size (-1) sOld := by
  unfold euW
  refine ⟨?_, ?_, ?_, ?_, ?_, ?_⟩
  · rw [push_past _ _ _ (by simp <;> omega), push_past _ _ _ (by simp <;> omega), push_past _ _ _ (by simp <;> omega), push_past _ _ _ (by simp <;> omega), push_past _ _ _ (by simp), push_at _ _ _ (by simp)]
  · rw [push_past _ _ _ (by simp <;> omega), push_past _ _ _ (by simp <;> omega), push_past _ _ _ (by simp <;> omega), push_past _ _ _ (by simp), push_at _ _ _ (by simp)]
  · rw [push_past _ _ _ (by simp <;> omega), push_past _ _ _ (by simp <;> omega), push_past _ _ _ (by simp), push_at _ _ _ (by simp)]
  · rw [push_past _ _ _ (by simp <;> omega), push_past _ _ _ (by simp), push_at _ _ _ (by simp)]
  · rw [push_past _ _ _ (by simp), push_at _ _ _ (by simp)]
  · rw [push_at _ _ _ (by simp)]
set_option maxRecDepth 100000 in
theorem europe_any (w : World) : Calls Tryd.prog 11 #[] w fun e w' => e = .returned (euD w.heap.size (-1) sOld).val ∧ w' = euW w := by
  go_enter Tryd.func11, Tryd.ntmps11
  go_wp2_with (go_at_call 33; refine (spring_any _).mono ?_; rintro e w1 ⟨rfl, rfl⟩)
  refine bodyPost_ret (results_cell_row rfl _ _ w.heap.size 26 _ (0, 0) _ rfl (euW_o0 w) Tryd.underlying26 rfl (by kernel_rfl)) rfl ⟨rfl, rfl⟩
theorem eu_rules {W : World} {k B : Nat} {s2 : Int} {t : ByteArray} (h : EuIn W k s2 t) (hB : k + 1 < B) : RulesAt W B (some ⟨k + 1, 0, none⟩) 2 springs := by
  have h1 := h.o1
  unfold euO1 at h1
  refine ⟨rfl, by decide, fun _ => ⟨k + 1, 0, rfl, hB, fun i r hr => ?_⟩⟩
  match i, hr with
  | 0, hr =>
    obtain rfl : sA = r := by simpa [springs] using hr
    exact ⟨⟨by simp [sA, World.cell?, h1], by simp [sA, World.cell?, h1], by simp [sA, World.cell?, h1], by simp [sA, World.cell?, h1], by simp [sA, World.cell?, h1], by simp [sA, World.cell?, h1], by simp [sA, World.cell?, h1], by simp [sA, World.cell?, h1], by simp [sA, World.cell?, h1]⟩, by decide⟩
  | 1, hr =>
    obtain rfl : sB = r := by simpa [springs] using hr
    exact ⟨⟨by simp [sB, World.cell?, h1], by simp [sB, World.cell?, h1], by simp [sB, World.cell?, h1], by simp [sB, World.cell?, h1], by simp [sB, World.cell?, h1], by simp [sB, World.cell?, h1], by simp [sB, World.cell?, h1], by simp [sB, World.cell?, h1], by simp [sB, World.cell?, h1]⟩, by decide⟩
  | i + 2, hr => simp [springs] at hr
theorem eu_data {W : World} {k B : Nat} {s2 : Int} {t : ByteArray} (h : EuIn W k s2 t) (hB : k + 7 ≤ B) (ht : t.size ≤ maxLen) : DataAt W B (euD k s2 t) := by
  have h2 := h.o2
  have h3 := h.o3
  have h4 := h.o4
  have h5 := h.o5
  have h6 := h.o6
  unfold euO2 at h2
  unfold euO3 at h3
  unfold euO4 at h4
  unfold euO5 at h5
  unfold euO6 at h6
  have m2 : (2 : Nat) ≤ maxLen := by unfold maxLen; omega
  have m1 : (1 : Nat) ≤ maxLen := by unfold maxLen; omega
  refine ⟨⟨rfl, m1, fun _ => ⟨k + 2, 0, rfl, by omega, fun i q hq => ?_⟩⟩, ⟨rfl, m2, fun _ => ⟨k + 5, 0, rfl, by omega, fun i q hq => ?_⟩⟩, ⟨rfl, m2, fun _ => ⟨k + 6, 0, rfl, by omega, fun i q hq => ?_⟩⟩, (by unfold fmtMax; show (2 : Nat) ≤ _; omega)⟩
  · match i, hq with
    | 0, hq =>
      obtain rfl : (⟨sEu, some ⟨k + 1, 0, none⟩, 2, 2, springs⟩ : St) = q := by simpa [euD] using hq
      exact ⟨⟨by simp [World.cell?, h2, sEu], by simp [World.cell?, h2]⟩, m2, eu_rules h (by omega)⟩
    | i + 1, hq => simp [euD] at hq
  · match i, hq with
    | 0, hq =>
      obtain rfl : (⟨sOld, some ⟨k + 3, 0, none⟩, 2, 2, [⟨1800, -1, 0, sLMT, 500000000⟩, ⟨3600, 0, 0, sCEsT, 1893456000⟩]⟩ : Zn) = q := by simpa [euD] using hq
      refine ⟨⟨by simp [World.cell?, h5, sOld], by simp [World.cell?, h5]⟩, (show (10 : Nat) ≤ maxLen by unfold maxLen; omega), ⟨rfl, m2, fun _ => ⟨k + 3, 0, rfl, by omega, fun j x hx => ?_⟩⟩⟩
      match j, hx with
      | 0, hx =>
        obtain rfl : (⟨1800, -1, 0, sLMT, 500000000⟩ : Er) = x := by simpa using hx
        exact ⟨⟨by simp [World.cell?, h3], by simp [World.cell?, h3], by simp [World.cell?, h3], by simp [World.cell?, h3, sLMT], by simp [World.cell?, h3]⟩, (show (3 : Nat) ≤ fmtMax by unfold fmtMax; omega)⟩
      | 1, hx =>
        obtain rfl : (⟨3600, 0, 0, sCEsT, 1893456000⟩ : Er) = x := by simpa using hx
        exact ⟨⟨by simp [World.cell?, h3], by simp [World.cell?, h3], by simp [World.cell?, h3], by simp [World.cell?, h3, sCEsT], by simp [World.cell?, h3]⟩, (show (5 : Nat) ≤ fmtMax by unfold fmtMax; omega)⟩
      | j + 2, hx => simp at hx
    | 1, hq =>
      obtain rfl : (⟨sAW, some ⟨k + 4, 0, none⟩, 1, 1, [⟨-18000, s2, 3600, sXT, 1893456000⟩]⟩ : Zn) = q := by simpa [euD] using hq
      refine ⟨⟨by simp [World.cell?, h5, sAW], by simp [World.cell?, h5]⟩, (show (6 : Nat) ≤ maxLen by unfold maxLen; omega), ⟨rfl, m1, fun _ => ⟨k + 4, 0, rfl, by omega, fun j x hx => ?_⟩⟩⟩
      match j, hx with
      | 0, hx =>
        obtain rfl : (⟨-18000, s2, 3600, sXT, 1893456000⟩ : Er) = x := by simpa using hx
        exact ⟨⟨by simp [World.cell?, h4], by simp [World.cell?, h4], by simp [World.cell?, h4], by simp [World.cell?, h4, sXT], by simp [World.cell?, h4]⟩, (show (2 : Nat) ≤ fmtMax by unfold fmtMax; omega)⟩
      | j + 1, hx => simp at hx
    | i + 2, hq => simp [euD] at hq
  · match i, hq with
    | 0, hq =>
      obtain rfl : (⟨sTown, t⟩ : Lk) = q := by simpa [euD] using hq
      exact ⟨⟨by simp [World.cell?, h6, sTown], by simp [World.cell?, h6]⟩, (show (4 : Nat) ≤ maxLen by unfold maxLen; omega), ht⟩
    | 1, hq =>
      obtain rfl : (⟨sTt, sTown⟩ : Lk) = q := by simpa [euD] using hq
      exact ⟨⟨by simp [World.cell?, h6, sTt], by simp [World.cell?, h6, sTown]⟩, (show (1 : Nat) ≤ maxLen by unfold maxLen; omega), (show (4 : Nat) ≤ maxLen by unfold maxLen; omega)⟩
    | i + 2, hq => simp [euD] at hq
theorem set_obj {W : World} {b o : Nat} {cs : Array Value} {T : TypeId} (h : W.heap[b]? = some (.cells cs T)) (v : Value) : (W.setCell ⟨b, o, none⟩ v).heap[b]? = some (.cells (cs.setIfInBounds o v) T) := by
  unfold World.setCell
  simp [Array.getElem?_modify, h]
theorem eu_set6 {W : World} {k : Nat} {s2 : Int} {t : ByteArray} (h : EuIn W k s2 t) (t' : ByteArray) : EuIn (W.setCell ⟨k + 6, 1, none⟩ (.string t')) k s2 t' :=
  ⟨(Below.heap_setCell W ⟨k + 6, 1, none⟩ _ _ (by simp)).trans h.o1, (Below.heap_setCell W ⟨k + 6, 1, none⟩ _ _ (by simp)).trans h.o2, (Below.heap_setCell W ⟨k + 6, 1, none⟩ _ _ (by simp)).trans h.o3, (Below.heap_setCell W ⟨k + 6, 1, none⟩ _ _ (by simp)).trans h.o4, (Below.heap_setCell W ⟨k + 6, 1, none⟩ _ _ (by simp)).trans h.o5, (set_obj h.o6 _).trans rfl⟩
theorem eu_set4 {W : World} {k : Nat} {s2 : Int} {t : ByteArray} (h : EuIn W k s2 t) (s : Int) : EuIn (W.setCell ⟨k + 4, 1, none⟩ (.int .i64 s)) k s t :=
  ⟨(Below.heap_setCell W ⟨k + 4, 1, none⟩ _ _ (by simp)).trans h.o1, (Below.heap_setCell W ⟨k + 4, 1, none⟩ _ _ (by simp)).trans h.o2, (Below.heap_setCell W ⟨k + 4, 1, none⟩ _ _ (by simp)).trans h.o3, (set_obj h.o4 _).trans rfl, (Below.heap_setCell W ⟨k + 4, 1, none⟩ _ _ (by simp)).trans h.o5, (Below.heap_setCell W ⟨k + 4, 1, none⟩ _ _ (by simp)).trans h.o6⟩
end Go.Proofs.YtlngalmdidaahaaDoor
end
/-! What must be in any case of data. -/
section
set_option linter.unusedVariables false
namespace Go.Proofs.YtlngalmdidaahaaDoor
open Go.RowKit Gno
theorem eu_mk (W : World) : Calls Tryd.prog 11 #[] W fun e w' => e = .returned (.agg #[.slice (some ⟨W.heap.size + 2, 0, none⟩) 1 1, .slice (some ⟨W.heap.size + 5, 0, none⟩) 2 2, .slice (some ⟨W.heap.size + 6, 0, none⟩) 2 2]) ∧ w' = euW W := europe_any W
theorem eu_chk (W : World) (k : Nat) (s2 : Int) (t : ByteArray) (h : EuIn W k s2 t) (hB : k + 7 ≤ W.heap.size) (ht : t.size ≤ maxLen) (hM : MaxAt W W.heap.size) {e : Int} (he : dataE (euD k s2 t) = e) :
    Calls Tryd.prog 8 #[.agg #[.slice (some ⟨k + 2, 0, none⟩) 1 1, .slice (some ⟨k + 5, 0, none⟩) 2 2, .slice (some ⟨k + 6, 0, none⟩) 2 2]] W fun e' w' => e' = .returned (.int .i64 e) ∧ Below W.heap.size W w' := by
  have := check_any (euD k s2 t) W (eu_data h hB ht) hM
  rwa [he] at this
theorem eu_zone (W : World) (k : Nat) (s2 : Int) (t : ByteArray) (h : EuIn W k s2 t) (hB : k + 7 ≤ W.heap.size) (ht : t.size ≤ maxLen) (hM : MaxAt W W.heap.size) (nm : ByteArray) {z e : Int} (he : zoneK (euD k s2 t) nm = z ∧ zoneEr (euD k s2 t) nm = e) :
    Calls Tryd.prog 7 #[.agg #[.slice (some ⟨k + 2, 0, none⟩) 1 1, .slice (some ⟨k + 5, 0, none⟩) 2 2, .slice (some ⟨k + 6, 0, none⟩) 2 2], .string nm] W fun e' w' => e' = .returned (.tuple #[.int .i64 z, .int .i64 e]) ∧ Below W.heap.size W w' := by
  have := zone_any (euD k s2 t) nm W (eu_data h hB ht) hM
  rwa [he.1, he.2] at this
theorem euW_next {w0 w : World} (h : Below w0.heap.size w0 w) : Below w0.heap.size w0 (euW w) := h.trans ((euW_below w).mono h.size)
theorem old_le : sOld.size ≤ maxLen := (show (10 : Nat) ≤ maxLen by unfold maxLen; omega)
theorem tt_le : sTt.size ≤ maxLen := (show (1 : Nat) ≤ maxLen by unfold maxLen; omega)
theorem nm_ok : nameOk sOld = true := by kernel_rfl
theorem nm_no1 : nameOk ⟨#[69, 47]⟩ = false := by kernel_rfl
theorem nm_no2 : nameOk ⟨#[49, 97]⟩ = false := by kernel_rfl
/-- a box behind all that was, and a cell of one of the data's blocks written. -/
theorem eu_box (w2 : World) : EuIn ((euW w2).alloc (Dobj (euD w2.heap.size (-1) sOld))) w2.heap.size (-1) sOld :=
  (euW_in w2).below ((Below.refl _ _).alloc (Nat.le_refl _) _) (by rw [euW_size]; omega)
end Go.Proofs.YtlngalmdidaahaaDoor
end
/-! The walk of DataTells. -/
section
set_option linter.unusedVariables false
namespace Go.Proofs.YtlngalmdidaahaaDoor
open Go.RowKit Gno
/-- the data's box, and what lies below it, in each later world. -/
theorem box_next {d : Dt} {w W : World} (hD : DataAt w w.heap.size d) (hb : Below (w.heap.size + 1) (w.alloc (Dobj d)) W) :
    Below w.heap.size w W ∧ DataAt W W.heap.size d ∧ W.cell? ⟨w.heap.size, 0, none⟩ = some (.slice d.sA d.sn d.sc) ∧ W.cell? ⟨w.heap.size, 1, none⟩ = some (.slice d.zA d.zn d.zc) ∧ W.cell? ⟨w.heap.size, 2, none⟩ = some (.slice d.lA d.ln d.lc) := by
  have h1 : Below w.heap.size w W := ((Below.refl w.heap.size w).alloc (Nat.le_refl _) (Dobj d)).trans (hb.mono (by omega))
  exact ⟨h1, hD.next h1, (hb.cell (p := ⟨w.heap.size, 0, none⟩) (by simp)).trans (by rw [World.cell?_alloc_at _ _ _ _ rfl]; rfl), (hb.cell (p := ⟨w.heap.size, 1, none⟩) (by simp)).trans (by rw [World.cell?_alloc_at _ _ _ _ rfl]; rfl), (hb.cell (p := ⟨w.heap.size, 2, none⟩) (by simp)).trans (by rw [World.cell?_alloc_at _ _ _ _ rfl]; rfl)⟩
end Go.Proofs.YtlngalmdidaahaaDoor
end
/-! The walk of DataLinks. -/
section
set_option linter.unusedVariables false
namespace Go.Proofs.YtlngalmdidaahaaDoor
open Go.RowKit Gno
abbrev BoxB (d : Dt) (w W : World) : Prop := Below (w.heap.size + 1) (w.alloc (.cells #[.slice d.sA d.sn d.sc, .slice d.zA d.zn d.zc, .slice d.lA d.ln d.lc] 26)) W
end Go.Proofs.YtlngalmdidaahaaDoor
end
