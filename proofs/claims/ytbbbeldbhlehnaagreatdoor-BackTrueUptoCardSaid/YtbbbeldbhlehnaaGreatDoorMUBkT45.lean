/- Plain: what back.Parse tells of a name that is told. -/
import Derived.Test.YtbbbeldbhlehnaaGreatDoorMUBkT44
set_option linter.unusedSimpArgs false
set_option linter.unusedVariables false
section
set_option linter.unusedVariables false
set_option linter.unusedSimpArgs false
namespace Gno
open Go Go.RowKit Go.Proofs.YtbbbeldbhlehnaaGreatDoor
theorem sort_rise {l : List ByteArray} (hn : l.Nodup) {i : Nat} {a b : ByteArray} (ha : (sortB l)[i]? = some a) (hb : (sortB l)[i + 1]? = some b) : lessB a b = true := by
 obtain ⟨hal, hax⟩ := List.getElem?_eq_some_iff.1 ha
 obtain ⟨hbl, hbx⟩ := List.getElem?_eq_some_iff.1 hb
 have h1 := List.pairwise_iff_getElem.1 (sortB_rise l) i (i + 1) hal hbl (by omega)
 have h2 : (sortB l).Nodup := (sortB_perm _).nodup_iff.2 hn
 have h3 := List.pairwise_iff_getElem.1 (List.nodup_iff_pairwise_ne.1 h2) i (i + 1) hal hbl (by omega)
 rw [hax, hbx] at h1 h3
 rcases less_tri a b with q | q | q
 ·exact q
 ·exact absurd q h3
 ·unfold leB at h1; rw [q] at h1; cases h1
theorem prsL_rise {x : Wd} {loc s : ByteArray} {t p : Int} (hE : wdsE x loc t p = 0) {i : Nat} {a b : ByteArray} (ha : (prsL x loc s t p)[i]? = some a) (hb : (prsL x loc s t p)[i + 1]? = some b) : lessB a b = true := by
 rw [(prsL_is hE).1] at ha hb
 refine sort_rise ?_ ha hb
 unfold prsUp
 rw [List.take_of_length_le (Nat.le_refl _)]
 exact (names_nd (preE_zero (wdsE_zero hE).1).1.data).sublist (List.Sublist.map _ List.filter_sublist)
theorem prsL_mem {x : Wd} {loc s : ByteArray} {t p : Int} (hE : wdsE x loc t p = 0) (b : ByteArray) : b ∈ prsL x loc s t p ↔ ∃ z ∈ x.d.zs, z.name = b ∧ calledZ x (bookN x.bs loc) z t p = prsB x loc s t p := by
 rw [(prsL_is hE).1, (sortB_perm _).mem_iff]
 unfold prsUp
 rw [List.take_of_length_le (Nat.le_refl _), List.mem_map]
 constructor
 ·rintro ⟨z, hz, e⟩
  obtain ⟨h1, h2⟩ := List.mem_filter.1 hz
  unfold prsHas at h2
  exact ⟨z, h1, e, (same_iff _ _).1 h2⟩
 ·rintro ⟨z, h1, e, h2⟩
  exact ⟨z, List.mem_filter.2 ⟨h1, by unfold prsHas; exact (same_iff _ _).2 h2⟩, e⟩
theorem wds_of {x : Wd} {loc nm : ByteArray} {t p : Int} {z : Zn} (h : NameOk x loc nm t p z) : wdsE x loc t p = 0 := by
 have h1 := h.pre p h.pat
 have h2 := h.time
 unfold wdsE
 rw [if_neg (by simp [h1]), if_neg (by omega)]
structure TrueOk (x : Wd) (loc nm : ByteArray) (t p : Int) (z : Zn) (S : ByteArray) : Prop where
 words : wdsE x loc t p = 0
 whole : prsN x loc S t p = S.size
 more : ∀ b : ByteArray, S.size ≤ prsN x loc (S ++ b) t p ∧ prsN x loc (S ++ b) t p ≤ (S ++ b).size
 told : ∀ b ∈ prsL x loc S t p, nameE x loc b t p = 0 ∧ nameT x loc b t p = S
 mem : z.name ∈ prsL x loc S t p
 small : S.size ≤ 12
theorem true_ok {x : Wd} {loc nm : ByteArray} {t p : Int} {z : Zn} (h : NameOk x loc nm t p z) : TrueOk x loc nm t p z (nameT x loc nm t p) := by
 have hE := wds_of h
 have hw : nameT x loc nm t p ∈ wdsL x loc t p := by
  rw [h.told]; exact List.mem_of_getElem? (wdsL_at hE h.hz)
 obtain ⟨h1, h2⟩ := told_whole hw
 have hr := right_of h.right.data
 refine ⟨hE, (prsL_is hE).2.trans h1, fun b => ?_, fun b hb => ?_, ?_, ?_⟩
 ·rw [(prsL_is hE).2]
  have h3 := more_le (wdsL x loc t p) (nameT x loc nm t p) b
  have h4 : prsM x loc (nameT x loc nm t p ++ b) t p ≤ (nameT x loc nm t p ++ b).size := (lgN_spec _ _ _).1
  have h5 : prsM x loc (nameT x loc nm t p) t p ≤ prsM x loc (nameT x loc nm t p ++ b) t p := h3
  omega
 ·obtain ⟨y, hy, rfl, hc⟩ := (prsL_mem hE b).1 hb
  obtain ⟨j, hj⟩ := List.getElem?_of_mem hy
  have hl : leadN x.d y.name = (j : Int) := hr.leadZone hj
  have hN : nameE x loc y.name t p = 0 := nameE_is (h.pre p h.pat) (by omega) h.time
  exact ⟨hN, by rw [nameT_is hN (by rw [hl, Int.toNat_natCast]; exact hj), hc, h2]⟩
 ·exact (prsL_mem hE _).2 ⟨z, h.mem, rfl, by rw [h2]; exact h.told.symm⟩
 ·rw [h.told]; exact (called_size h.right h.mem h.time.2).2
def hasTo (Z : List ByteArray) (nm : ByteArray) (i : Nat) : Bool := (Z.take i).any fun y => y.toList == nm.toList
theorem hasTo_step {Z : List ByteArray} {nm y : ByteArray} {i : Nat} (h : Z[i]? = some y) : hasTo Z nm (i + 1) = (hasTo Z nm i || (y.toList == nm.toList)) := by
 unfold hasTo
 rw [take_snoc' h, List.any_append]
 simp
theorem hasTo_end {Z : List ByteArray} {nm : ByteArray} {i : Nat} (hi : Z.length ≤ i) (hm : nm ∈ Z) : hasTo Z nm i = true := by
 unfold hasTo
 rw [List.take_of_length_le hi, List.any_eq_true]
 exact ⟨nm, hm, by simp⟩
end Gno
end
