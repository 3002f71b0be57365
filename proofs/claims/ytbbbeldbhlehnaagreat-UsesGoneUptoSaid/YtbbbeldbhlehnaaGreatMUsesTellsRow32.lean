/- Parts of a proof, laid together. -/
import Derived.Sort.Statements
import Derived.Test.YtbbbeldbhlehnaaGreatMUsesTellsRow31
set_option linter.unusedSimpArgs false
set_option linter.unusedVariables false
/-! Plain: uses, their errors, the Meta of a zone, the zones of a Meta. -/
section
set_option linter.unusedVariables false
set_option linter.unusedSimpArgs false
namespace Gno
open Go
structure Us where
  zone : ByteArray
  fr : Int
  til : Int
  mt : ByteArray
instance : Inhabited Us := ⟨⟨⟨#[]⟩, 0, 0, ⟨#[]⟩⟩⟩
def badMt (u : Us) : Bool := badNm u.mt
def noZone (d : Dt) (u : Us) : Bool := decide (zoneN d u.zone < 0)
def badUse (u : Us) : Bool := decide (u.fr < 0) || (decide (u.til ≤ u.fr) || decide (1893456000 < u.til))
/-- do two uses have a time of one zone? -/
def clash (a b : Us) : Bool := same a.zone b.zone && (decide (a.fr < b.til) && decide (b.fr < a.til))
def overU (l : List Us) : Bool := anyI (fun k u => anyTo (atI (fun _ a => clash a u) l) k) l
noncomputable def usesE (d : Dt) (l : List Us) : Int :=
  if dataE d ≠ 0 then dataE d else if 10 < l.length then 2 else if hasP badMt l = true then 5 else if hasP (noZone d) l = true then 4 else if hasP badUse l = true then 3 else if overU l = true then 6 else 0
/-- with a time. -/
noncomputable def askedE (d : Dt) (l : List Us) (t : Int) : Int :=
  if usesE d l ≠ 0 then usesE d l else if t < 0 ∨ 1893456000 ≤ t then 3 else 0
/-- has a use that time of that zone? -/
def isUse (zone : ByteArray) (t : Int) (u : Us) : Bool := same u.zone zone && (decide (u.fr ≤ t) && decide (t < u.til))
def metaN (l : List Us) (zone : ByteArray) (t : Int) : Int := fst (isUse zone t) l 0
def metaU (l : List Us) (zone : ByteArray) (t : Int) : ByteArray := match l[(metaN l zone t).toNat]? with | some u => if metaN l zone t < 0 then ⟨#[]⟩ else u.mt | none => ⟨#[]⟩
/-- the Meta that is told, its error. -/
noncomputable def metaE (d : Dt) (l : List Us) (nm : ByteArray) (t : Int) : Int := if askedE d l t ≠ 0 then askedE d l t else if leadN d nm < 0 then 4 else 0
noncomputable def metaT (d : Dt) (l : List Us) (nm : ByteArray) (t : Int) : ByteArray :=
  if metaE d l nm t ≠ 0 then ⟨#[]⟩ else match d.zs[(leadN d nm).toNat]? with | some z => metaU l z.name t | none => ⟨#[]⟩
/-! the order of texts -/
theorem bl_irrefl : ∀ x : List UInt8, Op.bytesLess x x = false
  | [] => rfl
  | a :: x => by
    have : ¬ a < a := by rw [UInt8.lt_iff_toNat_lt]; omega
    simp [Op.bytesLess, bl_irrefl x, this]
theorem bl_trans : ∀ x y z : List UInt8, Op.bytesLess x y = true → Op.bytesLess y z = true → Op.bytesLess x z = true
  | [], [], _, h, _ => by simp [Op.bytesLess] at h
  | [], _ :: _, [], _, h => by simp [Op.bytesLess] at h
  | [], _ :: _, _ :: _, _, _ => by simp [Op.bytesLess]
  | _ :: _, [], _, h, _ => by simp [Op.bytesLess] at h
  | _ :: _, _ :: _, [], _, h => by simp [Op.bytesLess] at h
  | a :: x, b :: y, c :: z, h1, h2 => by
    simp only [Op.bytesLess, Bool.or_eq_true, Bool.and_eq_true, decide_eq_true_eq, beq_iff_eq, UInt8.lt_iff_toNat_lt] at h1 h2 ⊢
    rcases h1 with h1 | ⟨e1, h1⟩ <;> rcases h2 with h2 | ⟨e2, h2⟩
    · exact .inl (by omega)
    · subst e2; exact .inl h1
    · subst e1; exact .inl h2
    · subst e1; subst e2; exact .inr ⟨rfl, bl_trans x y z h1 h2⟩
theorem less_irrefl (a : ByteArray) : lessB a a = false := bl_irrefl _
theorem less_trans {a b c : ByteArray} (h1 : lessB a b = true) (h2 : lessB b c = true) : lessB a c = true := bl_trans _ _ _ h1 h2
theorem less_tri (a b : ByteArray) : lessB a b = true ∨ a = b ∨ lessB b a = true := by
  cases h1 : lessB a b
  · have h := less_or a b
    have h2 : Op.bytesLess a.toList b.toList = false := h1
    rw [h2, Bool.false_or] at h
    cases h3 : lessB b a
    · rw [h3] at h
      exact .inr (.inl ((same_iff a b).1 h))
    · exact .inr (.inr rfl)
  · exact .inl rfl
/-- how two texts lie. -/
def cmpB (a b : ByteArray) : Int := if lessB a b = true then -1 else if lessB b a = true then 1 else 0
def cmpN (a b : Int) : Int := if a < b then -1 else if b < a then 1 else 0
def useCmp (a b : Us) : Int := if cmpB a.zone b.zone ≠ 0 then cmpB a.zone b.zone else cmpN a.fr b.fr
def useLt (a b : Us) : Prop := lessB a.zone b.zone = true ∨ a.zone = b.zone ∧ a.fr < b.fr
theorem useCmp_lt (a b : Us) : useCmp a b < 0 ↔ useLt a b := by
  unfold useCmp useLt cmpB cmpN
  rcases less_tri a.zone b.zone with h | h | h
  · rw [if_pos h]; simp [h]
  · rw [h, less_irrefl]
    simp
    split
    · simp; omega
    · split <;> simp <;> omega
  · have h2 : lessB a.zone b.zone = false := bl_asymm _ _ h
    rw [h2, h]
    simp
    intro e
    rw [e, less_irrefl] at h
    cases h
theorem use_swo : Go.Sort.SWO (fun a b : Us => decide (useCmp a b < 0)) where
  irrefl := fun x => by
    simp only [decide_eq_false_iff_not, useCmp_lt]
    rintro (h | h)
    · rw [less_irrefl] at h; cases h
    · omega
  trans := fun x y z h1 h2 => by
    simp only [decide_eq_true_eq, useCmp_lt] at h1 h2 ⊢
    rcases h1 with h1 | ⟨e1, h1⟩ <;> rcases h2 with h2 | ⟨e2, h2⟩
    · exact .inl (less_trans h1 h2)
    · exact .inl (e2 ▸ h1)
    · exact .inl (e1 ▸ h2)
    · exact .inr ⟨e1.trans e2, by omega⟩
  ntrans := fun x y z h1 h2 => by
    simp only [decide_eq_false_iff_not, useCmp_lt] at h1 h2 ⊢
    intro h
    apply h1
    rcases less_tri x.zone y.zone with q | q | q
    · exact .inl q
    · rcases h with h | ⟨e, h⟩
      · exact absurd (.inl (q ▸ h)) h2
      · exact .inr ⟨q, by
          have : ¬ (y.fr < z.fr) := fun k => h2 (.inr ⟨q.symm.trans e, k⟩)
          omega⟩
    · exfalso
      rcases h with h | ⟨e, h⟩
      · exact h2 (.inl (less_trans q h))
      · exact h2 (.inl (e ▸ q))
/-- sorted ones: do two neighbours have a time of one zone? -/
def nextU (l : List Us) (k : Nat) (u : Us) : Bool := match k with
  | 0 => false
  | j + 1 => match l[j]? with
    | some p => same p.zone u.zone && decide (u.fr < p.til)
    | none => false
def adjU (l : List Us) : Bool := anyI (nextU l) l
theorem clash_comm (a b : Us) : clash a b = clash b a := by
  unfold clash
  rw [same_comm a.zone b.zone, Bool.and_comm (decide (a.fr < b.til))]
theorem overU_iff (l : List Us) : overU l = false ↔ l.Pairwise (fun a b => clash a b = false) := by
  rw [List.pairwise_iff_getElem]
  constructor
  · intro h i j hi hj hij
    cases hc : clash l[i] l[j]
    · rfl
    · exfalso
      have : overU l = true := anyI_iff.2 ⟨j, l[j], List.getElem?_eq_getElem hj, anyTo_yes hij (by rw [atI_eq (List.getElem?_eq_getElem hi)]; exact hc)⟩
      rw [h] at this; cases this
  · intro h
    cases hc : overU l
    · rfl
    · exfalso
      obtain ⟨k, u, hk, hq⟩ := anyI_iff.1 hc
      obtain ⟨i, hi, hp⟩ := anyTo_iff.1 hq
      have hkl := (List.getElem?_eq_some_iff.1 hk).1
      have hil : i < l.length := by omega
      rw [atI_eq (List.getElem?_eq_getElem hil)] at hp
      have hu : l[k] = u := (List.getElem?_eq_some_iff.1 hk).2
      have := h i k hil hkl hi
      rw [hu] at this
      rw [this] at hp; cases hp
/-- of two, sorted: the first one's time is over ahead of the second one's. -/
def Ahead (a b : Us) : Prop := lessB a.zone b.zone = true ∨ a.zone = b.zone ∧ a.til ≤ b.fr
theorem ahead_trans {a b c : Us} (hb : b.fr < b.til) (h1 : Ahead a b) (h2 : Ahead b c) : Ahead a c := by
  rcases h1 with h1 | ⟨e1, h1⟩ <;> rcases h2 with h2 | ⟨e2, h2⟩
  · exact .inl (less_trans h1 h2)
  · exact .inl (e2 ▸ h1)
  · exact .inl (e1 ▸ h2)
  · exact .inr ⟨e1.trans e2, by omega⟩
theorem ahead_clash {a b : Us} (h : Ahead a b) : clash a b = false := by
  unfold clash
  rcases h with h | ⟨_, h⟩
  · have : same a.zone b.zone = false := by
      cases hs : same a.zone b.zone
      · rfl
      · rw [(same_iff _ _).1 hs, less_irrefl] at h; cases h
    rw [this, Bool.false_and]
  · have : decide (b.fr < a.til) = false := by simp; omega
    rw [this, Bool.and_false, Bool.and_false]
theorem adj_over {l : List Us} (hf : ∀ u ∈ l, u.fr < u.til) (hs : ∀ i j (hi : i < l.length) (hj : j < l.length), i < j → ¬ useLt l[j] l[i]) : adjU l = overU l := by
  have key : adjU l = false ↔ overU l = false := by
    rw [overU_iff, List.pairwise_iff_getElem]
    constructor
    · intro h
      have step : ∀ k (hk : k + 1 < l.length), Ahead l[k] l[k + 1] := fun k hk => by
        have h1 : nextU l (k + 1) l[k + 1] = false := by
          cases hc : nextU l (k + 1) l[k + 1]
          · rfl
          · have : adjU l = true := anyI_iff.2 ⟨k + 1, _, List.getElem?_eq_getElem hk, hc⟩
            rw [h] at this; cases this
        unfold nextU at h1
        simp only [List.getElem?_eq_getElem (show k < l.length by omega)] at h1
        have h2 := hs k (k + 1) (by omega) hk (by omega)
        rcases less_tri l[k].zone l[k + 1].zone with q | q | q
        · exact .inl q
        · refine .inr ⟨q, ?_⟩
          rw [Bool.and_eq_false_iff] at h1
          rcases h1 with h1 | h1
          · rw [(same_iff _ _).2 q] at h1; cases h1
          · simp at h1; omega
        · exact absurd (.inl q) h2
      have all : ∀ j i (hi : i < l.length) (hj : j < l.length), i < j → Ahead l[i] l[j] := by
        intro j
        induction j with
        | zero => intro i _ _ h; omega
        | succ j ih =>
          intro i hi hj hij
          by_cases e : i = j
          · subst e; exact step i hj
          · exact ahead_trans (hf _ (List.getElem_mem (show j < l.length by omega))) (ih i hi (by omega) (by omega)) (step j hj)
      exact fun i j hi hj hij => ahead_clash (all j i hi hj hij)
    · intro h
      cases hc : adjU l
      · rfl
      · exfalso
        obtain ⟨k, u, hk, hq⟩ := anyI_iff.1 hc
        cases k with
        | zero => cases hq
        | succ j =>
          have hkl := (List.getElem?_eq_some_iff.1 hk).1
          have hu : l[j + 1] = u := (List.getElem?_eq_some_iff.1 hk).2
          unfold nextU at hq
          simp only [List.getElem?_eq_getElem (show j < l.length by omega)] at hq
          rw [Bool.and_eq_true, decide_eq_true_eq] at hq
          have h1 := h j (j + 1) (by omega) hkl (by omega)
          have h2 := hs j (j + 1) (by omega) hkl (by omega)
          have h3 := hf _ (List.getElem_mem hkl)
          have h4 := (same_iff _ _).1 hq.1
          rw [hu] at h1 h2 h3
          have h5 : ¬ u.fr < l[j].fr := fun k => h2 (.inr ⟨h4.symm, k⟩)
          have : clash l[j] u = true := by
            unfold clash
            rw [hq.1, decide_eq_true (show l[j].fr < u.til by omega), decide_eq_true hq.2]; rfl
          rw [this] at h1; cases h1
  cases h1 : adjU l <;> cases h2 : overU l <;> simp_all
theorem over_perm {l m : List Us} (h : l.Perm m) : overU l = overU m := by
  have hs : ∀ {a b : Us}, clash a b = false → clash b a = false := fun {a b} q => (clash_comm b a).trans q
  have := List.Perm.pairwise_iff (R := fun a b : Us => clash a b = false) hs h
  have key : overU l = false ↔ overU m = false := by rw [overU_iff, overU_iff]; exact this
  cases h1 : overU l <;> cases h2 : overU m <;> simp_all
/-- what a sorted permutation's neighbours tell. -/
theorem adj_sorted {l s : List Us} (hp : s.Perm l) (hb : hasP badUse l = false) (hs : ∀ i j (hi : i < s.length) (hj : j < s.length), i < j → ¬ useLt s[j] s[i]) : adjU s = overU l := by
  rw [adj_over (fun u hu => ?_) hs, over_perm hp]
  have hm := hp.mem_iff.1 hu
  rw [hasP_any, List.any_eq_false] at hb
  have := hb u hm
  unfold badUse at this
  simp at this
  omega
end Gno
end
