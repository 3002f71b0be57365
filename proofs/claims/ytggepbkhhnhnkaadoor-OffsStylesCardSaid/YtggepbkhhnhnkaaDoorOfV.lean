/- Offsets as text: what Read's parts answer. -/
import Derived.Test.YtggepbkhhnhnkaaDoorOfT
import Derived.Lib.AtoiErrMem
set_option linter.unusedVariables false
set_option linter.unusedSimpArgs false
namespace Gno
open Go Go.RowKit
/-- the variables that the library reads: a bound, and an error. -/
structure OMet (w : World) : Prop where
  cut : ∃ m, w.cell? ⟨0, 0, none⟩ = some (.int .i64 m)
  syn : ∃ ev, w.cell? ⟨1, 0, none⟩ = some ev ∧ (ev = .nilIface ∨ ∃ te pe, ev = .iface te pe)
theorem cell_kept {w w' : World} {B : Nat} {a : Addr} {v : Value} (h : w.cell? a = some v) (hb : Below w.heap.size w w') : w'.cell? a = some v := by
  have hlt : a.block < w.heap.size := by
    cases hg : w.heap[a.block]? with
    | none => simp [World.cell?, hg] at h
    | some o => exact (Array.getElem?_eq_some_iff.1 hg).1
  rw [World.cell?_of_block (hb.block _ hlt)]; exact h
theorem OMet.below {w w' : World} (h : OMet w) (hb : Below w.heap.size w w') : OMet w' := by
  obtain ⟨⟨m, h1⟩, ev, h2, h3⟩ := h
  exact ⟨⟨m, cell_kept (B := 0) h1 hb⟩, ev, cell_kept (B := 0) h2 hb, h3⟩
theorem decNat_lt {l : List UInt8} {n : Nat} (h : Lib.decNat l = some n) : n < 10 ^ l.length := by
  unfold Lib.decNat at h
  split at h
  · cases h
  · have := decFrom_lt h; omega
theorem atoi0_bound {l : List UInt8} (h : l.length ≤ 6) : -1000000 < atoi0 l ∧ atoi0 l < 1000000 := by
  have key : ∀ {l : List UInt8} {m : Nat}, l.length ≤ 6 → Lib.decNat l = some m → m < 1000000 := fun {l m} hl hm => by
    have h1 := decNat_lt hm
    have h2 : 10 ^ l.length ≤ 10 ^ 6 := Nat.pow_le_pow_right (by omega) hl
    omega
  unfold atoi0
  cases hm : Lib.atoi l with
  | none => simp
  | some v =>
    simp only [Option.getD_some]
    unfold Lib.atoi at hm
    split at hm
    · cases hm
    · rename_i b r
      simp only [List.length_cons] at h
      split at hm
      · cases hd : Lib.decNat r with
        | none => rw [hd] at hm; cases hm
        | some m =>
          rw [hd] at hm
          simp only [Option.map_some, Option.some.injEq] at hm
          have := key (by omega) hd
          omega
      · split at hm
        · cases hd : Lib.decNat r with
          | none => rw [hd] at hm; cases hm
          | some m =>
            rw [hd] at hm
            simp only [Option.map_some, Option.some.injEq] at hm
            have := key (by omega) hd
            omega
        · cases hd : Lib.decNat (b :: r) with
          | none => rw [hd] at hm; cases hm
          | some m =>
            rw [hd] at hm
            simp only [Option.map_some, Option.some.injEq] at hm
            have := key (l := b :: r) (by simp; omega) hd
            omega
theorem zeroL_one : zeroL 1 = [] := rfl
theorem read_at_zero {k : Int} {t : ByteArray} (hk : kindB k = true) (h1 : zeroL k ≠ []) (h2 : t = B (zeroL k)) : readN k t = 0 ∧ readE k t = 0 := by
  have hn : offOk 0 = true := by decide
  have hk1 : k ≠ 1 := fun e => h1 (by rw [e]; rfl)
  exact read_yes ⟨(showE_ok hk hn).1, by rw [(showE_ok hk hn).2, showL_zero rfl hk1, h2]⟩
theorem read_bad {k : Int} {t : ByteArray} (hk : kindB k = true) (hz : zeroL k = [] ∨ t ≠ B (zeroL k)) (hb : Lib.hasPrefix t.data.toList (aheadL k) = false ∨ (Lib.trimPrefix t.data.toList (aheadL k)).length < 2 ∨ 6 < (Lib.trimPrefix t.data.toList (aheadL k)).length) : readN k t = 0 ∧ readE k t = 1 := by
  refine read_unparsed hk ?_
  unfold parseL
  have hz1 : ¬ (zeroL k ≠ [] ∧ t.data.toList = zeroL k) := fun ⟨h1, h2⟩ => by
    rcases hz with h | h
    · exact h1 h
    · exact h (by rw [← h2, B_list])
  rw [if_neg hz1]
  rcases hb with h | h
  · rw [if_pos h]
  · by_cases hp : Lib.hasPrefix t.data.toList (aheadL k) = false
    · rw [if_pos hp]
    · rw [if_neg hp, if_pos h]
theorem parse_some {k : Int} {t : ByteArray} (hz : zeroL k = [] ∨ t ≠ B (zeroL k)) (h1 : Lib.hasPrefix t.data.toList (aheadL k) = true) (h2 : 2 ≤ (Lib.trimPrefix t.data.toList (aheadL k)).length) (h3 : (Lib.trimPrefix t.data.toList (aheadL k)).length ≤ 6) :
    parseL k t.data.toList = some (parseR k (Lib.trimPrefix t.data.toList (aheadL k))) := by
  unfold parseL
  have hz1 : ¬ (zeroL k ≠ [] ∧ t.data.toList = zeroL k) := fun ⟨h1, h2⟩ => by
    rcases hz with h | h
    · exact h1 h
    · exact h (by rw [← h2, B_list])
  rw [if_neg hz1, if_neg (by simp [h1]), if_neg (by omega)]
end Gno
namespace Go.Proofs.YtggepbkhhnhnkaaDoor
open Go.RowKit Gno Go.Maps
theorem atoiP_any (s : ByteArray) (hl : s.size ≤ 18) (w : World) (hm : OMet w) : Calls Tryd.prog 14 #[.string s] w fun e w' => ∃ er, e = .returned (.tuple #[.int .i64 (atoi0 s.data.toList), er]) ∧ Below w.heap.size w w' := by
  unfold atoi0
  cases h : Lib.atoi s.data.toList with
  | some n =>
    refine (Go.Proofs.Tryd.strconv_Atoi s n hl h w).mono ?_
    rintro e w' ⟨rfl, t, rfl⟩
    exact ⟨_, rfl, Lib.bytesWorld_below _ _ _⟩
  | none =>
    obtain ⟨ev, h1, h2⟩ := hm.syn
    refine (Go.Proofs.Tryd.strconv_Atoi_err s hl h ev w h1 h2).mono ?_
    rintro e w' ⟨N, rfl, _, _, hb⟩
    exact ⟨_, rfl, hb⟩
theorem cutP_any (s : ByteArray) (hs : s.size < 4294967281) (w : World) (hm : OMet w) : Calls Tryd.prog 13 #[.string s, .string ⟨#[58]⟩] w fun e w' => e = .returned (.tuple #[.string (B (Lib.cut s.data.toList [58]).1), .string (B (Lib.cut s.data.toList [58]).2.1), .bool (Lib.cut s.data.toList [58]).2.2]) ∧ Below w.heap.size w w' := by
  obtain ⟨m, h1⟩ := hm.cut
  refine (Go.Proofs.Tryd.strings_Cut s ⟨#[58]⟩ m w hs h1).mono ?_
  rintro e w' ⟨rfl, n, rfl⟩
  exact ⟨rfl, ⟨rfl, rfl, rfl, Nat.le_refl _, fun _ _ => rfl⟩⟩
end Go.Proofs.YtggepbkhhnhnkaaDoor
