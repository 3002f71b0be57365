/- The walk of the reference's twice. -/
import Derived.Test.YtlmphmfadikdpaaBk3
set_option linter.unusedVariables false
namespace Gno
/-- is the i-th one among the first m? -/
def amongTo (l : List ByteArray) (v : ByteArray) (m : Nat) : Bool := (l.take m).any fun x => same v x
/-- is one of the first i told twice? -/
def dupTo (l : List ByteArray) : Nat → Bool
  | 0 => false
  | i + 1 => dupTo l i || (match l[i]? with | some v => amongTo l v i | none => false)
def dup (l : List ByteArray) : Bool := dupTo l l.length
theorem amongTo_step {l : List ByteArray} {v x : ByteArray} {m : Nat} (h : l[m]? = some x) : amongTo l v (m + 1) = (amongTo l v m || same v x) := by
  have hm : m < l.length := (List.getElem?_eq_some_iff.1 h).1
  have he : l[m] = x := (List.getElem?_eq_some_iff.1 h).2
  unfold amongTo
  rw [List.take_succ_eq_append_getElem hm, List.any_append, he]
  simp
theorem amongTo_mono {l : List ByteArray} {v : ByteArray} {m m' : Nat} (h : amongTo l v m = true) (hm : m ≤ m') : amongTo l v m' = true := by
  unfold amongTo at h ⊢
  rw [List.any_eq_true] at h ⊢
  obtain ⟨x, hx, hp⟩ := h
  exact ⟨x, (List.take_subset_take_left l hm) hx, hp⟩
theorem dupTo_mono {l : List ByteArray} {i : Nat} (h : dupTo l i = true) : ∀ d, dupTo l (i + d) = true
  | 0 => h
  | d + 1 => by
    show dupTo l (i + d + 1) = true
    rw [dupTo, dupTo_mono h d]; rfl
theorem dup_yes {l : List ByteArray} {i m : Nat} {v : ByteArray} (hi : l[i]? = some v) (hm : m ≤ i) (h : amongTo l v m = true) : dup l = true := by
  have hl : i < l.length := (List.getElem?_eq_some_iff.1 hi).1
  have h1 : dupTo l (i + 1) = true := by rw [dupTo, hi]; simp [amongTo_mono h hm]
  have := dupTo_mono h1 (l.length - (i + 1))
  rw [show i + 1 + (l.length - (i + 1)) = l.length by omega] at this
  exact this
theorem dupTo_no {l : List ByteArray} {i : Nat} {v : ByteArray} (hi : l[i]? = some v) (h0 : dupTo l i = false) (h : amongTo l v i = false) : dupTo l (i + 1) = false := by
  rw [dupTo, hi, h0]; simp [h]
end Gno
namespace Go.Proofs.Ytlmphmfadikdpaa
open Go.RowKit Gno
/-- the texts lie in memory, a cell each. -/
def StrsAt (w : World) (B : Nat) (A : Option Addr) (n : Nat) (l : List ByteArray) : Prop :=
  l.length = n ∧ n ≤ maxLen ∧ (0 < n → ∃ b o, A = some ⟨b, o, none⟩ ∧ b < B ∧ ∀ (i : Nat) s, l[i]? = some s → w.cell? ⟨b, o + i, none⟩ = some (.string s))
set_option maxRecDepth 100000 in
set_option maxHeartbeats 4000000 in
theorem twice_any (A : Option Addr) (n cap : Nat) (l : List ByteArray) (w : World) (hR : StrsAt w w.heap.size A n l) :
    Calls Try.prog 62 #[.slice A n cap] w fun e w' => e = .returned (.bool (dup l)) ∧ Below w.heap.size w w' := by
  have hn : n ≤ 9223372036854775807 := hR.2.1
  have HR := Lib.hid hR
  clear hR
  go_enter Try.func62, Try.ntmps62
  go_wp2
  go_loopw [3, 4] (fun b0 _ wr => ∃ i : Nat, i ≤ n ∧ b0 = .int .i64 i ∧ Hid (dupTo l i = false) ∧ Below w.heap.size w wr) (fun b0 _ _ => n - (intOf b0).toNat)
  case atStart => exact ⟨0, Nat.zero_le _, rfl, Lib.hid rfl, Below.refl _ _⟩
  case round =>
    obtain ⟨i, hi, rfl, hfd, hb⟩ := hrel
    obtain ⟨wo, hwo⟩ : ∃ wo : World, wo = wr := ⟨_, rfl⟩
    rw [← hwo]
    rw [← hwo] at hb
    clear hwo
    by_cases hlt : i < n
    · obtain ⟨b, o, hA, hbB, hc⟩ := HR.out.2.2 (by omega)
      subst hA
      have hl : i < l.length := by rw [HR.out.1]; exact hlt
      have HC := Lib.hid hc
      obtain ⟨v, hv⟩ : ∃ v, l[i]? = some v := ⟨_, List.getElem?_eq_getElem hl⟩
      have e0 := hc i v hv
      have HVI := Lib.hid hv
      clear hc hl hv
      go_wp2
      go_loopw [4] (fun b1 wr2 => ∃ m : Nat, m ≤ i ∧ b1 = .int .i64 m ∧ Hid (amongTo l v m = false) ∧ Below w.heap.size w wr2) (fun b1 _ => i - (intOf b1).toNat)
      case atStart => exact ⟨0, Nat.zero_le _, rfl, Lib.hid (by simp [amongTo]), hb⟩
      case round =>
        obtain ⟨m, hm, rfl, hfm, hb2⟩ := hrel
        by_cases hmi : m < i
        · have hl : m < l.length := by rw [HR.out.1]; omega
          obtain ⟨x, hx⟩ : ∃ x, l[m]? = some x := ⟨_, List.getElem?_eq_getElem hl⟩
          have g0 := (hb2.cell hbB).trans e0
          have g1 := (hb2.cell hbB).trans (HC.out m x hx)
          have ST := Lib.hid (amongTo_step (v := v) hx)
          clear hl hx e0
          cases hs : same v x
          · have HX : Hid (amongTo l v (m + 1) = false) := Lib.hid (by rw [ST.out, hfm.out, hs]; rfl)
            have hq : (v.toList == x.toList) = false := hs
            clear hs hfm ST
            go_wp2
            go_region
            go_wp2
            go_roundw
            case rel => exact ⟨m + 1, by omega, by go_num, HX, hb2.drew⟩
            case measure => simp [intOf]; omega
          · have HX : Hid (dup l = true) := Lib.hid (dup_yes (m := m + 1) HVI.out (by omega) (by rw [ST.out, hs]; simp))
            have hq : (v.toList == x.toList) = true := hs
            clear hs hfm ST
            go_wp2
            go_region
            go_wp2
            go_ret
            exact ⟨ret_bool HX.out.symm, hb2.drew⟩
        · have HX := Lib.hid (dupTo_no HVI.out hfd.out (by have : m = i := by omega
                                                           rw [← this]; exact hfm.out))
          go_wp2
          go_roundw
          case rel => exact ⟨i + 1, by omega, by go_num, HX, hb2⟩
          case measure => simp [intOf]; omega
    · have HX : Hid (dup l = false) := Lib.hid (by
        have : i = l.length := by have := HR.out.1; omega
        unfold dup
        rw [← this]; exact hfd.out)
      go_wp2
      go_ret
      exact ⟨ret_bool HX.out.symm, hb⟩
end Go.Proofs.Ytlmphmfadikdpaa
