/- Plain: offsets as text. -/
import Derived.Lib.Atoi
import Derived.Lib.IndexMore
import Derived.Lib.Strings
import Derived.Lib.ItoaNum
set_option linter.unusedVariables false
set_option linter.unusedSimpArgs false
namespace Gno
open Go
/-- two digits. -/
def twL (n : Nat) : List UInt8 := [UInt8.ofNat (48 + n / 10), UInt8.ofNat (48 + n % 10)]
def nuL (n : Nat) : List UInt8 := if n < 10 then [UInt8.ofNat (48 + n)] else twL n
def sgL (n : Int) : List UInt8 := if n < 0 then [45] else [43]
def aheadL (k : Int) : List UInt8 := if k < 3 then [] else [71, 77, 84]
def zeroL (k : Int) : List UInt8 := if k = 1 then [] else if k = 2 then [90] else [71, 77, 84]
def layL (k : Int) (h m : Nat) : List UInt8 := if k = 1 then twL h ++ twL m else if k = 3 then (if m = 0 then nuL h else nuL h ++ (58 :: twL m)) else twL h ++ (58 :: twL m)
def showL (k n : Int) : List UInt8 := if n = 0 ∧ k ≠ 1 then zeroL k else aheadL k ++ (sgL n ++ layL k (n.natAbs / 60 / 60) (n.natAbs / 60 % 60))
def halves (k : Int) (c : List UInt8 × List UInt8 × Bool) : List UInt8 × List UInt8 := if c.2.2 = false ∧ k = 1 ∧ c.1.length = 4 then (c.1.take 2, c.1.drop 2) else (c.1, c.2.1)
def atoi0 (l : List UInt8) : Int := (Lib.atoi l).getD 0
def secs (k : Int) (r : List UInt8) : Int := (atoi0 (halves k (Lib.cut r.tail [58])).1 * 60 + atoi0 (halves k (Lib.cut r.tail [58])).2) * 60
def parseR (k : Int) (r : List UInt8) : Int := if r.head? = some 45 then - secs k r else secs k r
def parseL (k : Int) (l : List UInt8) : Option Int :=
  if zeroL k ≠ [] ∧ l = zeroL k then some 0
  else if Lib.hasPrefix l (aheadL k) = false then none
  else if (Lib.trimPrefix l (aheadL k)).length < 2 ∨ 6 < (Lib.trimPrefix l (aheadL k)).length then none
  else some (parseR k (Lib.trimPrefix l (aheadL k)))
def kindB (k : Int) : Bool := decide (1 ≤ k ∧ k ≤ 4)
def offOk (n : Int) : Bool := decide (-57600 ≤ n ∧ n ≤ 57600 ∧ n % 60 = 0)
def oneOk (k : Int) (i : Nat) : Bool := parseL k (showL k (60 * (i : Int) - 57600)) == some (60 * (i : Int) - 57600) && decide ((showL k (60 * (i : Int) - 57600)).length ≤ 9)
def allOk (k : Int) : Nat → Bool
  | 0 => true
  | i + 1 => oneOk k i && allOk k i
theorem allOk_at {k : Int} : ∀ {n i : Nat}, allOk k n = true → i < n → oneOk k i = true
  | 0, i, _, h => by omega
  | n + 1, i, ha, h => by
    rw [allOk, Bool.and_eq_true] at ha
    by_cases e : i = n
    · rw [e]; exact ha.1
    · exact allOk_at ha.2 (by omega)
set_option maxRecDepth 1000000 in
theorem allOk_1 : allOk 1 1921 = true := by kernel_rfl
set_option maxRecDepth 1000000 in
theorem allOk_2 : allOk 2 1921 = true := by kernel_rfl
set_option maxRecDepth 1000000 in
theorem allOk_3 : allOk 3 1921 = true := by kernel_rfl
set_option maxRecDepth 1000000 in
theorem allOk_4 : allOk 4 1921 = true := by kernel_rfl
/-! texts -/
def B (l : List UInt8) : ByteArray := ⟨l.toArray⟩
theorem B_app (a b : List UInt8) : B a ++ B b = B (a ++ b) := ByteArray.ext (by simp [B])
theorem B_list (s : ByteArray) : B s.data.toList = s := ByteArray.ext (by simp [B])
theorem B_size (l : List UInt8) : (B l).size = l.length := by simp [B, ByteArray.size]
theorem B_toList (l : List UInt8) : (B l).data.toList = l := by simp [B]
theorem B_inj {a b : List UInt8} (h : B a = B b) : a = b := by have := congrArg (fun s => s.data.toList) h; simpa [B] using this
theorem oneOk_at {k n : Int} (hk : kindB k = true) (hn : offOk n = true) : parseL k (showL k n) = some n ∧ (showL k n).length ≤ 9 := by
  simp only [kindB, offOk, decide_eq_true_eq] at hk hn
  have e : n = 60 * (((n + 57600) / 60).toNat : Int) - 57600 := by omega
  have hi : ((n + 57600) / 60).toNat < 1921 := by omega
  have h : oneOk k ((n + 57600) / 60).toNat = true := by
    have : k = 1 ∨ k = 2 ∨ k = 3 ∨ k = 4 := by omega
    rcases this with rfl | rfl | rfl | rfl
    · exact allOk_at allOk_1 hi
    · exact allOk_at allOk_2 hi
    · exact allOk_at allOk_3 hi
    · exact allOk_at allOk_4 hi
  unfold oneOk at h
  rw [Bool.and_eq_true, beq_iff_eq, decide_eq_true_eq, ← e] at h
  exact h
def showE (k n : Int) : Int := if kindB k = false then 8 else if offOk n = false then 3 else 0
def showT (k n : Int) : ByteArray := if showE k n = 0 then B (showL k n) else ⟨#[]⟩
def Tells (k : Int) (s : ByteArray) (n : Int) : Prop := showE k n = 0 ∧ showT k n = s
theorem showE_kind {k n : Int} (h : kindB k = false) : showE k n = 8 ∧ showT k n = ⟨#[]⟩ := by
  have e : showE k n = 8 := by unfold showE; rw [if_pos h]
  exact ⟨e, by unfold showT; rw [e]; rfl⟩
theorem showE_range {k n : Int} (h : kindB k = true) (hn : offOk n = false) : showE k n = 3 ∧ showT k n = ⟨#[]⟩ := by
  have e : showE k n = 3 := by unfold showE; rw [if_neg (by simp [h]), if_pos hn]
  exact ⟨e, by unfold showT; rw [e]; rfl⟩
theorem showE_ok {k n : Int} (h : kindB k = true) (hn : offOk n = true) : showE k n = 0 ∧ showT k n = B (showL k n) := by
  have e : showE k n = 0 := by unfold showE; rw [if_neg (by simp [h]), if_neg (by simp [hn])]
  exact ⟨e, by unfold showT; rw [if_pos e]⟩
theorem showE_zero {k n : Int} (h : showE k n = 0) : kindB k = true ∧ offOk n = true := by
  unfold showE at h
  cases h1 : kindB k
  · rw [h1, if_pos rfl] at h; cases h
  · rw [h1, if_neg (by simp)] at h
    cases h2 : offOk n
    · rw [h2, if_pos rfl] at h; cases h
    · exact ⟨rfl, rfl⟩
theorem showE_cases (k n : Int) : showE k n = 0 ∨ showE k n = 3 ∨ showE k n = 8 := by
  cases h1 : kindB k
  · exact .inr (.inr (showE_kind h1).1)
  · cases h2 : offOk n
    · exact .inr (.inl (showE_range h1 h2).1)
    · exact .inl (showE_ok h1 h2).1
theorem showT_size (k n : Int) : (showT k n).size ≤ 9 := by
  cases h1 : kindB k
  · rw [(showE_kind h1).2]; simp [ByteArray.size]
  · cases h2 : offOk n
    · rw [(showE_range h1 h2).2]; simp [ByteArray.size]
    · rw [(showE_ok h1 h2).2, B_size]; exact (oneOk_at h1 h2).2
theorem tells_parse {k : Int} {s : ByteArray} {n : Int} (h : Tells k s n) : parseL k s.data.toList = some n := by
  obtain ⟨h1, h2⟩ := showE_zero h.1
  rw [← h.2, (showE_ok h1 h2).2, B_toList]
  exact (oneOk_at h1 h2).1
theorem tells_uniq {k : Int} {s : ByteArray} {n m : Int} (h : Tells k s n) (h2 : Tells k s m) : n = m := by
  have := (tells_parse h).symm.trans (tells_parse h2)
  injection this
open Classical in
noncomputable def readN (k : Int) (s : ByteArray) : Int := if h : ∃ n, Tells k s n then choose h else 0
open Classical in
noncomputable def readE (k : Int) (s : ByteArray) : Int := if kindB k = false then 8 else if ∃ n, Tells k s n then 0 else 1
theorem read_yes {k : Int} {s : ByteArray} {n : Int} (h : Tells k s n) : readN k s = n ∧ readE k s = 0 := by
  have hx : ∃ n, Tells k s n := ⟨n, h⟩
  constructor
  · unfold readN; rw [dif_pos hx]; exact tells_uniq (Classical.choose_spec hx) h
  · unfold readE; rw [if_neg (by simp [(showE_zero h.1).1]), if_pos hx]
theorem read_no {k : Int} {s : ByteArray} (hk : kindB k = true) (h : ∀ n, ¬ Tells k s n) : readN k s = 0 ∧ readE k s = 1 := by
  have hx : ¬ ∃ n, Tells k s n := fun ⟨n, hn⟩ => h n hn
  constructor
  · unfold readN; rw [dif_neg hx]
  · unfold readE; rw [if_neg (by simp [hk]), if_neg hx]
theorem read_kind {k : Int} (s : ByteArray) (hk : kindB k = false) : readN k s = 0 ∧ readE k s = 8 := by
  have hx : ¬ ∃ n, Tells k s n := fun ⟨n, hn⟩ => by rw [(showE_zero hn.1).1] at hk; cases hk
  constructor
  · unfold readN; rw [dif_neg hx]
  · unfold readE; rw [if_pos hk]
theorem read_zero {k : Int} {s : ByteArray} (h : readE k s = 0) : Tells k s (readN k s) := by
  unfold readE at h
  cases hk : kindB k
  · rw [hk, if_pos rfl] at h; cases h
  · rw [hk, if_neg (by simp)] at h
    by_cases hx : ∃ n, Tells k s n
    · unfold readN; rw [dif_pos hx]; exact Classical.choose_spec hx
    · rw [if_neg hx] at h; cases h
theorem read_unparsed {k : Int} {s : ByteArray} (hk : kindB k = true) (h : parseL k s.data.toList = none) : readN k s = 0 ∧ readE k s = 1 := read_no hk fun n hn => by rw [tells_parse hn] at h; cases h
theorem read_other {k : Int} {s : ByteArray} {p : Int} (hk : kindB k = true) (h : parseL k s.data.toList = some p) (hp : ¬ Tells k s p) : readN k s = 0 ∧ readE k s = 1 := read_no hk fun n hn => by
  rw [tells_parse hn] at h
  injection h with h
  exact hp (h ▸ hn)
theorem read_tried {k : Int} {s : ByteArray} (hk : kindB k = true) (h : ∀ i : Nat, i < 1921 → showT k (60 * (i : Int) - 57600) ≠ s) : readN k s = 0 ∧ readE k s = 1 := read_no hk fun n hn => by
  have h2 := (showE_zero hn.1).2
  simp only [offOk, decide_eq_true_eq] at h2
  have e : n = 60 * (((n + 57600) / 60).toNat : Int) - 57600 := by omega
  have := h ((n + 57600) / 60).toNat (by omega)
  rw [← e] at this
  exact this hn.2
theorem decFrom_lt : ∀ {l : List UInt8} {acc n : Nat}, Lib.decFrom acc l = some n → n < (acc + 1) * 10 ^ l.length
  | [], acc, n, h => by simp [Lib.decFrom] at h; simp; omega
  | b :: r, acc, n, h => by
    unfold Lib.decFrom at h
    split at h
    · rename_i d hd
      have h1 := decFrom_lt h
      have hd9 : d ≤ 9 := by
        unfold Lib.digitVal at hd
        split at hd
        · injection hd with hd; omega
        · cases hd
      have h2 : (acc * 10 + d + 1) * 10 ^ r.length ≤ (acc * 10 + 10) * 10 ^ r.length := Nat.mul_le_mul_right _ (by omega)
      have h3 : (acc * 10 + 10) * 10 ^ r.length = (acc + 1) * 10 ^ (r.length + 1) := by rw [Nat.pow_succ]; rw [show acc * 10 + 10 = (acc + 1) * 10 by omega]; rw [Nat.mul_assoc, Nat.mul_comm 10]
      simp only [List.length_cons]
      omega
    · cases h
end Gno
