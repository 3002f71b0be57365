/- Books in memory; and the first book of which p holds. -/
import Derived.Test.YtlmphmfadikdpaaNames3
set_option linter.unusedVariables false
namespace Gno
open Go
structure Pr where
  key : ByteArray
  text : ByteArray
structure Bk where
  loc : ByteArray
  par : Int
  A : Option Addr
  n : Nat
  cap : Nat
  ps : List Pr
/-- the number of the first one from which p holds; -1: none. -/
def fst {α : Type} (p : α → Bool) : List α → Int → Int
  | [], _ => -1
  | b :: t, k => if p b = true then k else fst p t (k + 1)
theorem fst_drop {α : Type} {p : α → Bool} {l : List α} {i : Nat} {b : α} (h : l[i]? = some b) : (p b = true → fst p (l.drop i) i = i) ∧ (p b = false → fst p (l.drop i) i = fst p (l.drop (i + 1)) ((i + 1 : Nat) : Int)) := by
  have hi : i < l.length := (List.getElem?_eq_some_iff.1 h).1
  have he : l[i] = b := (List.getElem?_eq_some_iff.1 h).2
  rw [List.drop_eq_getElem_cons hi, he]
  exact ⟨fun q => by rw [fst, if_pos q], fun q => by rw [fst, if_neg (by simp [q])]; rfl⟩
theorem fst_end {α : Type} {p : α → Bool} {l : List α} {i : Nat} (h : ¬ i < l.length) : fst p (l.drop i) i = -1 := by
  rw [List.drop_of_length_le (by omega)]; rfl
end Gno
namespace Go.Proofs.Ytlmphmfadikdpaa
open Go.RowKit Gno
/-- the two cells of a pair. -/
def PairAt (w : World) (b o : Nat) (p : Pr) : Prop := w.cell? ⟨b, o, none⟩ = some (.string p.key) ∧ w.cell? ⟨b, o + 1, none⟩ = some (.string p.text)
def PairsAt (w : World) (B : Nat) (A : Option Addr) (n : Nat) (ps : List Pr) : Prop :=
  ps.length = n ∧ n ≤ maxLen ∧ (0 < n → ∃ b o, A = some ⟨b, o, none⟩ ∧ b < B ∧ ∀ i p, ps[i]? = some p → PairAt w b (o + i * 2) p ∧ p.key.size ≤ maxLen ∧ p.text.size ≤ maxLen)
theorem PairsAt.below {B B' : Nat} {w w' : World} {A : Option Addr} {n : Nat} {ps : List Pr} (h : PairsAt w B A n ps) (hb : Below B' w w') (hB : B ≤ B') : PairsAt w' B A n ps :=
  ⟨h.1, h.2.1, fun hn => by
    obtain ⟨b, o, e, hbB, hc⟩ := h.2.2 hn
    have hl : b < B' := by omega
    exact ⟨b, o, e, hbB, fun i p hi => ⟨⟨(hb.cell hl).trans (hc i p hi).1.1, (hb.cell hl).trans (hc i p hi).1.2⟩, (hc i p hi).2⟩⟩⟩
theorem PairsAt.more {B B' : Nat} {w : World} {A : Option Addr} {n : Nat} {ps : List Pr} (h : PairsAt w B A n ps) (hB : B ≤ B') : PairsAt w B' A n ps :=
  ⟨h.1, h.2.1, fun hn => by
    obtain ⟨b, o, e, hbB, hc⟩ := h.2.2 hn
    exact ⟨b, o, e, by omega, hc⟩⟩
/-- the three cells of a book; its pairs lie below block B. -/
def BookAt (w : World) (b o : Nat) (k : Bk) : Prop :=
  w.cell? ⟨b, o, none⟩ = some (.string k.loc) ∧ w.cell? ⟨b, o + 1, none⟩ = some (.int .i64 k.par) ∧ w.cell? ⟨b, o + 2, none⟩ = some (.slice k.A k.n k.cap)
def BooksAt (w : World) (B : Nat) (A : Option Addr) (n : Nat) (bs : List Bk) : Prop :=
  bs.length = n ∧ n ≤ maxLen ∧ (0 < n → ∃ b o, A = some ⟨b, o, none⟩ ∧ b < B ∧ ∀ i k, bs[i]? = some k → BookAt w b (o + i * 3) k ∧ k.loc.size ≤ maxLen ∧ PairsAt w B k.A k.n k.ps)
theorem BooksAt.below {B B' : Nat} {w w' : World} {A : Option Addr} {n : Nat} {bs : List Bk} (h : BooksAt w B A n bs) (hb : Below B' w w') (hB : B ≤ B') : BooksAt w' B A n bs :=
  ⟨h.1, h.2.1, fun hn => by
    obtain ⟨b, o, e, hbB, hc⟩ := h.2.2 hn
    have hl : b < B' := by omega
    exact ⟨b, o, e, hbB, fun i k hi => ⟨⟨(hb.cell hl).trans (hc i k hi).1.1, (hb.cell hl).trans (hc i k hi).1.2.1, (hb.cell hl).trans (hc i k hi).1.2.2⟩, (hc i k hi).2.1, (hc i k hi).2.2.below hb hB⟩⟩⟩
theorem BooksAt.more {B B' : Nat} {w : World} {A : Option Addr} {n : Nat} {bs : List Bk} (h : BooksAt w B A n bs) (hB : B ≤ B') : BooksAt w B' A n bs :=
  ⟨h.1, h.2.1, fun hn => by
    obtain ⟨b, o, e, hbB, hc⟩ := h.2.2 hn
    exact ⟨b, o, e, by omega, fun i k hi => ⟨(hc i k hi).1, (hc i k hi).2.1, (hc i k hi).2.2.more hB⟩⟩⟩

/-- the function that is handed in tells p of every book. -/
def PredB (P : Program) (g : Nat) (lb : Array Value) (p : Bk → Bool) (bs : List Bk) (w : World) : Prop :=
  ∀ (W : World) (k : Bk), k ∈ bs → Below w.heap.size w W → Calls P g (#[.agg #[.string k.loc, .int .i64 k.par, .slice k.A k.n k.cap]] ++ lb) W fun e w' => e = .returned (.bool (p k)) ∧ Below W.heap.size W w'

set_option maxRecDepth 100000 in
set_option maxHeartbeats 4000000 in
theorem indexB_any (g : Nat) (lb : Array Value) (eg : ∀ args w, (callFunc g args).run Try.prog w = .ok (.enter g args) w) (p : Bk → Bool) (A : Option Addr) (n cap : Nat) (bs : List Bk) (w : World)
    (hR : BooksAt w w.heap.size A n bs) (hp : PredB Try.prog g lb p bs w) :
    Calls Try.prog 73 #[.slice A n cap, .func (.func g) #[] lb] w fun e w' => e = .returned (.int .i64 (fst p bs 0)) ∧ Below w.heap.size w w' := by
  have hn : n ≤ 9223372036854775807 := hR.2.1
  have HR := Lib.hid hR
  have HP := Lib.hid hp
  clear hR hp
  go_enter Try.func73, Try.ntmps73
  go_wp2
  go_loopw [8] (fun b0 wr => ∃ i : Nat, i ≤ n ∧ b0 = .int .i64 i ∧ Hid (fst p (bs.drop i) i = fst p bs 0) ∧ Below w.heap.size w wr) (fun b0 _ => n - (intOf b0).toNat)
  case atStart => exact ⟨0, Nat.zero_le _, rfl, Lib.hid (by simp), Below.refl _ _⟩
  case round =>
    obtain ⟨i, hi, rfl, hfd, hb⟩ := hrel
    by_cases hlt : i < n
    · have hR2 := HR.out.below hb (Nat.le_refl _)
      obtain ⟨b, o, hA, hbB, hc⟩ := hR2.2.2 (by omega)
      subst hA
      have hl : i < bs.length := by rw [hR2.1]; exact hlt
      obtain ⟨⟨e0, e1, e2⟩, hle, hps⟩ := hc i _ (List.getElem?_eq_getElem hl)
      obtain ⟨k, hk⟩ : ∃ k, k = bs[i] := ⟨_, rfl⟩
      have hki : bs[i]? = some k := by rw [hk]; exact List.getElem?_eq_getElem hl
      have hmem : k ∈ bs := by rw [hk]; exact List.getElem_mem hl
      rw [← hk] at e0 e1 e2
      have FD := Lib.hid (fst_drop (p := p) hki)
      have c := HP.out wr k hmem hb
      clear hc hR2 hk hki hl hle hps hmem
      cases hpk : p k
      · rw [hpk] at c
        have C := Lib.hid c
        have HX := Lib.hid ((FD.out.2 hpk).symm.trans hfd.out)
        clear c hfd hpk
        go_wp2_with (go_at_fn g; (with_reducible refine C.out.mono ?_); rintro e w4 ⟨rfl, hb4⟩; have hb5 := hb.trans (hb4.mono hb.size); clear hb4)
        go_roundw
        case rel => exact ⟨i + 1, by omega, by go_num, HX, hb5⟩
        case measure => simp [intOf]; omega
      · rw [hpk] at c
        have C := Lib.hid c
        have HX := Lib.hid ((FD.out.1 hpk).symm.trans hfd.out)
        clear c hfd hpk
        go_wp2_with (go_at_fn g; (with_reducible refine C.out.mono ?_); rintro e w4 ⟨rfl, hb4⟩; have hb5 := hb.trans (hb4.mono hb.size); clear hb4)
        go_ret
        exact ⟨ret_int HX.out, hb5⟩
    · have HX := Lib.hid ((fst_end (p := p) (by have := HR.out.1; omega)).symm.trans hfd.out)
      go_wp2
      go_ret
      exact ⟨ret_int HX.out, hb⟩
end Go.Proofs.Ytlmphmfadikdpaa
