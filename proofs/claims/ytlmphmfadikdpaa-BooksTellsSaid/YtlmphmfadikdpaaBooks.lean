/- The walks of books.Book and of the reference's bookAt. -/
import Derived.Test.YtlmphmfadikdpaaBk
set_option linter.unusedVariables false
namespace Gno
/-- are the two texts one? -/
def same (a b : ByteArray) : Bool := a.toList == b.toList
def isBook (loc : ByteArray) (k : Bk) : Bool := same k.loc loc
def bookN (bs : List Bk) (loc : ByteArray) : Int := fst (isBook loc) bs 0
end Gno
namespace Go.Proofs.Ytlmphmfadikdpaa
open Go.RowKit Gno
theorem bookF_any (o : Nat) (loc : ByteArray) (k : Bk) (w : World) (hc : w.cell? ⟨o, 0, none⟩ = some (.string loc)) (ho : o < w.heap.size) :
    Calls Try.prog 74 #[.agg #[.string k.loc, .int .i64 k.par, .slice k.A k.n k.cap], .pointer (some ⟨o, 0, none⟩)] w fun e w' => e = .returned (.bool (isBook loc k)) ∧ Below w.heap.size w w' := by
  have hc2 : (w.alloc (.cells #[.string k.loc, .int .i64 k.par, .slice k.A k.n k.cap] 49)).cell? ⟨o, 0, none⟩ = some (.string loc) := (((Below.refl _ _).alloc (Nat.le_refl _) _).cell ho).trans hc
  go_enter Try.func74, Try.ntmps74
  go_wp2
  go_ret
  exact ⟨ret_bool rfl, (Below.refl _ _).alloc (Nat.le_refl _) _⟩
set_option maxRecDepth 100000 in
set_option maxHeartbeats 4000000 in
theorem book_any (A : Option Addr) (n cap : Nat) (bs : List Bk) (loc : ByteArray) (w : World) (hR : BooksAt w w.heap.size A n bs) :
    Calls Try.prog 51 #[.slice A n cap, .string loc] w fun e w' => e = .returned (.int .i64 (bookN bs loc)) ∧ Below w.heap.size w w' := by
  have hb0 : Below w.heap.size w (w.alloc (.cells #[.string loc] 9)) := (Below.refl _ _).alloc (Nat.le_refl _) _
  have C := Lib.hid (indexB_any 74 #[.pointer (some ⟨w.heap.size, 0, none⟩)] (enters_of Try.func74 (by kernel_rfl) rfl) (isBook loc) A n cap bs (w.alloc (.cells #[.string loc] 9))
    ((hR.below hb0 (Nat.le_refl _)).more hb0.size) (fun W k hk hbW => bookF_any w.heap.size loc k W ((hbW.cell (by simp)).trans (by first | (simp [go_sem]; done) | go_simp)) (by have := hbW.size; simp at this; omega)))
  have HB := Lib.hid hb0
  clear hR hb0
  have hmf : ∀ (fn : Fn) (first cap : Array Value) (w : World), (Instr.makeFunc fn first cap).run Try.prog w = .ok (.func fn first cap) w := fun _ _ _ _ => rfl
  go_enter Try.func51, Try.ntmps51
  go_wp2_with (go_at_call 73; (with_reducible refine C.out.mono ?_); rintro e w4 ⟨rfl, hb4⟩)
  go_ret
  exact ⟨rfl, HB.out.trans (hb4.mono HB.out.size)⟩
set_option maxRecDepth 100000 in
set_option maxHeartbeats 4000000 in
theorem bookAt_any (A : Option Addr) (n cap : Nat) (bs : List Bk) (loc : ByteArray) (w : World) (hR : BooksAt w w.heap.size A n bs) :
    Calls Try.prog 53 #[.slice A n cap, .string loc] w fun e w' => e = .returned (.int .i64 (bookN bs loc)) ∧ Below w.heap.size w w' := by
  have hn : n ≤ 9223372036854775807 := hR.2.1
  have HR := Lib.hid hR
  clear hR
  go_enter Try.func53, Try.ntmps53
  go_wp2
  go_loopw [5] (fun b0 wr => ∃ i : Nat, i ≤ n ∧ b0 = .int .i64 i ∧ Hid (fst (isBook loc) (bs.drop i) i = bookN bs loc) ∧ Below w.heap.size w wr) (fun b0 _ => n - (intOf b0).toNat)
  case atStart => exact ⟨0, Nat.zero_le _, rfl, Lib.hid (by simp [bookN]), Below.refl _ _⟩
  case round =>
    obtain ⟨i, hi, rfl, hfd, hb⟩ := hrel
    by_cases hlt : i < n
    · have hR2 := HR.out.below hb (Nat.le_refl _)
      obtain ⟨b, o, hA, hbB, hc⟩ := hR2.2.2 (by omega)
      subst hA
      have hl : i < bs.length := by rw [hR2.1]; exact hlt
      obtain ⟨⟨e0, e1, e2⟩, hle, hps⟩ := hc i _ (List.getElem?_eq_getElem hl)
      obtain ⟨k, hk⟩ : ∃ k, k = bs[i] := ⟨_, rfl⟩
      have hki : bs[i]? = some k := by rw [hk]; exact List.getElem?_eq_getElem hl
      rw [← hk] at e0 e1 e2
      have FD := Lib.hid (fst_drop (p := isBook loc) hki)
      clear hc hR2 hk hki hl hle hps
      cases hpk : isBook loc k
      · have HX := Lib.hid ((FD.out.2 hpk).symm.trans hfd.out)
        have hq : (k.loc.toList == loc.toList) = false := hpk
        clear hfd hpk
        go_wp2
        go_roundw
        case rel => exact ⟨i + 1, by omega, by go_num, HX, hb⟩
        case measure => simp [intOf]; omega
      · have HX := Lib.hid ((FD.out.1 hpk).symm.trans hfd.out)
        have hq : (k.loc.toList == loc.toList) = true := hpk
        clear hfd hpk
        go_wp2
        go_ret
        exact ⟨ret_int HX.out, hb⟩
    · have HX := Lib.hid ((fst_end (p := isBook loc) (by have := HR.out.1; omega)).symm.trans hfd.out)
      go_wp2
      go_ret
      exact ⟨ret_int HX.out, hb⟩
end Go.Proofs.Ytlmphmfadikdpaa
