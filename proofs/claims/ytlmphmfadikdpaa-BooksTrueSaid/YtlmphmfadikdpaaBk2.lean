/- ContainsFunc and IndexFunc at pairs and books. -/
import Derived.Test.YtlmphmfadikdpaaLook3
set_option linter.unusedVariables false
namespace Gno
def hasP {α : Type} (p : α → Bool) (l : List α) : Bool := decide (0 ≤ fst p l 0)
theorem fst_nn {α : Type} (p : α → Bool) : ∀ (l : List α) (k : Int), 0 ≤ k → (0 ≤ fst p l k ↔ ∃ b ∈ l, p b = true)
  | [], k, h => by simp [fst]
  | b :: t, k, h => by
    unfold fst
    by_cases q : p b = true
    · rw [if_pos q]; exact ⟨fun _ => ⟨b, by simp, q⟩, fun _ => h⟩
    · rw [if_neg q, fst_nn p t (k + 1) (by omega)]
      constructor
      · rintro ⟨c, hc, hp⟩; exact ⟨c, by simp [hc], hp⟩
      · rintro ⟨c, hc, hp⟩
        rcases List.mem_cons.1 hc with rfl | hc
        · exact absurd hp q
        · exact ⟨c, hc, hp⟩
theorem hasP_any {α : Type} (p : α → Bool) (l : List α) : hasP p l = l.any p := by
  rw [Bool.eq_iff_iff, List.any_eq_true, hasP, decide_eq_true_iff, fst_nn p l 0 (by omega)]
def manyPairs (k : Bk) : Bool := decide (8 < k.n)
def badPair (p : Pr) : Bool := !nameOk p.key || decide (12 < p.text.size)
end Gno
namespace Go.Proofs.Ytlmphmfadikdpaa
open Go.RowKit Gno
/-- the function that is handed in tells p of every pair. -/
def PredP (P : Program) (g : Nat) (lb : Array Value) (p : Pr → Bool) (bs : List Pr) (w : World) : Prop :=
  ∀ (W : World) (k : Pr), k ∈ bs → Below w.heap.size w W → Calls P g (#[.agg #[.string k.key, .string k.text]] ++ lb) W fun e w' => e = .returned (.bool (p k)) ∧ Below W.heap.size W w'

set_option maxRecDepth 100000 in
set_option maxHeartbeats 4000000 in
theorem indexP_any (g : Nat) (lb : Array Value) (eg : ∀ args w, (callFunc g args).run Try.prog w = .ok (.enter g args) w) (p : Pr → Bool) (A : Option Addr) (n cap : Nat) (bs : List Pr) (w : World)
    (hR : PairsAt w w.heap.size A n bs) (hp : PredP Try.prog g lb p bs w) :
    Calls Try.prog 79 #[.slice A n cap, .func (.func g) #[] lb] w fun e w' => e = .returned (.int .i64 (fst p bs 0)) ∧ Below w.heap.size w w' := by
  have hn : n ≤ 9223372036854775807 := hR.2.1
  have HR := Lib.hid hR
  have HP := Lib.hid hp
  clear hR hp
  go_enter Try.func79, Try.ntmps79
  go_wp2
  go_loopw [8] (fun b0 wr => ∃ i : Nat, i ≤ n ∧ b0 = .int .i64 i ∧ Hid (fst p (bs.drop i) i = fst p bs 0) ∧ Below w.heap.size w wr) (fun b0 _ => n - (intOf b0).toNat)
  case atStart => exact ⟨0, Nat.zero_le _, rfl, Lib.hid (by simp), Below.refl _ _⟩
  case round =>
    obtain ⟨i, hi, rfl, hfd, hb⟩ := hrel
    by_cases hlt : i < n
    · have hR2 := HR.out.below hb (Nat.le_refl _)
      obtain ⟨b, o, hA, hbB, hc⟩ := hR2.2.2 (by omega)
      subst hA
      have hl : i < bs.length := by rw [hR2.1]; exact hlt
      obtain ⟨⟨e0, e1⟩, hle, hps⟩ := hc i _ (List.getElem?_eq_getElem hl)
      obtain ⟨k, hk⟩ : ∃ k, k = bs[i] := ⟨_, rfl⟩
      have hki : bs[i]? = some k := by rw [hk]; exact List.getElem?_eq_getElem hl
      have hmem : k ∈ bs := by rw [hk]; exact List.getElem_mem hl
      rw [← hk] at e0 e1
      have FD := Lib.hid (fst_drop (p := p) hki)
      have c := HP.out wr k hmem hb
      clear hc hR2 hk hki hl hle hps hmem
      cases hpk : p k
      · rw [hpk] at c
        have C := Lib.hid c
        have HX := Lib.hid ((FD.out.2 hpk).symm.trans hfd.out)
        clear c hfd hpk
        go_wp2_with (go_at_fn g; (with_reducible refine C.out.mono ?_); rintro e w4 ⟨rfl, hb4⟩; have hb5 := hb.trans (hb4.mono hb.size); clear hb4)
        go_roundw
        case rel => exact ⟨i + 1, by omega, by go_num, HX, hb5⟩
        case measure => simp [intOf]; omega
      · rw [hpk] at c
        have C := Lib.hid c
        have HX := Lib.hid ((FD.out.1 hpk).symm.trans hfd.out)
        clear c hfd hpk
        go_wp2_with (go_at_fn g; (with_reducible refine C.out.mono ?_); rintro e w4 ⟨rfl, hb4⟩; have hb5 := hb.trans (hb4.mono hb.size); clear hb4)
        go_ret
        exact ⟨ret_int HX.out, hb5⟩
    · have HX := Lib.hid ((fst_end (p := p) (by have := HR.out.1; omega)).symm.trans hfd.out)
      go_wp2
      go_ret
      exact ⟨ret_int HX.out, hb⟩
theorem containsB_any (g : Nat) (lb : Array Value) (eg : ∀ args w, (callFunc g args).run Try.prog w = .ok (.enter g args) w) (p : Bk → Bool) (A : Option Addr) (n cap : Nat) (bs : List Bk) (w : World)
    (hR : BooksAt w w.heap.size A n bs) (hp : PredB Try.prog g lb p bs w) :
    Calls Try.prog 56 #[.slice A n cap, .func (.func g) #[] lb] w fun e w' => e = .returned (.bool (hasP p bs)) ∧ Below w.heap.size w w' := by
  have C := Lib.hid (indexB_any g lb eg p A n cap bs w hR hp)
  clear hR hp eg
  go_enter Try.func56, Try.ntmps56
  go_wp2_with (go_at_call 73; (with_reducible refine C.out.mono ?_); rintro e w4 ⟨rfl, hb4⟩)
  go_ret
  exact ⟨ret_bool rfl, hb4⟩
theorem containsP_any (g : Nat) (lb : Array Value) (eg : ∀ args w, (callFunc g args).run Try.prog w = .ok (.enter g args) w) (p : Pr → Bool) (A : Option Addr) (n cap : Nat) (bs : List Pr) (w : World)
    (hR : PairsAt w w.heap.size A n bs) (hp : PredP Try.prog g lb p bs w) :
    Calls Try.prog 59 #[.slice A n cap, .func (.func g) #[] lb] w fun e w' => e = .returned (.bool (hasP p bs)) ∧ Below w.heap.size w w' := by
  have C := Lib.hid (indexP_any g lb eg p A n cap bs w hR hp)
  clear hR hp eg
  go_enter Try.func59, Try.ntmps59
  go_wp2_with (go_at_call 79; (with_reducible refine C.out.mono ?_); rintro e w4 ⟨rfl, hb4⟩)
  go_ret
  exact ⟨ret_bool rfl, hb4⟩
theorem many_any (k : Bk) (w : World) :
    Calls Try.prog 57 #[.agg #[.string k.loc, .int .i64 k.par, .slice k.A k.n k.cap]] w fun e w' => e = .returned (.bool (manyPairs k)) ∧ Below w.heap.size w w' := by
  go_enter Try.func57, Try.ntmps57
  go_wp2
  go_ret
  exact ⟨ret_bool (by rw [Bool.eq_iff_iff]; simp [manyPairs]; try omega), (Below.refl _ _).alloc (Nat.le_refl _) _⟩
end Go.Proofs.Ytlmphmfadikdpaa
