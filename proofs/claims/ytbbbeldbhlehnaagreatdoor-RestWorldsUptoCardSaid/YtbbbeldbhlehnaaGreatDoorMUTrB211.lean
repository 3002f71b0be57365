/- Parts of a proof, laid together. -/
import Derived.StillTailTactics
import Derived.Deep.RegionHeld3
import Derived.Test.YtbbbeldbhlehnaaGreatDoorMUTrB29
set_option linter.unusedSimpArgs false
set_option linter.unusedVariables false
section
set_option maxRecDepth 100000
namespace Gno
open Go
def bs (s : ByteArray) : List Nat := s.data.toList.map (fun c => c.toNat)
theorem bs_len (s : ByteArray) : (bs s).length = s.size := by unfold bs; rw [List.length_map, Array.length_toList]; rfl
theorem bs_at (s : ByteArray) (i : Nat) (h : i < s.size) : (bs s)[i]? = some s[i].toNat := by
 unfold bs
 rw [List.getElem?_map]
 have : s.data.toList[i]? = some s[i] := by
  rw [List.getElem?_eq_getElem (by rw [Array.length_toList]; exact h)]; rfl
 rw [this]; rfl
theorem bs_inj {s t : ByteArray} (h : bs s = bs t) : s = t := by
 unfold bs at h
 have h2 : s.data.toList = t.data.toList := List.map_inj_right (fun a b e => UInt8.toNat_inj.1 e) |>.1 h
 have h3 : s.data = t.data := Array.toList_inj.1 h2
 cases s; cases t
 exact congrArg ByteArray.mk h3
theorem bs_take (s : ByteArray) (n : Nat) : bs (s.extract 0 n) = (bs s).take n := by
 unfold bs
 rw [← List.map_take]
 congr 1
 rw [Lib.extract_data, List.drop_zero, Nat.sub_zero]
theorem edOk_get {k len : Int} : ∀ {l : List Eg} {last : Int}, edOk k len last l = true → (∀ e ∈ l, k < e.to ∧ e.to < len ∧ last < (e.c : Int)) ∧ Rise l
 | [], _, _ => ⟨(fun e h => by cases h), List.Pairwise.nil⟩
 | x :: r, last, h => by
   unfold edOk at h
   simp only [Bool.and_eq_true, decide_eq_true_eq] at h
   obtain ⟨⟨⟨h1, h2⟩, h3⟩, h4⟩ := h
   obtain ⟨g1, g2⟩ := edOk_get h4
   refine ⟨fun e he => ?_, List.pairwise_cons.2 ⟨fun e he => ?_, g2⟩⟩
   ·rcases List.mem_cons.1 he with rfl | he
    ·exact ⟨h1, h2, h3⟩
    ·have := g1 e he
     exact ⟨this.1, this.2.1, by omega⟩
   ·have := g1 e he
    omega
theorem ndsOk_get {len : Int} : ∀ {t : List Nd} {k i : Nat} {q : Nd}, ndsOk len k t = true → t[i]? = some q → ndOk ((k + i : Nat) : Int) len q = true
 | [], k, i, q, _, h => by simp at h
 | n :: r, k, 0, q, h, hq => by
   obtain rfl : n = q := by simpa using hq
   unfold ndsOk at h
   rw [Bool.and_eq_true] at h
   exact h.1
 | n :: r, k, i + 1, q, h, hq => by
   unfold ndsOk at h
   rw [Bool.and_eq_true] at h
   have := ndsOk_get h.2 (i := i) (by simpa using hq)
   rwa [show k + 1 + i = k + (i + 1) by omega] at this
theorem trieOk_get {t : List Nd} (h : trieOk t = true) {k : Nat} {q : Nd} (hq : t[k]? = some q) : -1 ≤ q.word ∧ (∀ e ∈ q.es, (k : Int) < e.to ∧ e.to < t.length) ∧ Rise q.es := by
 unfold trieOk at h
 rw [Bool.and_eq_true] at h
 have h2 := ndsOk_get h.2 hq
 unfold ndOk at h2
 rw [Bool.and_eq_true, decide_eq_true_eq, Nat.zero_add] at h2
 obtain ⟨g1, g2⟩ := edOk_get h2.2
 exact ⟨h2.1, fun e he => ⟨(g1 e he).1, (g1 e he).2.1⟩, g2⟩
theorem trieOk_to {t : List Nd} (h : trieOk t = true) {k : Nat} {q : Nd} (hq : t[k]? = some q) (c : Nat) : edTo q.es c = -1 ∨ ∃ j : Nat, edTo q.es c = (j : Int) ∧ j < t.length := by
 obtain ⟨_, h2, _⟩ := trieOk_get h hq
 rcases edTo_some (l := q.es) (c := c) with ⟨e, h3, h4, h5⟩ | ⟨h3, h4⟩
 ·have := h2 e h3
  exact .inr ⟨e.to.toNat, by omega, by omega⟩
 ·exact .inl h4
theorem trieOk_pos {t : List Nd} (h : trieOk t = true) : 0 < t.length := by
 cases t with
 | nil => cases h
 | cons a r => simp
theorem findK_at {t : List Nd} {s : List Nat} {a : Nat} {q : Nd} (h : goT t 0 s = (a : Int)) (hq : t[a]? = some q) : findK t s = q.word := by
 unfold findK; rw [h, if_neg (by omega), ndAt_of hq]
end Gno
namespace Go.Proofs.YtbbbeldbhlehnaaGreatDoor
open Go.RowKit Gno
end Go.Proofs.YtbbbeldbhlehnaaGreatDoor
end
section
set_option maxRecDepth 100000
namespace Gno
open Go
def lgK1 (t : List Nd) (s : List Nat) : Nat → Int
 | 0 => -1
 | n + 1 => lgK t s n
def lgN1 (t : List Nd) (s : List Nat) : Nat → Nat
 | 0 => 0
 | n + 1 => lgN t s n
def edEq : List Eg → List Eg → Bool
 | [], [] => true
 | x :: r, y :: q => (x.c == y.c) && (x.to == y.to) && edEq r q
 | _, _ => false
def ndEq : List Nd → List Nd → Bool
 | [], [] => true
 | x :: r, y :: q => (x.word == y.word) && edEq x.es y.es && ndEq r q
 | _, _ => false
theorem edEq_self : ∀ l : List Eg, edEq l l = true
 | [] => rfl
 | x :: r => by simp [edEq, edEq_self r]
theorem ndEq_self : ∀ l : List Nd, ndEq l l = true
 | [] => rfl
 | x :: r => by simp [ndEq, edEq_self, ndEq_self r]
theorem edEq_len : ∀ {l m : List Eg}, edEq l m = true → l.length = m.length
 | [], [], _ => rfl
 | x :: r, y :: q, h => by
   unfold edEq at h
   rw [Bool.and_eq_true] at h
   simp [edEq_len h.2]
 | [], y :: q, h => by simp [edEq] at h
 | x :: r, [], h => by simp [edEq] at h
theorem ndEq_len : ∀ {l m : List Nd}, ndEq l m = true → l.length = m.length
 | [], [], _ => rfl
 | x :: r, y :: q, h => by
   unfold ndEq at h
   rw [Bool.and_eq_true] at h
   simp [ndEq_len h.2]
 | [], y :: q, h => by simp [ndEq] at h
 | x :: r, [], h => by simp [ndEq] at h
theorem ndEq_at {l m : List Nd} {i : Nat} {x y : Nd} (h1 : l[i]? = some x) (h2 : m[i]? = some y) : ndEq (l.drop i) (m.drop i) = ((x.word == y.word) && edEq x.es y.es && ndEq (l.drop (i + 1)) (m.drop (i + 1))) := by
 rw [drop_at h1, drop_at h2, ndEq]
theorem edEq_at {l m : List Eg} {i : Nat} {x y : Eg} (h1 : l[i]? = some x) (h2 : m[i]? = some y) : edEq (l.drop i) (m.drop i) = ((x.c == y.c) && (x.to == y.to) && edEq (l.drop (i + 1)) (m.drop (i + 1))) := by
 rw [drop_at h1, drop_at h2, edEq]
end Gno
namespace Go.Proofs.YtbbbeldbhlehnaaGreatDoor
open Go.RowKit Gno
theorem retO_b {m n : Bool} (h : m = n) : Ending.returned (.bool m) = .returned (.bool n) := by rw [h]
set_option maxHeartbeats 8000000 in
theorem sameT_any (t t2 : List Nd) (A A2 : Option Addr) (n cap n2 cap2 : Nat) (w : World) (hT : NodesAt w w.heap.size A n t) (hT2 : NodesAt w w.heap.size A2 n2 t2) :
 Calls Tryz.prog 33 #[.slice A n cap, .slice A2 n2 cap2] w fun e w' => e = .returned (.bool (ndEq t t2)) ∧ Below w.heap.size w w' := by
 have hnl : n ≤ 9223372036854775807 := hT.2.1
 have HT := Lib.hid hT
 have HT2 := Lib.hid hT2
 have HN : Hid (t.length = n) := Lib.hid hT.1
 have HN2 : Hid (t2.length = n2) := Lib.hid hT2.1
 obtain ⟨R, hR⟩ : ∃ R, R = ndEq t t2 := ⟨_, rfl⟩
 have HR := Lib.hid hR
 rw [← hR]
 clear hT hT2 hR
 by_cases hnn : n = n2
 ·subst hnn
  go_enter Tryz.func33, Tryz.ntmps33
  go_wp2
  go_loopw [5] (fun s5 wr => ∃ k : Nat, k ≤ n ∧ s5 = .int .i64 k ∧ Hid (R = ndEq (t.drop k) (t2.drop k)) ∧ Below w.heap.size w wr) (fun s5 _ => n - (intOf s5).toNat)
  case atStart => exact ⟨0, Nat.zero_le _, rfl, Lib.hid (by rw [List.drop_zero, List.drop_zero]; exact HR.out), Below.refl _ _⟩
  case round =>
   obtain ⟨k, hk, rfl, hI, hb⟩ := hrel
   have hz := hb.size
   by_cases hlt : k < n
   ·obtain ⟨b, o, q, hA, hbB, hq, B2, c2, hqq⟩ := nodes_get HT.out hlt
    obtain ⟨b', o', q', hA', hbB', hq', B2', c2', hqq'⟩ := nodes_get HT2.out hlt
    subst hA
    subst hA'
    obtain ⟨e0, e1, _⟩ := hqq _ hb
    obtain ⟨g0, g1, _⟩ := hqq' _ hb
    have HQ : Hid (∀ W, Below w.heap.size w W → W.cell? ⟨b, o + k * 2, none⟩ = some (.slice B2 q.es.length c2)) := Lib.hid fun W h => (hqq W h).1
    have HQ' : Hid (∀ W, Below w.heap.size w W → W.cell? ⟨b', o' + k * 2, none⟩ = some (.slice B2' q'.es.length c2')) := Lib.hid fun W h => (hqq' W h).1
    have HE := Lib.hid (hqq w (Below.refl _ _)).2.2
    have HE' := Lib.hid (hqq' w (Below.refl _ _)).2.2
    have hml : q.es.length ≤ 9223372036854775807 := HE.out.2.1
    have HI := Lib.hid (hI.out.trans (ndEq_at hq hq'))
    obtain ⟨m, hm⟩ : ∃ m, m = q.es.length := ⟨_, rfl⟩
    obtain ⟨m', hm'⟩ : ∃ m', m' = q'.es.length := ⟨_, rfl⟩
    have HM := Lib.hid hm
    have HM' := Lib.hid hm'
    rw [← hm] at e0 hml HE HQ
    rw [← hm'] at g0 HE' HQ'
    clear hm hm' hq hq' hqq hqq' hI
    by_cases hw : q.word = q'.word
    ·by_cases hmm : m = m'
     ·have hw1 : (q.word != q'.word) = false := by simpa using hw
      have hm1 : ((m : Int) != (m' : Int)) = false := by rw [bne_eq_false_iff_eq]; omega
      have HI2 : Hid (R = (edEq (q.es.drop 0) (q'.es.drop 0) && ndEq (t.drop (k + 1)) (t2.drop (k + 1)))) := Lib.hid (HI.out.trans (by rw [beq_iff_eq.2 hw, List.drop_zero, List.drop_zero]; rfl))
      clear HI hw
      subst hmm
      obtain ⟨wo, hwo⟩ : ∃ wo : World, wo = wr := ⟨_, rfl⟩
      rw [← hwo] at hb hz e0 e1 g0 g1
      rw [← hwo]
      clear hwo
      go_wp2
      go_quiet (fail)
      have hbd := below_drewT hb nq
      clear e0 e1 g0 g1
      go_wp2
      go_loopw [6] (fun s6 wr => ∃ i : Nat, i ≤ m ∧ s6 = .int .i64 i ∧ Hid (R = (edEq (q.es.drop i) (q'.es.drop i) && ndEq (t.drop (k + 1)) (t2.drop (k + 1)))) ∧ Below w.heap.size w wr) (fun s6 _ => m - (intOf s6).toNat)
      case atStart => exact ⟨0, Nat.zero_le _, rfl, HI2, hbd⟩
      case round =>
       obtain ⟨i, hi, rfl, hJ, hb2⟩ := hrel
       have e0 := HQ.out _ hb2
       have g0 := HQ'.out _ hb2
       by_cases hit : i < m
       ·obtain ⟨c, f, x, hC, hcB, hx, hxc, hxx⟩ := edges_get HE.out hit
        obtain ⟨c', f', x', hC', hcB', hx', hxc', hxx'⟩ := edges_get HE'.out hit
        subst hC
        subst hC'
        obtain ⟨k0, k1⟩ := hxx _ hb2
        obtain ⟨k2, k3⟩ := hxx' _ hb2
        have HJ := Lib.hid (hJ.out.trans (by rw [edEq_at hx hx']))
        clear hx hx' hxx hxx' hJ
        by_cases q1 : x.c = x'.c
        ·by_cases q2 : x.to = x'.to
         ·have HX : Hid (R = (edEq (q.es.drop (i + 1)) (q'.es.drop (i + 1)) && ndEq (t.drop (k + 1)) (t2.drop (k + 1)))) := Lib.hid (HJ.out.trans (by rw [beq_iff_eq.2 q1, beq_iff_eq.2 q2]; rfl))
          have r1 : ((x.c : Int) == (x'.c : Int)) = true := by rw [beq_iff_eq]; omega
          have r2 : (x.to == x'.to) = true := beq_iff_eq.2 q2
          clear HJ q1 q2
          go_wp2
          go_quiet (fail)
          go_wp2
          go_roundw
          case rel => exact ⟨i + 1, by omega, by go_num, HX, below_drewT hb2 _⟩
          case measure => simp [intOf]; omega
         ·have HX : Hid (false = R) := Lib.hid (by rw [HJ.out, beq_eq_false_iff_ne.2 q2]; simp)
          have r1 : ((x.c : Int) == (x'.c : Int)) = true := by rw [beq_iff_eq]; omega
          have r2 : (x.to == x'.to) = false := beq_eq_false_iff_ne.2 q2
          clear HJ q1 q2
          go_wp2
          go_quiet (fail)
          go_wp2
          go_ret
          exact ⟨retO_b HX.out, below_drewT hb2 _⟩
        ·have HX : Hid (false = R) := Lib.hid (by rw [HJ.out, beq_eq_false_iff_ne.2 q1]; simp)
         have r1 : ((x.c : Int) == (x'.c : Int)) = false := by rw [beq_eq_false_iff_ne]; omega
         clear HJ q1
         go_wp2
         go_quiet (fail)
         go_wp2
         go_ret
         exact ⟨retO_b HX.out, below_drewT hb2 _⟩
       ·have HX : Hid (R = ndEq (t.drop (k + 1)) (t2.drop (k + 1))) := Lib.hid (hJ.out.trans (by
         rw [List.drop_eq_nil_of_le (by rw [← HM.out]; omega), List.drop_eq_nil_of_le (by rw [← HM'.out]; omega)]; rfl))
        clear hJ
        go_wp2
        go_roundw
        case rel => exact ⟨k + 1, by omega, by go_num, HX, hb2⟩
        case measure => simp [intOf]; omega
     ·have HX : Hid (false = R) := Lib.hid (by
       rw [HI.out]
       have : edEq q.es q'.es = false := by
        cases h : edEq q.es q'.es
        ·rfl
        ·exact absurd (edEq_len h) (by rw [← HM.out, ← HM'.out]; exact hmm)
       rw [this]; simp)
      have hw1 : (q.word != q'.word) = false := by simpa using hw
      have hm1 : ((m : Int) != (m' : Int)) = true := by rw [bne_iff_ne]; omega
      clear HI hw
      go_wp2
      go_quiet (fail)
      go_wp2
      go_ret
      exact ⟨retO_b HX.out, below_drewT hb _⟩
    ·have HX : Hid (false = R) := Lib.hid (by rw [HI.out, beq_eq_false_iff_ne.2 hw]; rfl)
     have hw1 : (q.word != q'.word) = true := by simpa using hw
     clear HI
     go_wp2
     go_quiet (fail)
     go_wp2
     go_ret
     exact ⟨retO_b HX.out, below_drewT hb _⟩
   ·have HX : Hid (true = R) := Lib.hid (by rw [hI.out, List.drop_eq_nil_of_le (by rw [HN.out]; omega), List.drop_eq_nil_of_le (by rw [HN2.out]; omega)]; rfl)
    clear hI
    go_wp2
    go_ret
    exact ⟨retO_b HX.out, hb⟩
 ·have HX : Hid (false = R) := Lib.hid (by
   rw [HR.out]
   cases h : ndEq t t2
   ·rfl
   ·exact absurd (ndEq_len h) (by rw [HN.out, HN2.out]; exact hnn))
  go_enter Tryz.func33, Tryz.ntmps33
  go_wp2
  go_ret
  exact ⟨retO_b HX.out, Below.refl _ _⟩
end Go.Proofs.YtbbbeldbhlehnaaGreatDoor
end
