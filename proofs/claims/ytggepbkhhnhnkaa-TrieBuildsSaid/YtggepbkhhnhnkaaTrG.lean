/- Tries: the reference's Longest; are two the same. -/
import Derived.Test.YtggepbkhhnhnkaaTrF
set_option linter.unusedVariables false
set_option linter.unusedSimpArgs false
namespace Gno
open Go
def lgK1 (t : List Nd) (s : List Nat) : Nat → Int
  | 0 => -1
  | n + 1 => lgK t s n
def lgN1 (t : List Nd) (s : List Nat) : Nat → Nat
  | 0 => 0
  | n + 1 => lgN t s n
theorem lgK_at (t : List Nd) (s : List Nat) : ∀ n, lgK t s n = if 0 ≤ findK t (s.take n) then findK t (s.take n) else lgK1 t s n
  | 0 => rfl
  | n + 1 => rfl
theorem lgN_at (t : List Nd) (s : List Nat) : ∀ n, lgN t s n = if 0 ≤ findK t (s.take n) then n else lgN1 t s n
  | 0 => by
    show 0 = if _ then 0 else 0
    split <;> rfl
  | n + 1 => rfl
theorem extract_size0 (s : ByteArray) (n : Nat) (h : n ≤ s.size) : (s.extract 0 n).size = n := by rw [ByteArray.size_extract]; omega
/-- are two tries the same? -/
def edEq : List Eg → List Eg → Bool
  | [], [] => true
  | x :: r, y :: q => (x.c == y.c) && (x.to == y.to) && edEq r q
  | _, _ => false
def ndEq : List Nd → List Nd → Bool
  | [], [] => true
  | x :: r, y :: q => (x.word == y.word) && edEq x.es y.es && ndEq r q
  | _, _ => false
theorem edEq_self : ∀ l : List Eg, edEq l l = true
  | [] => rfl
  | x :: r => by simp [edEq, edEq_self r]
theorem ndEq_self : ∀ l : List Nd, ndEq l l = true
  | [] => rfl
  | x :: r => by simp [ndEq, edEq_self, ndEq_self r]
theorem edEq_len : ∀ {l m : List Eg}, edEq l m = true → l.length = m.length
  | [], [], _ => rfl
  | x :: r, y :: q, h => by
    unfold edEq at h
    rw [Bool.and_eq_true] at h
    simp [edEq_len h.2]
  | [], y :: q, h => by simp [edEq] at h
  | x :: r, [], h => by simp [edEq] at h
theorem ndEq_len : ∀ {l m : List Nd}, ndEq l m = true → l.length = m.length
  | [], [], _ => rfl
  | x :: r, y :: q, h => by
    unfold ndEq at h
    rw [Bool.and_eq_true] at h
    simp [ndEq_len h.2]
  | [], y :: q, h => by simp [ndEq] at h
  | x :: r, [], h => by simp [ndEq] at h
theorem ndEq_at {l m : List Nd} {i : Nat} {x y : Nd} (h1 : l[i]? = some x) (h2 : m[i]? = some y) : ndEq (l.drop i) (m.drop i) = ((x.word == y.word) && edEq x.es y.es && ndEq (l.drop (i + 1)) (m.drop (i + 1))) := by
  rw [drop_at h1, drop_at h2, ndEq]
theorem edEq_at {l m : List Eg} {i : Nat} {x y : Eg} (h1 : l[i]? = some x) (h2 : m[i]? = some y) : edEq (l.drop i) (m.drop i) = ((x.c == y.c) && (x.to == y.to) && edEq (l.drop (i + 1)) (m.drop (i + 1))) := by
  rw [drop_at h1, drop_at h2, edEq]
end Gno
namespace Go.Proofs.Ytggepbkhhnhnkaa
open Go.RowKit Gno
theorem retO_ii {m n p q : Int} (h : m = p) (h2 : n = q) : Ending.returned (.tuple #[.int .i64 m, .int .i64 n]) = .returned (.tuple #[.int .i64 p, .int .i64 q]) := by rw [h, h2]
theorem retO_b {m n : Bool} (h : m = n) : Ending.returned (.bool m) = .returned (.bool n) := by rw [h]
set_option maxHeartbeats 8000000 in
theorem longR_any (t : List Nd) (A : Option Addr) (n cap : Nat) (s : ByteArray) (hs : s.size ≤ 9223372036854775807) (w : World) (hT : NodesAt w w.heap.size A n t) (hok : trieOk t = true) :
    Calls Try.prog 18 #[.slice A n cap, .string s] w fun e w' => e = .returned (.tuple #[.int .i64 (lgK t (bs s) s.size), .int .i64 (lgN t (bs s) s.size)]) ∧ Below w.heap.size w w' := by
  have C : Hid (∀ (W : World) (j : Nat), j ≤ s.size → Below w.heap.size w W → Calls Try.prog 17 #[.slice A n cap, .string (s.extract 0 j)] W fun e w' => e = .returned (.int .i64 (findK t ((bs s).take j))) ∧ Below W.heap.size W w') := Lib.hid fun W j hj hW => by
    have := findR_any t A n cap (s.extract 0 j) (by rw [extract_size0 s j hj]; omega) W (NodesAt.next hT hW) hok
    rwa [bs_take] at this
  obtain ⟨K, hK⟩ : ∃ K, K = lgK t (bs s) s.size := ⟨_, rfl⟩
  obtain ⟨N, hN⟩ : ∃ N, N = lgN t (bs s) s.size := ⟨_, rfl⟩
  have HK := Lib.hid hK
  have HN := Lib.hid hN
  rw [← hK, ← hN]
  clear hT hok hK hN
  go_enter Try.func18, Try.ntmps18
  go_wp2
  go_loopw [6, 7] (fun s6 s7 wr => ∃ v : Int, -1 ≤ v ∧ v ≤ s.size ∧ s6 = .int .i64 v ∧ Hid (K = lgK1 t (bs s) (v + 1).toNat ∧ N = lgN1 t (bs s) (v + 1).toNat) ∧ Below w.heap.size w wr) (fun s6 _ _ => (intOf s6 + 1).toNat)
  case atStart => exact ⟨s.size, by omega, by omega, rfl, Lib.hid (by rw [show (((s.size : Nat) : Int) + 1).toNat = s.size + 1 by omega]; exact ⟨HK.out, HN.out⟩), Below.refl _ _⟩
  case round =>
    obtain ⟨v, hv0, hvs, rfl, hI, hb⟩ := hrel
    by_cases hlt : 0 ≤ v
    · obtain ⟨j, rfl⟩ : ∃ j : Nat, v = (j : Int) := ⟨v.toNat, by omega⟩
      have hjs : j ≤ s.size := by omega
      have H1 := Lib.hid (C.out · j hjs)
      obtain ⟨F, hF⟩ : ∃ F, F = findK t ((bs s).take j) := ⟨_, rfl⟩
      rw [← hF] at H1
      have HI : Hid ((0 ≤ F → K = F ∧ N = j) ∧ (¬ 0 ≤ F → K = lgK1 t (bs s) j ∧ N = lgN1 t (bs s) j)) := Lib.hid (by
        have h := hI.out
        rw [show ((j : Int) + 1).toNat = j + 1 by omega] at h
        obtain ⟨h1, h2⟩ := h
        have k1 : K = lgK t (bs s) j := h1
        have k2 : N = lgN t (bs s) j := h2
        rw [lgK_at, ← hF] at k1
        rw [lgN_at, ← hF] at k2
        exact ⟨fun q => by rw [if_pos q] at k1 k2; exact ⟨k1, k2⟩, fun q => by rw [if_neg q] at k1 k2; exact ⟨k1, k2⟩⟩)
      clear hF hI
      by_cases hf : 0 ≤ F
      · have HX := Lib.hid (HI.out.1 hf)
        go_wp2_with (go_at_call 17; (with_reducible refine (H1.out _ hb).mono ?_); rintro e w2 ⟨rfl, hb2⟩)
        go_ret2
        exact ⟨retO_ii HX.out.1.symm (by rw [HX.out.2]), hb.trans (hb2.mono hb.size)⟩
      · have HX := Lib.hid (HI.out.2 hf)
        go_wp2_with (go_at_call 17; (with_reducible refine (H1.out _ hb).mono ?_); rintro e w2 ⟨rfl, hb2⟩)
        go_roundw
        case rel => exact ⟨(j : Int) - 1, by omega, by omega, rfl, Lib.hid (by rw [show ((j : Int) - 1 + 1).toNat = j by omega]; exact HX.out), hb.trans (hb2.mono hb.size)⟩
        case measure => simp [intOf] <;> omega
    · obtain rfl : v = -1 := by omega
      have HX : Hid (K = -1 ∧ N = 0) := Lib.hid hI.out
      clear hI
      go_wp2
      go_ret2
      exact ⟨retO_ii HX.out.1.symm (by rw [HX.out.2]; rfl), hb⟩
set_option maxHeartbeats 8000000 in
theorem sameT_any (t t2 : List Nd) (A A2 : Option Addr) (n cap n2 cap2 : Nat) (w : World) (hT : NodesAt w w.heap.size A n t) (hT2 : NodesAt w w.heap.size A2 n2 t2) :
    Calls Try.prog 14 #[.slice A n cap, .slice A2 n2 cap2] w fun e w' => e = .returned (.bool (ndEq t t2)) ∧ Below w.heap.size w w' := by
  have hnl : n ≤ 9223372036854775807 := hT.2.1
  have HT := Lib.hid hT
  have HT2 := Lib.hid hT2
  have HN : Hid (t.length = n) := Lib.hid hT.1
  have HN2 : Hid (t2.length = n2) := Lib.hid hT2.1
  obtain ⟨R, hR⟩ : ∃ R, R = ndEq t t2 := ⟨_, rfl⟩
  have HR := Lib.hid hR
  rw [← hR]
  clear hT hT2 hR
  by_cases hnn : n = n2
  · subst hnn
    go_enter Try.func14, Try.ntmps14
    go_wp2
    go_loopw [5] (fun s5 wr => ∃ k : Nat, k ≤ n ∧ s5 = .int .i64 k ∧ Hid (R = ndEq (t.drop k) (t2.drop k)) ∧ Below w.heap.size w wr) (fun s5 _ => n - (intOf s5).toNat)
    case atStart => exact ⟨0, Nat.zero_le _, rfl, Lib.hid (by rw [List.drop_zero, List.drop_zero]; exact HR.out), Below.refl _ _⟩
    case round =>
      obtain ⟨k, hk, rfl, hI, hb⟩ := hrel
      have hz := hb.size
      by_cases hlt : k < n
      · obtain ⟨b, o, q, hA, hbB, hq, B2, c2, hqq⟩ := nodes_get HT.out hlt
        obtain ⟨b', o', q', hA', hbB', hq', B2', c2', hqq'⟩ := nodes_get HT2.out hlt
        subst hA
        subst hA'
        obtain ⟨e0, e1, _⟩ := hqq _ hb
        obtain ⟨g0, g1, _⟩ := hqq' _ hb
        have HQ : Hid (∀ W, Below w.heap.size w W → W.cell? ⟨b, o + k * 2, none⟩ = some (.slice B2 q.es.length c2)) := Lib.hid fun W h => (hqq W h).1
        have HQ' : Hid (∀ W, Below w.heap.size w W → W.cell? ⟨b', o' + k * 2, none⟩ = some (.slice B2' q'.es.length c2')) := Lib.hid fun W h => (hqq' W h).1
        have HE := Lib.hid (hqq w (Below.refl _ _)).2.2
        have HE' := Lib.hid (hqq' w (Below.refl _ _)).2.2
        have hml : q.es.length ≤ 9223372036854775807 := HE.out.2.1
        have HI := Lib.hid (hI.out.trans (ndEq_at hq hq'))
        obtain ⟨m, hm⟩ : ∃ m, m = q.es.length := ⟨_, rfl⟩
        obtain ⟨m', hm'⟩ : ∃ m', m' = q'.es.length := ⟨_, rfl⟩
        have HM := Lib.hid hm
        have HM' := Lib.hid hm'
        rw [← hm] at e0 hml HE HQ
        rw [← hm'] at g0 HE' HQ'
        clear hm hm' hq hq' hqq hqq' hI
        by_cases hw : q.word = q'.word
        · by_cases hmm : m = m'
          · have hw1 : (q.word != q'.word) = false := by simpa using hw
            have hm1 : ((m : Int) != (m' : Int)) = false := by rw [bne_eq_false_iff_eq]; omega
            have HI2 : Hid (R = (edEq (q.es.drop 0) (q'.es.drop 0) && ndEq (t.drop (k + 1)) (t2.drop (k + 1)))) := Lib.hid (HI.out.trans (by rw [beq_iff_eq.2 hw, List.drop_zero, List.drop_zero]; rfl))
            clear HI hw
            subst hmm
            obtain ⟨wo, hwo⟩ : ∃ wo : World, wo = wr := ⟨_, rfl⟩
            rw [← hwo] at hb hz e0 e1 g0 g1
            rw [← hwo]
            clear hwo
            go_wp2
            go_quiet (fail)
            have hbd := below_drewT hb nq
            clear e0 e1 g0 g1
            go_wp2
            go_loopw [6] (fun s6 wr => ∃ i : Nat, i ≤ m ∧ s6 = .int .i64 i ∧ Hid (R = (edEq (q.es.drop i) (q'.es.drop i) && ndEq (t.drop (k + 1)) (t2.drop (k + 1)))) ∧ Below w.heap.size w wr) (fun s6 _ => m - (intOf s6).toNat)
            case atStart => exact ⟨0, Nat.zero_le _, rfl, HI2, hbd⟩
            case round =>
              obtain ⟨i, hi, rfl, hJ, hb2⟩ := hrel
              have e0 := HQ.out _ hb2
              have g0 := HQ'.out _ hb2
              by_cases hit : i < m
              · obtain ⟨c, f, x, hC, hcB, hx, hxc, hxx⟩ := edges_get HE.out hit
                obtain ⟨c', f', x', hC', hcB', hx', hxc', hxx'⟩ := edges_get HE'.out hit
                subst hC
                subst hC'
                obtain ⟨k0, k1⟩ := hxx _ hb2
                obtain ⟨k2, k3⟩ := hxx' _ hb2
                have HJ := Lib.hid (hJ.out.trans (by rw [edEq_at hx hx']))
                clear hx hx' hxx hxx' hJ
                by_cases q1 : x.c = x'.c
                · by_cases q2 : x.to = x'.to
                  · have HX : Hid (R = (edEq (q.es.drop (i + 1)) (q'.es.drop (i + 1)) && ndEq (t.drop (k + 1)) (t2.drop (k + 1)))) := Lib.hid (HJ.out.trans (by rw [beq_iff_eq.2 q1, beq_iff_eq.2 q2]; rfl))
                    have r1 : ((x.c : Int) == (x'.c : Int)) = true := by rw [beq_iff_eq]; omega
                    have r2 : (x.to == x'.to) = true := beq_iff_eq.2 q2
                    clear HJ q1 q2
                    go_wp2
                    go_quiet (fail)
                    go_wp2
                    go_roundw
                    case rel => exact ⟨i + 1, by omega, by go_num, HX, below_drewT hb2 _⟩
                    case measure => simp [intOf]; omega
                  · have HX : Hid (false = R) := Lib.hid (by rw [HJ.out, beq_eq_false_iff_ne.2 q2]; simp)
                    have r1 : ((x.c : Int) == (x'.c : Int)) = true := by rw [beq_iff_eq]; omega
                    have r2 : (x.to == x'.to) = false := beq_eq_false_iff_ne.2 q2
                    clear HJ q1 q2
                    go_wp2
                    go_quiet (fail)
                    go_wp2
                    go_ret
                    exact ⟨retO_b HX.out, below_drewT hb2 _⟩
                · have HX : Hid (false = R) := Lib.hid (by rw [HJ.out, beq_eq_false_iff_ne.2 q1]; simp)
                  have r1 : ((x.c : Int) == (x'.c : Int)) = false := by rw [beq_eq_false_iff_ne]; omega
                  clear HJ q1
                  go_wp2
                  go_quiet (fail)
                  go_wp2
                  go_ret
                  exact ⟨retO_b HX.out, below_drewT hb2 _⟩
              · have HX : Hid (R = ndEq (t.drop (k + 1)) (t2.drop (k + 1))) := Lib.hid (hJ.out.trans (by
                  rw [List.drop_eq_nil_of_le (by rw [← HM.out]; omega), List.drop_eq_nil_of_le (by rw [← HM'.out]; omega)]; rfl))
                clear hJ
                go_wp2
                go_roundw
                case rel => exact ⟨k + 1, by omega, by go_num, HX, hb2⟩
                case measure => simp [intOf]; omega
          · have HX : Hid (false = R) := Lib.hid (by
              rw [HI.out]
              have : edEq q.es q'.es = false := by
                cases h : edEq q.es q'.es
                · rfl
                · exact absurd (edEq_len h) (by rw [← HM.out, ← HM'.out]; exact hmm)
              rw [this]; simp)
            have hw1 : (q.word != q'.word) = false := by simpa using hw
            have hm1 : ((m : Int) != (m' : Int)) = true := by rw [bne_iff_ne]; omega
            clear HI hw
            go_wp2
            go_quiet (fail)
            go_wp2
            go_ret
            exact ⟨retO_b HX.out, below_drewT hb _⟩
        · have HX : Hid (false = R) := Lib.hid (by rw [HI.out, beq_eq_false_iff_ne.2 hw]; rfl)
          have hw1 : (q.word != q'.word) = true := by simpa using hw
          clear HI
          go_wp2
          go_quiet (fail)
          go_wp2
          go_ret
          exact ⟨retO_b HX.out, below_drewT hb _⟩
      · have HX : Hid (true = R) := Lib.hid (by rw [hI.out, List.drop_eq_nil_of_le (by rw [HN.out]; omega), List.drop_eq_nil_of_le (by rw [HN2.out]; omega)]; rfl)
        clear hI
        go_wp2
        go_ret
        exact ⟨retO_b HX.out, hb⟩
  · have HX : Hid (false = R) := Lib.hid (by
      rw [HR.out]
      cases h : ndEq t t2
      · rfl
      · exact absurd (ndEq_len h) (by rw [HN.out, HN2.out]; exact hnn))
    go_enter Try.func14, Try.ntmps14
    go_wp2
    go_ret
    exact ⟨retO_b HX.out, Below.refl _ _⟩
end Go.Proofs.Ytggepbkhhnhnkaa
