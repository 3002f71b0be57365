/- The walks of books.Look and of the reference's textOf. -/
import Derived.Test.YtlmphmfadikdpaaLook
set_option linter.unusedVariables false
namespace Go.Proofs.Ytlmphmfadikdpaa
open Go.RowKit Gno
set_option maxRecDepth 100000 in
set_option maxHeartbeats 4000000 in
theorem look_any (A : Option Addr) (n cap : Nat) (bs : List Bk) (k : Int) (key : ByteArray) (w : World) (hR : BooksAt w w.heap.size A n bs) (hP : parOk bs) (hk : -1 ≤ k) (hk2 : k < n) :
    Calls Try.prog 52 #[.slice A n cap, .int .i64 k, .string key] w fun e w' => e = .returned (.tuple #[.string (lookB bs key k).1, .bool (lookB bs key k).2]) ∧ Below w.heap.size w w' := by
  have hn : n ≤ 9223372036854775807 := hR.2.1
  have HR := Lib.hid hR
  have HP := Lib.hid hP
  clear hR hP
  obtain ⟨V, hV⟩ : ∃ V, V = lookB bs key k := ⟨_, rfl⟩
  rw [← hV]
  have HV := Lib.hid hV.symm
  clear hV
  go_enter Try.func52, Try.ntmps52
  go_wp2
  go_loopw [1] (fun b0 wr => ∃ j : Int, -1 ≤ j ∧ j < n ∧ b0 = .int .i64 j ∧ Hid (lookB bs key j = V) ∧ Below w.heap.size w wr) (fun b0 _ => (intOf b0 + 1).toNat)
  case atStart => exact ⟨k, hk, hk2, rfl, HV, Below.refl _ _⟩
  case round =>
    clear hk hk2 HV
    obtain ⟨j, hj, hj2, rfl, hfd, hb⟩ := hrel
    obtain ⟨wo, hwo⟩ : ∃ wo : World, wo = wr := ⟨_, rfl⟩
    rw [← hwo]
    rw [← hwo] at hb
    clear hwo
    by_cases hj0 : 0 ≤ j
    · have hR2 := HR.out.below hb (Nat.le_refl _)
      obtain ⟨b, o, hA, hbB, hc⟩ := hR2.2.2 (by omega)
      subst hA
      have hl : j.toNat < bs.length := by rw [hR2.1]; omega
      obtain ⟨⟨e0, e1, e2⟩, hle, hps⟩ := hc j.toNat _ (List.getElem?_eq_getElem hl)
      obtain ⟨q, hq⟩ : ∃ q, q = bs[j.toNat] := ⟨_, rfl⟩
      have hqi : bs[j.toNat]? = some q := by rw [hq]; exact List.getElem?_eq_getElem hl
      rw [← hq] at e0 e1 e2 hps
      have hpar := HP.out _ q hqi
      have p1 := hpar.1
      have p2 : q.par < j := by omega
      have HL := Lib.hid ((look_at HP.out hj0 hqi).symm.trans hfd.out)
      have hzo : w.heap.size ≤ wo.heap.size := hb.size
      have hbo : b < wo.heap.size := by omega
      have HQ := Lib.hid (hps.more hzo)
      have hm : q.n ≤ 9223372036854775807 := hps.2.1
      clear hc hR2 hq hqi hl hle hps hpar hfd
      go_wp2
      go_loopw [23] (fun b1 wr2 => ∃ i : Nat, i ≤ q.n ∧ b1 = .int .i64 i ∧ Hid (inPairs key (lookB bs key q.par) (q.ps.drop i) = V) ∧ Below wo.heap.size wo wr2) (fun b1 _ => q.n - (intOf b1).toNat)
      case atStart => exact ⟨0, Nat.zero_le _, rfl, Lib.hid (by simpa using HL.out), Below.refl _ _⟩
      case round =>
        clear HL
        obtain ⟨i, hi, rfl, hfi, hb2⟩ := hrel
        have d1 : wr.cell? ⟨b, o + j.toNat * 3 + 1, none⟩ = some (.int .i64 q.par) := (hb2.cell hbo).trans e1
        have d2 : wr.cell? ⟨b, o + j.toNat * 3 + 2, none⟩ = some (.slice q.A q.n q.cap) := (hb2.cell hbo).trans e2
        have hb3 : Below w.heap.size w wr := hb.trans (hb2.mono hzo)
        clear e0 e1 e2
        by_cases hlt : i < q.n
        · have hQ2 := HQ.out.below hb2 (Nat.le_refl _)
          obtain ⟨c, f, hA2, hcB, hcc⟩ := hQ2.2.2 (by omega)
          rw [hA2] at d2
          have hl : i < q.ps.length := by rw [hQ2.1]; exact hlt
          obtain ⟨⟨g0, g1⟩, hgg⟩ := hcc i _ (List.getElem?_eq_getElem hl)
          obtain ⟨r, hr⟩ : ∃ r, r = q.ps[i] := ⟨_, rfl⟩
          have hri : q.ps[i]? = some r := by rw [hr]; exact List.getElem?_eq_getElem hl
          rw [← hr] at g0 g1
          have FD := Lib.hid (inPairs_drop (key := key) (r := lookB bs key q.par) hri)
          clear hgg hcc hQ2 hr hri hl
          cases hpk : isKey key r
          · have HX := Lib.hid ((FD.out.2 hpk).symm.trans hfi.out)
            have hs : (r.key.toList == key.toList) = false := hpk
            clear hfi hpk
            go_wp2
            go_roundw
            case rel => exact ⟨i + 1, by omega, by go_num, HX, hb2.alloc hb2.size _⟩
            case measure => simp [intOf]; omega
          · have HX := Lib.hid ((FD.out.1 hpk).symm.trans hfi.out)
            have hs : (r.key.toList == key.toList) = true := hpk
            clear hfi hpk
            go_wp2
            go_region
            go_wp2
            go_ret2
            exact ⟨by rw [← HX.out]; rfl, (hb3.alloc hb3.size _).drew⟩
        · have HX := Lib.hid ((inPairs_end (key := key) (r := lookB bs key q.par) (by have := HQ.out.1; omega)).symm.trans hfi.out)
          go_wp2
          go_roundw
          case rel => exact ⟨q.par, p1, by omega, rfl, HX, hb3⟩
          case measure => simp [intOf]; omega
    · have HX := Lib.hid ((look_neg (bs := bs) (key := key) (k := j) (by omega)).symm.trans hfd.out)
      go_wp2
      go_ret2
      exact ⟨by rw [← HX.out]; rfl, hb⟩
end Go.Proofs.Ytlmphmfadikdpaa
