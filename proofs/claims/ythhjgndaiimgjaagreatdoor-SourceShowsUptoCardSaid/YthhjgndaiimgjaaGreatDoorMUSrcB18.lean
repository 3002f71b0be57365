/- Parts of a proof, laid together. -/
import Derived.Test.YthhjgndaiimgjaaGreatDoorMUSrcB9
import Derived.Test.YthhjgndaiimgjaaGreatDoorMUSrcB12
set_option linter.unusedSimpArgs false
set_option linter.unusedVariables false
/-! The iterator over the eras: data.eras, and what it hands to its loop's body. -/
section
set_option linter.unusedVariables false
set_option linter.unusedSimpArgs false
namespace Gno
open Go
/-- eras, each with the Until of the one ahead. -/
def aheads (a : Int) : List Er → List (Er × Int)
  | [] => []
  | x :: t => (x, a) :: aheads x.til t
def aheadG (a : Int) (es : List Er) (i : Nat) : Int := match i with
  | 0 => a
  | j + 1 => match es[j]? with
    | some x => x.til
    | none => 0
theorem aheadG_cons (a : Int) (x : Er) (t : List Er) (i : Nat) (h : i ≤ t.length) : aheadG a (x :: t) (i + 1) = aheadG x.til t i := by
  cases i with
  | zero => rfl
  | succ j => simp [aheadG]
theorem aheads_split : ∀ {es : List Er} {a : Int} {i : Nat} {x : Er}, es[i]? = some x → aheads a es = aheads a (es.take i) ++ (x, aheadG a es i) :: aheads x.til (es.drop (i + 1))
  | [], a, i, x, h => by simp at h
  | y :: t, a, 0, x, h => by
    simp at h
    subst h
    simp [aheads, aheadG]
  | y :: t, a, i + 1, x, h => by
    have hl := (List.getElem?_eq_some_iff.1 h).1
    simp at h hl
    rw [aheadG_cons a y t i (by omega)]
    simp only [List.take_succ_cons, List.drop_succ_cons, aheads, List.cons_append]
    rw [← aheads_split h]
theorem aheads_take {es : List Er} {a : Int} {i : Nat} {x : Er} (h : es[i]? = some x) : aheads a (es.take (i + 1)) = aheads a (es.take i) ++ [(x, aheadG a es i)] := by
  have h1 : (es.take (i + 1))[i]? = some x := by rw [List.getElem?_take_of_lt (by omega)]; exact h
  rw [aheads_split h1, List.take_take, Nat.min_eq_left (by omega), List.drop_of_length_le (by rw [List.length_take]; omega)]
  have : aheadG a (es.take (i + 1)) i = aheadG a es i := by
    cases i with
    | zero => rfl
    | succ j =>
      show (match (es.take (j + 1 + 1))[j]? with | some x => x.til | none => 0) = (match es[j]? with | some x => x.til | none => 0)
      rw [List.getElem?_take_of_lt (by omega)]
  rw [this]; rfl
def erasL (zs : List Zn) : List (Er × Int) := zs.flatMap fun z => aheads 0 z.es
theorem erasL_take {zs : List Zn} {k : Nat} {z : Zn} (h : zs[k]? = some z) : erasL (zs.take (k + 1)) = erasL (zs.take k) ++ aheads 0 z.es := by
  rw [take_snoc' h]; simp [erasL]
theorem erasL_split {zs : List Zn} {k : Nat} {z : Zn} {i : Nat} {x : Er} (h : zs[k]? = some z) (hx : z.es[i]? = some x) :
    erasL zs = (erasL (zs.take k) ++ aheads 0 (z.es.take i)) ++ (x, aheadG 0 z.es i) :: (aheads x.til (z.es.drop (i + 1)) ++ erasL (zs.drop (k + 1))) := by
  have hk := (List.getElem?_eq_some_iff.1 h).1
  have he := (List.getElem?_eq_some_iff.1 h).2
  have h1 : zs.take k ++ z :: zs.drop (k + 1) = zs := by rw [← he, ← List.drop_eq_getElem_cons hk, List.take_append_drop]
  have h2 : erasL zs = erasL (zs.take k) ++ (aheads 0 z.es ++ erasL (zs.drop (k + 1))) := by
    have : erasL (zs.take k ++ z :: zs.drop (k + 1)) = erasL (zs.take k) ++ (aheads 0 z.es ++ erasL (zs.drop (k + 1))) := by simp [erasL]
    rw [h1] at this
    exact this
  rw [h2, aheads_split hx]
  simp
end Gno
namespace Go.Proofs.YthhjgndaiimgjaaGreatDoor
open Go.RowKit Gno Go.Shelf
attribute [local go_sem] Oper.semAt_some
def encEr (x : Er × Int) : Array Value := #[x.1.val, .int .i64 x.2]
theorem eras_any (d : Dt) (w : World) :
    Calls Tryz.prog 47 #[d.val] w fun e w' => e = .returned (.func (.func 79) #[] #[.pointer (some ⟨w.heap.size, 0, none⟩)]) ∧
      w' = w.alloc (.cells #[.slice d.sA d.sn d.sc, .slice d.zA d.zn d.zc, .slice d.lA d.ln d.lc] 26) := by
  have hmf : ∀ (fn : Fn) (first cap : Array Value) (w : World), (Instr.makeFunc fn first cap).run Tryz.prog w = .ok (.func fn first cap) w := fun _ _ _ _ => rfl
  unfold Dt.val
  go_enter Tryz.func47, Tryz.ntmps47
  go_wp2
  go_ret
  exact ⟨rfl, rfl⟩
set_option maxRecDepth 100000 in
set_option maxHeartbeats 4000000 in
theorem eras_seq (d : Dt) (n0 bx : Nat) (w : World) (hD : ZonesAt w n0 d.zA d.zn d.zs) (hn0 : n0 ≤ w.heap.size) (hbx : bx < w.heap.size) (hc : w.cell? ⟨bx, 1, none⟩ = some (.slice d.zA d.zn d.zc)) :
    SeqP Tryz.prog 79 #[.pointer (some ⟨bx, 0, none⟩)] encEr (erasL d.zs) n0 w := by
  intro l J Jp W hW hl hlW hJ hY h0
  have hcW := (hW.cell (p := ⟨bx, 1, none⟩) hbx).trans hc
  have HY := Lib.hid hY
  have HJ := Lib.hid hJ
  have hzn : d.zn ≤ 9223372036854775807 := hD.2.1
  have HD : Hid (ZonesAt W n0 d.zA d.zn d.zs) := Lib.hid (SlAt.below keeps_zn hD (hW.mono hn0) (Nat.le_refl _))
  have hnW : n0 ≤ l := by omega
  clear hY hJ hD
  refine callsIn_of_wp Tryz.func79 rfl trivial ?_ rfl
  simp only [Tryz.ntmps79, List.size_toArray, List.length_cons, List.length_nil, Nat.reduceAdd, Nat.reduceSub, Array.replicate_succ, Array.replicate_zero, List.push_toArray, List.append_toArray, List.nil_append, List.cons_append]
  gi_wp2
  gi_loopw [11] (fun b11 wr => ∃ k : Nat, k ≤ d.zn ∧ b11 = .int .i64 k ∧ Hid (J (erasL (d.zs.take k)) wr) ∧ RKeeps n0 l W wr ∧ W.heap.size ≤ wr.heap.size) (fun b11 _ => d.zn - (intOf b11).toNat)
  case atStart => exact ⟨0, Nat.zero_le _, rfl, Lib.hid (by simpa [erasL] using h0), ⟨Below.refl _ _, fun _ _ _ => rfl⟩, Nat.le_refl _⟩
  case round =>
    obtain ⟨k, hk, rfl, hj, hrk, hz⟩ := hrel
    clear h0
    by_cases hlt : k < d.zn
    · obtain ⟨b, o, z, hA, hbB, hzi, hzs, hzz⟩ := zones_get HD.out hlt
      obtain ⟨⟨e0, e1⟩, hes⟩ := hzz _ hrk.1
      have HZ := Lib.hid hzi
      have HES := Lib.hid ((hzz W (Below.refl _ _)).2)
      have hen : z.n ≤ 9223372036854775807 := hes.2.1
      obtain ⟨wo, hwo⟩ : ∃ wo : World, wo = wr := ⟨_, rfl⟩
      rw [← hwo] at hj hrk hz e0 e1
      rw [← hwo]
      clear hwo hzi hzz hes hzs
      have hj1 : Hid (J (erasL (d.zs.take k) ++ aheads 0 (z.es.take 0)) (wo.alloc (.cells #[.string z.name, .slice z.A z.n z.cap] 57))) := Lib.hid (by
        have := HJ.out _ _ _ hj.out ((Below.refl (l + 1) wo).alloc (by omega) (.cells #[.string z.name, .slice z.A z.n z.cap] 57))
        simpa [aheads] using this)
      have hrk1 : RKeeps n0 l W (wo.alloc (.cells #[.string z.name, .slice z.A z.n z.cap] 57)) := ⟨hrk.1.alloc (by omega) _, fun q h1 h2 => (Below.heap_alloc _ _ _ (by omega)).trans (hrk.2 q h1 h2)⟩
      rw [hA]
      gi_wp2
      gi_loopw [5, 18] (fun b5 b18 wr => ∃ i : Nat, i ≤ z.n ∧ b18 = .int .i64 i ∧ b5 = .int .i64 (aheadG 0 z.es i) ∧ Hid (J (erasL (d.zs.take k) ++ aheads 0 (z.es.take i)) wr) ∧ RKeeps n0 l W wr ∧ W.heap.size ≤ wr.heap.size) (fun _ b18 _ => z.n - (intOf b18).toNat)
      case atStart => exact ⟨0, Nat.zero_le _, rfl, rfl, hj1, hrk1, by simp; omega⟩
      case round =>
        obtain ⟨i, hi, rfl, rfl, hji, hri, hzi⟩ := hrel
        by_cases hit : i < z.n
        · obtain ⟨c, f, x, hA2, hcB, hxi, hxf, hxx⟩ := eras_get HES.out hit
          obtain ⟨g0, g1, g2, g3, g4⟩ := hxx _ hri.1
          have HX := Lib.hid hxi
          have hJV := HJ.out _ _ _ hji.out ((Below.refl (l + 1) wr).alloc (by omega) (.cells #[.int .i64 x.std, .int .i64 x.set, .int .i64 x.save, .string x.fmt, .int .i64 x.til] 59))
          obtain ⟨fn, tmps, assign, body, hy, hR⟩ := HY.out _ (x, aheadG 0 z.es i) _ _ (erasL_split HZ.out HX.out) hJV (by simp; omega)
          dsimp only [encEr, Er.val] at hy
          have HR := Lib.hid hR
          clear hR hJV hxi hxx
          rw [hA2]
          gi_wp2
          refine HR.out.mono ?_
          rintro e W3 (⟨rfl, hj3, hk3, hz3⟩ | ⟨ch, rfl, hjp⟩)
          · have hV : (wr.alloc (.cells #[.int .i64 x.std, .int .i64 x.set, .int .i64 x.save, .string x.fmt, .int .i64 x.til] 59)).heap.size = wr.heap.size + 1 := by simp
            have c4 : W3.cell? ⟨wr.heap.size, 4, none⟩ = some (.int .i64 x.til) := by
              rw [World.cell?_of_block (w := wr.alloc (.cells #[.int .i64 x.std, .int .i64 x.set, .int .i64 x.save, .string x.fmt, .int .i64 x.til] 59)) (a := ⟨wr.heap.size, 4, none⟩) (hk3.2 wr.heap.size (by omega) (by omega)), World.cell?_alloc_at _ _ _ _ rfl]
              rfl
            have hri3 : RKeeps n0 l W W3 := ⟨(hri.1.alloc (by omega) _).trans hk3.1, fun q h1 h2 => (hk3.2 q h1 (by omega)).trans ((Below.heap_alloc _ _ _ (by omega)).trans (hri.2 q h1 h2))⟩
            have hz4 : W.heap.size ≤ W3.heap.size := by omega
            have HJ3 : Hid (J (erasL (d.zs.take k) ++ aheads 0 (z.es.take (i + 1))) W3) := Lib.hid (by rw [aheads_take HX.out, ← List.append_assoc]; exact hj3)
            have HA : Hid (aheadG 0 z.es (i + 1) = x.til) := Lib.hid (by simp only [aheadG, HX.out])
            clear hk3 hj3 hri hz3 hji
            gi_wp2
            go_roundw
            case rel => exact ⟨i + 1, by omega, by go_num, by rw [HA.out], HJ3, hri3, hz4⟩
            case measure => simp [intOf]; omega
          · gi_wp2
            exact ⟨rfl, .inr ⟨ch, rfl, hjp⟩⟩
        · have HJ3 : Hid (J (erasL (d.zs.take (k + 1))) wr) := Lib.hid (by
            have := hji.out
            rw [List.take_of_length_le (l := z.es) (by rw [HES.out.1]; omega), ← erasL_take HZ.out] at this
            exact this)
          gi_wp2
          go_roundw
          case rel => exact ⟨k + 1, by omega, by go_num, HJ3, hri, hzi⟩
          case measure => simp [intOf]; omega
    · have HJ3 : J (erasL d.zs) wr := by
        have := hj.out
        rw [List.take_of_length_le (l := d.zs) (by rw [HD.out.1]; omega)] at this
        exact this
      gi_wp2
      go_end0
      exact .inl ⟨_, rfl, HJ3⟩
end Go.Proofs.YthhjgndaiimgjaaGreatDoor
end
