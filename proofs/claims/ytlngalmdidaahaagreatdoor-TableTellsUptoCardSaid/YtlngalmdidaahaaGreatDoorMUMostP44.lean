/- Plain: how many turns a zone's eras and rules give; tables of the same turns. -/
import Derived.BigQuiet
import Derived.Test.YtlngalmdidaahaaGreatDoorMUMostP43
set_option linter.unusedSimpArgs false
set_option linter.unusedVariables false
/-! Plain: how many turns a zone's eras and rules give; tables of the same turns. -/
section
set_option linter.unusedVariables false
set_option linter.unusedSimpArgs false
namespace Gno
open Go
def yearsM (r : Rl) : Int := max 0 (min 2029 r.ty - max 1970 r.fy + 1)
def mostS (rs : List Rl) : Nat → Int
  | 0 => 0
  | i + 1 => match rs[i]? with | some r => mostS rs i + yearsM r | none => mostS rs i
def mostX (d : Dt) (x : Er) : Int := if x.set < 0 then 0 else match d.ss[x.set.toNat]? with | some s => mostS s.rs s.rs.length | none => 0
def mostE (d : Dt) (es : List Er) : Nat → Int
  | 0 => 0
  | k + 1 => match es[k]? with | some x => mostE d es k + 1 + mostX d x | none => mostE d es k
theorem yearsM_is {r : Rl} (h : r.e = 0) : (yearsN r : Int) = yearsM r ∧ 0 ≤ yearsM r ∧ yearsM r ≤ 60 := by
  obtain ⟨⟨h1, h2⟩, h3⟩ := years_few h
  unfold yearsN yearsM at *
  omega
theorem mostS_step {rs : List Rl} {i : Nat} {r : Rl} (h : rs[i]? = some r) : mostS rs (i + 1) = mostS rs i + yearsM r := by
  show (match rs[i]? with | some r => mostS rs i + yearsM r | none => mostS rs i) = _
  rw [h]
theorem mostE_step {d : Dt} {es : List Er} {k : Nat} {x : Er} (h : es[k]? = some x) : mostE d es (k + 1) = mostE d es k + 1 + mostX d x := by
  show (match es[k]? with | some x => mostE d es k + 1 + mostX d x | none => mostE d es k) = _
  rw [h]
theorem mostS_bd {rs : List Rl} (h : ∀ r ∈ rs, r.e = 0) : ∀ i : Nat, 0 ≤ mostS rs i ∧ mostS rs i ≤ 60 * i
  | 0 => by simp [mostS]
  | i + 1 => by
    have ih := mostS_bd h i
    cases hr : rs[i]? with
    | none =>
      have e : mostS rs (i + 1) = mostS rs i := by show (match rs[i]? with | some r => mostS rs i + yearsM r | none => mostS rs i) = _; rw [hr]
      rw [e]; omega
    | some r =>
      have := yearsM_is (h r (List.mem_of_getElem? hr))
      rw [mostS_step hr]; omega
theorem mostX_bd {d : Dt} (hr : RightE d) (hf : ∀ s ∈ d.ss, s.rs.length ≤ 4) (x : Er) : 0 ≤ mostX d x ∧ mostX d x ≤ 240 := by
  unfold mostX
  split
  · omega
  · cases hq : d.ss[x.set.toNat]? with
    | none => simp
    | some s =>
      have h1 := mostS_bd (hr.rules s (List.mem_of_getElem? hq)) s.rs.length
      have h2 := hf s (List.mem_of_getElem? hq)
      simp only
      omega
theorem mostE_bd {d : Dt} (hr : RightE d) (hf : ∀ s ∈ d.ss, s.rs.length ≤ 4) (es : List Er) : ∀ k : Nat, 0 ≤ mostE d es k ∧ mostE d es k ≤ 241 * k
  | 0 => by simp [mostE]
  | k + 1 => by
    have ih := mostE_bd hr hf es k
    cases hx : es[k]? with
    | none =>
      have e : mostE d es (k + 1) = mostE d es k := by show (match es[k]? with | some x => mostE d es k + 1 + mostX d x | none => mostE d es k) = _; rw [hx]
      rw [e]; omega
    | some x =>
      have := mostX_bd hr hf x
      rw [mostE_step hx]; omega
theorem timesS_most {rs : List Rl} {std f u : Int} (h : ∀ r ∈ rs, r.e = 0) : ∀ i : Nat, ((timesS rs std f u i).length : Int) ≤ mostS rs i
  | 0 => by simp [timesS, mostS]
  | i + 1 => by
    have ih := timesS_most (std := std) (f := f) (u := u) h i
    cases hr : rs[i]? with
    | none =>
      have e : mostS rs (i + 1) = mostS rs i := by show (match rs[i]? with | some r => mostS rs i + yearsM r | none => mostS rs i) = _; rw [hr]
      have e2 : timesS rs std f u (i + 1) = timesS rs std f u i := by show (match rs[i]? with | some r => timesS rs std f u i ++ timesY r std f u (yearsN r) | none => timesS rs std f u i) = _; rw [hr]
      rw [e, e2]; exact ih
    | some r =>
      have h1 := timesY_len (r := r) (std := std) (f := f) (u := u) (yearsN r)
      have h2 := yearsM_is (h r (List.mem_of_getElem? hr))
      rw [mostS_step hr, timesS_step hr, List.length_append]
      omega
theorem cuts_most {d : Dt} (hr : RightE d) {x : Er} {f : Int} : ((cutsE d x f).length : Int) ≤ 1 + mostX d x := by
  have h1 := compact_len (sortI (timesE d x f))
  rw [sortI_len] at h1
  have h2 : ((timesE d x f).length : Int) ≤ 1 + mostX d x := by
    unfold timesE mostX
    split
    · simp
    · cases hq : d.ss[x.set.toNat]? with
      | none => simp
      | some s =>
        have h3 := timesS_most (std := x.std) (f := f) (u := x.til) (hr.rules s (List.mem_of_getElem? hq)) s.rs.length
        simp only [List.length_cons]
        omega
  unfold cutsE
  omega
theorem comp_most {d : Dt} (hr : RightE d) (es : List Er) : ∀ k : Nat, ((compUpTo d es k).length : Int) ≤ mostE d es k
  | 0 => by simp [compUpTo, mostE]
  | k + 1 => by
    have ih := comp_most hr es k
    cases hx : es[k]? with
    | none =>
      have e : mostE d es (k + 1) = mostE d es k := by show (match es[k]? with | some x => mostE d es k + 1 + mostX d x | none => mostE d es k) = _; rw [hx]
      have e2 : compUpTo d es (k + 1) = compUpTo d es k := by show (match es[k]? with | some x => eraT d x (aheadOf es k) (compUpTo d es k) | none => compUpTo d es k) = _; rw [hx]
      rw [e, e2]; exact ih
    | some x =>
      have h1 := push_len (d := d) (x := x) (cutsE d x (aheadOf es k)) (compUpTo d es k)
      have h2 := cuts_most hr (x := x) (f := aheadOf es k)
      rw [mostE_step hx, comp_step hx]
      unfold eraT
      omega
/-- of a link those of its zone. -/
theorem tab_zone {d : Dt} {nm : ByteArray} (he : zoneEr d nm = 0) {z : Zn} (hz : d.zs[(zoneK d nm).toNat]? = some z) : zoneEr d z.name = 0 ∧ tabN d z.name = tabN d nm ∧ tabN d nm = compT d z ∧ 0 < (tabN d nm).length := by
  obtain ⟨hd0, z', hzq, hoz, hzm, h0, h1⟩ := zone_there he
  rw [hz] at hzq
  injection hzq with hzq
  subst hzq
  have hr := rightE_of hd0
  have hln : leadN d z.name = ((zoneK d nm).toNat : Int) := hr.toRight.leadZone hz
  have hz2 := zone_is (nm := z.name) hd0 (by omega)
  have e1 : tabN d nm = compT d z := by unfold tabN; rw [if_pos he, hoz]
  have e2 : tabN d z.name = compT d z := by
    unfold tabN oaZ
    rw [if_pos hz2.2, hz2.1, hln, Int.toNat_natCast, hz]
  refine ⟨hz2.2, by rw [e1, e2], e1, ?_⟩
  rw [e1, compT_is hr hzm]
  obtain ⟨r, hr⟩ := turnsN_head (H := zoneO d z) 1893455999
  rw [hr]; simp
end Gno
namespace Go.Proofs.YtlngalmdidaahaaGreatDoor
open Go.RowKit Gno
set_option maxRecDepth 100000 in
set_option maxHeartbeats 4000000 in
theorem sameTurns_any (A A' : Option Addr) (n cap cap' : Nat) (l : List Tn) (w : World) (hT : TurnsAt w w.heap.size A n l) (hT' : TurnsAt w w.heap.size A' n l) :
    Calls Tryz.prog 18 #[.slice A n cap, .slice A' n cap'] w fun e w' => e = .returned (.bool true) ∧ Below w.heap.size w w' := by
  have hnl : n ≤ 9223372036854775807 := hT.2.1
  have hne : ((n : Int) != (n : Int)) = false := by simp
  have HT := Lib.hid hT
  have HT' := Lib.hid hT'
  clear hT hT'
  go_enter Tryz.func18, Tryz.ntmps18
  go_wp2
  go_loopw [5] (fun b5 wr => ∃ i : Nat, i ≤ n ∧ b5 = .int .i64 i ∧ Hid (Below w.heap.size w wr)) (fun b5 _ => n - (intOf b5).toNat)
  case atStart => exact ⟨0, Nat.zero_le _, rfl, Lib.hid (Below.refl _ _)⟩
  case round =>
    obtain ⟨i, hi, rfl, hb⟩ := hrel
    by_cases hit : i < n
    · obtain ⟨b, o, y, hA, _, hy, _, hc⟩ := turns_get HT.out hit
      obtain ⟨b', o', y', hA', _, hy', _, hc'⟩ := turns_get HT'.out hit
      rw [hy] at hy'
      injection hy' with hy'
      subst hy'
      obtain ⟨e0, e1, e2, e3⟩ := hc _ hb.out
      obtain ⟨f0, f1, f2, f3⟩ := hc' _ hb.out
      subst hA
      subst hA'
      have g1 : (y.a == y.a) = true := by simp
      have g2 : (y.tt == y.tt) = true := by simp
      have g3 : (y.sv == y.sv) = true := by simp
      have g4 : (y.ab.toList == y.ab.toList) = true := by simp
      clear hc hc' hy
      go_wp2_with fail
      go_quiet (fail)
      go_wp2
      go_roundw
      case rel => exact ⟨i + 1, by omega, by go_num, Lib.hid (below_drewN hb.out _)⟩
      case measure => simp [intOf]; omega
    · go_wp2
      go_ret
      exact ⟨rfl, hb.out⟩
end Go.Proofs.YtlngalmdidaahaaGreatDoor
end
