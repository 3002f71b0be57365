/- Parts of a proof, laid together. -/
import Derived.Deep.DeepMust
import Derived.Maps.AppendAt
import Derived.Deep.QuietTactic
import Derived.BigQuiet
import Derived.Test.YtbbbeldbhlehnaaGreatDoorMUTrB24
import Derived.Test.YtbbbeldbhlehnaaGreatDoorMUTrB26
set_option linter.unusedSimpArgs false
set_option linter.unusedVariables false
section
namespace Go.Proofs.YtbbbeldbhlehnaaGreatDoor
open Go.RowKit Gno
theorem wpList_app {P : Program} {ops : Array Oper} {rest : List Oper} {o : Oper} {a : Act} {Q : Exit → Act → World → Prop} {w0 wr : World} {B : Nat} (hb : Below B w0 wr) (hB : B ≤ wr.heap.size) (cs : Array Value) (E : TypeId)
 (hgd : o.guard = none) (s x : Operand) (t : TypeId) (ho : o.op = .call { callee := .builtin .append, args := #[s, x], argTypes := #[t, t] }) (ht : P.underlying t = some (.slice E)) (z : Value) (sz bytes : Nat)
 (hinf : (P.info? E).map (fun i => (i.zero, i.size, i.bytes)) = some (some z, sz, bytes)) (hzs : z.cells.size = sz) (hsz : 0 < sz) (v : Value) (n : Nat) (xs : List Value) (hs : a.eval s = v) (hown : wr.ownsRow B E sz v n xs)
 (c : Nat) (hx : a.eval x = .slice (some ⟨wr.heap.size, 0, none⟩) 1 c) (hcs : cs.size = sz) (h1 : ∀ u ∈ cs.toList, u.oneCell' = true) (h63 : n + 1 ≤ maxLen) (hbytes : (n + 1) * bytes ≤ 140737488355328)
 (h : ∀ v' w1, w1.ownsRow B E sz v' (n + 1) (xs ++ cs.toList) → Below B w0 w1 → wr.heap.size ≤ w1.heap.size → wpList P ops Q rest (a.put o.dst v') w1) : wpList P ops Q (o :: rest) a (wr.alloc (.cells cs E)) := by
 obtain ⟨i0, hi, hz0, hz1, hz2⟩ := info_parts hinf
 refine wpList_append_own (wr.alloc (.cells cs E)) hgd s x t ho B E i0 z sz bytes ht hi hz0 hz1 hz2 hzs hsz v n xs hs (hown.alloc _) ⟨wr.heap.size, 0, none⟩ 1 c cs.toList hx (by simp [hcs]) ?_ h1 h63 hbytes (by simp; omega) ?_
 ·intro j u hj
  have hadd : (⟨wr.heap.size, 0, none⟩ : Addr).add j = ⟨wr.heap.size, j, none⟩ := by unfold Addr.add; split <;> simp_all
  rw [hadd, World.cell?_alloc_at _ _ _ _ rfl]
  simpa using hj
 ·intro v' w1 hown1 hgrow1 _
  have h0 : Below B w0 (wr.alloc (.cells cs E)) := hb.alloc hB _
  refine h v' w1 hown1 (h0.grown hgrow1 (by simp; omega) fun k hk => (hown.lt k hk).1) ?_
  have := hgrow1.size
  simp at this
  omega
def strs (l : List ByteArray) : List Value := l.map Value.string
theorem infoStr : (Tryz.prog.info? 9).map (fun i => (i.zero, i.size, i.bytes)) = some (some (.string ⟨#[]⟩), 1, 16) := by kernel_rfl
theorem ownsRow_strs {w : World} {B : Nat} {e : TypeId} {v : Value} {n : Nat} {l : List ByteArray} (h : w.ownsRow B e 1 v n (strs l)) (hn : n ≤ maxLen) :
 ∃ A cap, v = .slice A n cap ∧ StrsAt w w.heap.size A n l := by
 have hl : l.length = n := by have := h.1; simpa [strs] using this
 rcases h.2 with ⟨rfl, rfl⟩ | ⟨g, cap, cur, rfl, hb, hg, hrest⟩
 ·exact ⟨none, 0, rfl, hl, hn, fun h0 => by omega⟩
 ·refine ⟨_, cap, rfl, hl, hn, fun _ => ⟨g, 0, rfl, (Array.getElem?_eq_some_iff.1 hg).1, fun i s hi => ?_⟩⟩
  have := h.cells (g := g) rfl i (.string s) (by simp [strs, hi])
  have hadd : (⟨g, 0, none⟩ : Addr).add i = ⟨g, i, none⟩ := by unfold Addr.add; split <;> simp_all
  rw [hadd] at this
  rw [Nat.zero_add]; exact this
end Go.Proofs.YtbbbeldbhlehnaaGreatDoor
end
section
namespace Go.Proofs.YtbbbeldbhlehnaaGreatDoor
open Go.RowKit Gno
def Apart (v v2 : Value) : Prop := ∀ k, v.ownBlock = some k → v2.ownBlock ≠ some k
theorem Apart.symm {v v2 : Value} (h : Apart v v2) : Apart v2 v := fun k h1 h2 => h k h2 h1
theorem Apart.nil (v : Value) : Apart (.slice none 0 0) v := fun k h => by simp [Value.ownBlock] at h
def NearOr (w : World) (v v' : Value) : Prop := v'.ownBlock = v.ownBlock ∨ ∀ k, v'.ownBlock = some k → w.heap.size ≤ k
theorem own_apart {w w1 : World} {B2 : Nat} {e : TypeId} {sz : Nat} {v v' v2 : Value} {n2 : Nat} {xs2 : List Value} (h2 : w.ownsRow B2 e sz v2 n2 xs2) (hg : w.grownBy w1 v.ownBlock) (ha : Apart v v2) (hb : NearOr w v v') :
 w1.ownsRow B2 e sz v2 n2 xs2 ∧ Apart v' v2 := by
 refine ⟨h2.kept hg ?_, fun k hk hk2 => ?_⟩
 ·cases hv : v2.ownBlock with
  | none => exact .inl rfl
  | some k => exact .inr (fun h => ha k h.symm hv)
 ·rcases hb with h | h
  ·exact ha k (h ▸ hk) hk2
  ·have := h k hk
   have := (h2.lt k hk2).2
   omega
section
variable {P : Program} (w : World)
theorem run_append_at (base : Nat) (t ty e : TypeId) (i : TypeInfo) (z : Value) (size bytes : Nat) (ht : P.underlying t = some (.slice e)) (hi : P.info? e = some i) (hz : i.zero = some z)
 (hsize : i.size = size) (hby : i.bytes = bytes) (hzs : z.cells.size = size) (hsz : 0 < size)
 (v : Value) (n : Nat) (xs : List Value) (hown : w.ownsRow base e size v n xs)
 (a : Addr) (m c : Nat) (news : List Value) (hl : news.length = m * size) (hnews : ∀ j u, news[j]? = some u → w.cell? (a.add j) = some u) (h1 : ∀ u ∈ news, u.oneCell' = true)
 (h63 : n + m ≤ maxLen) (hbytes : (n + m) * bytes ≤ 140737488355328) (hbase : base ≤ w.heap.size) :
 ∃ v' w', (Builtin.append_ #[t, t] ty #[v, .slice (some a) m c]).run P w = .ok v' w' ∧ w'.ownsRow base e size v' (n + m) (xs ++ news) ∧ w.grownBy w' v.ownBlock ∧ NearOr w v v' := by
 obtain ⟨v', w', hr, h2, h3, _⟩ := run_append_own (P := P) w base t ty e i z size bytes ht hi hz hsize hby hzs hsz v n xs hown a m c news hl hnews h1 h63 hbytes hbase
 refine ⟨v', w', hr, h2, h3, ?_⟩
 have hsmall : n + m ≤ 9223372036854775807 := by simp only [maxLen] at h63; omega
 rcases hown.2 with ⟨rfl, rfl⟩ | ⟨g, cap, cur, rfl, hbg, hg, hnc, hcm, hcs, htake⟩
 ·have hx : xs = [] := List.eq_nil_of_length_eq_zero (by simpa using hown.1)
  subst hx
  obtain ⟨v2, w2, hr2, h22, _, _⟩ := run_append_own (P := P) w w.heap.size t ty e i z size bytes ht hi hz hsize hby hzs hsz _ 0 [] (World.ownsRow_nil w w.heap.size e size) a m c news hl hnews h1 h63 hbytes (Nat.le_refl _)
  rw [hr] at hr2
  injection hr2 with e1 e2
  subst e1
  exact .inr fun k hk => (h22.lt k hk).1
 ·subst hsize
  by_cases hroom : n + m ≤ cap
  ·have hfit : n * i.size + news.length ≤ cur.size := by rw [hl, hcs, ← Nat.add_mul]; exact Nat.mul_le_mul_right _ hroom
   have hr2 := run_append_room (P := P) w t ty e i ht hi g n cap cur hg a m c news hl hnews h1 hroom hfit
   rw [hr] at hr2
   injection hr2 with e1 e2
   subst e1
   exact .inl rfl
  ·have holds : ∀ j u, xs[j]? = some u → w.cell? ((⟨g, 0, none⟩ : Addr).add j) = some u := hown.cells (g := g) rfl
   subst hby
   have hr2 := run_append_grow (P := P) w t ty e i z ht hi hz ⟨g, 0, none⟩ n cap xs hown.1 holds a m c news hl hnews (by omega) (by omega) (growslice_fits (by omega) hbytes)
   rw [hr] at hr2
   injection hr2 with e1 e2
   subst e1
   refine .inr fun k hk => ?_
   simp [Value.ownBlock] at hk
   omega
end
theorem wpList_app2 {P : Program} {ops : Array Oper} {rest : List Oper} {o : Oper} {a : Act} {Q : Exit → Act → World → Prop} {w : World} (hgd : o.guard = none) (s x : Operand) (t : TypeId)
 (ho : o.op = .call { callee := .builtin .append, args := #[s, x], argTypes := #[t, t] })
 (base : Nat) (e : TypeId) (z : Value) (size bytes : Nat) (ht : P.underlying t = some (.slice e)) (hinf : (P.info? e).map (fun i => (i.zero, i.size, i.bytes)) = some (some z, size, bytes))
 (hzs : z.cells.size = size) (hsz : 0 < size)
 (v : Value) (n : Nat) (xs : List Value) (hs : a.eval s = v) (hown : w.ownsRow base e size v n xs)
 (ad : Addr) (m c : Nat) (news : List Value) (hx : a.eval x = .slice (some ad) m c) (hl : news.length = m * size) (hnews : ∀ j u, news[j]? = some u → w.cell? (ad.add j) = some u) (h1 : ∀ u ∈ news, u.oneCell' = true)
 (h63 : n + m ≤ maxLen) (hbytes : (n + m) * bytes ≤ 140737488355328) (hbase : base ≤ w.heap.size)
 (h : ∀ v' w', w'.ownsRow base e size v' (n + m) (xs ++ news) → w.grownBy w' v.ownBlock → NearOr w v v' → wpList P ops Q rest (a.put o.dst v') w') : wpList P ops Q (o :: rest) a w := by
 obtain ⟨i, hi, hz, hsize, hby⟩ := info_parts hinf
 refine wpList_plain hgd fun K hK => ?_
 obtain ⟨v', w', hr, h2, h3, h4⟩ := run_append_at (P := P) w base t o.type e i z size bytes ht hi hz hsize hby hzs hsz v n xs hown ad m c news hl hnews h1 h63 hbytes hbase
 unfold Oper.wp execOp
 simp only [ho, resolve, invoke, builtin, Sem.run_bind, Sem.run_pure, Result.andThen_ok, List.map_toArray, List.map_cons, List.map_nil, hs, hx, hr]
 exact hK _ _ (h v' w' h2 h3 h4)
theorem laid_at {w : World} {cs : Array Value} {E : TypeId} : ∀ j u, cs.toList[j]? = some u → (w.alloc (.cells cs E)).cell? ((⟨w.heap.size, 0, none⟩ : Addr).add j) = some u := by
 intro j u hj
 have hadd : (⟨w.heap.size, 0, none⟩ : Addr).add j = ⟨w.heap.size, j, none⟩ := by unfold Addr.add; split <;> simp_all
 rw [hadd, World.cell?_alloc_at _ _ _ _ rfl]
 simpa using hj
end Go.Proofs.YtbbbeldbhlehnaaGreatDoor
end
section
namespace Go.Proofs.YtbbbeldbhlehnaaGreatDoor
open Go.RowKit Gno
theorem PairsAt.get {w : World} {B : Nat} {A : Option Addr} {n : Nat} {ps : List Pr} (h : PairsAt w B A n ps) {i : Nat} (hi : i < n) :
 ∃ b o q, A = some ⟨b, o, none⟩ ∧ b < B ∧ ps[i]? = some q ∧ q.key.size ≤ maxLen ∧ q.text.size ≤ maxLen ∧ ∀ W, Below B w W → PairAt W b (o + i * 2) q := by
 obtain ⟨b, o, hA, hbB, hc⟩ := h.2.2 (by omega)
 have hl : i < ps.length := by rw [h.1]; exact hi
 have h1 := hc i _ (List.getElem?_eq_getElem hl)
 exact ⟨b, o, ps[i], hA, hbB, List.getElem?_eq_getElem hl, h1.2.1, h1.2.2, fun W hW => ⟨(hW.cell hbB).trans h1.1.1, (hW.cell hbB).trans h1.1.2⟩⟩
theorem BooksAt.get {w : World} {B : Nat} {A : Option Addr} {n : Nat} {bs : List Bk} (h : BooksAt w B A n bs) {i : Nat} (hi : i < n) :
 ∃ b o q, A = some ⟨b, o, none⟩ ∧ b < B ∧ bs[i]? = some q ∧ q.loc.size ≤ maxLen ∧ ∀ W, Below B w W → BookAt W b (o + i * 3) q ∧ PairsAt W B q.A q.n q.ps := by
 obtain ⟨b, o, hA, hbB, hc⟩ := h.2.2 (by omega)
 have hl : i < bs.length := by rw [h.1]; exact hi
 have h1 := hc i _ (List.getElem?_eq_getElem hl)
 exact ⟨b, o, bs[i], hA, hbB, List.getElem?_eq_getElem hl, h1.2.1, fun W hW => ⟨⟨(hW.cell hbB).trans h1.1.1, (hW.cell hbB).trans h1.1.2.1, (hW.cell hbB).trans h1.1.2.2⟩, h1.2.2.below hW (Nat.le_refl _)⟩⟩
theorem locs_snoc {bs : List Bk} {i : Nat} {q : Bk} (h : bs[i]? = some q) : strs (locs (bs.take (i + 1))) = strs (locs (bs.take i)) ++ [.string q.loc] := by
 rw [take_snoc' h]; simp [strs, locs]
end Go.Proofs.YtbbbeldbhlehnaaGreatDoor
end
section
namespace Go.Proofs.YtbbbeldbhlehnaaGreatDoor
open Go.RowKit Gno
theorem fallAt_succ {ps : List Pr} {j : Nat} {a b : Pr} (h1 : ps[j]? = some a) (h2 : ps[j + 1]? = some b) : fallAt ps (j + 1) = !lessB a.key b.key := by simp only [fallAt, h1, h2]
theorem dlt (a b : Nat) : decide ((a : Int) < (b : Int)) = decide (a < b) := by rw [Bool.eq_iff_iff]; simp
set_option maxRecDepth 100000 in
set_option maxHeartbeats 8000000 in
theorem checkR_any (A : Option Addr) (n cap : Nat) (bs : List Bk) (w : World) (hR : BooksAt w w.heap.size A n bs) :
 Calls Tryz.prog 51 #[.slice A n cap] w fun e w' => e = .returned (.int .i64 (booksE bs)) ∧ Below w.heap.size w w' := by
 have hn : n ≤ 9223372036854775807 := hR.2.1
 have hlen := hR.1
 have HLE := Lib.hid hlen
 clear hlen
 have HR := Lib.hid hR
 clear hR
 by_cases h4 : 4 < n
 ·have HX := Lib.hid (booksE_long (bs := bs) (by rw [HLE.out]; exact h4))
  go_enter Tryz.func51, Tryz.ntmps51
  go_wp2
  go_ret
  exact ⟨ret_int HX.out.symm, Below.refl _ _⟩
 have h4b : decide ((4 : Int) < (n : Int)) = false := by simp; omega
 have HL4 := Lib.hid (show ¬ 4 < bs.length by rw [HLE.out]; exact h4)
 go_enter Tryz.func51, Tryz.ntmps51
 go_wp2
 go_loopw [3, 4] (fun b3 b4 wr => ∃ i : Nat, i ≤ n ∧ b4 = .int .i64 i ∧ Hid (anyTo (atI (fun _ => manyPairs) bs) i = false) ∧ wr.ownsRow w.heap.size 9 1 b3 i (strs (locs (bs.take i))) ∧ Below w.heap.size w wr) (fun _ b4 _ => n - (intOf b4).toNat)
 case atStart => exact ⟨0, Nat.zero_le _, rfl, Lib.hid rfl, World.ownsRow_nil _ _ _ _, Below.refl _ _⟩
 case round =>
  obtain ⟨i, hi, rfl, hfd, hown, hb⟩ := hrel
  by_cases hlt : i < n
  ·obtain ⟨b, o, q, rfl, hbB, hq, hq1, hq2⟩ := HR.out.get hlt
   obtain ⟨e0, e1, e2⟩ := (hq2 _ hb).1
   have HB := Lib.hid hq2
   have HQ := Lib.hid hq
   clear hq hq2
   cases hm : manyPairs q
   ·have hm' : decide ((8 : Int) < (q.n : Int)) = false := (dlt 8 _).trans hm
    have HX := Lib.hid (anyI_no (p := fun _ => manyPairs) HQ.out hfd.out hm)
    have HS := Lib.hid (locs_snoc HQ.out)
    clear hfd hm hq1
    go_wp2_with (at_builtin; go_must (refine wpList_app hb hb.size _ 9 rfl _ _ 56 rfl Tryz.underlying56 _ 1 16 infoStr rfl (by decide) _ i _ rfl hown 1 rfl rfl (by simp [Value.oneCell']) (by unfold maxLen; omega) (by omega) ?_); intro v' w1 hown1 hb1 _; obtain ⟨f0, f1, f2⟩ := (HB.out _ hb1).1)
    go_roundw
    case rel => exact ⟨i + 1, by omega, by go_num, HX, by rw [HS.out]; exact hown1, hb1⟩
    case measure => simp [intOf]; omega
   ·have hm' : decide ((8 : Int) < (q.n : Int)) = true := (dlt 8 _).trans hm
    have HX := Lib.hid (booksE_many HL4.out (anyI_yes (p := fun _ => manyPairs) HQ.out hm))
    clear hfd hm hq1
    go_wp2_with (at_builtin; go_must (refine wpList_app hb hb.size _ 9 rfl _ _ 56 rfl Tryz.underlying56 _ 1 16 infoStr rfl (by decide) _ i _ rfl hown 1 rfl rfl (by simp [Value.oneCell']) (by unfold maxLen; omega) (by omega) ?_); intro v' w1 hown1 hb1 _; obtain ⟨f0, f1, f2⟩ := (HB.out _ hb1).1)
    go_ret
    exact ⟨ret_int HX.out.symm, hb1⟩
  ·have hin : i = n := by omega
   have HM := Lib.hid (anyI_end (by rw [HLE.out]; omega) (by rw [HLE.out]; exact hi) hfd.out)
   have hown2 : wr.ownsRow w.heap.size 9 1 u3 n (strs (locs bs)) := by
    have := hown
    rw [hin, List.take_of_length_le (by rw [HLE.out]; exact Nat.le_refl _)] at this
    exact this
   obtain ⟨SA, scap, hsv, hst⟩ := ownsRow_strs hown2 (by unfold maxLen; omega)
   have HST := Lib.hid hst
   clear hown hown2 hst hfd hin
   rw [hsv]
   clear hsv
   obtain ⟨wa, hwa⟩ : ∃ wa : World, wa = wr := ⟨_, rfl⟩
   rw [← hwa] at hb HST
   rw [← hwa]
   clear hwa
   go_wp2
   go_loopw [5] (fun b5 wr => ∃ i : Nat, i ≤ n ∧ b5 = .int .i64 i ∧ Hid (anyTo (atI (fun _ => badBook) bs) i = false) ∧ Below wa.heap.size wa wr) (fun b5 _ => n - (intOf b5).toNat)
   case atStart => exact ⟨0, Nat.zero_le _, rfl, Lib.hid rfl, Below.refl _ _⟩
   case round =>
    obtain ⟨k, hk, rfl, hfk, hb2⟩ := hrel
    by_cases hkt : k < n
    ·obtain ⟨b, o, q, rfl, hbB, hq, hq1, hq2⟩ := HR.out.get hkt
     have HB := Lib.hid hq2
     have HQ := Lib.hid hq
     have hbw : Below w.heap.size w wr := hb.trans (hb2.mono hb.size)
     obtain ⟨e0, e1, e2⟩ := (hq2 _ hbw).1
     clear hq hq2
     cases hnm : nameOk q.loc
     ·have NA : Hid (∀ w, Calls Tryz.prog 14 #[.string q.loc] w fun e w' => e = .returned (.bool false) ∧ w = w') := Lib.hid (fun w => by have := isName_any q.loc w hq1; rw [hnm] at this; exact this)
      have HX := Lib.hid (booksE_name HL4.out HM.out (anyI_yes (p := fun _ => badBook) HQ.out (by unfold badBook; rw [hnm]; rfl)))
      clear hnm hq1 hfk
      go_wp2_with (go_at_call 14; (with_reducible refine (NA.out _).mono ?_); rintro e w4 ⟨rfl, rfl⟩)
      go_ret
      exact ⟨ret_int HX.out.symm, hbw⟩
     ·have NA : Hid (∀ w, Calls Tryz.prog 14 #[.string q.loc] w fun e w' => e = .returned (.bool true) ∧ w = w') := Lib.hid (fun w => by have := isName_any q.loc w hq1; rw [hnm] at this; exact this)
      have HN := Lib.hid hnm
      clear hnm hq1
      have hqn : q.n ≤ 9223372036854775807 := ((HB.out _ (Below.refl _ _)).2).2.1
      have HP := Lib.hid ((HB.out _ (Below.refl _ _)).2)
      obtain ⟨wo, hwo⟩ : ∃ wo : World, wo = wr := ⟨_, rfl⟩
      rw [← hwo] at hb2 hbw e0 e1 e2
      rw [← hwo]
      clear hwo
      go_wp2_with (go_at_call 14; (with_reducible refine (NA.out _).mono ?_); rintro e w4 ⟨rfl, rfl⟩)
      go_loopw [6] (fun b6 wr => ∃ i : Nat, i ≤ q.n ∧ b6 = .int .i64 i ∧ Hid (anyTo (atI (fun _ => badPair) q.ps) i = false) ∧ Below w.heap.size w wr ∧ Below wa.heap.size wa wr) (fun b6 _ => q.n - (intOf b6).toNat)
      case atStart => exact ⟨0, Nat.zero_le _, rfl, Lib.hid rfl, hbw, hb2⟩
      case round =>
       obtain ⟨i, hi, rfl, hfi, hbi, hbi2⟩ := hrel
       obtain ⟨f0, f1, f2⟩ := (HB.out _ hbi).1
       clear e0 e1 e2
       by_cases hit : i < q.n
       ·obtain ⟨c, f, r, hA, hcB, hr, hr1, hr2, hr3⟩ := HP.out.get hit
        have HRR := Lib.hid hr
        obtain ⟨g0, g1⟩ := hr3 _ hbi
        rw [hA] at f2
        clear hr hr3 hA
        cases hkm : nameOk r.key
        ·have NA2 : Hid (∀ w, Calls Tryz.prog 14 #[.string r.key] w fun e w' => e = .returned (.bool false) ∧ w = w') := Lib.hid (fun w => by have := isName_any r.key w hr1; rw [hkm] at this; exact this)
         have HX := Lib.hid (booksE_name HL4.out HM.out (anyI_yes (p := fun _ => badBook) HQ.out (by unfold badBook; rw [hasP_yes HRR.out (by unfold badPair; rw [hkm]; rfl)]; simp)))
         clear hkm hr1 hfi
         go_wp2_with (go_at_call 14; (with_reducible refine (NA2.out _).mono ?_); rintro e w4 ⟨rfl, rfl⟩)
         go_ret
         exact ⟨ret_int HX.out.symm, hbi⟩
        ·have NA2 : Hid (∀ w, Calls Tryz.prog 14 #[.string r.key] w fun e w' => e = .returned (.bool true) ∧ w = w') := Lib.hid (fun w => by have := isName_any r.key w hr1; rw [hkm] at this; exact this)
         cases htx : decide (12 < r.text.size)
         ·have ht' : decide ((12 : Int) < (r.text.size : Int)) = false := (dlt 12 _).trans htx
          have HX := Lib.hid (anyI_no (p := fun _ => badPair) HRR.out hfi.out (by unfold badPair; rw [hkm, htx]; rfl))
          clear hkm hr1 hfi htx
          go_wp2_with (go_at_call 14; (with_reducible refine (NA2.out _).mono ?_); rintro e w4 ⟨rfl, rfl⟩)
          go_roundw
          case rel => exact ⟨i + 1, by omega, by go_num, HX, hbi, hbi2⟩
          case measure => simp [intOf]; omega
         ·have ht' : decide ((12 : Int) < (r.text.size : Int)) = true := (dlt 12 _).trans htx
          have HX := Lib.hid (booksE_name HL4.out HM.out (anyI_yes (p := fun _ => badBook) HQ.out (by unfold badBook; rw [hasP_yes HRR.out (by unfold badPair; rw [htx]; simp)]; simp)))
          clear hkm hr1 hfi htx
          go_wp2_with (go_at_call 14; (with_reducible refine (NA2.out _).mono ?_); rintro e w4 ⟨rfl, rfl⟩)
          go_ret
          exact ⟨ret_int HX.out.symm, hbi⟩
       ·have HX := Lib.hid (anyI_no (p := fun _ => badBook) HQ.out hfk.out (by unfold badBook; rw [HN.out, hasP_no (by rw [HP.out.1]; omega) (by rw [HP.out.1]; exact hi) hfi.out]; rfl))
        go_wp2
        go_roundw
        case rel => exact ⟨k + 1, by omega, by go_num, HX, hbi2⟩
        case measure => simp [intOf]; omega
    ·have HN := Lib.hid (anyI_end (by rw [HLE.out]; omega) (by rw [HLE.out]; exact hk) hfk.out)
     have hbw : Below w.heap.size w wr := hb.trans (hb2.mono hb.size)
     have hst2 := (HST.out.below hb2 (Nat.le_refl _)).more hb2.size
     have TW := Lib.hid (twice_any SA n scap (locs bs) wr hst2)
     clear hst2 hfk
     cases hd : dup (locs bs)
     ·rw [hd] at TW
      have HD := Lib.hid hd
      clear hd
      go_wp2_with (go_at_call 108; (with_reducible refine TW.out.mono ?_); rintro e w4 ⟨rfl, hb4⟩; have hb5 := hbw.trans (hb4.mono hbw.size); clear hb4)
      clear hb2 hbw
      go_loopw [7, 8] (fun b7 _ wr => ∃ i : Nat, i ≤ n ∧ b7 = .int .i64 i ∧ Hid (anyTo (atI (fun _ => fallsB) bs) i = false) ∧ Below w.heap.size w wr) (fun b7 _ _ => n - (intOf b7).toNat)
      case atStart => exact ⟨0, Nat.zero_le _, rfl, Lib.hid rfl, hb5⟩
      case round =>
       obtain ⟨k, hk, rfl, hfk, hbk⟩ := hrel
       clear hb5
       by_cases hkt : k < n
       ·obtain ⟨b, o, q, rfl, hbB, hq, hq1, hq2⟩ := HR.out.get hkt
        have HB := Lib.hid hq2
        have HQ := Lib.hid hq
        obtain ⟨e0, e1, e2⟩ := (hq2 _ hbk).1
        clear hq hq2
        have hqn : q.n ≤ 9223372036854775807 := ((HB.out _ (Below.refl _ _)).2).2.1
        have HP := Lib.hid ((HB.out _ (Below.refl _ _)).2)
        obtain ⟨wo, hwo⟩ : ∃ wo : World, wo = wr := ⟨_, rfl⟩
        rw [← hwo] at hbk e0 e1 e2
        rw [← hwo]
        clear hwo
        go_wp2
        go_loopw [8] (fun b8 wr => ∃ i : Nat, 1 ≤ i ∧ (i ≤ q.n ∨ i = 1) ∧ b8 = .int .i64 i ∧ Hid (anyTo (fallAt q.ps) i = false) ∧ Below w.heap.size w wr) (fun b8 _ => q.n - (intOf b8).toNat)
        case atStart => exact ⟨1, Nat.le_refl _, .inr rfl, rfl, Lib.hid rfl, hbk⟩
        case round =>
         obtain ⟨i, hi1, hi, rfl, hfi, hbi⟩ := hrel
         obtain ⟨f0, f1, f2⟩ := (HB.out _ hbi).1
         clear e0 e1 e2
         by_cases hit : i < q.n
         ·obtain ⟨c, f, r, hA, hcB, hr, hr1, hr2, hr3⟩ := HP.out.get hit
          have HRR := Lib.hid hr
          obtain ⟨g0, g1⟩ := hr3 _ hbi
          obtain ⟨c', f', r', hA', hcB', hr', hr1', hr2', hr3'⟩ := HP.out.get (i := i - 1) (by omega)
          have hAA := hA.symm.trans hA'
          obtain ⟨rfl, rfl⟩ : c = c' ∧ f = f' := by simpa using hAA
          obtain ⟨d0, d1⟩ := hr3' _ hbi
          have FA : Hid (fallAt q.ps i = !lessB r'.key r.key) := by
           obtain ⟨j, rfl⟩ : ∃ j, i = j + 1 := ⟨i - 1, by omega⟩
           rw [show j + 1 - 1 = j by omega] at hr'
           exact fallAt_succ hr' hr
          rw [hA] at f2
          clear hr hr3 hA hr' hr3' hA' hAA
          cases hls : lessB r'.key r.key
          ·have HX := Lib.hid (booksE_fall HL4.out HM.out HN.out (anyI_yes (p := fun _ => fallsB) HQ.out (anyTo_yes (n := q.ps.length) (by rw [HP.out.1]; exact hit) (by rw [FA.out, hls]; rfl))))
           have hls' : Op.bytesLess r'.key.toList r.key.toList = false := hls
           clear hls FA hfi
           go_wp2
           go_quiet (fail)
           go_wp2
           go_ret
           exact ⟨ret_int HX.out.symm, below_drewN hbi _⟩
          ·have HX := Lib.hid (anyTo_no hfi.out (by rw [FA.out, hls]; rfl))
           have hls' : Op.bytesLess r'.key.toList r.key.toList = true := hls
           clear hls FA hfi
           go_wp2
           go_quiet (fail)
           go_wp2
           go_roundw
           case rel => exact ⟨i + 1, by omega, by omega, by go_num, HX, below_drewN hbi _⟩
           case measure => simp [intOf]; omega
         ·have HX := Lib.hid (anyI_no (p := fun _ => fallsB) HQ.out hfk.out (by
           have hps := HP.out.1
           unfold fallsB
           rw [hps]
           rcases hi with h | h
           ·rw [show q.n = i by omega]; exact hfi.out
           ·by_cases h0 : q.n = 0
            ·rw [h0]; rfl
            ·rw [show q.n = i by omega]; exact hfi.out))
          go_wp2
          go_roundw
          case rel => exact ⟨k + 1, by omega, by go_num, HX, hbi⟩
          case measure => simp [intOf]; omega
       ·have HF := Lib.hid (anyI_end (by rw [HLE.out]; omega) (by rw [HLE.out]; exact hk) hfk.out)
        clear hfk
        go_wp2
        go_loopw [9] (fun b9 wr => ∃ i : Nat, i ≤ n ∧ b9 = .int .i64 i ∧ Hid (anyTo (atI badPar bs) i = false) ∧ Below w.heap.size w wr) (fun b9 _ => n - (intOf b9).toNat)
        case atStart => exact ⟨0, Nat.zero_le _, rfl, Lib.hid rfl, hbk⟩
        case round =>
         obtain ⟨i, hi, rfl, hfi, hbi⟩ := hrel
         by_cases hit : i < n
         ·obtain ⟨b, o, q, rfl, hbB, hq, hq1, hq2⟩ := HR.out.get hit
          have HQ := Lib.hid hq
          obtain ⟨e0, e1, e2⟩ := (hq2 _ hbi).1
          clear hq hq2
          cases hpr : withinB q.par (-1) ((i : Int) - 1)
          ·have HX := Lib.hid (booksE_par HL4.out HM.out HN.out HD.out HF.out (anyI_yes HQ.out (by
            rw [withinB_no] at hpr
            unfold badPar
            simp only [Bool.or_eq_true, decide_eq_true_eq]
            omega)))
           have WA : Hid (∀ w, Calls Tryz.prog 45 #[.int .i64 q.par, .int .i64 (-1), .int .i64 ((i : Int) - 1)] w fun e w' => e = .returned (.bool false) ∧ w = w') := Lib.hid (fun w => by have := within_any q.par (-1) ((i : Int) - 1) w; rw [hpr] at this; exact this)
           clear hpr hfi
           go_wp2_with (go_at_call 45; (with_reducible refine (WA.out _).mono ?_); rintro e w4 ⟨rfl, rfl⟩)
           go_ret
           exact ⟨ret_int HX.out.symm, hbi⟩
          ·have HX := Lib.hid (anyI_no (p := badPar) HQ.out hfi.out (by
            rw [withinB_iff] at hpr
            unfold badPar
            simp only [Bool.or_eq_false_iff, decide_eq_false_iff_not]
            omega))
           have WA : Hid (∀ w, Calls Tryz.prog 45 #[.int .i64 q.par, .int .i64 (-1), .int .i64 ((i : Int) - 1)] w fun e w' => e = .returned (.bool true) ∧ w = w') := Lib.hid (fun w => by have := within_any q.par (-1) ((i : Int) - 1) w; rw [hpr] at this; exact this)
           clear hpr hfi
           go_wp2_with (go_at_call 45; (with_reducible refine (WA.out _).mono ?_); rintro e w4 ⟨rfl, rfl⟩)
           go_roundw
           case rel => exact ⟨i + 1, by omega, by go_num, HX, hbi⟩
           case measure => simp [intOf]; omega
         ·have HX := Lib.hid (booksE_ok HL4.out HM.out HN.out HD.out HF.out (anyI_end (by rw [HLE.out]; omega) (by rw [HLE.out]; exact hi) hfi.out))
          go_wp2
          go_ret
          exact ⟨ret_int HX.out.symm, hbi⟩
     ·rw [hd] at TW
      have HX := Lib.hid (booksE_dup HL4.out HM.out HN.out hd)
      clear hd
      go_wp2_with (go_at_call 108; (with_reducible refine TW.out.mono ?_); rintro e w4 ⟨rfl, hb4⟩; have hb5 := hbw.trans (hb4.mono hbw.size); clear hb4)
      go_ret
      exact ⟨ret_int HX.out.symm, hb5⟩
end Go.Proofs.YtbbbeldbhlehnaaGreatDoor
end
