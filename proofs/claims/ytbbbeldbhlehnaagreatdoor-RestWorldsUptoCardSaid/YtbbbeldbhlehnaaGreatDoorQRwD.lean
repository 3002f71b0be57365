/- OwnData's laws: an append of a slice that may be nil; one more set or zone laid behind the others. -/
import Derived.Maps.RangeWalk
import Derived.Maps.Range
import Derived.Test.YtbbbeldbhlehnaaGreatDoorQRwP
import Derived.Test.YtbbbeldbhlehnaaGreatDoorMUTrB227
set_option linter.unusedSimpArgs false
set_option linter.unusedVariables false
set_option maxRecDepth 100000
namespace Gno
open Go Go.RowKit Go.Proofs.YtbbbeldbhlehnaaGreatDoor
theorem eras_few2 {d : Dt} (h : dataE d = 0) {z : Zn} (hz : z ∈ d.zs) : z.n ≤ 4 := by
 have h0 : manyD d = false := (right_of h).many
 have h1 : dE1 d = 0 := by unfold dataE at h; rwa [if_neg (by rw [h0]; simp)] at h
 have h2 : dE2 d = 0 := by
  unfold dE1 at h1; split at h1
  ·exact absurd h1 (by decide)
  ·exact h1
 have h3 : anyI (fun _ => manyEras) d.zs = false := by
  cases e : anyI (fun _ => manyEras) d.zs
  ·rfl
  ·unfold dE2 at h2; rw [if_pos e] at h2; exact absurd h2 (by decide)
 rw [anyI_any, List.any_eq_false] at h3
 have := h3 z hz
 unfold manyEras at this
 simp at this
 omega
theorem rules_few2 {d : Dt} (h : dataE d = 0) {s : St} (hs : s ∈ d.ss) : s.n ≤ 4 := by
 have h0 : manyD d = false := (right_of h).many
 have h1 : dE1 d = 0 := by unfold dataE at h; rwa [if_neg (by rw [h0]; simp)] at h
 have h3 : anyI (fun _ => manyRules) d.ss = false := by
  cases e : anyI (fun _ => manyRules) d.ss
  ·rfl
  ·unfold dE1 at h1; rw [if_pos e] at h1; exact absurd h1 (by decide)
 rw [anyI_any, List.any_eq_false] at h3
 have := h3 s hs
 unfold manyRules at this
 simp at this
 omega
theorem grown_set (W : World) (b j : Nat) (v : Value) : W.grownBy (W.setCell ⟨b, j, none⟩ v) (some b) :=
 ⟨rfl, rfl, rfl, by simp, fun k hk hne => Below.heap_setCell W ⟨b, j, none⟩ v k (fun e => hne (by rw [e]))⟩
end Gno
namespace Go.Proofs.YtbbbeldbhlehnaaGreatDoor
open Go.RowKit Gno
theorem infoRule : (Tryz.prog.info? 123).map (fun i => (i.zero, i.size, i.bytes)) = some (some (.agg #[.int .i64 0, .int .i64 0, .int .i64 0, .int .i64 0, .int .i64 0, .int .i64 0, .int .i64 0, .int .i64 0, .string ⟨#[]⟩]), 9, 80) := by kernel_rfl
theorem infoEra : (Tryz.prog.info? 125).map (fun i => (i.zero, i.size, i.bytes)) = some (some (.agg #[.int .i64 0, .int .i64 0, .int .i64 0, .string ⟨#[]⟩, .int .i64 0]), 5, 48) := by kernel_rfl
theorem infoSet : (Tryz.prog.info? 115).map (fun i => (i.zero, i.size, i.bytes)) = some (some (.agg #[.string ⟨#[]⟩, .slice none 0 0]), 2, 40) := by kernel_rfl
theorem infoZone : (Tryz.prog.info? 54).map (fun i => (i.zero, i.size, i.bytes)) = some (some (.agg #[.string ⟨#[]⟩, .slice none 0 0]), 2, 40) := by kernel_rfl
section
variable {P : Program}
theorem run_append_nilc {w : World} (base : Nat) (t ty e : TypeId) (i : TypeInfo) (size : Nat) (ht : P.underlying t = some (.slice e)) (hi : P.info? e = some i)
 (v : Value) (n : Nat) (xs : List Value) (hown : w.ownsRow base e size v n xs) (c : Nat) :
 (Builtin.append_ #[t, t] ty #[v, .slice none 0 c]).run P w = .ok v w := by
 rcases hown.2 with ⟨rfl, rfl⟩ | ⟨g, cap, cur, rfl, _, _, hnc, _⟩
 ·simp [Builtin.append_, run_underlying ht, sizeOf, typeInfo, hi, Builtin.lenOf, Builtin.firstCells]
 ·simp [Builtin.append_, run_underlying ht, sizeOf, typeInfo, hi, Builtin.lenOf, Builtin.firstCells, hnc, storeCells]
theorem wp_appc (w : World) {o : Oper} {a : Act} {K : Act → World → Prop} {Q : Exit → Act → World → Prop} (s x : Operand) (t : TypeId)
 (ho : o.op = .call { callee := .builtin .append, args := #[s, x], argTypes := #[t, t] })
 (base : Nat) (e : TypeId) (z : Value) (size bytes : Nat) (ht : P.underlying t = some (.slice e)) (hinf : (P.info? e).map (fun i => (i.zero, i.size, i.bytes)) = some (some z, size, bytes))
 (hzs : z.cells.size = size) (hsz : 0 < size)
 (v : Value) (n : Nat) (xs : List Value) (hs : a.eval s = v) (hown : w.ownsRow base e size v n xs)
 (A : Option Addr) (m c : Nat) (news : List Value) (hx : a.eval x = .slice A m c) (hA : A = none → m = 0) (hl : news.length = m * size) (hnews : ∀ ad, A = some ad → ∀ j u, news[j]? = some u → w.cell? (ad.add j) = some u) (h1 : ∀ u ∈ news, u.oneCell' = true)
 (h63 : n + m ≤ maxLen) (hbytes : (n + m) * bytes ≤ 140737488355328) (hbase : base ≤ w.heap.size)
 (h : ∀ v' w', w'.ownsRow base e size v' (n + m) (xs ++ news) → w.grownBy w' v.ownBlock → NearOr w v v' → K (a.put o.dst v') w') :
 Oper.wp P o a w K Q := by
 obtain ⟨i, hi, hz, hsize, hby⟩ := info_parts hinf
 cases A with
 | none =>
   obtain rfl := hA rfl
   have hn : news = [] := List.eq_nil_of_length_eq_zero (by simpa using hl)
   subst hn
   have hrun := run_append_nilc (P := P) (w := w) base t o.type e i size ht hi v n xs hown c
   unfold Oper.wp
   simp [execOp, ho, resolve, invoke, builtin, hs, hx, hrun, Result.andThen]
   exact h v w (by simpa using hown) (World.grownBy.refl w _) (.inl rfl)
 | some ad =>
   obtain ⟨v', w', hr, h2, h3, h4⟩ := run_append_at (P := P) w base t o.type e i z size bytes ht hi hz hsize hby hzs hsz v n xs hown ad m c news hl (hnews ad rfl) h1 h63 hbytes hbase
   unfold Oper.wp execOp
   simp only [ho, resolve, invoke, builtin, Sem.run_bind, Sem.run_pure, Result.andThen_ok, List.map_toArray, List.map_cons, List.map_nil, hs, hx, hr]
   exact h v' w' h2 h3 h4
theorem wpList_appc {ops : Array Oper} {rest : List Oper} {o : Oper} {a : Act} {Q : Exit → Act → World → Prop} {w : World} (hgd : o.guard = none) (s x : Operand) (t : TypeId)
 (ho : o.op = .call { callee := .builtin .append, args := #[s, x], argTypes := #[t, t] })
 (base : Nat) (e : TypeId) (z : Value) (size bytes : Nat) (ht : P.underlying t = some (.slice e)) (hinf : (P.info? e).map (fun i => (i.zero, i.size, i.bytes)) = some (some z, size, bytes))
 (hzs : z.cells.size = size) (hsz : 0 < size)
 (v : Value) (n : Nat) (xs : List Value) (hs : a.eval s = v) (hown : w.ownsRow base e size v n xs)
 (A : Option Addr) (m c : Nat) (news : List Value) (hx : a.eval x = .slice A m c) (hA : A = none → m = 0) (hl : news.length = m * size) (hnews : ∀ ad, A = some ad → ∀ j u, news[j]? = some u → w.cell? (ad.add j) = some u) (h1 : ∀ u ∈ news, u.oneCell' = true)
 (h63 : n + m ≤ maxLen) (hbytes : (n + m) * bytes ≤ 140737488355328) (hbase : base ≤ w.heap.size)
 (h : ∀ v' w', w'.ownsRow base e size v' (n + m) (xs ++ news) → w.grownBy w' v.ownBlock → NearOr w v v' → wpList P ops Q rest (a.put o.dst v') w') : wpList P ops Q (o :: rest) a w :=
 wpList_plain hgd fun K hK => wp_appc w s x t ho base e z size bytes ht hinf hzs hsz v n xs hs hown A m c news hx hA hl hnews h1 h63 hbytes hbase fun v' w' h2 h3 h4 => hK _ _ (h v' w' h2 h3 h4)
end
theorem ROwn.step {eo ei : TypeId} {sz X : Nat} {W1 W W2 W3 : World} {v v3 u : Value} {ps : List Pc} {nm : ByteArray} {n j : Nat} {xs : List Value} (hX : X < W1.heap.size) (hg : W1.grownBy W (some X)) (h : ROwn eo ei sz W1.heap.size W v ps)
 (hW2 : Below W.heap.size W W2) (hu : W2.ownsRow W.heap.size ei sz u n xs)
 (h3 : (W2.alloc (.cells #[.string nm, u] eo)).grownBy W3 v.ownBlock) (ho : W3.ownsRow W1.heap.size eo 2 v3 (ps.length + 1) (rcs ps ++ [.string nm, u])) (hn : NearOr (W2.alloc (.cells #[.string nm, u] eo)) v v3) :
 ROwn eo ei sz W1.heap.size (W3.setCell ⟨X, j, none⟩ v3) v3 (ps ++ [⟨u, nm, n, xs⟩]) ∧ W1.grownBy (W3.setCell ⟨X, j, none⟩ v3) (some X) := by
 have g1 : W.grownBy (W2.alloc (.cells #[.string nm, u] eo)) none := (grown_of_below hW2).trans (World.grownBy_alloc W2 _ none)
 have ha : ROwn eo ei sz W1.heap.size (W2.alloc (.cells #[.string nm, u] eo)) v ps := h.kept g1
 have hap : Apart v u := fun k h1 h2 => by
  have q1 := (h.row.lt k h1).2
  have q2 := (hu.lt k h2).1
  omega
 have hu2 : (W2.alloc (.cells #[.string nm, u] eo)).ownsRow W1.heap.size ei sz u n xs := own_base (hu.alloc _) hg.size
 have hp := ha.push hu2 hap ho h3 hn
 have hno : ∀ {e : TypeId} {sz n : Nat} {u : Value} {xs : List Value}, W3.ownsRow W1.heap.size e sz u n xs → (W3.setCell ⟨X, j, none⟩ v3).ownsRow W1.heap.size e sz u n xs := fun {e sz n u xs} hq => ownsRow_setCell_other hq (fun e => by have := (hq.lt X e).1; omega) _
 refine ⟨⟨hno hp.row, fun i p hi => hno (hp.edge i p hi), hp.apart⟩, ?_⟩
 have k1 : W1.grownBy (W2.alloc (.cells #[.string nm, u] eo)) (some X) := hg.trans (g1.but _)
 have k2 : W1.grownBy W3 (some X) := k1.andThen h3 (fun k hk => .inl (h.row.lt k hk).1)
 exact k2.trans (grown_set W3 X j v3)
end Go.Proofs.YtbbbeldbhlehnaaGreatDoor
