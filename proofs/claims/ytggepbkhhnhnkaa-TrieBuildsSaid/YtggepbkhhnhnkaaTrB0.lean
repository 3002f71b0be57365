/- Tries, plain: an edge laid at the end and borne to its place. -/
import Derived.Test.YtggepbkhhnhnkaaTrU
set_option linter.unusedVariables false
set_option linter.unusedSimpArgs false
namespace Gno
open Go Go.RowKit Go.Proofs.Ytggepbkhhnhnkaa
theorem eds_set : ∀ (l : List Eg) (i : Nat) (x y : Eg), l[i]? = some y → ((eds l).set (i * 2) (.int .u8 x.c)).set (i * 2 + 1) (.int .i64 x.to) = eds (l.set i x)
  | a :: t, 0, x, y, h => rfl
  | a :: t, i + 1, x, y, h => by
    have ih := eds_set t i x y (by simpa using h)
    have e1 : eds (a :: t) = .int .u8 a.c :: .int .i64 a.to :: eds t := rfl
    have e2 : eds ((a :: t).set (i + 1) x) = .int .u8 a.c :: .int .i64 a.to :: eds (t.set i x) := rfl
    rw [e1, e2, ← ih, show (i + 1) * 2 = i * 2 + 1 + 1 by omega, show i * 2 + 1 + 1 + 1 = (i * 2 + 1) + 1 + 1 by omega]
    rfl
theorem eds_get : ∀ (l : List Eg) (i : Nat) (x : Eg), l[i]? = some x → (eds l)[i * 2]? = some (.int .u8 x.c) ∧ (eds l)[i * 2 + 1]? = some (.int .i64 x.to)
  | a :: t, 0, x, h => by
    obtain rfl : a = x := by simpa using h
    exact ⟨rfl, rfl⟩
  | a :: t, i + 1, x, h => by
    have ih := eds_get t i x (by simpa using h)
    have e1 : eds (a :: t) = .int .u8 a.c :: .int .i64 a.to :: eds t := rfl
    rw [e1, show (i + 1) * 2 = i * 2 + 1 + 1 by omega]
    simp only [List.getElem?_cons_succ]
    exact ih
/-- the edges, the new one at a place. -/
def bub (es : List Eg) (x : Eg) (j : Nat) : List Eg := es.take j ++ x :: es.drop j
theorem bub_len (es : List Eg) (x : Eg) (j : Nat) : (bub es x j).length = es.length + 1 := by
  unfold bub; simp; omega
theorem bub_end (es : List Eg) (x : Eg) : bub es x es.length = es ++ [x] := by
  unfold bub; simp
theorem bub_split {es : List Eg} {x e : Eg} {i : Nat} (h : es[i]? = some e) : bub es x (i + 1) = es.take i ++ e :: x :: es.drop (i + 1) ∧ bub es x i = es.take i ++ x :: e :: es.drop (i + 1) := by
  have hl := (List.getElem?_eq_some_iff.1 h).1
  have h1 : es.take (i + 1) = es.take i ++ [e] := by rw [List.take_add_one, h]; rfl
  have h2 : es.drop i = e :: es.drop (i + 1) := drop_at h
  unfold bub
  exact ⟨by rw [h1]; simp, by rw [h2]⟩
theorem bub_get {es : List Eg} {x e : Eg} {i : Nat} (h : es[i]? = some e) : (bub es x (i + 1))[i]? = some e ∧ (bub es x (i + 1))[i + 1]? = some x := by
  have hl := (List.getElem?_eq_some_iff.1 h).1
  have ht : (es.take i).length = i := by rw [List.length_take]; omega
  rw [(bub_split h).1]
  exact ⟨by rw [List.getElem?_append_right (by omega), ht, Nat.sub_self]; rfl, by rw [List.getElem?_append_right (by omega), ht, show i + 1 - i = 1 by omega]; rfl⟩
theorem bub_swap {es : List Eg} {x e : Eg} {i : Nat} (h : es[i]? = some e) : ((bub es x (i + 1)).set i x).set (i + 1) e = bub es x i := by
  have hl := (List.getElem?_eq_some_iff.1 h).1
  have ht : (es.take i).length = i := by rw [List.length_take]; omega
  rw [(bub_split h).1, (bub_split h).2, List.set_append_right _ _ (by omega), ht, Nat.sub_self, List.set_append_right _ _ (by omega), ht, show i + 1 - i = 1 by omega]
  rfl
theorem bub_ins {es : List Eg} {x : Eg} {j : Nat} (hr : Rise es) (hno : ∀ e ∈ es, e.c ≠ x.c) (hj : j = cntE es x.c) : bub es x j = insE es x := by
  rw [hj, insE_cnt hr hno]; rfl
/-- where it stands still. -/
theorem bub_stop {es : List Eg} {x : Eg} {j : Nat} (hr : Rise es) (hno : ∀ e ∈ es, e.c ≠ x.c) (hl : cntE es x.c ≤ j) (hjl : j ≤ es.length) (hs : j = 0 ∨ ∃ e, es[j - 1]? = some e ∧ e.c ≤ x.c) : j = cntE es x.c := by
  rcases hs with rfl | ⟨e, h1, h2⟩
  · omega
  · rcases Nat.lt_or_ge (cntE es x.c) j with h | h
    · have := cntE_high hr (show cntE es x.c ≤ j - 1 by omega) h1
      have h3 := hno e (List.mem_of_getElem? h1)
      omega
    · omega
theorem bub_go {es : List Eg} {x e : Eg} {i : Nat} (h1 : es[i]? = some e) (h2 : x.c < e.c) (hl : cntE es x.c ≤ i + 1) : cntE es x.c ≤ i := by
  rcases Nat.lt_or_ge i (cntE es x.c) with h | h
  · have := cntE_low h h1; omega
  · exact h
end Gno
namespace Go.Proofs.Ytggepbkhhnhnkaa
open Go.RowKit Gno
/-- append of a slice that may be nil, as wpList_app2. -/
theorem wpList_appo {P : Program} {ops : Array Oper} {rest : List Oper} {o : Oper} {a : Act} {Q : Exit → Act → World → Prop} {w : World} (hgd : o.guard = none) (s x : Operand) (t : TypeId)
    (ho : o.op = .call { callee := .builtin .append, args := #[s, x], argTypes := #[t, t] })
    (base : Nat) (e : TypeId) (z : Value) (size bytes : Nat) (ht : P.underlying t = some (.slice e)) (hinf : (P.info? e).map (fun i => (i.zero, i.size, i.bytes)) = some (some z, size, bytes))
    (hzs : z.cells.size = size) (hsz : 0 < size)
    (v : Value) (n : Nat) (xs : List Value) (hs : a.eval s = v) (hown : w.ownsRow base e size v n xs)
    (A : Option Addr) (m c : Nat) (news : List Value) (hx : a.eval x = .slice A m c) (hA : A = none → m = 0 ∧ c = 0) (hl : news.length = m * size) (hnews : ∀ ad, A = some ad → ∀ j u, news[j]? = some u → w.cell? (ad.add j) = some u) (h1 : ∀ u ∈ news, u.oneCell' = true)
    (h63 : n + m ≤ maxLen) (hbytes : (n + m) * bytes ≤ 140737488355328) (hbase : base ≤ w.heap.size)
    (h : ∀ v' w', w'.ownsRow base e size v' (n + m) (xs ++ news) → w.grownBy w' v.ownBlock → NearOr w v v' → wpList P ops Q rest (a.put o.dst v') w') : wpList P ops Q (o :: rest) a w := by
  obtain ⟨i, hi, hz, hsize, hby⟩ := info_parts hinf
  refine wpList_plain hgd fun K hK => ?_
  cases A with
  | none =>
    obtain ⟨rfl, rfl⟩ := hA rfl
    have hn : news = [] := List.eq_nil_of_length_eq_zero (by simpa using hl)
    subst hn
    have hrun := run_append_owned_none (P := P) (w := w) base t o.type e i size ht hi v n xs hown
    unfold Oper.wp
    simp [execOp, ho, resolve, invoke, builtin, hs, hx, hrun, Result.andThen]
    exact hK _ _ (h v w (by simpa using hown) (World.grownBy.refl w _) (.inl rfl))
  | some ad =>
    obtain ⟨v', w', hr, h2, h3, h4⟩ := run_append_at (P := P) w base t o.type e i z size bytes ht hi hz hsize hby hzs hsz v n xs hown ad m c news hl (hnews ad rfl) h1 h63 hbytes hbase
    unfold Oper.wp execOp
    simp only [ho, resolve, invoke, builtin, Sem.run_bind, Sem.run_pure, Result.andThen_ok, List.map_toArray, List.map_cons, List.map_nil, hs, hx, hr]
    exact hK _ _ (h v' w' h2 h3 h4)
theorem own_base {w : World} {B B2 : Nat} {e : TypeId} {sz n : Nat} {v : Value} {xs : List Value} (h : w.ownsRow B e sz v n xs) (hB : B2 ≤ B) : w.ownsRow B2 e sz v n xs := by
  refine ⟨h.1, ?_⟩
  rcases h.2 with h2 | ⟨g, cap, cur, e1, hb, hg, r⟩
  · exact .inl h2
  · exact .inr ⟨g, cap, cur, e1, Nat.le_trans hB hb, hg, r⟩
/-- an own row's slice: nil with nothing, or its cells. -/
theorem own_news {w : World} {B : Nat} {e : TypeId} {sz n c : Nat} {A : Option Addr} {xs : List Value} (h : w.ownsRow B e sz (.slice A n c) n xs) : (A = none → n = 0 ∧ c = 0) ∧ ∀ ad, A = some ad → ∀ j u, xs[j]? = some u → w.cell? (ad.add j) = some u := by
  rcases h.2 with ⟨e1, e2⟩ | ⟨g, cap, cur, e1, _⟩
  · injection e1 with e1 e3 e4
    exact ⟨fun _ => ⟨e3, e4⟩, fun ad had => by rw [e1] at had; cases had⟩
  · injection e1 with e1 e3 e4
    refine ⟨fun hn => (by rw [hn] at e1; cases e1), fun ad had j u hj => ?_⟩
    have had2 := had
    rw [e1] at had2
    injection had2 with had2
    subst had2
    subst e1
    exact h.cells (g := g) rfl j u hj
end Go.Proofs.Ytggepbkhhnhnkaa
