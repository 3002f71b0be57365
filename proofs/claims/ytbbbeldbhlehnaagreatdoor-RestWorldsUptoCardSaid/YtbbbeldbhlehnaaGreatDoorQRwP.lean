/- Rows of names, each with a row of its own: what OwnData lays. -/
import Derived.Test.YtbbbeldbhlehnaaGreatDoorMUTrB214
import Derived.Test.YtbbbeldbhlehnaaGreatDoorMUTrB223
set_option linter.unusedSimpArgs false
set_option linter.unusedVariables false
set_option maxRecDepth 100000
namespace Gno
open Go Go.RowKit Go.Proofs.YtbbbeldbhlehnaaGreatDoor
theorem flat_len {α : Type} {cf : α → List Value} {sz : Nat} (hc : ∀ x, (cf x).length = sz) (l : List α) : (l.flatMap cf).length = l.length * sz := by
 induction l with
 | nil => simp
 | cons a t ih => rw [List.flatMap_cons, List.length_append, ih, hc, List.length_cons, Nat.add_mul]; omega
theorem flat_get {α : Type} {cf : α → List Value} {sz : Nat} (hc : ∀ x, (cf x).length = sz) : ∀ (l : List α) (i : Nat) (x : α) (k : Nat), l[i]? = some x → k < sz → (l.flatMap cf)[i * sz + k]? = (cf x)[k]?
 | a :: t, 0, x, k, h, hk => by
   obtain rfl : a = x := by simpa using h
   rw [List.flatMap_cons, Nat.zero_mul, Nat.zero_add, List.getElem?_append_left (by rw [hc]; exact hk)]
 | a :: t, i + 1, x, k, h, hk => by
   have ih := flat_get hc t i x k (by simpa using h) hk
   rw [List.flatMap_cons, List.getElem?_append_right (by rw [hc, Nat.add_mul]; omega), hc, show (i + 1) * sz + k - sz = i * sz + k by rw [Nat.add_mul]; omega]
   exact ih
theorem flat_of {α : Type} {cf : α → List Value} {sz : Nat} (hc : ∀ x, (cf x).length = sz) : ∀ (l : List α) (j : Nat) (u : Value), (l.flatMap cf)[j]? = some u → ∃ i x k, l[i]? = some x ∧ k < sz ∧ j = i * sz + k ∧ (cf x)[k]? = some u
 | [], j, u, h => by simp at h
 | a :: t, j, u, h => by
   rw [List.flatMap_cons] at h
   rcases Nat.lt_or_ge j sz with hj | hj
   ·rw [List.getElem?_append_left (by rw [hc]; exact hj)] at h
    exact ⟨0, a, j, rfl, hj, by simp, h⟩
   ·rw [List.getElem?_append_right (by rw [hc]; exact hj), hc] at h
    obtain ⟨i, x, k, h1, h2, h3, h4⟩ := flat_of hc t _ u h
    exact ⟨i + 1, x, k, by simpa using h1, h2, by rw [Nat.add_mul]; omega, h4⟩
theorem addrAdd (b o j : Nat) : (⟨b, o, none⟩ : Addr).add j = ⟨b, o + j, none⟩ := by unfold Addr.add; split <;> simp_all
def rlCells (r : Rl) : List Value := [.int .i64 r.fy, .int .i64 r.ty, .int .i64 r.mo, .int .i64 r.k, .int .i64 r.wk, .int .i64 r.d, .int .i64 r.a, .int .i64 r.sv, .string r.le]
def rls (l : List Rl) : List Value := l.flatMap rlCells
def erCells (x : Er) : List Value := [.int .i64 x.std, .int .i64 x.set, .int .i64 x.save, .string x.fmt, .int .i64 x.til]
def ers (l : List Er) : List Value := l.flatMap erCells
theorem rlCells_len (r : Rl) : (rlCells r).length = 9 := rfl
theorem erCells_len (r : Er) : (erCells r).length = 5 := rfl
theorem rls_len (l : List Rl) : (rls l).length = l.length * 9 := flat_len rlCells_len l
theorem ers_len (l : List Er) : (ers l).length = l.length * 5 := flat_len erCells_len l
theorem rls_one {l : List Rl} : ∀ u ∈ rls l, u.oneCell' = true := by
 intro u hu
 unfold rls at hu
 obtain ⟨x, _, hx⟩ := List.mem_flatMap.1 hu
 simp only [rlCells, List.mem_cons, List.not_mem_nil, or_false] at hx
 rcases hx with rfl | rfl | rfl | rfl | rfl | rfl | rfl | rfl | rfl <;> rfl
theorem ers_one {l : List Er} : ∀ u ∈ ers l, u.oneCell' = true := by
 intro u hu
 unfold ers at hu
 obtain ⟨x, _, hx⟩ := List.mem_flatMap.1 hu
 simp only [erCells, List.mem_cons, List.not_mem_nil, or_false] at hx
 rcases hx with rfl | rfl | rfl | rfl | rfl <;> rfl
theorem rls_cells {w : World} {B : Nat} {A : Option Addr} {n : Nat} {l : List Rl} (h : RulesAt w B A n l) {ad : Addr} (hA : A = some ad) : ∀ j u, (rls l)[j]? = some u → w.cell? (ad.add j) = some u := by
 intro j u hj
 obtain ⟨i, x, k, hx, hk, rfl, hu⟩ := flat_of rlCells_len l j u hj
 have hi := (List.getElem?_eq_some_iff.1 hx).1
 obtain ⟨b, o, hA2, _, hcell⟩ := h.2.2 (by have := h.1; omega)
 rw [hA] at hA2
 obtain rfl : ad = ⟨b, o, none⟩ := by injection hA2
 rw [addrAdd]
 obtain ⟨c0, c1, c2, c3, c4, c5, c6, c7, c8⟩ := (hcell i x hx).1
 rw [← Nat.add_assoc]
 match k, hk, hu with
 | 0, _, hu => obtain rfl := Option.some.inj hu; exact c0
 | 1, _, hu => obtain rfl := Option.some.inj hu; exact c1
 | 2, _, hu => obtain rfl := Option.some.inj hu; exact c2
 | 3, _, hu => obtain rfl := Option.some.inj hu; exact c3
 | 4, _, hu => obtain rfl := Option.some.inj hu; exact c4
 | 5, _, hu => obtain rfl := Option.some.inj hu; exact c5
 | 6, _, hu => obtain rfl := Option.some.inj hu; exact c6
 | 7, _, hu => obtain rfl := Option.some.inj hu; exact c7
 | 8, _, hu => obtain rfl := Option.some.inj hu; exact c8
theorem ers_cells {w : World} {B : Nat} {A : Option Addr} {n : Nat} {l : List Er} (h : ErasAt w B A n l) {ad : Addr} (hA : A = some ad) : ∀ j u, (ers l)[j]? = some u → w.cell? (ad.add j) = some u := by
 intro j u hj
 obtain ⟨i, x, k, hx, hk, rfl, hu⟩ := flat_of erCells_len l j u hj
 have hi := (List.getElem?_eq_some_iff.1 hx).1
 obtain ⟨b, o, hA2, _, hcell⟩ := h.2.2 (by have := h.1; omega)
 rw [hA] at hA2
 obtain rfl : ad = ⟨b, o, none⟩ := by injection hA2
 rw [addrAdd]
 obtain ⟨c0, c1, c2, c3, c4⟩ := (hcell i x hx).1
 rw [← Nat.add_assoc]
 match k, hk, hu with
 | 0, _, hu => obtain rfl := Option.some.inj hu; exact c0
 | 1, _, hu => obtain rfl := Option.some.inj hu; exact c1
 | 2, _, hu => obtain rfl := Option.some.inj hu; exact c2
 | 3, _, hu => obtain rfl := Option.some.inj hu; exact c3
 | 4, _, hu => obtain rfl := Option.some.inj hu; exact c4
theorem rules_own {w : World} {B n cap : Nat} {A : Option Addr} {l : List Rl} (h : w.ownsRow B 123 9 (.slice A n cap) n (rls l)) (hn : n ≤ maxLen) (hs : ∀ x ∈ l, x.le.size ≤ maxLen) : RulesAt w w.heap.size A n l := by
 have hl : l.length = n := by have := h.1; rw [rls_len] at this; omega
 refine ⟨hl, hn, fun h0 => ?_⟩
 obtain ⟨A', cap', e1, hf⟩ := own_form h
 injection e1 with e1 _ e3
 subst e1
 obtain ⟨g, rfl, hlt⟩ := hf h0
 refine ⟨g, 0, rfl, hlt, fun i x hx => ⟨?_, hs x (List.mem_of_getElem? hx)⟩⟩
 have hc : ∀ k u, k < 9 → (rlCells x)[k]? = some u → w.cell? ⟨g, 0 + i * 9 + k, none⟩ = some u := fun k u hk hu => by
  rw [Nat.zero_add]
  exact own_cell h (by unfold rls; rw [flat_get rlCells_len l i x k hx hk]; exact hu)
 exact ⟨hc 0 _ (by decide) rfl, hc 1 _ (by decide) rfl, hc 2 _ (by decide) rfl, hc 3 _ (by decide) rfl, hc 4 _ (by decide) rfl, hc 5 _ (by decide) rfl, hc 6 _ (by decide) rfl, hc 7 _ (by decide) rfl, hc 8 _ (by decide) rfl⟩
theorem eras_own {w : World} {B n cap : Nat} {A : Option Addr} {l : List Er} (h : w.ownsRow B 125 5 (.slice A n cap) n (ers l)) (hn : n ≤ maxLen) (hs : ∀ x ∈ l, x.fmt.size ≤ fmtMax) : ErasAt w w.heap.size A n l := by
 have hl : l.length = n := by have := h.1; rw [ers_len] at this; omega
 refine ⟨hl, hn, fun h0 => ?_⟩
 obtain ⟨A', cap', e1, hf⟩ := own_form h
 injection e1 with e1 _ e3
 subst e1
 obtain ⟨g, rfl, hlt⟩ := hf h0
 refine ⟨g, 0, rfl, hlt, fun i x hx => ⟨?_, hs x (List.mem_of_getElem? hx)⟩⟩
 have hc : ∀ k u, k < 5 → (erCells x)[k]? = some u → w.cell? ⟨g, 0 + i * 5 + k, none⟩ = some u := fun k u hk hu => by
  rw [Nat.zero_add]
  exact own_cell h (by unfold ers; rw [flat_get erCells_len l i x k hx hk]; exact hu)
 exact ⟨hc 0 _ (by decide) rfl, hc 1 _ (by decide) rfl, hc 2 _ (by decide) rfl, hc 3 _ (by decide) rfl, hc 4 _ (by decide) rfl⟩
structure Pc where
 v : Value
 name : ByteArray
 n : Nat
 xs : List Value
def pcCells2 (p : Pc) : List Value := [.string p.name, p.v]
def rcs (l : List Pc) : List Value := l.flatMap pcCells2
theorem pcCells2_len (p : Pc) : (pcCells2 p).length = 2 := rfl
theorem rcs_snoc (l : List Pc) (p : Pc) : rcs (l ++ [p]) = rcs l ++ [.string p.name, p.v] := by unfold rcs; simp [pcCells2]
theorem rcs_len (l : List Pc) : (rcs l).length = l.length * 2 := flat_len pcCells2_len l
end Gno
namespace Go.Proofs.YtbbbeldbhlehnaaGreatDoor
open Go.RowKit Gno
structure ROwn (eo ei : TypeId) (sz B : Nat) (w : World) (v : Value) (ps : List Pc) : Prop where
 row : w.ownsRow B eo 2 v ps.length (rcs ps)
 edge : ∀ (i : Nat) p, ps[i]? = some p → w.ownsRow B ei sz p.v p.n p.xs
 apart : ∀ (i : Nat) p, ps[i]? = some p → Apart v p.v
theorem ROwn.kept {eo ei : TypeId} {sz B : Nat} {w w' : World} {v : Value} {ps : List Pc} (h : ROwn eo ei sz B w v ps) (hg : w.grownBy w' none) : ROwn eo ei sz B w' v ps := by
 have kk : ∀ {e : TypeId} {sz n : Nat} {u : Value} {xs : List Value}, w.ownsRow B e sz u n xs → w'.ownsRow B e sz u n xs := fun {e sz n u xs} ho => ho.kept hg (by
  cases u.ownBlock with
  | none => exact .inl rfl
  | some k => exact .inr (by simp))
 exact ⟨kk h.row, fun i p hp => kk (h.edge i p hp), h.apart⟩
theorem ROwn.nil (eo ei : TypeId) (sz B : Nat) (w : World) : ROwn eo ei sz B w (.slice none 0 0) [] := ⟨World.ownsRow_nil _ _ _ _, fun i p h => by simp at h, fun i p h => by simp at h⟩
theorem ROwn.push {eo ei : TypeId} {sz B : Nat} {w w' : World} {v v' u : Value} {ps : List Pc} {nm : ByteArray} {n : Nat} {xs : List Value} (h : ROwn eo ei sz B w v ps) (hi : w.ownsRow B ei sz u n xs) (ha : Apart v u)
 (hown : w'.ownsRow B eo 2 v' (ps.length + 1) (rcs ps ++ [.string nm, u])) (hg : w.grownBy w' v.ownBlock) (hn : NearOr w v v') : ROwn eo ei sz B w' v' (ps ++ [⟨u, nm, n, xs⟩]) := by
 have hedge : ∀ (i : Nat) q, ps[i]? = some q → w'.ownsRow B ei sz q.v q.n q.xs ∧ Apart v' q.v := fun i q hq => own_apart (h.edge i q hq) hg (h.apart i q hq) hn
 have hnew := own_apart hi hg ha hn
 refine ⟨?_, fun i q hq => ?_, fun i q hq => ?_⟩
 ·rw [List.length_append, rcs_snoc]; exact hown
 ·rcases get_snoc hq with hq | ⟨_, rfl⟩
  ·exact (hedge i q hq).1
  ·exact hnew.1
 ·rcases get_snoc hq with hq | ⟨_, rfl⟩
  ·exact (hedge i q hq).2
  ·exact hnew.2
theorem ROwn.nodes {eo ei : TypeId} {sz B : Nat} {w : World} {v : Value} {ps : List Pc} (h : ROwn eo ei sz B w v ps) : ∃ A cap, v = .slice A ps.length cap ∧ (0 < ps.length → ∃ g, A = some ⟨g, 0, none⟩ ∧ g < w.heap.size ∧ ∀ (i : Nat) p, ps[i]? = some p → w.cell? ⟨g, i * 2, none⟩ = some (.string p.name) ∧ w.cell? ⟨g, i * 2 + 1, none⟩ = some p.v) := by
 obtain ⟨A, cap, rfl, hf⟩ := own_form h.row
 refine ⟨A, cap, rfl, fun hp => ?_⟩
 obtain ⟨g, rfl, hlt⟩ := hf hp
 refine ⟨g, rfl, hlt, fun i p hq => ⟨?_, ?_⟩⟩
 ·exact own_cell h.row (by have := flat_get pcCells2_len ps i p 0 hq (by decide); rw [Nat.add_zero] at this; exact this)
 ·exact own_cell h.row (by exact flat_get pcCells2_len ps i p 1 hq (by decide))
def sameSt (s t : St) : Prop := t.name = s.name ∧ t.n = s.n ∧ t.rs = s.rs
def sameZn (s t : Zn) : Prop := t.name = s.name ∧ t.n = s.n ∧ t.es = s.es
structure SameD (d e : Dt) : Prop where
 sn : e.sn = d.sn
 zn : e.zn = d.zn
 ln : e.ln = d.ln
 ss : ∀ (i : Nat) s t, d.ss[i]? = some s → e.ss[i]? = some t → sameSt s t
 zs : ∀ (i : Nat) s t, d.zs[i]? = some s → e.zs[i]? = some t → sameZn s t
 ls : e.ls = d.ls
def PcSt (p : Pc) (s : St) : Prop := p.name = s.name ∧ p.n = s.n ∧ p.xs = rls s.rs
def PcZn (p : Pc) (s : Zn) : Prop := p.name = s.name ∧ p.n = s.n ∧ p.xs = ers s.es
def pcSt (p : Pc) (s : St) : St := match p.v with
 | .slice A n c => ⟨s.name, A, s.n, c, s.rs⟩
 | _ => s
def pcZn (p : Pc) (s : Zn) : Zn := match p.v with
 | .slice A n c => ⟨s.name, A, s.n, c, s.es⟩
 | _ => s
theorem ROwn.sets {B : Nat} {w : World} {v : Value} {ps : List Pc} {ss : List St} (h : ROwn 115 123 9 B w v ps) (hl : ps.length = ss.length) (hm : ss.length ≤ maxLen) (hps : ∀ (i : Nat) p s, ps[i]? = some p → ss[i]? = some s → PcSt p s)
 (hs : ∀ s ∈ ss, s.name.size ≤ maxLen ∧ s.n ≤ maxLen ∧ ∀ r ∈ s.rs, r.le.size ≤ maxLen) :
 ∃ A cap ts, v = .slice A ss.length cap ∧ SetsAt w w.heap.size A ss.length ts ∧ ∀ (i : Nat) s t, ss[i]? = some s → ts[i]? = some t → sameSt s t := by
 obtain ⟨A, cap, rfl, hf⟩ := h.nodes
 have hts : ∀ (i : Nat) t, ((ps.zip ss).map fun x => pcSt x.1 x.2)[i]? = some t → ∃ p s, ps[i]? = some p ∧ ss[i]? = some s ∧ t = pcSt p s := fun i t ht => by
  rw [List.getElem?_map] at ht
  obtain ⟨x, hx, rfl⟩ := Option.map_eq_some_iff.1 ht
  obtain ⟨h1, h2⟩ := List.getElem?_zip_eq_some.1 hx
  exact ⟨x.1, x.2, h1, h2, rfl⟩
 have hform : ∀ (i : Nat) p s, ps[i]? = some p → ss[i]? = some s → ∃ A2 c2, p.v = .slice A2 s.n c2 ∧ pcSt p s = ⟨s.name, A2, s.n, c2, s.rs⟩ := fun i p s hp hss => by
  obtain ⟨A2, c2, e, _⟩ := own_form (h.edge i p hp)
  rw [(hps i p s hp hss).2.1] at e
  exact ⟨A2, c2, e, by unfold pcSt; rw [e]⟩
 refine ⟨A, cap, (ps.zip ss).map fun x => pcSt x.1 x.2, by rw [hl], ⟨by simp [hl], hm, fun h0 => ?_⟩, fun i s t hi ht => ?_⟩
 ·obtain ⟨g, rfl, hlt, hc⟩ := hf (by omega)
  refine ⟨g, 0, rfl, hlt, fun i t ht => ?_⟩
  obtain ⟨p, s, hp, hss, rfl⟩ := hts i t ht
  obtain ⟨A2, c2, e, e2⟩ := hform i p s hp hss
  obtain ⟨q1, q2, q3⟩ := hps i p s hp hss
  obtain ⟨k0, k1⟩ := hc i p hp
  have hsm := hs s (List.mem_of_getElem? hss)
  have ho := h.edge i p hp
  rw [e, q2, q3] at ho
  rw [e2, Nat.zero_add]
  exact ⟨⟨by rw [k0, q1], by rw [k1, e]⟩, hsm.1, rules_own ho hsm.2.1 hsm.2.2⟩
 ·obtain ⟨p, s', hp, hss, rfl⟩ := hts i t ht
  rw [hi] at hss
  obtain rfl := Option.some.inj hss
  obtain ⟨A2, c2, e, e2⟩ := hform i p s hp hi
  rw [e2]
  exact ⟨rfl, rfl, rfl⟩
theorem ROwn.zones {B : Nat} {w : World} {v : Value} {ps : List Pc} {ss : List Zn} (h : ROwn 54 125 5 B w v ps) (hl : ps.length = ss.length) (hm : ss.length ≤ maxLen) (hps : ∀ (i : Nat) p s, ps[i]? = some p → ss[i]? = some s → PcZn p s)
 (hs : ∀ s ∈ ss, s.name.size ≤ maxLen ∧ s.n ≤ maxLen ∧ ∀ r ∈ s.es, r.fmt.size ≤ fmtMax) :
 ∃ A cap ts, v = .slice A ss.length cap ∧ ZonesAt w w.heap.size A ss.length ts ∧ ∀ (i : Nat) s t, ss[i]? = some s → ts[i]? = some t → sameZn s t := by
 obtain ⟨A, cap, rfl, hf⟩ := h.nodes
 have hts : ∀ (i : Nat) t, ((ps.zip ss).map fun x => pcZn x.1 x.2)[i]? = some t → ∃ p s, ps[i]? = some p ∧ ss[i]? = some s ∧ t = pcZn p s := fun i t ht => by
  rw [List.getElem?_map] at ht
  obtain ⟨x, hx, rfl⟩ := Option.map_eq_some_iff.1 ht
  obtain ⟨h1, h2⟩ := List.getElem?_zip_eq_some.1 hx
  exact ⟨x.1, x.2, h1, h2, rfl⟩
 have hform : ∀ (i : Nat) p s, ps[i]? = some p → ss[i]? = some s → ∃ A2 c2, p.v = .slice A2 s.n c2 ∧ pcZn p s = ⟨s.name, A2, s.n, c2, s.es⟩ := fun i p s hp hss => by
  obtain ⟨A2, c2, e, _⟩ := own_form (h.edge i p hp)
  rw [(hps i p s hp hss).2.1] at e
  exact ⟨A2, c2, e, by unfold pcZn; rw [e]⟩
 refine ⟨A, cap, (ps.zip ss).map fun x => pcZn x.1 x.2, by rw [hl], ⟨by simp [hl], hm, fun h0 => ?_⟩, fun i s t hi ht => ?_⟩
 ·obtain ⟨g, rfl, hlt, hc⟩ := hf (by omega)
  refine ⟨g, 0, rfl, hlt, fun i t ht => ?_⟩
  obtain ⟨p, s, hp, hss, rfl⟩ := hts i t ht
  obtain ⟨A2, c2, e, e2⟩ := hform i p s hp hss
  obtain ⟨q1, q2, q3⟩ := hps i p s hp hss
  obtain ⟨k0, k1⟩ := hc i p hp
  have hsm := hs s (List.mem_of_getElem? hss)
  have ho := h.edge i p hp
  rw [e, q2, q3] at ho
  rw [e2, Nat.zero_add]
  exact ⟨⟨by rw [k0, q1], by rw [k1, e]⟩, hsm.1, eras_own ho hsm.2.1 hsm.2.2⟩
 ·obtain ⟨p, s', hp, hss, rfl⟩ := hts i t ht
  rw [hi] at hss
  obtain rfl := Option.some.inj hss
  obtain ⟨A2, c2, e, e2⟩ := hform i p s hp hi
  rw [e2]
  exact ⟨rfl, rfl, rfl⟩
theorem TOwn.setEdge {B : Nat} {w : World} {v : Value} {ps : List (Value × Nd)} (h : TOwn B w v ps) {a : Nat} {p : Value × Nd} (hp : ps[a]? = some p) {g2 m c2 : Nat} (hv : p.1 = .slice (some ⟨g2, 0, none⟩) m c2) (hm : p.2.es.length = m) {k : Nat} (hk : k < m) :
 TOwn B ((w.setCell ⟨g2, k * 2, none⟩ (.int .u8 0)).setCell ⟨g2, k * 2 + 1, none⟩ (.int .i64 0)) v (ps.set a (p.1, ⟨p.2.es.set k ⟨0, 0⟩, p.2.word⟩)) := by
 have hl : (ps.set a (p.1, (⟨p.2.es.set k ⟨0, 0⟩, p.2.word⟩ : Nd))).length = ps.length := List.length_set ..
 have hop := h.edge a p hp
 have hvn : ∀ u : Value, Apart u p.1 → u.ownBlock ≠ some g2 := fun u hu e => hu g2 e (by rw [hv]; rfl)
 refine ⟨?_, fun i q hq => ?_, fun i q hq => ?_, fun i j q r hij hq hr => ?_, fun i q hq => ?_⟩
 ·rw [hl, ← pcs_set0 ps a p (p.1, ⟨p.2.es.set k ⟨0, 0⟩, p.2.word⟩) hp rfl]
  have e0 : (pcs ps).set (a * 2) p.1 = pcs ps := by
   have := (pcs_get ps a p hp).1
   obtain ⟨h1, h2⟩ := List.getElem?_eq_some_iff.1 this
   rw [← h2]; exact List.set_getElem_self ..
  rw [e0]
  have hne := hvn v (h.apart a p hp)
  exact ownsRow_setCell_other (ownsRow_setCell_other h.row hne _) hne _
 ·rcases set_get hq with ⟨rfl, rfl⟩ | ⟨hi, hq⟩
  ·simp only [List.length_set]
   rw [hv, hm] at hop ⊢
   obtain ⟨y, hy⟩ : ∃ y, p.2.es[k]? = some y := ⟨_, List.getElem?_eq_getElem (by omega)⟩
   rw [← eds_set p.2.es k ⟨0, 0⟩ y hy]
   exact own_setCell (own_setCell hop _ (by omega) _) _ (by omega) _
  ·have hne := hvn q.1 (h.apart2 i a q p hi hq hp)
   exact ownsRow_setCell_other (ownsRow_setCell_other (h.edge i q hq) hne _) hne _
 ·rcases set_get hq with ⟨rfl, rfl⟩ | ⟨hi, hq⟩
  ·exact h.apart _ p hp
  ·exact h.apart i q hq
 ·rcases set_get hq with ⟨hi, rfl⟩ | ⟨hi, hq⟩ <;> rcases set_get hr with ⟨hj, rfl⟩ | ⟨hj, hr⟩
  ·omega
  ·exact h.apart2 a j p r (by omega) hp hr
  ·exact h.apart2 i a q p (by omega) hq hp
  ·exact h.apart2 i j q r hij hq hr
 ·rcases set_get hq with ⟨rfl, rfl⟩ | ⟨hi, hq⟩
  ·intro e he
   rcases List.mem_or_eq_of_mem_set he with he | rfl
   ·exact h.small _ p hp e he
   ·exact Nat.zero_le _
  ·exact h.small i q hq
theorem TOwn.setNode {B : Nat} {w : World} {g cap : Nat} {ps : List (Value × Nd)} (h : TOwn B w (.slice (some ⟨g, 0, none⟩) ps.length cap) ps) {a : Nat} {p : Value × Nd} (hp : ps[a]? = some p) :
 TOwn B ((w.setCell ⟨g, a * 2, none⟩ (.slice none 0 0)).setCell ⟨g, a * 2 + 1, none⟩ (.int .i64 0)) (.slice (some ⟨g, 0, none⟩) ps.length cap) (ps.set a (.slice none 0 0, ⟨[], 0⟩)) := by
 have ha := (List.getElem?_eq_some_iff.1 hp).1
 have h1 := h.setEdges hp (.slice none 0 0) [] (World.ownsRow_nil _ _ _ _) (World.grownBy.refl w _) (.inr fun k hk => by simp [Value.ownBlock] at hk) (fun e he => by cases he)
 have hl : (ps.set a (.slice none 0 0, (⟨[], p.2.word⟩ : Nd))).length = ps.length := List.length_set ..
 rw [← hl] at h1
 have h2 := h1.setWord (a := a) (p := (.slice none 0 0, ⟨[], p.2.word⟩)) (by rw [List.getElem?_set_self ha]) 0
 rw [List.set_set, hl] at h2
 exact h2
end Go.Proofs.YtbbbeldbhlehnaaGreatDoor
