/- Parts of a proof, laid together. -/
import Derived.Deep.AppendLies
import Derived.Deep.RegionLaw
import Derived.Deep.RegionHeld3
import Derived.Test.YthhjgndaiimgjaaGreatDoorMUSrcB28
import Derived.Test.YthhjgndaiimgjaaGreatDoorMUSrcB29
import Derived.Test.YthhjgndaiimgjaaGreatDoorMUSrcB0
set_option linter.unusedSimpArgs false
set_option linter.unusedVariables false
/-! Data that are read: what lies in memory, and what it holds. -/
section
set_option maxRecDepth 100000
set_option linter.unusedVariables false
set_option linter.unusedSimpArgs false
namespace Gno
open Go Go.RowKit Go.Proofs.YthhjgndaiimgjaaGreatDoor
def pcT (p : Pc) : ByteArray × Nat × List Value := (p.name, p.n, p.xs)
def stT (s : Bt × List (List Int × Bt)) : ByteArray × Nat × List Value := (Bs s.1, s.2.length, rls (s.2.map rlOf))
def znT (z : Bt × List (List Int × Bt × Int)) : ByteArray × Nat × List Value := (Bs z.1, z.2.length, ers (z.2.map erOf))
/-- the values of data's fields, and what they hold. -/
structure DHold (B : Nat) (vs vz vl : Value) (ps pz : List Pc) (c : Cn) (w : World) : Prop where
  sets : RO 48 53 9 B w vs ps
  setsC : ps.map pcT = c.ss.map stT
  zones : RO 57 59 5 B w vz pz
  zonesC : pz.map pcT = c.zs.map znT
  links : w.ownsRow B 61 2 vl c.ls.length (lks (c.ls.map lkOf))
/-- the types of what data hold. -/
structure KeepD (w w' : World) : Prop where
  s : KeepT 48 w w'
  r : KeepT 53 w w'
  z : KeepT 57 w w'
  e : KeepT 59 w w'
  l : KeepT 61 w w'
theorem KeepD.trans {a b c : World} (h : KeepD a b) (k : KeepD b c) : KeepD a c := ⟨h.s.trans k.s, h.r.trans k.r, h.z.trans k.z, h.e.trans k.e, h.l.trans k.l⟩
theorem keepD_below {w w' : World} (h : Below w.heap.size w w') : KeepD w w' := ⟨keepT_below h, keepT_below h, keepT_below h, keepT_below h, keepT_below h⟩
theorem keepD_grown {w w' : World} {b : Nat} {c : Array Value} {T : TypeId} {fz : Nat × Nat} (hb : w.heap[b]? = some (.cells c T fz)) (hg : w.grownBy w' (some b)) (h1 : T ≠ 48) (h2 : T ≠ 53) (h3 : T ≠ 57) (h4 : T ≠ 59) (h5 : T ≠ 61) : KeepD w w' := by
  have q : ∀ g, some b = some g → ∃ c fz, w.heap[g]? = some (.cells c T fz) := fun g e => by injection e with e; subst e; exact ⟨c, fz, hb⟩
  exact ⟨keepT_grown hg q h1, keepT_grown hg q h2, keepT_grown hg q h3, keepT_grown hg q h4, keepT_grown hg q h5⟩
theorem keepD_set {w : World} {b : Nat} {c : Array Value} {T : TypeId} {fz : Nat × Nat} (hb : w.heap[b]? = some (.cells c T fz)) (h1 : T ≠ 48) (h2 : T ≠ 53) (h3 : T ≠ 57) (h4 : T ≠ 59) (h5 : T ≠ 61) (i : Nat) (v : Value) : KeepD w (w.setCell ⟨b, i, none⟩ v) :=
  ⟨keepT_set hb h1 _ _, keepT_set hb h2 _ _, keepT_set hb h3 _ _, keepT_set hb h4 _ _, keepT_set hb h5 _ _⟩
theorem DHold.keep {B : Nat} {vs vz vl : Value} {ps pz : List Pc} {c : Cn} {w w' : World} (h : DHold B vs vz vl ps pz c w) (k : KeepD w w') : DHold B vs vz vl ps pz c w' :=
  ⟨h.sets.keep k.s k.r, h.setsC, h.zones.keep k.z k.e, h.zonesC, ow_keepT h.links k.l⟩
theorem DHold.start (B : Nat) (w : World) : DHold B (.slice none 0 0) (.slice none 0 0) (.slice none 0 0) [] [] ⟨[], [], []⟩ w :=
  ⟨RO.nil _ _ _ _ _, rfl, RO.nil _ _ _ _ _, rfl, World.ownsRow_nil _ _ _ _⟩
theorem DHold.addSet {B : Nat} {vs vz vl vs' : Value} {ps pz : List Pc} {c : Cn} {w w1 : World} {n : Bt} (h : DHold B vs vz vl ps pz c w) (hown : w1.ownsRow B 48 2 vs' (ps.length + 1) (rcs ps ++ [.string (Bs n), .slice none 0 0])) (hg : w.grownBy w1 vs.ownBlock) :
    DHold B vs' vz vl (ps ++ [⟨.slice none 0 0, Bs n, 0, []⟩]) pz { c with ss := c.ss ++ [(n, [])] } w1 :=
  ⟨h.sets.push (by decide) hown hg, by rw [List.map_append, List.map_append, h.setsC]; rfl, h.zones.keep (keepT_own h.sets.row hg (by decide)) (keepT_own h.sets.row hg (by decide)), h.zonesC, ow_keepT h.links (keepT_own h.sets.row hg (by decide))⟩
theorem DHold.addZone {B : Nat} {vs vz vl vz' : Value} {ps pz : List Pc} {c : Cn} {w w1 : World} {n : Bt} (h : DHold B vs vz vl ps pz c w) (hown : w1.ownsRow B 57 2 vz' (pz.length + 1) (rcs pz ++ [.string (Bs n), .slice none 0 0])) (hg : w.grownBy w1 vz.ownBlock) :
    DHold B vs vz' vl ps (pz ++ [⟨.slice none 0 0, Bs n, 0, []⟩]) { c with zs := c.zs ++ [(n, [])] } w1 :=
  ⟨h.sets.keep (keepT_own h.zones.row hg (by decide)) (keepT_own h.zones.row hg (by decide)), h.setsC, h.zones.push (by decide) hown hg, by rw [List.map_append, List.map_append, h.zonesC]; rfl, ow_keepT h.links (keepT_own h.zones.row hg (by decide))⟩
theorem DHold.addLink {B : Nat} {vs vz vl vl' : Value} {ps pz : List Pc} {c : Cn} {w w1 : World} {a b : Bt} (h : DHold B vs vz vl ps pz c w) (hown : w1.ownsRow B 61 2 vl' (c.ls.length + 1) (lks (c.ls.map lkOf) ++ [.string (Bs a), .string (Bs b)])) (hg : w.grownBy w1 vl.ownBlock) :
    DHold B vs vz vl' ps pz { c with ls := c.ls ++ [(a, b)] } w1 :=
  ⟨h.sets.keep (keepT_own h.links hg (by decide)) (keepT_own h.links hg (by decide)), h.setsC, h.zones.keep (keepT_own h.links hg (by decide)) (keepT_own h.links hg (by decide)), h.zonesC, by
    show w1.ownsRow B _ 2 vl' (c.ls ++ [(a, b)]).length (lks ((c.ls ++ [(a, b)]).map lkOf))
    rw [List.length_append, List.map_append, List.map_cons, List.map_nil, lks_snoc]
    exact hown⟩
/-- the last one's piece. -/
theorem last_piece {α : Type} {ps : List Pc} {ss : List α} {f : α → ByteArray × Nat × List Value} (h : ps.map pcT = ss.map f) (hne : ss ≠ []) :
    ∃ p0 p s0 s, ps = p0 ++ [p] ∧ ss = s0 ++ [s] ∧ p0.map pcT = s0.map f ∧ pcT p = f s ∧ p0.length = s0.length := by
  obtain ⟨s0, s, rfl⟩ : ∃ s0 s, ss = s0 ++ [s] := ⟨ss.dropLast, ss.getLast hne, (List.dropLast_concat_getLast hne).symm⟩
  rw [List.map_append, List.map_cons, List.map_nil] at h
  obtain ⟨p0, p1, rfl, h1, h2⟩ := List.map_eq_append_iff.1 h
  obtain ⟨p, q, rfl, h3, h4⟩ := List.map_eq_cons_iff.1 h2
  obtain rfl := List.map_eq_nil_iff.1 h4
  refine ⟨p0, p, s0, s, rfl, rfl, h1, h3, ?_⟩
  have := congrArg List.length h1
  simpa using this
theorem DHold.addRule {B g cap : Nat} {vz vl u : Value} {p0 pz : List Pc} {p : Pc} {c : Cn} {S : List (Bt × List (List Int × Bt))} {a : Bt} {rs : List (List Int × Bt)} {r : List Int × Bt} {w w1 : World}
    (h : DHold B (.slice (some ⟨g, 0, none⟩) (p0.length + 1) cap) vz vl (p0 ++ [p]) pz c w) (hc : c.ss = S ++ [(a, rs)]) (h0 : p0.map pcT = S.map stT) (h1 : pcT p = stT (a, rs))
    (hown : w1.ownsRow B 53 9 u (p.n + 1) (p.xs ++ rlCells (rlOf r))) (hg : w.grownBy w1 p.v.ownBlock) (hn : NearOr w p.v u) :
    DHold B (.slice (some ⟨g, 0, none⟩) (p0.length + 1) cap) vz vl (p0 ++ [⟨u, p.name, p.n + 1, p.xs ++ rlCells (rlOf r)⟩]) pz { c with ss := ontoLast c.ss r } (w1.setCell ⟨g, p0.length * 2 + 1, none⟩ u) := by
  have hp : (p0 ++ [p])[p0.length]? = some p := by simp
  have he := h.sets.edge _ _ hp
  have hrow := h.sets.row
  have hgT : ∃ c, w1.heap[g]? = some (.cells c 48) := ow_type (ow_keepT hrow (keepT_own he hg (by decide))) rfl
  obtain ⟨cc, hgT⟩ := hgT
  have kz : KeepT 57 w (w1.setCell ⟨g, p0.length * 2 + 1, none⟩ u) := (keepT_own he hg (by decide)).trans (keepT_set hgT (by decide) _ _)
  have ke : KeepT 59 w (w1.setCell ⟨g, p0.length * 2 + 1, none⟩ u) := (keepT_own he hg (by decide)).trans (keepT_set hgT (by decide) _ _)
  have kl : KeepT 61 w (w1.setCell ⟨g, p0.length * 2 + 1, none⟩ u) := (keepT_own he hg (by decide)).trans (keepT_set hgT (by decide) _ _)
  refine ⟨h.sets.onto (by decide) hown hg hn, ?_, h.zones.keep kz ke, h.zonesC, ow_keepT h.links kl⟩
  show _ = (ontoLast c.ss r).map stT
  rw [hc, onto_snoc, List.map_append, List.map_append, h0]
  congr 1
  unfold pcT stT at h1 ⊢
  simp only [Prod.mk.injEq] at h1
  simp only [List.map_cons, List.map_nil, List.map_append, List.length_append, List.length_singleton, rls_snoc, h1.1, h1.2.1, h1.2.2]
theorem DHold.addEra {B g cap : Nat} {vs vl u : Value} {ps p0 : List Pc} {p : Pc} {c : Cn} {S : List (Bt × List (List Int × Bt × Int))} {a : Bt} {rs : List (List Int × Bt × Int)} {r : List Int × Bt × Int} {w w1 : World}
    (h : DHold B vs (.slice (some ⟨g, 0, none⟩) (p0.length + 1) cap) vl ps (p0 ++ [p]) c w) (hc : c.zs = S ++ [(a, rs)]) (h0 : p0.map pcT = S.map znT) (h1 : pcT p = znT (a, rs))
    (hown : w1.ownsRow B 59 5 u (p.n + 1) (p.xs ++ erCells (erOf r))) (hg : w.grownBy w1 p.v.ownBlock) (hn : NearOr w p.v u) :
    DHold B vs (.slice (some ⟨g, 0, none⟩) (p0.length + 1) cap) vl ps (p0 ++ [⟨u, p.name, p.n + 1, p.xs ++ erCells (erOf r)⟩]) { c with zs := ontoLast c.zs r } (w1.setCell ⟨g, p0.length * 2 + 1, none⟩ u) := by
  have hp : (p0 ++ [p])[p0.length]? = some p := by simp
  have he := h.zones.edge _ _ hp
  have hrow := h.zones.row
  have hgT : ∃ c, w1.heap[g]? = some (.cells c 57) := ow_type (ow_keepT hrow (keepT_own he hg (by decide))) rfl
  obtain ⟨cc, hgT⟩ := hgT
  have ks : KeepT 48 w (w1.setCell ⟨g, p0.length * 2 + 1, none⟩ u) := (keepT_own he hg (by decide)).trans (keepT_set hgT (by decide) _ _)
  have kr : KeepT 53 w (w1.setCell ⟨g, p0.length * 2 + 1, none⟩ u) := (keepT_own he hg (by decide)).trans (keepT_set hgT (by decide) _ _)
  have kl : KeepT 61 w (w1.setCell ⟨g, p0.length * 2 + 1, none⟩ u) := (keepT_own he hg (by decide)).trans (keepT_set hgT (by decide) _ _)
  refine ⟨h.sets.keep ks kr, h.setsC, h.zones.onto (by decide) hown hg hn, ?_, ow_keepT h.links kl⟩
  show _ = (ontoLast c.zs r).map znT
  rw [hc, onto_snoc, List.map_append, List.map_append, h0]
  congr 1
  unfold pcT znT at h1 ⊢
  simp only [Prod.mk.injEq] at h1
  simp only [List.map_cons, List.map_nil, List.map_append, List.length_append, List.length_singleton, ers_snoc, h1.1, h1.2.1, h1.2.2]
/-! the data that lie there -/
/-- how much there is at most. -/
structure CnZ (n : Nat) (c : Cn) : Prop where
  formed : Formed c
  ss : c.ss.length ≤ n
  zs : c.zs.length ≤ n
  ls : c.ls.length ≤ n
  sets : ∀ s ∈ c.ss, s.1.length ≤ 5000 ∧ s.2.length ≤ n ∧ ∀ r ∈ s.2, r.2.length ≤ 5000
  zones : ∀ z ∈ c.zs, z.1.length ≤ 5000 ∧ z.2.length ≤ n ∧ ∀ x ∈ z.2, x.2.1.length ≤ 5000
  links : ∀ l ∈ c.ls, l.1.length ≤ 5000 ∧ l.2.length ≤ 5000
theorem Bs_size (l : Bt) : (Bs l).size = l.length := by unfold Bs; simp [ByteArray.size]
theorem cnR_rl {r : List Int × Bt} (h : r.1.length = 8) : cnR (rlOf r) = r := by
  obtain ⟨l, b⟩ := r
  obtain ⟨a1, a2, a3, a4, a5, a6, a7, a8, rfl⟩ := list8 h
  rfl
theorem cnE_er {x : List Int × Bt × Int} (h : x.1.length = 3) : cnE (erOf x) = x := by
  obtain ⟨l, b, u⟩ := x
  obtain ⟨a1, a2, a3, rfl⟩ := list3 h
  rfl
def stAt (p : Pc) (s : Bt × List (List Int × Bt)) : St := match p.v with
  | .slice A _ c => ⟨Bs s.1, A, s.2.length, c, s.2.map rlOf⟩
  | _ => ⟨Bs s.1, none, s.2.length, 0, s.2.map rlOf⟩
def znAt (p : Pc) (s : Bt × List (List Int × Bt × Int)) : Zn := match p.v with
  | .slice A _ c => ⟨Bs s.1, A, s.2.length, c, s.2.map erOf⟩
  | _ => ⟨Bs s.1, none, s.2.length, 0, s.2.map erOf⟩
theorem stAt_cn (p : Pc) {s : Bt × List (List Int × Bt)} (h : ∀ r ∈ s.2, r.1.length = 8) : cnS (stAt p s) = s ∧ (stAt p s).rs.length = (stAt p s).n := by
  have e : (s.2.map rlOf).map cnR = s.2 := by
    rw [List.map_map]
    conv => rhs; rw [← List.map_id s.2]
    exact List.map_congr_left fun r hr => cnR_rl (h r hr)
  unfold stAt cnS
  split <;> exact ⟨Prod.ext (list_Bs s.1) e, by simp⟩
theorem znAt_cn (p : Pc) {s : Bt × List (List Int × Bt × Int)} (h : ∀ r ∈ s.2, r.1.length = 3) : cnZ (znAt p s) = s ∧ (znAt p s).es.length = (znAt p s).n := by
  have e : (s.2.map erOf).map cnE = s.2 := by
    rw [List.map_map]
    conv => rhs; rw [← List.map_id s.2]
    exact List.map_congr_left fun r hr => cnE_er (h r hr)
  unfold znAt cnZ
  split <;> exact ⟨Prod.ext (list_Bs s.1) e, by simp⟩
theorem zip_of {α : Type} {ps : List Pc} {ss : List α} {f : α → ByteArray × Nat × List Value} (h : ps.map pcT = ss.map f) {β : Type} (g : Pc → α → β) {i : Nat} {y : β} (hy : ((ps.zip ss).map fun x => g x.1 x.2)[i]? = some y) :
    ∃ p s, ps[i]? = some p ∧ ss[i]? = some s ∧ y = g p s ∧ pcT p = f s := by
  rw [List.getElem?_map] at hy
  obtain ⟨x, hx, rfl⟩ := Option.map_eq_some_iff.1 hy
  obtain ⟨h1, h2⟩ := List.getElem?_zip_eq_some.1 hx
  refine ⟨x.1, x.2, h1, h2, rfl, ?_⟩
  have e := congrArg (fun l => l[i]?) h
  simp only [List.getElem?_map, h1, h2, Option.map_some] at e
  exact Option.some.inj e
theorem zip_map {α β γ : Type} {ps : List Pc} {ss : List α} (hl : ps.length = ss.length) (g : Pc → α → β) (k : β → γ) (k2 : α → γ) (h : ∀ p s, s ∈ ss → k (g p s) = k2 s) : ((ps.zip ss).map fun x => g x.1 x.2).map k = ss.map k2 := by
  apply List.ext_getElem?
  intro i
  rw [List.getElem?_map, List.getElem?_map, List.getElem?_map]
  cases hs : ss[i]? with
  | none =>
    have : (ps.zip ss)[i]? = none := by
      rw [List.getElem?_eq_none_iff] at hs ⊢
      rw [List.length_zip]; omega
    rw [this]; rfl
  | some s =>
    have hi := (List.getElem?_eq_some_iff.1 hs).1
    have hp := List.getElem?_eq_getElem (l := ps) (i := i) (by omega)
    have : (ps.zip ss)[i]? = some (ps[i], s) := List.getElem?_zip_eq_some.2 ⟨hp, hs⟩
    rw [this]
    exact congrArg some (h _ s (List.mem_of_getElem? hs))
theorem DHold.data {B : Nat} {vs vz vl : Value} {ps pz : List Pc} {c : Cn} {w : World} (h : DHold B vs vz vl ps pz c w) (hz : CnZ 5000 c) :
    ∃ d : Dt, vs = .slice d.sA d.sn d.sc ∧ vz = .slice d.zA d.zn d.zc ∧ vl = .slice d.lA d.ln d.lc ∧ DataAt w w.heap.size d ∧ cnOf d = c ∧ Cons d := by
  have ls : ps.length = c.ss.length := by have := congrArg List.length h.setsC; simpa using this
  have lz : pz.length = c.zs.length := by have := congrArg List.length h.zonesC; simpa using this
  obtain ⟨As, cs, rfl, fs⟩ := ow_form h.sets.row
  obtain ⟨Az, cz, rfl, fz⟩ := ow_form h.zones.row
  obtain ⟨Al, cl, rfl, fl⟩ := ow_form h.links
  have sz : ∀ n : Nat, n ≤ 5000 → n ≤ maxLen := fun n hn => by unfold maxLen; omega
  refine ⟨⟨As, ps.length, cs, (ps.zip c.ss).map fun x => stAt x.1 x.2, Az, pz.length, cz, (pz.zip c.zs).map fun x => znAt x.1 x.2, Al, c.ls.length, cl, c.ls.map lkOf⟩, rfl, rfl, rfl, ⟨⟨?_, ?_, ?_⟩, ⟨?_, ?_, ?_⟩, ?_, ?_⟩, ?_, ⟨?_, ?_, ?_, ?_, ?_⟩⟩
  · simp [ls]
  · exact sz _ (by rw [ls]; exact hz.ss)
  · intro h0
    obtain ⟨g, rfl, _, hlt⟩ := fs h0
    refine ⟨g, 0, rfl, hlt, fun i t ht => ?_⟩
    obtain ⟨p, s, hp, hs, rfl, he⟩ := zip_of h.setsC stAt ht
    have hsm := hz.sets s (List.mem_of_getElem? hs)
    have hed := h.sets.edge i p hp
    obtain ⟨A2, c2, e2, _⟩ := ow_form hed
    unfold pcT stT at he
    simp only [Prod.mk.injEq] at he
    have hst : stAt p s = ⟨Bs s.1, A2, s.2.length, c2, s.2.map rlOf⟩ := by unfold stAt; rw [e2]
    rw [hst, Nat.zero_add]
    have k0 := ow_cell h.sets.row (j := i * 2 + 0) (u := .string p.name) (by rw [show rcs ps = ps.flatMap pcCells2 from rfl, flat_get pcCells2_len ps i p 0 hp (by decide)]; rfl)
    have k1 := ow_cell h.sets.row (j := i * 2 + 1) (u := p.v) (by rw [show rcs ps = ps.flatMap pcCells2 from rfl, flat_get pcCells2_len ps i p 1 hp (by decide)]; rfl)
    rw [e2, he.2.1] at k1
    rw [he.1, Nat.add_zero] at k0
    rw [e2, he.2.1, he.2.2] at hed
    exact ⟨⟨k0, k1⟩, sz _ (by rw [Bs_size]; exact hsm.1), rules_ow hed (sz _ hsm.2.1) (fun x hx => by
      obtain ⟨r, hr, rfl⟩ := List.mem_map.1 hx
      exact sz _ (by show (Bs r.2).size ≤ 5000; rw [Bs_size]; exact hsm.2.2 r hr))⟩
  · simp [lz]
  · exact sz _ (by rw [lz]; exact hz.zs)
  · intro h0
    obtain ⟨g, rfl, _, hlt⟩ := fz h0
    refine ⟨g, 0, rfl, hlt, fun i t ht => ?_⟩
    obtain ⟨p, s, hp, hs, rfl, he⟩ := zip_of h.zonesC znAt ht
    have hsm := hz.zones s (List.mem_of_getElem? hs)
    have hed := h.zones.edge i p hp
    obtain ⟨A2, c2, e2, _⟩ := ow_form hed
    unfold pcT znT at he
    simp only [Prod.mk.injEq] at he
    have hst : znAt p s = ⟨Bs s.1, A2, s.2.length, c2, s.2.map erOf⟩ := by unfold znAt; rw [e2]
    rw [hst, Nat.zero_add]
    have k0 := ow_cell h.zones.row (j := i * 2 + 0) (u := .string p.name) (by rw [show rcs pz = pz.flatMap pcCells2 from rfl, flat_get pcCells2_len pz i p 0 hp (by decide)]; rfl)
    have k1 := ow_cell h.zones.row (j := i * 2 + 1) (u := p.v) (by rw [show rcs pz = pz.flatMap pcCells2 from rfl, flat_get pcCells2_len pz i p 1 hp (by decide)]; rfl)
    rw [e2, he.2.1] at k1
    rw [he.1, Nat.add_zero] at k0
    rw [e2, he.2.1, he.2.2] at hed
    exact ⟨⟨k0, k1⟩, sz _ (by rw [Bs_size]; exact hsm.1), eras_ow hed (sz _ hsm.2.1) (fun x hx => by
      obtain ⟨r, hr, rfl⟩ := List.mem_map.1 hx
      have : (Bs r.2.1).size ≤ 5000 := by rw [Bs_size]; exact hsm.2.2 r hr
      exact Nat.le_trans this (by unfold fmtMax; decide))⟩
  · exact links_ow h.links (sz _ hz.ls) (fun x hx => by
      obtain ⟨r, hr, rfl⟩ := List.mem_map.1 hx
      have := hz.links r hr
      exact ⟨sz _ (by show (Bs r.1).size ≤ 5000; rw [Bs_size]; exact this.1), sz _ (by show (Bs r.2).size ≤ 5000; rw [Bs_size]; exact this.2)⟩)
  · exact Nat.le_trans hz.ls (by unfold fmtMax; decide)
  · unfold cnOf
    have e1 := zip_map ls stAt cnS id (fun p s hs => (stAt_cn p (hz.formed.1 s hs)).1)
    have e2 := zip_map lz znAt cnZ id (fun p s hs => (znAt_cn p (hz.formed.2 s hs)).1)
    rw [List.map_id] at e1 e2
    simp only [e1, e2, List.map_map]
    congr 1
    conv => rhs; rw [← List.map_id c.ls]
    exact List.map_congr_left fun l _ => Prod.ext (list_Bs l.1) (list_Bs l.2)
  · simp [ls]
  · simp [lz]
  · simp
  · intro s hs
    obtain ⟨x, hx, rfl⟩ := List.mem_map.1 hs
    exact (stAt_cn x.1 (hz.formed.1 x.2 (List.of_mem_zip hx).2)).2
  · intro s hs
    obtain ⟨x, hx, rfl⟩ := List.mem_map.1 hs
    exact (znAt_cn x.1 (hz.formed.2 x.2 (List.of_mem_zip hx).2)).2
end Gno
end
/-! source.line: what it leaves alone; a line of a set. -/
section
set_option linter.unusedVariables false
set_option linter.unusedSimpArgs false
set_option maxRecDepth 100000
namespace Gno
open Go Go.RowKit Go.Proofs.YthhjgndaiimgjaaGreatDoor
def fiveT : List TypeId := [48, 53, 57, 59, 61]
/-- what a line leaves alone. -/
structure LG (B X pw : Nat) (w w' : World) : Prop where
  below : Below B w w'
  keep : ∀ k o, w.heap[k]? = some o → k ≠ X → k ≠ pw → (∀ T c fz, o = .cells c T fz → T ∉ fiveT) → w'.heap[k]? = some o
theorem LG.trans {B X pw : Nat} {a b c : World} (h : LG B X pw a b) (k : LG B X pw b c) : LG B X pw a c :=
  ⟨h.below.trans k.below, fun i o hi h1 h2 h3 => k.keep i o (h.keep i o hi h1 h2 h3) h1 h2 h3⟩
theorem LG.of_below {B X pw : Nat} {a b : World} (hB : B ≤ a.heap.size) (h : Below a.heap.size a b) : LG B X pw a b :=
  ⟨h.mono hB, fun i o hi _ _ _ => (h.block i (Array.getElem?_eq_some_iff.1 hi).1).trans hi⟩
theorem LG.of_only {B X pw : Nat} {a b : World} (h : OnlyW B pw a b) : LG B X pw a b :=
  ⟨h.below, fun i o hi _ h2 _ => (h.grown.block i (Array.getElem?_eq_some_iff.1 hi).1 (fun e => h2 (by injection e))).trans hi⟩
theorem LG.of_own {B X pw : Nat} {a b : World} {e : TypeId} {sz n : Nat} {v : Value} {xs : List Value} (hB : B ≤ a.heap.size) (h : a.ownsRow B e sz v n xs) (he : e ∈ fiveT) (hg : a.grownBy b v.ownBlock) : LG B X pw a b := by
  refine ⟨⟨hg.os, hg.tape, hg.output, hg.size, fun k hk => hg.block k (by omega) (fun e => ?_)⟩, fun i o hi _ _ h3 => (hg.block i (Array.getElem?_eq_some_iff.1 hi).1 (fun e => ?_)).trans hi⟩
  · have := (h.lt k e.symm).1; omega
  · obtain ⟨c, hc⟩ := ow_type h e.symm
    rw [hi] at hc
    obtain rfl := Option.some.inj hc
    exact h3 _ _ _ rfl he
theorem LG.set {B X pw : Nat} {a b : World} (h : LG B X pw a b) (hB : B ≤ X) (i : Nat) (v : Value) : LG B X pw a (b.setCell ⟨X, i, none⟩ v) :=
  ⟨h.below.setCell (p := ⟨X, i, none⟩) hB _, fun k o hk h1 h2 h3 => (Below.heap_setCell b ⟨X, i, none⟩ v k h1).trans (h.keep k o hk h1 h2 h3)⟩
theorem LG.setRow {B X pw g : Nat} {a b : World} {c : Array Value} {T : TypeId} (h : LG B X pw a b) (hg : b.heap[g]? = some (.cells c T)) (hT : T ∈ fiveT) (hB : B ≤ g) (i : Nat) (v : Value) : LG B X pw a (b.setCell ⟨g, i, none⟩ v) :=
  ⟨h.below.setCell (p := ⟨g, i, none⟩) hB _, fun k o hk h1 h2 h3 => (Below.heap_setCell b ⟨g, i, none⟩ v k (fun e => by
    have e : k = g := e
    subst e
    have := h.keep k o hk h1 h2 h3
    rw [hg] at this
    obtain rfl := Option.some.inj this
    exact h3 _ _ _ rfl hT)).trans (h.keep k o hk h1 h2 h3)⟩
/-- the box of the data that are read. -/
def XAt (X : Nat) (vs vz vl : Value) (w : World) : Prop := w.heap[X]? = some (.cells #[vs, vz, vl] 26)
def DOwn (B X : Nat) (c : Cn) (w : World) : Prop := ∃ vs vz vl ps pz, XAt X vs vz vl w ∧ DHold B vs vz vl ps pz c w
theorem XAt.grown {X : Nat} {vs vz vl v : Value} {w w1 : World} {B : Nat} {e : TypeId} {sz n : Nat} {xs : List Value} (h : XAt X vs vz vl w) (ho : w.ownsRow B e sz v n xs) (he : e ≠ 26) (hg : w.grownBy w1 v.ownBlock) : XAt X vs vz vl w1 :=
  keepT_own ho hg he X _ _ h
theorem XAt.below {X : Nat} {vs vz vl : Value} {w w1 : World} (h : XAt X vs vz vl w) (hb : Below w.heap.size w w1) : XAt X vs vz vl w1 := keepT_below hb X _ _ h
theorem XAt.only {B X pw : Nat} {vs vz vl : Value} {w w1 : World} (h : XAt X vs vz vl w) (ho : OnlyW B pw w w1) (hne : X ≠ pw) : XAt X vs vz vl w1 :=
  (ho.grown.block X (Array.getElem?_eq_some_iff.1 h).1 (fun e => hne (by injection e))).trans h
theorem wl_block {B pw : Nat} {l : List Bt} {w : World} (h : WLeft B pw l w) : ∃ c, w.heap[pw]? = some (.cells c 80) := by
  obtain ⟨_, R, g, cs, _, h2, _⟩ := h
  exact ⟨_, h2⟩
theorem x_ne_pw {B X pw : Nat} {vs vz vl : Value} {l : List Bt} {w : World} (h : XAt X vs vz vl w) (hW : WLeft B pw l w) : X ≠ pw := by
  obtain ⟨c, hc⟩ := wl_block hW
  rintro rfl
  unfold XAt at h
  rw [hc] at h
  injection h with h
  injection h with _ e
  exact absurd e (by decide)
theorem keepD_only {B pw : Nat} {l : List Bt} {w w1 : World} (hW : WLeft B pw l w) (ho : OnlyW B pw w w1) : KeepD w w1 := by
  obtain ⟨c, hc⟩ := wl_block hW
  exact keepD_grown hc ho.grown (by decide) (by decide) (by decide) (by decide) (by decide)
theorem keepD_x {X : Nat} {vs vz vl : Value} {w : World} (h : XAt X vs vz vl w) (i : Nat) (v : Value) : KeepD w (w.setCell ⟨X, i, none⟩ v) :=
  keepD_set h (by decide) (by decide) (by decide) (by decide) (by decide) i v
theorem WLeft.grown {B pw : Nat} {l : List Bt} {w w1 : World} {B2 : Nat} {e : TypeId} {sz n : Nat} {v : Value} {xs : List Value} (h : WLeft B pw l w) (ho : w.ownsRow B2 e sz v n xs) (hg : w.grownBy w1 v.ownBlock) (h1 : e ≠ 80) (h2 : e ≠ 9) : WLeft B pw l w1 := by
  obtain ⟨h0, R, g, cs, k1, k2, k3, k4⟩ := h
  exact ⟨h0, R, g, cs, k1, keepT_own ho hg h1 _ _ _ k2, keepT_own ho hg h2 _ _ _ k3, k4⟩
theorem WLeft.len {B pw : Nat} {l : List Bt} {w : World} (h : WLeft B pw l w) : ∃ ad, w.cell? ⟨pw, 0, none⟩ = some (.slice (some ad) l.length l.length) := by
  obtain ⟨h0, R, g, cs, k1, k2, k3, k4⟩ := h
  exact ⟨_, cell_of k2 rfl⟩
/-- what comes of a line whose words are read: t is left. -/
def LnR (t : List Bt) (e : Ending) (P : Prop) : Prop := (t = [] → e = .returned (.tuple #[]) ∧ P) ∧ (t ≠ [] → e = .panicked broke)
theorem len_zero {t : List Bt} : t.length = 0 ↔ t = [] := List.length_eq_zero_iff
theorem set_done {B X pw : Nat} {vs vz vl v' : Value} {ps pz : List Pc} {c : Cn} {t : List Bt} {w w2 w3 : World} {x : Bt} (h2 : DHold B vs vz vl ps pz c w2) (hx2 : XAt X vs vz vl w2) (hl2 : WLeft B pw t w2) (hg0 : LG B X pw w w2) (hB2 : B ≤ w2.heap.size) (hX : B ≤ X)
    (hown : w3.ownsRow B 48 2 v' (ps.length + 1) (rcs ps ++ [.string (Bs x), .slice none 0 0])) (hg : (w2.alloc (.cells #[.string (Bs x), .slice none 0 0] 48)).grownBy w3 vs.ownBlock) :
    DOwn B X { c with ss := c.ss ++ [(x, [])] } (w3.setCell ⟨X, 0, none⟩ v') ∧ (∃ vs vz vl, XAt X vs vz vl (w3.setCell ⟨X, 0, none⟩ v')) ∧ WLeft B pw t (w3.setCell ⟨X, 0, none⟩ v') ∧ LG B X pw w (w3.setCell ⟨X, 0, none⟩ v') := by
  have hb : Below w2.heap.size w2 (w2.alloc (.cells #[.string (Bs x), .slice none 0 0] 48)) := (Below.refl _ _).alloc (Nat.le_refl _) _
  have ha := h2.keep (keepD_below hb)
  have hown0 := ha.sets.row
  have h3 := ha.addSet hown hg
  have hx3 : XAt X vs vz vl w3 := (hx2.below hb).grown hown0 (by decide) hg
  have hl3 : WLeft B pw t w3 := (hl2.kept hb).grown hown0 hg (by decide) (by decide)
  have hxp := x_ne_pw hx3 hl3
  have hx4 : XAt X v' vz vl (w3.setCell ⟨X, 0, none⟩ v') := (set_block (l := [vs, vz, vl]) hx3 v').trans rfl
  refine ⟨⟨_, _, _, _, _, hx4, h3.keep (keepD_x hx3 _ _)⟩, ⟨_, _, _, hx4⟩, hl3.set hx3 (by decide) hxp _, ?_⟩
  exact (hg0.trans ((LG.of_below hB2 hb).trans (LG.of_own (by simp; omega) hown0 (by decide) hg))).set hX _ _
theorem zone_done {B X pw : Nat} {vs vz vl v' : Value} {ps pz : List Pc} {c : Cn} {t : List Bt} {w w2 w3 : World} {x : Bt} (h2 : DHold B vs vz vl ps pz c w2) (hx2 : XAt X vs vz vl w2) (hl2 : WLeft B pw t w2) (hg0 : LG B X pw w w2) (hB2 : B ≤ w2.heap.size) (hX : B ≤ X)
    (hown : w3.ownsRow B 57 2 v' (pz.length + 1) (rcs pz ++ [.string (Bs x), .slice none 0 0])) (hg : (w2.alloc (.cells #[.string (Bs x), .slice none 0 0] 57)).grownBy w3 vz.ownBlock) :
    DOwn B X { c with zs := c.zs ++ [(x, [])] } (w3.setCell ⟨X, 1, none⟩ v') ∧ (∃ vs vz vl, XAt X vs vz vl (w3.setCell ⟨X, 1, none⟩ v')) ∧ WLeft B pw t (w3.setCell ⟨X, 1, none⟩ v') ∧ LG B X pw w (w3.setCell ⟨X, 1, none⟩ v') := by
  have hb : Below w2.heap.size w2 (w2.alloc (.cells #[.string (Bs x), .slice none 0 0] 57)) := (Below.refl _ _).alloc (Nat.le_refl _) _
  have ha := h2.keep (keepD_below hb)
  have hown0 := ha.zones.row
  have h3 := ha.addZone hown hg
  have hx3 : XAt X vs vz vl w3 := (hx2.below hb).grown hown0 (by decide) hg
  have hl3 : WLeft B pw t w3 := (hl2.kept hb).grown hown0 hg (by decide) (by decide)
  have hxp := x_ne_pw hx3 hl3
  have hx4 : XAt X vs v' vl (w3.setCell ⟨X, 1, none⟩ v') := (set_block (l := [vs, vz, vl]) hx3 v').trans rfl
  refine ⟨⟨_, _, _, _, _, hx4, h3.keep (keepD_x hx3 _ _)⟩, ⟨_, _, _, hx4⟩, hl3.set hx3 (by decide) hxp _, ?_⟩
  exact (hg0.trans ((LG.of_below hB2 hb).trans (LG.of_own (by simp; omega) hown0 (by decide) hg))).set hX _ _
theorem link_done {B X pw : Nat} {vs vz vl v' : Value} {ps pz : List Pc} {c : Cn} {t : List Bt} {w w2 w3 : World} {x y : Bt} (h2 : DHold B vs vz vl ps pz c w2) (hx2 : XAt X vs vz vl w2) (hl2 : WLeft B pw t w2) (hg0 : LG B X pw w w2) (hB2 : B ≤ w2.heap.size) (hX : B ≤ X)
    (hown : w3.ownsRow B 61 2 v' (c.ls.length + 1) (lks (c.ls.map lkOf) ++ [.string (Bs x), .string (Bs y)])) (hg : (w2.alloc (.cells #[.string (Bs x), .string (Bs y)] 61)).grownBy w3 vl.ownBlock) :
    DOwn B X { c with ls := c.ls ++ [(x, y)] } (w3.setCell ⟨X, 2, none⟩ v') ∧ (∃ vs vz vl, XAt X vs vz vl (w3.setCell ⟨X, 2, none⟩ v')) ∧ WLeft B pw t (w3.setCell ⟨X, 2, none⟩ v') ∧ LG B X pw w (w3.setCell ⟨X, 2, none⟩ v') := by
  have hb : Below w2.heap.size w2 (w2.alloc (.cells #[.string (Bs x), .string (Bs y)] 61)) := (Below.refl _ _).alloc (Nat.le_refl _) _
  have ha := h2.keep (keepD_below hb)
  have hown0 := ha.links
  have h3 := ha.addLink hown hg
  have hx3 : XAt X vs vz vl w3 := (hx2.below hb).grown hown0 (by decide) hg
  have hl3 : WLeft B pw t w3 := (hl2.kept hb).grown hown0 hg (by decide) (by decide)
  have hxp := x_ne_pw hx3 hl3
  have hx4 : XAt X vs vz v' (w3.setCell ⟨X, 2, none⟩ v') := (set_block (l := [vs, vz, vl]) hx3 v').trans rfl
  refine ⟨⟨_, _, _, _, _, hx4, h3.keep (keepD_x hx3 _ _)⟩, ⟨_, _, _, hx4⟩, hl3.set hx3 (by decide) hxp _, ?_⟩
  exact (hg0.trans ((LG.of_below hB2 hb).trans (LG.of_own (by simp; omega) hown0 (by decide) hg))).set hX _ _
end Gno
namespace Go.Proofs.YthhjgndaiimgjaaGreatDoor
open Go.RowKit Gno
theorem infoSetP : (Tryz.prog.info? 48).map (fun i => (i.zero, i.size, i.bytes)) = some (some (.agg #[.string ⟨#[]⟩, .slice none 0 0]), 2, 40) := by kernel_rfl
theorem infoZoneP : (Tryz.prog.info? 57).map (fun i => (i.zero, i.size, i.bytes)) = some (some (.agg #[.string ⟨#[]⟩, .slice none 0 0]), 2, 40) := by kernel_rfl
theorem infoRuleP : (Tryz.prog.info? 53).map (fun i => (i.zero, i.size, i.bytes)) = some (some (.agg #[.int .i64 0, .int .i64 0, .int .i64 0, .int .i64 0, .int .i64 0, .int .i64 0, .int .i64 0, .int .i64 0, .string ⟨#[]⟩]), 9, 80) := by kernel_rfl
theorem infoEraP : (Tryz.prog.info? 59).map (fun i => (i.zero, i.size, i.bytes)) = some (some (.agg #[.int .i64 0, .int .i64 0, .int .i64 0, .string ⟨#[]⟩, .int .i64 0]), 5, 48) := by kernel_rfl
set_option maxHeartbeats 8000000 in
theorem ln_set (B X pw n : Nat) (c : Cn) (x : Bt) (t : List Bt) (w : World) (hD : DOwn B X c w) (hz : CnZ n c) (hn : n ≤ 5000) (hW : WLeft B pw (wSet :: x :: t) w) (hX : B ≤ X) (hB : B ≤ w.heap.size) (hl : t.length ≤ 100000) :
    Calls Tryz.prog 28 #[.pointer (some ⟨X, 0, none⟩), .pointer (some ⟨pw, 0, none⟩)] w fun e w' => LG B X pw w w' ∧ (∃ vs vz vl, XAt X vs vz vl w') ∧ LnR t e (DOwn B X { c with ss := c.ss ++ [(x, [])] } w') := by
  obtain ⟨vs, vz, vl, ps, pz, hx, hd⟩ := hD
  have hxp := x_ne_pw hx hW
  have C1 : Hid (Calls Tryz.prog 65 #[.pointer (some ⟨pw, 0, none⟩)] w fun e w' => e = .returned (.string ⟨#[115, 101, 116]⟩) ∧ WLeft B pw (x :: t) w' ∧ OnlyW B pw w w') := Lib.hid (text_some B pw wSet (x :: t) w hW (by simp; omega))
  have C2 : Hid (∀ W, WLeft B pw (x :: t) W → Calls Tryz.prog 65 #[.pointer (some ⟨pw, 0, none⟩)] W fun e w' => e = .returned (.string (Bs x)) ∧ WLeft B pw t w' ∧ OnlyW B pw W w') := Lib.hid fun W h => text_some B pw x t W h (by omega)
  have HD := Lib.hid hd
  have hps : ps.length ≤ 5000 := by have := congrArg List.length hd.setsC; simp at this; have := hz.ss; omega
  have HW := Lib.hid hW
  have HX0 := Lib.hid hx
  obtain ⟨i0, hi, hz0, hz1, hz2⟩ := info_parts infoSetP
  have HI := Lib.hid hi
  have HZ0 := Lib.hid hz0
  have HZ1 := Lib.hid hz1
  have HZ2 := Lib.hid hz2
  obtain ⟨a, ha⟩ : ∃ a, a = Bs x := ⟨_, rfl⟩
  have HA := Lib.hid ha
  rw [← ha] at C2
  obtain ⟨m, hm⟩ : ∃ m, m = t.length := ⟨_, rfl⟩
  have HM := Lib.hid hm
  clear hd hz hW hx hi hz0 hz1 hz2 ha hm
  go_enter Tryz.func28, Tryz.ntmps28
  go_upto_region 3 with (go_at_call 65; (with_reducible refine C1.out.mono ?_); rintro e w1 ⟨rfl, hl1, ho1⟩)
  have HX1 : Hid (XAt X vs vz vl w1) := Lib.hid (HX0.out.only ho1 hxp)
  have HD1 : Hid (DHold B vs vz vl ps pz c w1) := Lib.hid (HD.out.keep (keepD_only HW.out ho1))
  have hB1 : B ≤ w1.heap.size := Nat.le_trans hB ho1.grown.size
  have d0 : w1.drew.cell? ⟨X, 0, none⟩ = some vs := cell_of (W := w1.drew) HX1.out rfl
  have HLd : Hid (WLeft B pw (x :: t) w1.drew) := Lib.hid (hl1.kept (Below.refl _ _).drew)
  have HG1 : Hid (LG B X pw w w1.drew) := Lib.hid ((LG.of_only ho1).trans (LG.of_below hB1 (Below.refl _ _).drew))
  clear hl1 ho1
  go_region_law (first
    | (refine step_append_lies _ rfl _ _ 22 rfl B 48 i0 (.agg #[.string ⟨#[]⟩, .slice none 0 0]) 2 40 Tryz.underlying22 HI.out HZ0.out HZ1.out HZ2.out rfl (by decide) vs ps.length (rcs ps) rfl HR2.out ⟨w2.heap.size, 0, none⟩ 1 1 [.string a, .slice none 0 0] rfl rfl laid_at (by intro u hu; simp at hu; rcases hu with rfl | rfl <;> rfl) (by decide) (by unfold maxLen; omega) (by omega) (by simp; omega) _ rfl ?_; intro g cap w3 hown hg2 hat hlt; have hx3 : XAt X vs vz vl w3 := XAt.grown HXA.out HR2.out (by decide) hg2; have e3 : w3.cell? ⟨X, 0, none⟩ = some vs := cell_of hx3 rfl; have f3 : w3.frozen? ⟨X, 0, none⟩ = false := frozen_of hx3; have HF := Lib.hid (HDN.out g cap w3 hown hg2); obtain ⟨ad, hlen⟩ := HF.out.2.2.1.len; rw [← HM.out] at hlen)
    | (go_simp; go_at_call 65; (with_reducible refine (C2.out _ HLd.out).mono ?_); rintro e w2 ⟨rfl, hl2, ho2⟩; have hx2 : XAt X vs vz vl w2 := XAt.only (w := w1.drew) HX1.out ho2 hxp; have hb2 : B ≤ w2.heap.size := Nat.le_trans hB1 ho2.grown.size; have e0 : w2.cell? ⟨X, 0, none⟩ = some vs := cell_of hx2 rfl; have HXA : Hid (XAt X vs vz vl (w2.alloc (.cells #[.string a, .slice none 0 0] 48))) := Lib.hid (hx2.below ((Below.refl _ _).alloc (Nat.le_refl _) _)); have e1 : (w2.alloc (.cells #[.string a, .slice none 0 0] 48)).cell? ⟨X, 0, none⟩ = some vs := cell_of HXA.out rfl; have HD2 : Hid (DHold B vs vz vl ps pz c w2) := Lib.hid ((HD1.out.keep (keepD_below (Below.refl _ _).drew)).keep (keepD_only HLd.out ho2)); have HR2 : Hid ((w2.alloc (.cells #[.string a, .slice none 0 0] 48)).ownsRow B 48 2 vs ps.length (rcs ps)) := Lib.hid (by (have := (HD2.out.keep (keepD_below ((Below.refl _ _).alloc (Nat.le_refl _) (.cells #[.string a, .slice none 0 0] 48)))).sets.row; exact this)); have HDN : Hid (∀ g cap w3, w3.ownsRow B 48 2 (.slice (some ⟨g, 0, none⟩) (ps.length + 1) cap) (ps.length + 1) (rcs ps ++ [.string a, .slice none 0 0]) → (w2.alloc (.cells #[.string a, .slice none 0 0] 48)).grownBy w3 vs.ownBlock → DOwn B X { c with ss := c.ss ++ [(x, [])] } (w3.setCell ⟨X, 0, none⟩ (.slice (some ⟨g, 0, none⟩) (ps.length + 1) cap)) ∧ (∃ vs vz vl, XAt X vs vz vl (w3.setCell ⟨X, 0, none⟩ (.slice (some ⟨g, 0, none⟩) (ps.length + 1) cap))) ∧ WLeft B pw t (w3.setCell ⟨X, 0, none⟩ (.slice (some ⟨g, 0, none⟩) (ps.length + 1) cap)) ∧ LG B X pw w (w3.setCell ⟨X, 0, none⟩ (.slice (some ⟨g, 0, none⟩) (ps.length + 1) cap))) := Lib.hid fun g cap w3 hown hg => by (rw [HA.out] at hown hg; exact set_done HD2.out hx2 hl2 (HG1.out.trans (LG.of_only ho2)) hb2 hX (by first | exact hown | (rw [← HNN.out]; exact hown)) hg)))
  all_goals (clear e0 e1 e3 f3 d0)
  all_goals (by_cases hm0 : m = 0)
  all_goals first
    | (subst hm0
       go_wp2
       go_end0
       exact ⟨HF.out.2.2.2, HF.out.2.1, fun _ => ⟨rfl, HF.out.1⟩, fun e => absurd (len_zero.1 HM.out.symm) e⟩)
    | (have hmp : 0 < m := by omega
       go_wp2
       exact ⟨rfl, HF.out.2.2.2, HF.out.2.1, fun e => absurd (HM.out.trans (len_zero.2 e)) hm0, fun _ => rfl⟩)
set_option maxHeartbeats 8000000 in
theorem ln_setN (B X pw : Nat) (c : Cn) (w : World) (hD : DOwn B X c w) (hW : WLeft B pw ([wSet]) w) (hX : B ≤ X) (hB : B ≤ w.heap.size) :
    Calls Tryz.prog 28 #[.pointer (some ⟨X, 0, none⟩), .pointer (some ⟨pw, 0, none⟩)] w fun e w' => LG B X pw w w' ∧ (∃ vs vz vl, XAt X vs vz vl w') ∧ e = .panicked broke := by
  obtain ⟨vs, vz, vl, ps, pz, hx, hd⟩ := hD
  have hxp := x_ne_pw hx hW
  have C1 : Hid (Calls Tryz.prog 65 #[.pointer (some ⟨pw, 0, none⟩)] w fun e w' => e = .returned (.string ⟨#[115, 101, 116]⟩) ∧ WLeft B pw [] w' ∧ OnlyW B pw w w') := Lib.hid (text_some B pw wSet [] w hW (by simp))
  have C3 : Hid (∀ W, WLeft B pw [] W → Calls Tryz.prog 65 #[.pointer (some ⟨pw, 0, none⟩)] W fun e w' => e = .panicked broke ∧ W = w') := Lib.hid fun W h => text_none B pw W h
  have HX0 := Lib.hid hx
  clear hW hx hd
  go_enter Tryz.func28, Tryz.ntmps28
  go_upto_region 3 with (go_at_call 65; (with_reducible refine C1.out.mono ?_); rintro e w1 ⟨rfl, hl1, ho1⟩)
  have HX1 : Hid (XAt X vs vz vl w1) := Lib.hid (HX0.out.only ho1 hxp)
  have hB1 : B ≤ w1.heap.size := Nat.le_trans hB ho1.grown.size
  have d0 : w1.drew.cell? ⟨X, 0, none⟩ = some vs := cell_of (W := w1.drew) HX1.out rfl
  have HLd : Hid (WLeft B pw [] w1.drew) := Lib.hid (hl1.kept (Below.refl _ _).drew)
  have HG1 : Hid (LG B X pw w w1.drew) := Lib.hid ((LG.of_only ho1).trans (LG.of_below hB1 (Below.refl _ _).drew))
  have HXd : Hid (XAt X vs vz vl w1.drew) := Lib.hid HX1.out
  clear hl1 ho1
  refine wp_region_held_drew (S := (fun w' => w'.cell? ⟨X, 0, none⟩ = some vs ∧ True)) (by kernel_rfl) ⟨d0, trivial⟩ (fun hHeld => ?_)
  refine wpAnyH_take (i := 0) (oi := _) (v := ?_) rfl (by kernel_rfl) (by kernel_rfl) (by kernel_rfl) (fun _ _ _ h => h) (Or.inl ⟨by rfl, ?_⟩) hHeld ?_
  rotate_left
  · intro w hw; obtain ⟨k0, _⟩ := hw; go_simp <;> with_reducible rfl
  refine wpAnyH_take (i := 1) (oi := _) (v := ?_) rfl (by kernel_rfl) (by kernel_rfl) (by kernel_rfl) (fun _ _ _ h => h) (Or.inl ⟨by rfl, ?_⟩) hHeld ?_
  rotate_left
  · intro w hw; obtain ⟨k0, _⟩ := hw; go_simp <;> with_reducible rfl
  refine wpAnyH_take (i := 2) (oi := _) (v := ?_) rfl (by kernel_rfl) (by kernel_rfl) (by kernel_rfl) (fun _ _ _ h => h) (Or.inl ⟨by rfl, ?_⟩) hHeld ?_
  rotate_left
  · intro w hw; obtain ⟨k0, _⟩ := hw; go_simp <;> with_reducible rfl
  refine wpAnyH_take (i := 3) (oi := _) (v := ?_) rfl (by kernel_rfl) (by kernel_rfl) (by kernel_rfl) (fun _ _ _ h => h) (Or.inl ⟨by rfl, ?_⟩) hHeld ?_
  rotate_left
  · intro w hw; obtain ⟨k0, _⟩ := hw; go_simp <;> with_reducible rfl
  refine wpAnyH_take (i := 4) (oi := _) (v := ?_) rfl (by kernel_rfl) (by kernel_rfl) (by kernel_rfl) (fun _ _ _ h => h) (Or.inl ⟨by rfl, ?_⟩) hHeld ?_
  rotate_left
  · intro w hw; obtain ⟨k0, _⟩ := hw; go_simp <;> with_reducible rfl
  refine wpAnyH_take (i := 5) (oi := _) (v := ?_) rfl (by kernel_rfl) (by kernel_rfl) (by kernel_rfl) (fun _ _ _ h => h) (Or.inl ⟨by rfl, ?_⟩) hHeld ?_
  rotate_left
  · intro w hw; obtain ⟨k0, _⟩ := hw; go_simp <;> with_reducible rfl
  refine wpAnyH_ready (rs := [6]) (by kernel_rfl) (by simp) ?_
  refine AllReadyH.cons (o := _) rfl (fun K hK => ?_) AllReadyH.nil
  simp only [List.getElem_toArray, List.getElem_cons_zero, List.getElem_cons_succ]
  go_simp
  refine (C3.out _ HLd.out).mono ?_
  rintro e w3 ⟨rfl, rfl⟩
  exact ⟨rfl, HG1.out, ⟨_, _, _, HXd.out⟩, rfl⟩
end Go.Proofs.YthhjgndaiimgjaaGreatDoor
end
/-! source.line: zones. -/
section
set_option linter.unusedVariables false
set_option linter.unusedSimpArgs false
set_option maxRecDepth 100000
namespace Go.Proofs.YthhjgndaiimgjaaGreatDoor
open Go.RowKit Gno
set_option maxHeartbeats 8000000 in
theorem ln_zone (B X pw n : Nat) (c : Cn) (x : Bt) (t : List Bt) (w : World) (hD : DOwn B X c w) (hz : CnZ n c) (hn : n ≤ 5000) (hW : WLeft B pw (wZone :: x :: t) w) (hX : B ≤ X) (hB : B ≤ w.heap.size) (hl : t.length ≤ 100000) :
    Calls Tryz.prog 28 #[.pointer (some ⟨X, 0, none⟩), .pointer (some ⟨pw, 0, none⟩)] w fun e w' => LG B X pw w w' ∧ (∃ vs vz vl, XAt X vs vz vl w') ∧ LnR t e (DOwn B X { c with zs := c.zs ++ [(x, [])] } w') := by
  obtain ⟨vs, vz, vl, ps, pz, hx, hd⟩ := hD
  have hxp := x_ne_pw hx hW
  have C1 : Hid (Calls Tryz.prog 65 #[.pointer (some ⟨pw, 0, none⟩)] w fun e w' => e = .returned (.string ⟨#[122, 111, 110, 101]⟩) ∧ WLeft B pw (x :: t) w' ∧ OnlyW B pw w w') := Lib.hid (text_some B pw wZone (x :: t) w hW (by simp; omega))
  have C2 : Hid (∀ W, WLeft B pw (x :: t) W → Calls Tryz.prog 65 #[.pointer (some ⟨pw, 0, none⟩)] W fun e w' => e = .returned (.string (Bs x)) ∧ WLeft B pw t w' ∧ OnlyW B pw W w') := Lib.hid fun W h => text_some B pw x t W h (by omega)
  have HD := Lib.hid hd
  have hps : pz.length ≤ 5000 := by have := congrArg List.length hd.zonesC; simp at this; have := hz.zs; omega
  have HW := Lib.hid hW
  have HX0 := Lib.hid hx
  obtain ⟨i0, hi, hz0, hz1, hz2⟩ := info_parts infoZoneP
  have HI := Lib.hid hi
  have HZ0 := Lib.hid hz0
  have HZ1 := Lib.hid hz1
  have HZ2 := Lib.hid hz2
  obtain ⟨a, ha⟩ : ∃ a, a = Bs x := ⟨_, rfl⟩
  have HA := Lib.hid ha
  rw [← ha] at C2
  obtain ⟨m, hm⟩ : ∃ m, m = t.length := ⟨_, rfl⟩
  have HM := Lib.hid hm
  clear hd hz hW hx hi hz0 hz1 hz2 ha hm
  go_enter Tryz.func28, Tryz.ntmps28
  go_upto_region 10 with (go_at_call 65; (with_reducible refine C1.out.mono ?_); rintro e w1 ⟨rfl, hl1, ho1⟩)
  have HX1 : Hid (XAt X vs vz vl w1) := Lib.hid (HX0.out.only ho1 hxp)
  have HD1 : Hid (DHold B vs vz vl ps pz c w1) := Lib.hid (HD.out.keep (keepD_only HW.out ho1))
  have hB1 : B ≤ w1.heap.size := Nat.le_trans hB ho1.grown.size
  have d0 : w1.drew.cell? ⟨X, 1, none⟩ = some vz := cell_of (W := w1.drew) HX1.out rfl
  have HLd : Hid (WLeft B pw (x :: t) w1.drew) := Lib.hid (hl1.kept (Below.refl _ _).drew)
  have HG1 : Hid (LG B X pw w w1.drew) := Lib.hid ((LG.of_only ho1).trans (LG.of_below hB1 (Below.refl _ _).drew))
  clear hl1 ho1
  go_region_law (first
    | (refine step_append_lies _ rfl _ _ 23 rfl B 57 i0 (.agg #[.string ⟨#[]⟩, .slice none 0 0]) 2 40 Tryz.underlying23 HI.out HZ0.out HZ1.out HZ2.out rfl (by decide) vz pz.length (rcs pz) rfl HR2.out ⟨w2.heap.size, 0, none⟩ 1 1 [.string a, .slice none 0 0] rfl rfl laid_at (by intro u hu; simp at hu; rcases hu with rfl | rfl <;> rfl) (by decide) (by unfold maxLen; omega) (by omega) (by simp; omega) _ rfl ?_; intro g cap w3 hown hg2 hat hlt; have hx3 : XAt X vs vz vl w3 := XAt.grown HXA.out HR2.out (by decide) hg2; have e3 : w3.cell? ⟨X, 1, none⟩ = some vz := cell_of hx3 rfl; have f3 : w3.frozen? ⟨X, 1, none⟩ = false := frozen_of hx3; have HF := Lib.hid (HDN.out g cap w3 hown hg2); obtain ⟨ad, hlen⟩ := HF.out.2.2.1.len; rw [← HM.out] at hlen)
    | (go_simp; go_at_call 65; (with_reducible refine (C2.out _ HLd.out).mono ?_); rintro e w2 ⟨rfl, hl2, ho2⟩; have hx2 : XAt X vs vz vl w2 := XAt.only (w := w1.drew) HX1.out ho2 hxp; have hb2 : B ≤ w2.heap.size := Nat.le_trans hB1 ho2.grown.size; have e0 : w2.cell? ⟨X, 1, none⟩ = some vz := cell_of hx2 rfl; have HXA : Hid (XAt X vs vz vl (w2.alloc (.cells #[.string a, .slice none 0 0] 57))) := Lib.hid (hx2.below ((Below.refl _ _).alloc (Nat.le_refl _) _)); have e1 : (w2.alloc (.cells #[.string a, .slice none 0 0] 57)).cell? ⟨X, 1, none⟩ = some vz := cell_of HXA.out rfl; have HD2 : Hid (DHold B vs vz vl ps pz c w2) := Lib.hid ((HD1.out.keep (keepD_below (Below.refl _ _).drew)).keep (keepD_only HLd.out ho2)); have HR2 : Hid ((w2.alloc (.cells #[.string a, .slice none 0 0] 57)).ownsRow B 57 2 vz pz.length (rcs pz)) := Lib.hid (by (have := (HD2.out.keep (keepD_below ((Below.refl _ _).alloc (Nat.le_refl _) (.cells #[.string a, .slice none 0 0] 57)))).zones.row; exact this)); have HDN : Hid (∀ g cap w3, w3.ownsRow B 57 2 (.slice (some ⟨g, 0, none⟩) (pz.length + 1) cap) (pz.length + 1) (rcs pz ++ [.string a, .slice none 0 0]) → (w2.alloc (.cells #[.string a, .slice none 0 0] 57)).grownBy w3 vz.ownBlock → DOwn B X { c with zs := c.zs ++ [(x, [])] } (w3.setCell ⟨X, 1, none⟩ (.slice (some ⟨g, 0, none⟩) (pz.length + 1) cap)) ∧ (∃ vs vz vl, XAt X vs vz vl (w3.setCell ⟨X, 1, none⟩ (.slice (some ⟨g, 0, none⟩) (pz.length + 1) cap))) ∧ WLeft B pw t (w3.setCell ⟨X, 1, none⟩ (.slice (some ⟨g, 0, none⟩) (pz.length + 1) cap)) ∧ LG B X pw w (w3.setCell ⟨X, 1, none⟩ (.slice (some ⟨g, 0, none⟩) (pz.length + 1) cap))) := Lib.hid fun g cap w3 hown hg => by (rw [HA.out] at hown hg; exact zone_done HD2.out hx2 hl2 (HG1.out.trans (LG.of_only ho2)) hb2 hX (by first | exact hown | (rw [← HNN.out]; exact hown)) hg)))
  all_goals (clear e0 e1 e3 f3 d0)
  all_goals (by_cases hm0 : m = 0)
  all_goals first
    | (subst hm0
       go_wp2
       go_end0
       exact ⟨HF.out.2.2.2, HF.out.2.1, fun _ => ⟨rfl, HF.out.1⟩, fun e => absurd (len_zero.1 HM.out.symm) e⟩)
    | (have hmp : 0 < m := by omega
       go_wp2
       exact ⟨rfl, HF.out.2.2.2, HF.out.2.1, fun e => absurd (HM.out.trans (len_zero.2 e)) hm0, fun _ => rfl⟩)
set_option maxHeartbeats 8000000 in
theorem ln_zoneN (B X pw : Nat) (c : Cn) (w : World) (hD : DOwn B X c w) (hW : WLeft B pw ([wZone]) w) (hX : B ≤ X) (hB : B ≤ w.heap.size) :
    Calls Tryz.prog 28 #[.pointer (some ⟨X, 0, none⟩), .pointer (some ⟨pw, 0, none⟩)] w fun e w' => LG B X pw w w' ∧ (∃ vs vz vl, XAt X vs vz vl w') ∧ e = .panicked broke := by
  obtain ⟨vs, vz, vl, ps, pz, hx, hd⟩ := hD
  have hxp := x_ne_pw hx hW
  have C1 : Hid (Calls Tryz.prog 65 #[.pointer (some ⟨pw, 0, none⟩)] w fun e w' => e = .returned (.string ⟨#[122, 111, 110, 101]⟩) ∧ WLeft B pw [] w' ∧ OnlyW B pw w w') := Lib.hid (text_some B pw wZone [] w hW (by simp))
  have C3 : Hid (∀ W, WLeft B pw [] W → Calls Tryz.prog 65 #[.pointer (some ⟨pw, 0, none⟩)] W fun e w' => e = .panicked broke ∧ W = w') := Lib.hid fun W h => text_none B pw W h
  have HX0 := Lib.hid hx
  clear hW hx hd
  go_enter Tryz.func28, Tryz.ntmps28
  go_upto_region 10 with (go_at_call 65; (with_reducible refine C1.out.mono ?_); rintro e w1 ⟨rfl, hl1, ho1⟩)
  have HX1 : Hid (XAt X vs vz vl w1) := Lib.hid (HX0.out.only ho1 hxp)
  have hB1 : B ≤ w1.heap.size := Nat.le_trans hB ho1.grown.size
  have d0 : w1.drew.cell? ⟨X, 1, none⟩ = some vz := cell_of (W := w1.drew) HX1.out rfl
  have HLd : Hid (WLeft B pw [] w1.drew) := Lib.hid (hl1.kept (Below.refl _ _).drew)
  have HG1 : Hid (LG B X pw w w1.drew) := Lib.hid ((LG.of_only ho1).trans (LG.of_below hB1 (Below.refl _ _).drew))
  have HXd : Hid (XAt X vs vz vl w1.drew) := Lib.hid HX1.out
  clear hl1 ho1
  refine wp_region_held_drew (S := (fun w' => w'.cell? ⟨X, 1, none⟩ = some vz ∧ True)) (by kernel_rfl) ⟨d0, trivial⟩ (fun hHeld => ?_)
  refine wpAnyH_take (i := 0) (oi := _) (v := ?_) rfl (by kernel_rfl) (by kernel_rfl) (by kernel_rfl) (fun _ _ _ h => h) (Or.inl ⟨by rfl, ?_⟩) hHeld ?_
  rotate_left
  · intro w hw; obtain ⟨k0, _⟩ := hw; go_simp <;> with_reducible rfl
  refine wpAnyH_take (i := 1) (oi := _) (v := ?_) rfl (by kernel_rfl) (by kernel_rfl) (by kernel_rfl) (fun _ _ _ h => h) (Or.inl ⟨by rfl, ?_⟩) hHeld ?_
  rotate_left
  · intro w hw; obtain ⟨k0, _⟩ := hw; go_simp <;> with_reducible rfl
  refine wpAnyH_take (i := 2) (oi := _) (v := ?_) rfl (by kernel_rfl) (by kernel_rfl) (by kernel_rfl) (fun _ _ _ h => h) (Or.inl ⟨by rfl, ?_⟩) hHeld ?_
  rotate_left
  · intro w hw; obtain ⟨k0, _⟩ := hw; go_simp <;> with_reducible rfl
  refine wpAnyH_take (i := 3) (oi := _) (v := ?_) rfl (by kernel_rfl) (by kernel_rfl) (by kernel_rfl) (fun _ _ _ h => h) (Or.inl ⟨by rfl, ?_⟩) hHeld ?_
  rotate_left
  · intro w hw; obtain ⟨k0, _⟩ := hw; go_simp <;> with_reducible rfl
  refine wpAnyH_take (i := 4) (oi := _) (v := ?_) rfl (by kernel_rfl) (by kernel_rfl) (by kernel_rfl) (fun _ _ _ h => h) (Or.inl ⟨by rfl, ?_⟩) hHeld ?_
  rotate_left
  · intro w hw; obtain ⟨k0, _⟩ := hw; go_simp <;> with_reducible rfl
  refine wpAnyH_take (i := 5) (oi := _) (v := ?_) rfl (by kernel_rfl) (by kernel_rfl) (by kernel_rfl) (fun _ _ _ h => h) (Or.inl ⟨by rfl, ?_⟩) hHeld ?_
  rotate_left
  · intro w hw; obtain ⟨k0, _⟩ := hw; go_simp <;> with_reducible rfl
  refine wpAnyH_ready (rs := [6]) (by kernel_rfl) (by simp) ?_
  refine AllReadyH.cons (o := _) rfl (fun K hK => ?_) AllReadyH.nil
  simp only [List.getElem_toArray, List.getElem_cons_zero, List.getElem_cons_succ]
  go_simp
  refine (C3.out _ HLd.out).mono ?_
  rintro e w3 ⟨rfl, rfl⟩
  exact ⟨rfl, HG1.out, ⟨_, _, _, HXd.out⟩, rfl⟩
end Go.Proofs.YthhjgndaiimgjaaGreatDoor
end
/-! source.line: links. -/
section
set_option linter.unusedVariables false
set_option linter.unusedSimpArgs false
set_option maxRecDepth 100000
namespace Go.Proofs.YthhjgndaiimgjaaGreatDoor
open Go.RowKit Gno
set_option maxHeartbeats 8000000 in
theorem ln_link (B X pw n : Nat) (c : Cn) (x y : Bt) (t : List Bt) (w : World) (hD : DOwn B X c w) (hz : CnZ n c) (hn : n ≤ 5000) (hW : WLeft B pw (wLink :: x :: y :: t) w) (hX : B ≤ X) (hB : B ≤ w.heap.size) (hl : t.length ≤ 100000) :
    Calls Tryz.prog 28 #[.pointer (some ⟨X, 0, none⟩), .pointer (some ⟨pw, 0, none⟩)] w fun e w' => LG B X pw w w' ∧ (∃ vs vz vl, XAt X vs vz vl w') ∧ LnR t e (DOwn B X { c with ls := c.ls ++ [(x, y)] } w') := by
  obtain ⟨vs, vz, vl, ps, pz, hx, hd⟩ := hD
  have hxp := x_ne_pw hx hW
  have C1 : Hid (Calls Tryz.prog 65 #[.pointer (some ⟨pw, 0, none⟩)] w fun e w' => e = .returned (.string ⟨#[108, 105, 110, 107]⟩) ∧ WLeft B pw (x :: y :: t) w' ∧ OnlyW B pw w w') := Lib.hid (text_some B pw wLink (x :: y :: t) w hW (by simp; omega))
  have C2 : Hid (∀ W, WLeft B pw (x :: y :: t) W → Calls Tryz.prog 65 #[.pointer (some ⟨pw, 0, none⟩)] W fun e w' => e = .returned (.string (Bs x)) ∧ WLeft B pw (y :: t) w' ∧ OnlyW B pw W w') := Lib.hid fun W h => text_some B pw x (y :: t) W h (by simp; omega)
  have C3 : Hid (∀ W, WLeft B pw (y :: t) W → Calls Tryz.prog 65 #[.pointer (some ⟨pw, 0, none⟩)] W fun e w' => e = .returned (.string (Bs y)) ∧ WLeft B pw t w' ∧ OnlyW B pw W w') := Lib.hid fun W h => text_some B pw y t W h (by omega)
  have HD := Lib.hid hd
  have hps : c.ls.length ≤ 5000 := by have := hz.ls; omega
  have HW := Lib.hid hW
  have HX0 := Lib.hid hx
  obtain ⟨i0, hi, hz0, hz1, hz2⟩ := info_parts infoLink
  have HI := Lib.hid hi
  have HZ0 := Lib.hid hz0
  have HZ1 := Lib.hid hz1
  have HZ2 := Lib.hid hz2
  obtain ⟨a, ha⟩ : ∃ a, a = Bs x := ⟨_, rfl⟩
  have HA := Lib.hid ha
  rw [← ha] at C2
  obtain ⟨b, hb⟩ : ∃ b, b = Bs y := ⟨_, rfl⟩
  have HAB := Lib.hid hb
  rw [← hb] at C3
  clear hb
  obtain ⟨N, hN⟩ : ∃ N, N = c.ls.length := ⟨_, rfl⟩
  have HNN := Lib.hid hN
  rw [← hN] at hps
  clear hN
  obtain ⟨m, hm⟩ : ∃ m, m = t.length := ⟨_, rfl⟩
  have HM := Lib.hid hm
  clear hd hz hW hx hi hz0 hz1 hz2 ha hm
  go_enter Tryz.func28, Tryz.ntmps28
  go_upto_region 18 with (go_at_call 65; (with_reducible refine C1.out.mono ?_); rintro e w1 ⟨rfl, hl1, ho1⟩)
  have HX1 : Hid (XAt X vs vz vl w1) := Lib.hid (HX0.out.only ho1 hxp)
  have HD1 : Hid (DHold B vs vz vl ps pz c w1) := Lib.hid (HD.out.keep (keepD_only HW.out ho1))
  have hB1 : B ≤ w1.heap.size := Nat.le_trans hB ho1.grown.size
  have d0 : w1.drew.cell? ⟨X, 2, none⟩ = some vl := cell_of (W := w1.drew) HX1.out rfl
  have HLd : Hid (WLeft B pw (x :: y :: t) w1.drew) := Lib.hid (hl1.kept (Below.refl _ _).drew)
  have HG1 : Hid (LG B X pw w w1.drew) := Lib.hid ((LG.of_only ho1).trans (LG.of_below hB1 (Below.refl _ _).drew))
  clear hl1 ho1
  go_region_law (first
    | (refine step_append_lies _ rfl _ _ 24 rfl B 61 i0 (.agg #[.string ⟨#[]⟩, .string ⟨#[]⟩]) 2 32 Tryz.underlying24 HI.out HZ0.out HZ1.out HZ2.out rfl (by decide) vl N (lks (c.ls.map lkOf)) rfl HR2.out ⟨w3.heap.size, 0, none⟩ 1 1 [.string a, .string b] rfl rfl laid_at (by intro u hu; simp at hu; rcases hu with rfl | rfl <;> rfl) (by decide) (by unfold maxLen; omega) (by omega) (by simp; omega) _ rfl ?_; intro g cap w4 hown hg2 hat hlt; have hx3 : XAt X vs vz vl w4 := XAt.grown HXA.out HR2.out (by decide) hg2; have e3 : w4.cell? ⟨X, 2, none⟩ = some vl := cell_of hx3 rfl; have f3 : w4.frozen? ⟨X, 2, none⟩ = false := frozen_of hx3; have HF := Lib.hid (HDN.out g cap w4 hown hg2); obtain ⟨ad, hlen⟩ := HF.out.2.2.1.len; rw [← HM.out] at hlen)
    | (go_simp; go_at_call 65; (with_reducible refine (C2.out _ HLd.out).mono ?_); rintro e w2 ⟨rfl, hl2, ho2⟩; have HX2 : Hid (XAt X vs vz vl w2) := Lib.hid (XAt.only (w := w1.drew) HX1.out ho2 hxp); have hBB : B ≤ w2.heap.size := Nat.le_trans hB1 ho2.grown.size; have k0 : w2.cell? ⟨X, 2, none⟩ = some vl := cell_of HX2.out rfl)
    | (go_simp; go_at_call 65; (with_reducible refine (C3.out _ hl2).mono ?_); rintro e w3 ⟨rfl, hl3, ho3⟩; have hx2 : XAt X vs vz vl w3 := XAt.only (w := w2) HX2.out ho3 hxp; have hb2 : B ≤ w3.heap.size := Nat.le_trans hBB ho3.grown.size; have e0 : w3.cell? ⟨X, 2, none⟩ = some vl := cell_of hx2 rfl; have HXA : Hid (XAt X vs vz vl (w3.alloc (.cells #[.string a, .string b] 61))) := Lib.hid (hx2.below ((Below.refl _ _).alloc (Nat.le_refl _) _)); have e1 : (w3.alloc (.cells #[.string a, .string b] 61)).cell? ⟨X, 2, none⟩ = some vl := cell_of HXA.out rfl; have HD2 : Hid (DHold B vs vz vl ps pz c w3) := Lib.hid (((HD1.out.keep (keepD_below (Below.refl _ _).drew)).keep (keepD_only HLd.out ho2)).keep (keepD_only hl2 ho3)); have HR2 : Hid ((w3.alloc (.cells #[.string a, .string b] 61)).ownsRow B 61 2 vl N (lks (c.ls.map lkOf))) := Lib.hid (by (have := (HD2.out.keep (keepD_below ((Below.refl _ _).alloc (Nat.le_refl _) (.cells #[.string a, .string b] 61)))).links; rw [← HNN.out] at this; exact this)); have HDN : Hid (∀ g cap w4, w4.ownsRow B 61 2 (.slice (some ⟨g, 0, none⟩) (N + 1) cap) (N + 1) (lks (c.ls.map lkOf) ++ [.string a, .string b]) → (w3.alloc (.cells #[.string a, .string b] 61)).grownBy w4 vl.ownBlock → DOwn B X { c with ls := c.ls ++ [(x, y)] } (w4.setCell ⟨X, 2, none⟩ (.slice (some ⟨g, 0, none⟩) (N + 1) cap)) ∧ (∃ vs vz vl, XAt X vs vz vl (w4.setCell ⟨X, 2, none⟩ (.slice (some ⟨g, 0, none⟩) (N + 1) cap))) ∧ WLeft B pw t (w4.setCell ⟨X, 2, none⟩ (.slice (some ⟨g, 0, none⟩) (N + 1) cap)) ∧ LG B X pw w (w4.setCell ⟨X, 2, none⟩ (.slice (some ⟨g, 0, none⟩) (N + 1) cap))) := Lib.hid fun g cap w4 hown hg => by (rw [HA.out, HAB.out] at hown hg; exact link_done HD2.out hx2 hl3 ((HG1.out.trans (LG.of_only ho2)).trans (LG.of_only ho3)) hb2 hX (by first | exact hown | (rw [← HNN.out]; exact hown)) hg)))
  all_goals (clear e0 e1 e3 f3 d0 k0)
  all_goals (by_cases hm0 : m = 0)
  all_goals first
    | (subst hm0
       go_wp2
       go_end0
       exact ⟨HF.out.2.2.2, HF.out.2.1, fun _ => ⟨rfl, HF.out.1⟩, fun e => absurd (len_zero.1 HM.out.symm) e⟩)
    | (have hmp : 0 < m := by omega
       go_wp2
       exact ⟨rfl, HF.out.2.2.2, HF.out.2.1, fun e => absurd (HM.out.trans (len_zero.2 e)) hm0, fun _ => rfl⟩)
set_option maxHeartbeats 8000000 in
theorem ln_linkN (B X pw : Nat) (c : Cn) (w : World) (hD : DOwn B X c w) (hW : WLeft B pw ([wLink]) w) (hX : B ≤ X) (hB : B ≤ w.heap.size) :
    Calls Tryz.prog 28 #[.pointer (some ⟨X, 0, none⟩), .pointer (some ⟨pw, 0, none⟩)] w fun e w' => LG B X pw w w' ∧ (∃ vs vz vl, XAt X vs vz vl w') ∧ e = .panicked broke := by
  obtain ⟨vs, vz, vl, ps, pz, hx, hd⟩ := hD
  have hxp := x_ne_pw hx hW
  have C1 : Hid (Calls Tryz.prog 65 #[.pointer (some ⟨pw, 0, none⟩)] w fun e w' => e = .returned (.string ⟨#[108, 105, 110, 107]⟩) ∧ WLeft B pw [] w' ∧ OnlyW B pw w w') := Lib.hid (text_some B pw wLink [] w hW (by simp))
  have C3 : Hid (∀ W, WLeft B pw [] W → Calls Tryz.prog 65 #[.pointer (some ⟨pw, 0, none⟩)] W fun e w' => e = .panicked broke ∧ W = w') := Lib.hid fun W h => text_none B pw W h
  have HX0 := Lib.hid hx
  clear hW hx hd
  go_enter Tryz.func28, Tryz.ntmps28
  go_upto_region 18 with (go_at_call 65; (with_reducible refine C1.out.mono ?_); rintro e w1 ⟨rfl, hl1, ho1⟩)
  have HX1 : Hid (XAt X vs vz vl w1) := Lib.hid (HX0.out.only ho1 hxp)
  have hB1 : B ≤ w1.heap.size := Nat.le_trans hB ho1.grown.size
  have d0 : w1.drew.cell? ⟨X, 2, none⟩ = some vl := cell_of (W := w1.drew) HX1.out rfl
  have HLd : Hid (WLeft B pw [] w1.drew) := Lib.hid (hl1.kept (Below.refl _ _).drew)
  have HG1 : Hid (LG B X pw w w1.drew) := Lib.hid ((LG.of_only ho1).trans (LG.of_below hB1 (Below.refl _ _).drew))
  have HXd : Hid (XAt X vs vz vl w1.drew) := Lib.hid HX1.out
  clear hl1 ho1
  refine wp_region_held_drew (S := (fun w' => w'.cell? ⟨X, 2, none⟩ = some vl ∧ True)) (by kernel_rfl) ⟨d0, trivial⟩ (fun hHeld => ?_)
  refine wpAnyH_take (i := 0) (oi := _) (v := ?_) rfl (by kernel_rfl) (by kernel_rfl) (by kernel_rfl) (fun _ _ _ h => h) (Or.inl ⟨by rfl, ?_⟩) hHeld ?_
  rotate_left
  · intro w hw; obtain ⟨k0, _⟩ := hw; go_simp <;> with_reducible rfl
  refine wpAnyH_take (i := 1) (oi := _) (v := ?_) rfl (by kernel_rfl) (by kernel_rfl) (by kernel_rfl) (fun _ _ _ h => h) (Or.inl ⟨by rfl, ?_⟩) hHeld ?_
  rotate_left
  · intro w hw; obtain ⟨k0, _⟩ := hw; go_simp <;> with_reducible rfl
  refine wpAnyH_take (i := 2) (oi := _) (v := ?_) rfl (by kernel_rfl) (by kernel_rfl) (by kernel_rfl) (fun _ _ _ h => h) (Or.inl ⟨by rfl, ?_⟩) hHeld ?_
  rotate_left
  · intro w hw; obtain ⟨k0, _⟩ := hw; go_simp <;> with_reducible rfl
  refine wpAnyH_take (i := 3) (oi := _) (v := ?_) rfl (by kernel_rfl) (by kernel_rfl) (by kernel_rfl) (fun _ _ _ h => h) (Or.inl ⟨by rfl, ?_⟩) hHeld ?_
  rotate_left
  · intro w hw; obtain ⟨k0, _⟩ := hw; go_simp <;> with_reducible rfl
  refine wpAnyH_take (i := 4) (oi := _) (v := ?_) rfl (by kernel_rfl) (by kernel_rfl) (by kernel_rfl) (fun _ _ _ h => h) (Or.inl ⟨by rfl, ?_⟩) hHeld ?_
  rotate_left
  · intro w hw; obtain ⟨k0, _⟩ := hw; go_simp <;> with_reducible rfl
  refine wpAnyH_take (i := 5) (oi := _) (v := ?_) rfl (by kernel_rfl) (by kernel_rfl) (by kernel_rfl) (fun _ _ _ h => h) (Or.inl ⟨by rfl, ?_⟩) hHeld ?_
  rotate_left
  · intro w hw; obtain ⟨k0, _⟩ := hw; go_simp <;> with_reducible rfl
  refine wpAnyH_take (i := 7) (oi := _) (v := ?_) rfl (by kernel_rfl) (by kernel_rfl) (by kernel_rfl) (fun _ _ _ h => h) (Or.inl ⟨by rfl, ?_⟩) hHeld ?_
  rotate_left
  · intro w hw; obtain ⟨k0, _⟩ := hw; go_simp <;> with_reducible rfl
  refine wpAnyH_ready (rs := [6]) (by kernel_rfl) (by simp) ?_
  refine AllReadyH.cons (o := _) rfl (fun K hK => ?_) AllReadyH.nil
  simp only [List.getElem_toArray, List.getElem_cons_zero, List.getElem_cons_succ]
  go_simp
  refine (C3.out _ HLd.out).mono ?_
  rintro e w3 ⟨rfl, rfl⟩
  exact ⟨rfl, HG1.out, ⟨_, _, _, HXd.out⟩, rfl⟩
set_option maxHeartbeats 8000000 in
theorem ln_linkN2 (B X pw : Nat) (c : Cn) (x : Bt) (w : World) (hD : DOwn B X c w) (hW : WLeft B pw (wLink :: [x]) w) (hX : B ≤ X) (hB : B ≤ w.heap.size) :
    Calls Tryz.prog 28 #[.pointer (some ⟨X, 0, none⟩), .pointer (some ⟨pw, 0, none⟩)] w fun e w' => LG B X pw w w' ∧ (∃ vs vz vl, XAt X vs vz vl w') ∧ e = .panicked broke := by
  obtain ⟨vs, vz, vl, ps, pz, hx, hd⟩ := hD
  have hxp := x_ne_pw hx hW
  have C1 : Hid (Calls Tryz.prog 65 #[.pointer (some ⟨pw, 0, none⟩)] w fun e w' => e = .returned (.string ⟨#[108, 105, 110, 107]⟩) ∧ WLeft B pw [x] w' ∧ OnlyW B pw w w') := Lib.hid (text_some B pw wLink [x] w hW (by simp))
  have C2 : Hid (∀ W, WLeft B pw [x] W → Calls Tryz.prog 65 #[.pointer (some ⟨pw, 0, none⟩)] W fun e w' => e = .returned (.string (Bs x)) ∧ WLeft B pw [] w' ∧ OnlyW B pw W w') := Lib.hid fun W h => text_some B pw x [] W h (by simp)
  have C3 : Hid (∀ W, WLeft B pw [] W → Calls Tryz.prog 65 #[.pointer (some ⟨pw, 0, none⟩)] W fun e w' => e = .panicked broke ∧ W = w') := Lib.hid fun W h => text_none B pw W h
  have HX0 := Lib.hid hx
  clear hW hx hd
  go_enter Tryz.func28, Tryz.ntmps28
  go_upto_region 18 with (go_at_call 65; (with_reducible refine C1.out.mono ?_); rintro e w1 ⟨rfl, hl1, ho1⟩)
  have HX1 : Hid (XAt X vs vz vl w1) := Lib.hid (HX0.out.only ho1 hxp)
  have hB1 : B ≤ w1.heap.size := Nat.le_trans hB ho1.grown.size
  have d0 : w1.drew.cell? ⟨X, 2, none⟩ = some vl := cell_of (W := w1.drew) HX1.out rfl
  have HLd : Hid (WLeft B pw [x] w1.drew) := Lib.hid (hl1.kept (Below.refl _ _).drew)
  have HG1 : Hid (LG B X pw w w1.drew) := Lib.hid ((LG.of_only ho1).trans (LG.of_below hB1 (Below.refl _ _).drew))
  have HXd : Hid (XAt X vs vz vl w1.drew) := Lib.hid HX1.out
  clear hl1 ho1
  refine wp_region_held_drew (S := (fun w' => w'.cell? ⟨X, 2, none⟩ = some vl ∧ True)) (by kernel_rfl) ⟨d0, trivial⟩ (fun hHeld => ?_)
  refine wpAnyH_take (i := 0) (oi := _) (v := ?_) rfl (by kernel_rfl) (by kernel_rfl) (by kernel_rfl) (fun _ _ _ h => h) (Or.inl ⟨by rfl, ?_⟩) hHeld ?_
  rotate_left
  · intro w hw; obtain ⟨k0, _⟩ := hw; go_simp <;> with_reducible rfl
  refine wpAnyH_take (i := 1) (oi := _) (v := ?_) rfl (by kernel_rfl) (by kernel_rfl) (by kernel_rfl) (fun _ _ _ h => h) (Or.inl ⟨by rfl, ?_⟩) hHeld ?_
  rotate_left
  · intro w hw; obtain ⟨k0, _⟩ := hw; go_simp <;> with_reducible rfl
  refine wpAnyH_take (i := 2) (oi := _) (v := ?_) rfl (by kernel_rfl) (by kernel_rfl) (by kernel_rfl) (fun _ _ _ h => h) (Or.inl ⟨by rfl, ?_⟩) hHeld ?_
  rotate_left
  · intro w hw; obtain ⟨k0, _⟩ := hw; go_simp <;> with_reducible rfl
  refine wpAnyH_take (i := 3) (oi := _) (v := ?_) rfl (by kernel_rfl) (by kernel_rfl) (by kernel_rfl) (fun _ _ _ h => h) (Or.inl ⟨by rfl, ?_⟩) hHeld ?_
  rotate_left
  · intro w hw; obtain ⟨k0, _⟩ := hw; go_simp <;> with_reducible rfl
  refine wpAnyH_take (i := 4) (oi := _) (v := ?_) rfl (by kernel_rfl) (by kernel_rfl) (by kernel_rfl) (fun _ _ _ h => h) (Or.inl ⟨by rfl, ?_⟩) hHeld ?_
  rotate_left
  · intro w hw; obtain ⟨k0, _⟩ := hw; go_simp <;> with_reducible rfl
  refine wpAnyH_take (i := 5) (oi := _) (v := ?_) rfl (by kernel_rfl) (by kernel_rfl) (by kernel_rfl) (fun _ _ _ h => h) (Or.inl ⟨by rfl, ?_⟩) hHeld ?_
  rotate_left
  · intro w hw; obtain ⟨k0, _⟩ := hw; go_simp <;> with_reducible rfl
  refine wpAnyH_take (i := 7) (oi := _) (v := ?_) rfl (by kernel_rfl) (by kernel_rfl) (by kernel_rfl) (fun _ _ _ h => h) (Or.inl ⟨by rfl, ?_⟩) hHeld ?_
  rotate_left
  · intro w hw; obtain ⟨k0, _⟩ := hw; go_simp <;> with_reducible rfl
  refine wpAnyH_ready (rs := [6]) (by kernel_rfl) (by simp) ?_
  refine AllReadyH.cons (o := _) rfl (fun K hK => ?_) AllReadyH.nil
  simp only [List.getElem_toArray, List.getElem_cons_zero, List.getElem_cons_succ]
  go_simp
  refine (C2.out _ HLd.out).mono ?_
  rintro e w2 ⟨rfl, hl2, ho2⟩
  have HX2 : Hid (XAt X vs vz vl w2) := Lib.hid (XAt.only HXd.out ho2 hxp)
  have k0 : w2.cell? ⟨X, 2, none⟩ = some vl := cell_of HX2.out rfl
  have HG2 : Hid (LG B X pw w w2) := Lib.hid (HG1.out.trans (LG.of_only ho2))
  go_wp2_with fail
  refine hK.out _ _ ⟨k0, trivial⟩ (fun hHeld => ?_)
  clear hK K
  refine wpAnyH_ready (rs := [8]) (by kernel_rfl) (by simp) ?_
  refine AllReadyH.cons (o := _) rfl (fun K hK => ?_) AllReadyH.nil
  simp only [List.getElem_toArray, List.getElem_cons_zero, List.getElem_cons_succ]
  go_simp
  refine (C3.out _ hl2).mono ?_
  rintro e w3 ⟨rfl, rfl⟩
  exact ⟨rfl, HG2.out, ⟨_, _, _, HX2.out⟩, rfl⟩
end Go.Proofs.YthhjgndaiimgjaaGreatDoor
end
/-! Data that are read, and worlds that keep them. -/
section
set_option maxRecDepth 100000
set_option linter.unusedVariables false
set_option linter.unusedSimpArgs false
namespace Gno
open Go Go.RowKit Go.Proofs.YthhjgndaiimgjaaGreatDoor
theorem DHold.dataK {B : Nat} {vs vz vl : Value} {ps pz : List Pc} {c : Cn} {w : World} (h : DHold B vs vz vl ps pz c w) (hz : CnZ 5000 c) :
    ∃ d : Dt, vs = .slice d.sA d.sn d.sc ∧ vz = .slice d.zA d.zn d.zc ∧ vl = .slice d.lA d.ln d.lc ∧ (∀ w', KeepD w w' → DataAt w' w'.heap.size d) ∧ cnOf d = c ∧ Cons d := by
  have ls : ps.length = c.ss.length := by have := congrArg List.length h.setsC; simpa using this
  have lz : pz.length = c.zs.length := by have := congrArg List.length h.zonesC; simpa using this
  obtain ⟨As, cs, rfl, fs⟩ := ow_form h.sets.row
  obtain ⟨Az, cz, rfl, fz⟩ := ow_form h.zones.row
  obtain ⟨Al, cl, rfl, fl⟩ := ow_form h.links
  have sz : ∀ n : Nat, n ≤ 5000 → n ≤ maxLen := fun n hn => by unfold maxLen; omega
  refine ⟨⟨As, ps.length, cs, (ps.zip c.ss).map fun x => stAt x.1 x.2, Az, pz.length, cz, (pz.zip c.zs).map fun x => znAt x.1 x.2, Al, c.ls.length, cl, c.ls.map lkOf⟩, rfl, rfl, rfl, fun w' hk => ?_, ?_, ⟨?_, ?_, ?_, ?_, ?_⟩⟩
  · have h2 := h.keep hk
    obtain ⟨As', cs', e1, fs⟩ := ow_form h2.sets.row
    obtain ⟨Az', cz', e2, fz⟩ := ow_form h2.zones.row
    obtain ⟨rfl, rfl⟩ : As = As' ∧ cs = cs' := by injection e1 with q1 _ q2; exact ⟨q1, q2⟩
    obtain ⟨rfl, rfl⟩ : Az = Az' ∧ cz = cz' := by injection e2 with q1 _ q2; exact ⟨q1, q2⟩
    refine ⟨⟨?_, ?_, ?_⟩, ⟨?_, ?_, ?_⟩, ?_, ?_⟩
    · simp [ls]
    · exact sz _ (by rw [ls]; exact hz.ss)
    · intro h0
      obtain ⟨g, rfl, _, hlt⟩ := fs h0
      refine ⟨g, 0, rfl, hlt, fun i t ht => ?_⟩
      obtain ⟨p, s, hp, hs, rfl, he⟩ := zip_of h.setsC stAt ht
      have hsm := hz.sets s (List.mem_of_getElem? hs)
      have hed := h2.sets.edge i p hp
      obtain ⟨A2, c2, e2, _⟩ := ow_form hed
      unfold pcT stT at he
      simp only [Prod.mk.injEq] at he
      have hst : stAt p s = ⟨Bs s.1, A2, s.2.length, c2, s.2.map rlOf⟩ := by unfold stAt; rw [e2]
      rw [hst, Nat.zero_add]
      have k0 := ow_cell h2.sets.row (j := i * 2 + 0) (u := .string p.name) (by rw [show rcs ps = ps.flatMap pcCells2 from rfl, flat_get pcCells2_len ps i p 0 hp (by decide)]; rfl)
      have k1 := ow_cell h2.sets.row (j := i * 2 + 1) (u := p.v) (by rw [show rcs ps = ps.flatMap pcCells2 from rfl, flat_get pcCells2_len ps i p 1 hp (by decide)]; rfl)
      rw [e2, he.2.1] at k1
      rw [he.1, Nat.add_zero] at k0
      rw [e2, he.2.1, he.2.2] at hed
      exact ⟨⟨k0, k1⟩, sz _ (by rw [Bs_size]; exact hsm.1), rules_ow hed (sz _ hsm.2.1) (fun x hx => by
        obtain ⟨r, hr, rfl⟩ := List.mem_map.1 hx
        exact sz _ (by show (Bs r.2).size ≤ 5000; rw [Bs_size]; exact hsm.2.2 r hr))⟩
    · simp [lz]
    · exact sz _ (by rw [lz]; exact hz.zs)
    · intro h0
      obtain ⟨g, rfl, _, hlt⟩ := fz h0
      refine ⟨g, 0, rfl, hlt, fun i t ht => ?_⟩
      obtain ⟨p, s, hp, hs, rfl, he⟩ := zip_of h.zonesC znAt ht
      have hsm := hz.zones s (List.mem_of_getElem? hs)
      have hed := h2.zones.edge i p hp
      obtain ⟨A2, c2, e2, _⟩ := ow_form hed
      unfold pcT znT at he
      simp only [Prod.mk.injEq] at he
      have hst : znAt p s = ⟨Bs s.1, A2, s.2.length, c2, s.2.map erOf⟩ := by unfold znAt; rw [e2]
      rw [hst, Nat.zero_add]
      have k0 := ow_cell h2.zones.row (j := i * 2 + 0) (u := .string p.name) (by rw [show rcs pz = pz.flatMap pcCells2 from rfl, flat_get pcCells2_len pz i p 0 hp (by decide)]; rfl)
      have k1 := ow_cell h2.zones.row (j := i * 2 + 1) (u := p.v) (by rw [show rcs pz = pz.flatMap pcCells2 from rfl, flat_get pcCells2_len pz i p 1 hp (by decide)]; rfl)
      rw [e2, he.2.1] at k1
      rw [he.1, Nat.add_zero] at k0
      rw [e2, he.2.1, he.2.2] at hed
      exact ⟨⟨k0, k1⟩, sz _ (by rw [Bs_size]; exact hsm.1), eras_ow hed (sz _ hsm.2.1) (fun x hx => by
        obtain ⟨r, hr, rfl⟩ := List.mem_map.1 hx
        have : (Bs r.2.1).size ≤ 5000 := by rw [Bs_size]; exact hsm.2.2 r hr
        exact Nat.le_trans this (by unfold fmtMax; decide))⟩
    · exact links_ow h2.links (sz _ hz.ls) (fun x hx => by
        obtain ⟨r, hr, rfl⟩ := List.mem_map.1 hx
        have := hz.links r hr
        exact ⟨sz _ (by show (Bs r.1).size ≤ 5000; rw [Bs_size]; exact this.1), sz _ (by show (Bs r.2).size ≤ 5000; rw [Bs_size]; exact this.2)⟩)
    · exact Nat.le_trans hz.ls (by unfold fmtMax; decide)
  · unfold cnOf
    have e1 := zip_map ls stAt cnS id (fun p s hs => (stAt_cn p (hz.formed.1 s hs)).1)
    have e2 := zip_map lz znAt cnZ id (fun p s hs => (znAt_cn p (hz.formed.2 s hs)).1)
    rw [List.map_id] at e1 e2
    simp only [e1, e2, List.map_map]
    congr 1
    conv => rhs; rw [← List.map_id c.ls]
    exact List.map_congr_left fun l _ => Prod.ext (list_Bs l.1) (list_Bs l.2)
  · simp [ls]
  · simp [lz]
  · simp
  · intro s hs
    obtain ⟨x, hx, rfl⟩ := List.mem_map.1 hs
    exact (stAt_cn x.1 (hz.formed.1 x.2 (List.of_mem_zip hx).2)).2
  · intro s hs
    obtain ⟨x, hx, rfl⟩ := List.mem_map.1 hs
    exact (znAt_cn x.1 (hz.formed.2 x.2 (List.of_mem_zip hx).2)).2
end Gno
end
/-! A line keeps what is read small. -/
section
set_option linter.unusedVariables false
set_option linter.unusedSimpArgs false
namespace Gno
open Go Go.RowKit
theorem splitB_len (c : UInt8) : ∀ s : Bt, (splitB c s).length ≤ s.length + 1 ∧ ∀ x ∈ splitB c s, x.length ≤ s.length
  | [] => ⟨Nat.le_refl _, fun x hx => by
    have : x = [] := by simpa [splitB] using hx
    subst this; exact Nat.le_refl _⟩
  | b :: t => by
    obtain ⟨h1, h2⟩ := splitB_len c t
    unfold splitB
    split
    · refine ⟨by simp; omega, fun x hx => ?_⟩
      rcases List.mem_cons.1 hx with rfl | hx
      · simp
      · have := h2 x hx; simp; omega
    · cases hq : splitB c t with
      | nil => exact ⟨by simp, fun x hx => by
          obtain rfl := List.mem_singleton.1 hx
          simp⟩
      | cons a r =>
        rw [hq] at h1 h2
        refine ⟨by simpa using Nat.le_succ_of_le h1, fun x hx => ?_⟩
        rcases List.mem_cons.1 hx with rfl | hx
        · have := h2 a (by simp); simp; omega
        · have := h2 x (by simp [hx]); simp; omega
theorem last_form {α : Type} {l : List α} (h : l ≠ []) : ∃ l0 a, l = l0 ++ [a] := ⟨_, _, (List.dropLast_concat_getLast h).symm⟩
theorem CnZ.up {n m : Nat} {c : Cn} (h : CnZ n c) (hm : n ≤ m) : CnZ m c :=
  ⟨h.formed, Nat.le_trans h.ss hm, Nat.le_trans h.zs hm, Nat.le_trans h.ls hm, fun s hs => ⟨(h.sets s hs).1, Nat.le_trans (h.sets s hs).2.1 hm, (h.sets s hs).2.2⟩, fun s hs => ⟨(h.zones s hs).1, Nat.le_trans (h.zones s hs).2.1 hm, (h.zones s hs).2.2⟩, h.links⟩
theorem CnZ.nil : CnZ 0 ⟨[], [], []⟩ := ⟨⟨by simp, by simp⟩, by simp, by simp, by simp, by simp, by simp, by simp⟩
theorem step_cnz {n : Nat} {c c' : Cn} {ws : List Bt} (h : CnZ n c) (hw : ∀ x ∈ ws, x.length ≤ 5000) (hs : stepP pnI c ws = some c') : CnZ (n + 1) c' := by
  have H := h.up (Nat.le_succ n)
  cases ws with
  | nil => cases hs
  | cons k t =>
    have hw2 : ∀ x ∈ t, x.length ≤ 5000 := fun x hx => hw x (List.mem_cons_of_mem _ hx)
    unfold stepP at hs
    simp only at hs
    split at hs
    · split at hs
      · rename_i x
        obtain rfl := Option.some.inj hs
        refine ⟨⟨fun s hs => ?_, h.formed.2⟩, by have := h.ss; simpa using this, H.zs, H.ls, fun s hs => ?_, H.zones, H.links⟩
        · rcases List.mem_append.1 hs with q | q
          · exact h.formed.1 s q
          · obtain rfl := List.mem_singleton.1 q
            simp
        · rcases List.mem_append.1 hs with q | q
          · exact H.sets s q
          · obtain rfl := List.mem_singleton.1 q
            exact ⟨hw2 _ (by simp), by simp, by simp⟩
      · cases hs
    · split at hs
      · split at hs
        · cases hs
        · rename_i hc
          split at hs
          · rename_i l w hm hd
            split at hs
            · rename_i h8
              obtain rfl := Option.some.inj hs
              obtain ⟨l0, ⟨a, xs⟩, e⟩ := last_form hc
              have hwl : (wLet w).length ≤ 5000 := by
                unfold wLet
                split
                · simp
                · exact hw2 w (List.mem_of_mem_drop (i := 8) (by rw [hd]; simp))
              rw [e, onto_snoc]
              have hz1 := h.sets (a, xs) (by rw [e]; simp)
              have hf1 := h.formed.1 (a, xs) (by rw [e]; simp)
              have hl1 := h.ss
              rw [e] at hl1
              refine ⟨⟨fun s hs => ?_, h.formed.2⟩, by simp at hl1 ⊢; omega, H.zs, H.ls, fun s hs => ?_, H.zones, H.links⟩
              · rcases List.mem_append.1 hs with q | q
                · exact h.formed.1 s (by rw [e]; exact List.mem_append_left _ q)
                · obtain rfl := List.mem_singleton.1 q
                  intro r hr
                  rcases List.mem_append.1 hr with q | q
                  · exact hf1 r q
                  · obtain rfl := List.mem_singleton.1 q
                    exact h8
              · rcases List.mem_append.1 hs with q | q
                · exact H.sets s (by rw [e]; exact List.mem_append_left _ q)
                · obtain rfl := List.mem_singleton.1 q
                  refine ⟨hz1.1, by have := hz1.2.1; simpa using this, fun r hr => ?_⟩
                  rcases List.mem_append.1 hr with q | q
                  · exact hz1.2.2 r q
                  · obtain rfl := List.mem_singleton.1 q
                    exact hwl
            · cases hs
          · cases hs
      · split at hs
        · split at hs
          · rename_i x
            obtain rfl := Option.some.inj hs
            refine ⟨⟨h.formed.1, fun s hs => ?_⟩, H.ss, by have := h.zs; simpa using this, H.ls, H.sets, fun s hs => ?_, H.links⟩
            · rcases List.mem_append.1 hs with q | q
              · exact h.formed.2 s q
              · obtain rfl := List.mem_singleton.1 q
                simp
            · rcases List.mem_append.1 hs with q | q
              · exact H.zones s q
              · obtain rfl := List.mem_singleton.1 q
                exact ⟨hw2 _ (by simp), by simp, by simp⟩
          · cases hs
        · split at hs
          · split at hs
            · cases hs
            · rename_i hc
              split at hs
              · rename_i l f u hm hd
                split at hs
                · rename_i v hv
                  split at hs
                  · rename_i h3
                    obtain rfl := Option.some.inj hs
                    obtain ⟨l0, ⟨a, xs⟩, e⟩ := last_form hc
                    have hwl : f.length ≤ 5000 := hw2 f (List.mem_of_mem_drop (i := 3) (by rw [hd]; simp))
                    rw [e, onto_snoc]
                    have hz1 := h.zones (a, xs) (by rw [e]; simp)
                    have hf1 := h.formed.2 (a, xs) (by rw [e]; simp)
                    have hl1 := h.zs
                    rw [e] at hl1
                    refine ⟨⟨h.formed.1, fun s hs => ?_⟩, H.ss, by simp at hl1 ⊢; omega, H.ls, H.sets, fun s hs => ?_, H.links⟩
                    · rcases List.mem_append.1 hs with q | q
                      · exact h.formed.2 s (by rw [e]; exact List.mem_append_left _ q)
                      · obtain rfl := List.mem_singleton.1 q
                        intro r hr
                        rcases List.mem_append.1 hr with q | q
                        · exact hf1 r q
                        · obtain rfl := List.mem_singleton.1 q
                          exact h3
                    · rcases List.mem_append.1 hs with q | q
                      · exact H.zones s (by rw [e]; exact List.mem_append_left _ q)
                      · obtain rfl := List.mem_singleton.1 q
                        refine ⟨hz1.1, by have := hz1.2.1; simpa using this, fun r hr => ?_⟩
                        rcases List.mem_append.1 hr with q | q
                        · exact hz1.2.2 r q
                        · obtain rfl := List.mem_singleton.1 q
                          exact hwl
                  · cases hs
                · cases hs
              · cases hs
          · split at hs
            · split at hs
              · rename_i a b
                obtain rfl := Option.some.inj hs
                refine ⟨h.formed, H.ss, H.zs, by have := h.ls; simpa using this, H.sets, H.zones, fun s hs => ?_⟩
                rcases List.mem_append.1 hs with q | q
                · exact h.links s q
                · obtain rfl := List.mem_singleton.1 q
                  exact ⟨hw2 _ (by simp), hw2 _ (by simp)⟩
              · cases hs
            · cases hs
end Gno
end
