/- Parts of a proof, laid together. -/
import Derived.Test.YthhjgndaiimgjaaGreatDoorRows
import Derived.WalkKit
import Derived.ProofKit
import Derived.OpenShut
import Derived.Carry
import Derived.Deep.Slices
import Derived.JoinedCond
set_option linter.unusedSimpArgs false
set_option linter.unusedVariables false
/-! A law's row out of its walk, whatever its parameters: the call returns true, and below the old heap's size nothing has turned. -/
section
set_option linter.unusedVariables false
set_option linter.unusedSimpArgs false
namespace Go.Proofs.YthhjgndaiimgjaaGreatDoor
open Go.ChangeShapes Go.WideShapes Go.ChangeAt Go.RowKit

theorem own : ownKnob Tryz.prog.godebug = none := by kernel_rfl
theorem laidOut : laidOutB Tryz.prog = true := by kernel_rfl

section
variable {H : Type} {enc : TypeId × Value → H} {P : Program}

def readAll (P : Program) (ts : List TypeId) : Bool := ts.all fun t => P.readableRec t && decide (t < P.types.size)

theorem trodAll_lt {W : World} : ∀ {ts : List TypeId} {vs : List Value} {ds : List (DataW H)} {ps : List MemPlace}, readAll P ts = true → laidOutB P = true →
    DataW.TrodAll enc P W 0 (fun _ => true) true ts vs ds ps → ∀ {W' : World}, Below W.heap.size W W' → (∀ x ∈ ps, x.block < W.heap.size) →
    DataW.TrodAll enc P W' 0 (fun b => decide (b < W.heap.size)) true ts vs ds ps
  | [], [], [], _, _, _, h, _, _, _ => h
  | t :: ts, v :: vs, d :: ds, ps, hr, hl, h, W', hb, hlt => by
    obtain ⟨p, q, h0, h1, rfl⟩ := h
    simp only [readAll, List.all_cons, Bool.and_eq_true, decide_eq_true_eq] at hr
    exact ⟨p, q, Below.trod hl hr.1.1 hr.1.2 h0 hb (fun x hx => hlt x (by simp [hx])), trodAll_lt hr.2 hl h1 hb (fun x hx => hlt x (by simp [hx])), rfl⟩

/-- the row's post, where a law has returned true. -/
theorem law_post {f : Func} {s : ChangeSpec} {W W' : World} {args : Array Value} {ds gs : List (DataW H)} {before : List MemPlace} {tb : TypeId}
    (hl : laidOutB P = true) (hr : readAll P f.params.toList = true) (hv : s.vars = []) (hrt : f.resultTypes = #[tb]) (htb : P.underlying tb = some .bool)
    (hW : DataW.Whole enc P f.params.toList s.vars false W args.toList ds gs before) (hb : Below W.heap.size W W')
    (h1 : (s.fn H (ds ++ [])).results = [.lit (.bool true)]) (h2 : (s.fn H (ds ++ [])).args = ds) (h3 : (s.fn H (ds ++ [])).vars = []) :
    s.post enc P f false true false false W args (.bool true) W' := by
  have hlt : ∀ x ∈ before, x.block < W.heap.size := fun x hx => hW.lt x hx
  have hW0 := hW
  obtain ⟨p, q, hA, hV, rfl, _, _⟩ := hW
  rw [hv] at hV
  obtain ⟨rfl, rfl⟩ := trodVars_none hV
  refine ⟨ds, [], p ++ [], [], p, [], hW0, ?_, ?_, ?_, hb.frame _, fun h => by cases h⟩
  · rw [h1, hrt]
    exact trodAll_cons_mk (shut_bool htb true) trodAll_mk0
  · rw [h2]
    exact trodAll_lt hr hl hA hb (fun x hx => hlt x (by simp [hx]))
  · rw [h3, hv]
    exact rfl
end
end Go.Proofs.YthhjgndaiimgjaaGreatDoor
end
/-! Slices that come in, opened, whatever their elements. -/
section
set_option linter.unusedVariables false
set_option linter.unusedSimpArgs false
namespace Gno
open Go Go.RowKit
theorem list_of {α : Type} {P : Nat → α → Prop} : ∀ (n : Nat), (∀ i, i < n → ∃ a, P i a) → ∃ l : List α, l.length = n ∧ ∀ i a, l[i]? = some a → P i a
  | 0, _ => ⟨[], rfl, fun i a h => by simp at h⟩
  | n + 1, h => by
    obtain ⟨l, hl, hp⟩ := list_of n (fun i hi => h i (by omega))
    obtain ⟨a, ha⟩ := h n (by omega)
    refine ⟨l ++ [a], by simp [hl], fun i b hb => ?_⟩
    by_cases hi : i < n
    · rw [List.getElem?_append_left (by omega)] at hb; exact hp i b hb
    · rw [List.getElem?_append_right (by omega)] at hb
      by_cases he : i = n
      · subst he
        rw [hl] at hb
        simp at hb
        rw [← hb]; exact ha
      · rw [List.getElem?_eq_none (by simp; omega)] at hb; cases hb
/-- a slice's elements lie in memory, sz cells each, each as At says. -/
def SlAt {α : Type} (sz : Nat) (At : World → Nat → Nat → Nat → α → Prop) (w : World) (B : Nat) (A : Option Addr) (n : Nat) (l : List α) : Prop :=
  l.length = n ∧ n ≤ maxLen ∧ (0 < n → ∃ b o, A = some ⟨b, o, none⟩ ∧ b < B ∧ ∀ i x, l[i]? = some x → At w B b (o + i * sz) x)
/-- what At says is kept while nothing below turns. -/
def Keeps {α : Type} (At : World → Nat → Nat → Nat → α → Prop) : Prop := ∀ w w' B B' b o x, Below B' w w' → B ≤ B' → b < B → At w B b o x → At w' B' b o x
theorem SlAt.below {α : Type} {sz : Nat} {At : World → Nat → Nat → Nat → α → Prop} (hk : Keeps At) {B B' : Nat} {w w' : World} {A : Option Addr} {n : Nat} {l : List α} (h : SlAt sz At w B A n l) (hb : Below B' w w') (hB : B ≤ B') : SlAt sz At w' B' A n l :=
  ⟨h.1, h.2.1, fun hn => by
    obtain ⟨b, o, e, hbB, hc⟩ := h.2.2 hn
    exact ⟨b, o, e, by omega, fun i p hi => hk w w' B B' b _ p hb hB hbB (hc i p hi)⟩⟩
theorem SlAt.get {α : Type} {sz : Nat} {At : World → Nat → Nat → Nat → α → Prop} (hk : Keeps At) {B : Nat} {w : World} {A : Option Addr} {n : Nat} {l : List α} (h : SlAt sz At w B A n l) {i : Nat} (hi : i < n) :
    ∃ b o q, A = some ⟨b, o, none⟩ ∧ b < B ∧ l[i]? = some q ∧ ∀ W, Below B w W → At W B b (o + i * sz) q := by
  obtain ⟨b, o, hA, hbB, hc⟩ := h.2.2 (by omega)
  have hl : i < l.length := by rw [h.1]; exact hi
  exact ⟨b, o, l[i], hA, hbB, List.getElem?_eq_getElem hl, fun W hW => hk w W B B b _ _ hW (Nat.le_refl _) hbB (hc i _ (List.getElem?_eq_getElem hl))⟩
end Gno
namespace Go.Proofs.YthhjgndaiimgjaaGreatDoor
open Go.ChangeShapes Go.WideShapes Go.ChangeAt Go.RowKit Gno
theorem lt_of_cell' {w : World} {b o : Nat} {v : Value} (h : w.cell? ⟨b, o, none⟩ = some v) : b < w.heap.size := by
  rcases Nat.lt_or_ge b w.heap.size with q | q
  · exact q
  · simp [World.cell?, Array.getElem?_eq_none q] at h
section
variable {H : Type} {enc : TypeId × Value → H} {P : Program} {w : World} {base : Nat} {spare : Nat → Bool} {held : Bool}
theorem open_slice_gen {α : Type} {S T : TypeId} {sz : Nat} (hU : P.underlying S = some (.slice T)) (hsz : P.cellsOf T = sz) (hpos : 0 < sz) (At : World → Nat → Nat → Nat → α → Prop)
    (helem : ∀ fuel cs x, DataW.trod enc P w base spare held fuel T cs = some x → ∃ a, cs.length = sz ∧ ∀ b o, (∀ j, j < sz → w.cell? ⟨b, o + j, none⟩ = cs[j]?) → At w w.heap.size b o a)
    {fuel : Nat} {cs : List Value} {x : DataW H × List MemPlace} (h : DataW.trod enc P w base spare held fuel S cs = some x) :
    ∃ (A : Option Addr) (n cap : Nat) (l : List α), cs = [.slice A n cap] ∧ n ≤ cap ∧ cap ≤ maxLen ∧ SlAt sz At w w.heap.size A n l := by
  rcases Go.Deep.open_slice hU h with ⟨hc, _⟩ | ⟨a, len, cap, m, n, D, Pl, hc, hb, hl, hm, hmm, _, hi⟩
  · exact ⟨none, 0, 0, [], hc, Nat.le_refl _, by unfold maxLen; omega, rfl, by unfold maxLen; omega, fun h => absurd h (by omega)⟩
  · have hlm : len ≤ m := by rw [hmm]; split <;> omega
    have hx : ∀ i, i < len → ∃ q : List Value × α, q.1.length = sz ∧ (∀ j, j < sz → w.cell? ((a.add (i * sz)).add j) = q.1[j]?) ∧ ∀ b o, (∀ j, j < sz → w.cell? ⟨b, o + j, none⟩ = q.1[j]?) → At w w.heap.size b o q.2 := fun i hlt => by
      obtain ⟨cs', hc, ht⟩ := hi i (by omega)
      rw [hsz] at hc
      obtain ⟨_, _, hcell⟩ := World.cells?_some hc
      obtain ⟨r, hrl, hr⟩ := helem n cs' _ ht
      exact ⟨(cs', r), hrl, hcell, hr⟩
    obtain ⟨L, hLl, hL⟩ := list_of len hx
    refine ⟨some a, len, cap, L.map (·.2), hc, hl, hm, by simp [hLl], by omega, fun hp => ?_⟩
    obtain ⟨b, off, spot⟩ := a
    have hL0 := hL 0 _ (List.getElem?_eq_getElem (show 0 < L.length by omega))
    have hspot : spot = none := by
      have := hL0.2.1 0 hpos
      have h3 : ∃ v, (L[0].1)[0]? = some v := ⟨_, List.getElem?_eq_getElem (by rw [hL0.1]; exact hpos)⟩
      obtain ⟨v, hv⟩ := h3
      rw [hv] at this
      simpa [Addr.add] using World.cell?_spot this
    subst hspot
    have hplain : ∀ i j, ((Addr.mk b off none).add (i * sz)).add j = ⟨b, off + i * sz + j, none⟩ := fun i j => by rw [Go.WideShapes.add_plain, Go.WideShapes.add_plain]
    have hlt : b < w.heap.size := by
      have h0 := hL0.2.1 0 hpos
      have h3 : ∃ v, (L[0].1)[0]? = some v := ⟨_, List.getElem?_eq_getElem (by rw [hL0.1]; exact hpos)⟩
      obtain ⟨v, hv⟩ := h3
      rw [hv, hplain] at h0
      exact lt_of_cell' h0
    refine ⟨b, off, rfl, hlt, fun i y hy => ?_⟩
    rw [List.getElem?_map] at hy
    cases hq : L[i]? with
    | none => rw [hq] at hy; cases hy
    | some q =>
      rw [hq] at hy
      simp at hy
      obtain ⟨_, h2, h3⟩ := hL i q hq
      rw [← hy]
      refine h3 b (off + i * sz) fun j hj => ?_
      rw [← hplain]; exact h2 j hj
end
end Go.Proofs.YthhjgndaiimgjaaGreatDoor
end
/-! What the bound of the second form gives; the builder of its row that hands the world's shape on. -/
section
set_option linter.unusedVariables false
set_option linter.unusedSimpArgs false
namespace Go.Proofs.YthhjgndaiimgjaaGreatDoor
open Go.ChangeShapes Go.WideShapes Go.ChangeAt Go.RowKit Gno
section
variable {H : Type} {enc : TypeId × Value → H}
/-- so small is what came in, and each part of it. -/
def Small (d : DataW H) : Prop := Rows.uptoBulk d ≤ 1048576
theorem one_le (d : DataW H) : 1 ≤ Rows.uptoBulk d := by
  cases d with
  | lit l => cases l <;> simp [Rows.uptoBulk]
  | nil => simp [Rows.uptoBulk]
  | ptr d => simp [Rows.uptoBulk]
  | slice elems spare => simp [Rows.uptoBulk]
  | agg parts => simp [Rows.uptoBulk]
  | iface t d => simp [Rows.uptoBulk]
  | map entries => simp [Rows.uptoBulk]
  | held h => simp [Rows.uptoBulk]
theorem part_le {d : DataW H} {l : List (DataW H)} (h : d ∈ l) : Rows.uptoBulk d ≤ Rows.uptoBulkAll l := by
  induction l with
  | nil => cases h
  | cons x r ih =>
    simp only [Rows.uptoBulkAll]
    cases List.mem_cons.1 h with
    | inl e => subst e; omega
    | inr e => have := ih e; omega
theorem length_le (l : List (DataW H)) : l.length ≤ Rows.uptoBulkAll l := by
  induction l with
  | nil => simp [Rows.uptoBulkAll]
  | cons x r ih => have := one_le x; simp only [Rows.uptoBulkAll, List.length_cons]; omega
theorem Small.elem {es sp : List (DataW H)} (h : Small (.slice es sp)) {e : DataW H} (he : e ∈ es) : Small e := by
  have := part_le he
  unfold Small at *
  simp only [Rows.uptoBulk] at h
  omega
theorem Small.len {es sp : List (DataW H)} (h : Small (.slice es sp)) : es.length ≤ 1048576 := by
  have := length_le es
  unfold Small at *
  simp only [Rows.uptoBulk] at h
  omega
theorem Small.part {es : List (DataW H)} (h : Small (.agg es)) {e : DataW H} (he : e ∈ es) : Small e := by
  have := part_le he
  unfold Small at *
  simp only [Rows.uptoBulk] at h
  omega
theorem Small.str {s : ByteArray} (h : Small (DataW.lit (H := H) (.string s.data.toList))) : s.size ≤ 1048576 := by
  unfold Small at *
  simp only [Rows.uptoBulk, Array.length_toList] at h
  have : s.size = s.data.size := rfl
  omega
theorem small_of {l : List (DataW H)} (hk : Rows.uptoSmall H l = true) {d : DataW H} (hd : d ∈ l) : Small d := by
  have h1 := of_decide_eq_true hk
  have := part_le hd
  unfold Small
  omega
end
section
variable {H : Type} {enc : TypeId × Value → H} {P : Program} {w : World} {base : Nat} {spare : Nat → Bool} {held : Bool}
/-- open_slice_gen, of a small slice. -/
theorem open_slice_sm {α : Type} {S T : TypeId} {sz : Nat} (hU : P.underlying S = some (.slice T)) (hsz : P.cellsOf T = sz) (hpos : 0 < sz) (At : World → Nat → Nat → Nat → α → Prop)
    (helem : ∀ fuel cs x, DataW.trod enc P w base spare held fuel T cs = some x → Small x.1 → ∃ a, cs.length = sz ∧ ∀ b o, (∀ j, j < sz → w.cell? ⟨b, o + j, none⟩ = cs[j]?) → At w w.heap.size b o a)
    {fuel : Nat} {cs : List Value} {x : DataW H × List MemPlace} (h : DataW.trod enc P w base spare held fuel S cs = some x) (hx : Small x.1) :
    ∃ (A : Option Addr) (n cap : Nat) (l : List α), cs = [.slice A n cap] ∧ n ≤ cap ∧ cap ≤ maxLen ∧ SlAt sz At w w.heap.size A n l ∧ n ≤ 1048576 ∧ (A = none → n = 0 ∧ cap = 0) := by
  rcases Go.Deep.open_slice hU h with ⟨hc, _⟩ | ⟨a, len, cap, m, n, D, Pl, hc, hb, hl, hm, hmm, rfl, hi⟩
  · exact ⟨none, 0, 0, [], hc, Nat.le_refl _, by unfold maxLen; omega, ⟨rfl, by unfold maxLen; omega, fun h => absurd h (by omega)⟩, by omega, fun _ => ⟨rfl, rfl⟩⟩
  · have hlm : len ≤ m := by rw [hmm]; split <;> omega
    have hlen : len ≤ 1048576 := by
      have := hx.len
      simpa using this
    have hel : ∀ i, i < len → Small (D i) := fun i hlt => hx.elem (by simp; exact ⟨i, hlt, rfl⟩)
    have hx : ∀ i, i < len → ∃ q : List Value × α, q.1.length = sz ∧ (∀ j, j < sz → w.cell? ((a.add (i * sz)).add j) = q.1[j]?) ∧ ∀ b o, (∀ j, j < sz → w.cell? ⟨b, o + j, none⟩ = q.1[j]?) → At w w.heap.size b o q.2 := fun i hlt => by
      obtain ⟨cs', hc, ht⟩ := hi i (by omega)
      rw [hsz] at hc
      obtain ⟨_, _, hcell⟩ := World.cells?_some hc
      obtain ⟨r, hrl, hr⟩ := helem n cs' _ ht (hel i hlt)
      exact ⟨(cs', r), hrl, hcell, hr⟩
    obtain ⟨L, hLl, hL⟩ := list_of len hx
    refine ⟨some a, len, cap, L.map (·.2), hc, hl, hm, ⟨by simp [hLl], by omega, fun hp => ?_⟩, hlen, fun h => by cases h⟩
    obtain ⟨b, off, spot⟩ := a
    have hL0 := hL 0 _ (List.getElem?_eq_getElem (show 0 < L.length by omega))
    have hspot : spot = none := by
      have := hL0.2.1 0 hpos
      have h3 : ∃ v, (L[0].1)[0]? = some v := ⟨_, List.getElem?_eq_getElem (by rw [hL0.1]; exact hpos)⟩
      obtain ⟨v, hv⟩ := h3
      rw [hv] at this
      simpa [Addr.add] using World.cell?_spot this
    subst hspot
    have hplain : ∀ i j, ((Addr.mk b off none).add (i * sz)).add j = ⟨b, off + i * sz + j, none⟩ := fun i j => by rw [Go.WideShapes.add_plain, Go.WideShapes.add_plain]
    have hlt : b < w.heap.size := by
      have h0 := hL0.2.1 0 hpos
      have h3 : ∃ v, (L[0].1)[0]? = some v := ⟨_, List.getElem?_eq_getElem (by rw [hL0.1]; exact hpos)⟩
      obtain ⟨v, hv⟩ := h3
      rw [hv, hplain] at h0
      exact lt_of_cell' h0
    refine ⟨b, off, rfl, hlt, fun i y hy => ?_⟩
    rw [List.getElem?_map] at hy
    cases hq : L[i]? with
    | none => rw [hq] at hy; cases hy
    | some q =>
      rw [hq] at hy
      simp at hy
      obtain ⟨_, h2, h3⟩ := hL i q hq
      rw [← hy]
      refine h3 b (off + i * sz) fun j hj => ?_
      rw [← hplain]; exact h2 j hj
end
end Go.Proofs.YthhjgndaiimgjaaGreatDoor
end
