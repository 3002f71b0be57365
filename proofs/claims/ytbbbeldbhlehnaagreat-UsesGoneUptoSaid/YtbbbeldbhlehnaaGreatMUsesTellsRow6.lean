/- Parts of a proof, laid together. -/
import Derived.JoinedCond
import Derived.Deep.Slices
import Derived.Test.YtbbbeldbhlehnaaGreatMUsesTellsRow3
import Derived.Test.YtbbbeldbhlehnaaGreatMUsesTellsRow5
set_option linter.unusedSimpArgs false
set_option linter.unusedVariables false
/-! What the bound of the second form gives; the builder of its row that hands the world's shape on. -/
section
set_option linter.unusedVariables false
set_option linter.unusedSimpArgs false
namespace Go.Proofs.YtbbbeldbhlehnaaGreat
open Go.ChangeShapes Go.WideShapes Go.ChangeAt Go.RowKit Gno
section
variable {H : Type} {enc : TypeId × Value → H}
/-- so small is what came in, and each part of it. -/
def Small (d : DataW H) : Prop := Rows.uptoBulk d ≤ 1048576
theorem one_le (d : DataW H) : 1 ≤ Rows.uptoBulk d := by
  cases d with
  | lit l => cases l <;> simp [Rows.uptoBulk]
  | nil => simp [Rows.uptoBulk]
  | ptr d => simp [Rows.uptoBulk]
  | slice elems spare => simp [Rows.uptoBulk]
  | agg parts => simp [Rows.uptoBulk]
  | iface t d => simp [Rows.uptoBulk]
  | map entries => simp [Rows.uptoBulk]
  | held h => simp [Rows.uptoBulk]
theorem part_le {d : DataW H} {l : List (DataW H)} (h : d ∈ l) : Rows.uptoBulk d ≤ Rows.uptoBulkAll l := by
  induction l with
  | nil => cases h
  | cons x r ih =>
    simp only [Rows.uptoBulkAll]
    cases List.mem_cons.1 h with
    | inl e => subst e; omega
    | inr e => have := ih e; omega
theorem length_le (l : List (DataW H)) : l.length ≤ Rows.uptoBulkAll l := by
  induction l with
  | nil => simp [Rows.uptoBulkAll]
  | cons x r ih => have := one_le x; simp only [Rows.uptoBulkAll, List.length_cons]; omega
theorem Small.elem {es sp : List (DataW H)} (h : Small (.slice es sp)) {e : DataW H} (he : e ∈ es) : Small e := by
  have := part_le he
  unfold Small at *
  simp only [Rows.uptoBulk] at h
  omega
theorem Small.len {es sp : List (DataW H)} (h : Small (.slice es sp)) : es.length ≤ 1048576 := by
  have := length_le es
  unfold Small at *
  simp only [Rows.uptoBulk] at h
  omega
theorem Small.part {es : List (DataW H)} (h : Small (.agg es)) {e : DataW H} (he : e ∈ es) : Small e := by
  have := part_le he
  unfold Small at *
  simp only [Rows.uptoBulk] at h
  omega
theorem Small.str {s : ByteArray} (h : Small (DataW.lit (H := H) (.string s.data.toList))) : s.size ≤ 1048576 := by
  unfold Small at *
  simp only [Rows.uptoBulk, Array.length_toList] at h
  have : s.size = s.data.size := rfl
  omega
theorem small_of {l : List (DataW H)} (hk : Rows.uptoSmall H l = true) {d : DataW H} (hd : d ∈ l) : Small d := by
  have h1 := of_decide_eq_true hk
  have := part_le hd
  unfold Small
  omega
end
section
variable {H : Type} {enc : TypeId × Value → H} {P : Program} {w : World} {base : Nat} {spare : Nat → Bool} {held : Bool}
/-- open_slice_gen, of a small slice. -/
theorem open_slice_sm {α : Type} {S T : TypeId} {sz : Nat} (hU : P.underlying S = some (.slice T)) (hsz : P.cellsOf T = sz) (hpos : 0 < sz) (At : World → Nat → Nat → Nat → α → Prop)
    (helem : ∀ fuel cs x, DataW.trod enc P w base spare held fuel T cs = some x → Small x.1 → ∃ a, cs.length = sz ∧ ∀ b o, (∀ j, j < sz → w.cell? ⟨b, o + j, none⟩ = cs[j]?) → At w w.heap.size b o a)
    {fuel : Nat} {cs : List Value} {x : DataW H × List MemPlace} (h : DataW.trod enc P w base spare held fuel S cs = some x) (hx : Small x.1) :
    ∃ (A : Option Addr) (n cap : Nat) (l : List α), cs = [.slice A n cap] ∧ n ≤ cap ∧ cap ≤ maxLen ∧ SlAt sz At w w.heap.size A n l ∧ n ≤ 1048576 ∧ (A = none → n = 0 ∧ cap = 0) := by
  rcases Go.Deep.open_slice hU h with ⟨hc, _⟩ | ⟨a, len, cap, m, n, D, Pl, hc, hb, hl, hm, hmm, rfl, hi⟩
  · exact ⟨none, 0, 0, [], hc, Nat.le_refl _, by unfold maxLen; omega, ⟨rfl, by unfold maxLen; omega, fun h => absurd h (by omega)⟩, by omega, fun _ => ⟨rfl, rfl⟩⟩
  · have hlm : len ≤ m := by rw [hmm]; split <;> omega
    have hlen : len ≤ 1048576 := by
      have := hx.len
      simpa using this
    have hel : ∀ i, i < len → Small (D i) := fun i hlt => hx.elem (by simp; exact ⟨i, hlt, rfl⟩)
    have hx : ∀ i, i < len → ∃ q : List Value × α, q.1.length = sz ∧ (∀ j, j < sz → w.cell? ((a.add (i * sz)).add j) = q.1[j]?) ∧ ∀ b o, (∀ j, j < sz → w.cell? ⟨b, o + j, none⟩ = q.1[j]?) → At w w.heap.size b o q.2 := fun i hlt => by
      obtain ⟨cs', hc, ht⟩ := hi i (by omega)
      rw [hsz] at hc
      obtain ⟨_, _, hcell⟩ := World.cells?_some hc
      obtain ⟨r, hrl, hr⟩ := helem n cs' _ ht (hel i hlt)
      exact ⟨(cs', r), hrl, hcell, hr⟩
    obtain ⟨L, hLl, hL⟩ := list_of len hx
    refine ⟨some a, len, cap, L.map (·.2), hc, hl, hm, ⟨by simp [hLl], by omega, fun hp => ?_⟩, hlen, fun h => by cases h⟩
    obtain ⟨b, off, spot⟩ := a
    have hL0 := hL 0 _ (List.getElem?_eq_getElem (show 0 < L.length by omega))
    have hspot : spot = none := by
      have := hL0.2.1 0 hpos
      have h3 : ∃ v, (L[0].1)[0]? = some v := ⟨_, List.getElem?_eq_getElem (by rw [hL0.1]; exact hpos)⟩
      obtain ⟨v, hv⟩ := h3
      rw [hv] at this
      simpa [Addr.add] using World.cell?_spot this
    subst hspot
    have hplain : ∀ i j, ((Addr.mk b off none).add (i * sz)).add j = ⟨b, off + i * sz + j, none⟩ := fun i j => by rw [Go.WideShapes.add_plain, Go.WideShapes.add_plain]
    have hlt : b < w.heap.size := by
      have h0 := hL0.2.1 0 hpos
      have h3 : ∃ v, (L[0].1)[0]? = some v := ⟨_, List.getElem?_eq_getElem (by rw [hL0.1]; exact hpos)⟩
      obtain ⟨v, hv⟩ := h3
      rw [hv, hplain] at h0
      exact lt_of_cell' h0
    refine ⟨b, off, rfl, hlt, fun i y hy => ?_⟩
    rw [List.getElem?_map] at hy
    cases hq : L[i]? with
    | none => rw [hq] at hy; cases hy
    | some q =>
      rw [hq] at hy
      simp at hy
      obtain ⟨_, h2, h3⟩ := hL i q hq
      rw [← hy]
      refine h3 b (off + i * sz) fun j hj => ?_
      rw [← hplain]; exact h2 j hj
/-- the second form's builder, the world's shape handed on. -/
theorem returnsInHanded_of_cond_shaped {a : Assume} {C : Checked} {os : Os} {f : FuncId} {fn : Func} {s : OpenSpec} {k : (H : Type) → List (DataW H) → Bool} (hk : s.cond = some k) {F : Stop.Interp} {conds : List PathCond} {apart fresh handsOn again : Bool}
    (own : ownKnob C.prog.godebug = none) (started : os.Started) (noInit : C.prog.inits.idxOf? f = none) (hfn : C.prog.funcs[f]? = some fn)
    (witness : ∃ (w : World) (tape : Tape) (i : Input), w.os = os ∧ (w.forCall tape i).Shaped C.prog ∧ i.vars = [] ∧ Input.okWide C.prog (w.forCall tape i) .any w.heap.size f i ∧
      s.pre6 enc C.prog fn conds apart (w.forCall tape i).memory i.args ∧ a.holds C.prog (lone (Frame.enter C.prog f i.args .normal) [] (w.forCall tape i)))
    (contract : ∀ (W : World) (base : Nat) (args : Array Value) (ds gs : List (DataW H)) (before : List MemPlace),
      (∀ (j : Nat) t v, fn.params[j]? = some t → args[j]? = some v → Value.okWide C.prog W .any base t v) →
      DataW.Whole enc C.prog fn.params.toList s.vars apart W args.toList ds gs before →
      conds.all (PathCond.test C.prog ⟨fn.params.toList, ds, s.bare.plain.varTypes C.prog, gs⟩) = true → k H (ds ++ gs) = true → W.ShapedOpen C.prog →
      a.holds C.prog (lone (Frame.enter C.prog f args .normal) [] W) →
      Calls C.prog f args W fun e W' => ∃ v, e = .returned v ∧ (s.at F).post enc C.prog fn apart fresh handsOn again W args v W') :
    ReturnsInHanded a C os f .any (s.pre6 enc C.prog fn conds apart) ((s.at F).post enc C.prog fn apart fresh handsOn again) := by
  refine returnsInHanded_of_calls own started noInit witness ?_
  intro w tape i _ hsh _ hok hpre hholds
  obtain ⟨_, _, _, fn', hfn', _, _, _, _, hval⟩ := hok
  have e : fn' = fn := Option.some.inj (hfn'.symm.trans hfn)
  subst e
  obtain ⟨ds, gs, before, hw, hc, hkk⟩ := (OpenSpec.pre_some hk conds apart _ _).1 hpre.1
  have hw' := DataW.Whole.of_heap (w' := w.forCall tape i) (by rfl) hw
  refine (contract (w.forCall tape i) w.heap.size i.args ds gs before hval hw' hc hkk hsh hholds).mono fun e W' ⟨v, he, hp⟩ => ?_
  subst he
  exact ChangeSpec.post_blind hp
end
end Go.Proofs.YtbbbeldbhlehnaaGreat
end
