/- Parts of a proof, laid together. -/
import Derived.RangeFuncNested
import Derived.RangeFuncBound
import Derived.RangeFuncCalls
import Derived.RangeFuncLeaves
import Derived.RangeFuncRecord
import Derived.Shelf.Abstract
import Derived.Shelf.RegionOpen
import Derived.WalkKit
import Derived.OwnWalkIn
import Derived.TacticsInMore
import Derived.LoopNIn
import Derived.LoopIn
import Derived.Test.YthhjgndaiimgjaaGreatDoorMUSrcB4
set_option linter.unusedSimpArgs false
set_option linter.unusedVariables false
/-! A range over a function whose body goes on or panics: the statement, a round, and what an iterator's contract says. At the wide fence. -/
section
set_option linter.unusedVariables false
set_option linter.unusedSimpArgs false
namespace Go.Proofs.YthhjgndaiimgjaaGreatDoor
open Go.RowKit Gno Go.Shelf
/-- at a round's end: off its end, or by a panic. -/
def roundPostP (P : Program) (l : Nat) (R : Ending → World → Prop) : Exit → Act → World → Prop
  | .normal, _, w => ∃ v w', (Instr.endRound l none).run P w = .ok v w' ∧ R (.returned v) w'
  | .panic ch, a, w => a.defers = [] ∧ R (.panicked ch) w
  | _, _, _ => False
theorem roundIn_of_wpIn_p {F : Fence} {n : Nat} {P : Program} {l : Nat} {f : FuncId} {fn : Func} {tmps : Array Value} {assign body : Code} {w : World} {R : Ending → World → Prop} (hf : P.funcs[f]? = some fn) (hF : F.fn f)
    (h : assign.wpIn (F.inRound l) n P (Exit.then (fun a₁ w₁ => ∃ w₂, (Instr.beginRound l).run P w₁ = .ok () w₂ ∧ body.wpIn (F.inRound l) n P (roundPostP P l R) a₁ w₂) (fun _ _ _ => False))
      { tmps := tmps, defers := [] } w) :
    RoundIn F n P l f tmps assign body w R := by
  refine ⟨hF, fun c cs hr => ?_⟩
  let b : Frame := { (default : Frame) with fn := f, kind := .normal, roundOf := some l }
  have hb0 : Frame.round l f tmps assign body .normal = b.atR { tmps := tmps, defers := [] } [.code assign, .beginRound, .code body] := by
    simp [Frame.round, Frame.atR, b]
  have hr' : (F.inRound l).room ((c :: cs).length + 1 + n) := hr
  have hF' : (F.inRound l).fn b.fn := hF
  obtain ⟨e, a₁, w₁, hq, harr⟩ := h b [.beginRound, .code body] (c :: cs) rfl hF' hr'
  rw [← hb0] at harr
  cases e with
  | normal =>
    obtain ⟨w₂, hbr, hbody⟩ := hq
    have s1 : StepsIn (Machine.fenced P (F.inRound l)) P (lone (b.atR a₁ [.beginRound, .code body]) (c :: cs) w₁) (lone (b.atR a₁ [.code body]) (c :: cs) w₂) :=
      .one (fenced_calm (fr := b.atR a₁ [.beginRound, .code body]) hF' hr' rfl) (stepR_beginRound rfl hbr)
    obtain ⟨e₂, a₂, w₃, hq₂, harr₂⟩ := hbody b [] (c :: cs) rfl hF' hr'
    cases e₂ with
    | normal =>
      obtain ⟨v, w₄, hend, hR⟩ := hq₂
      exact ⟨.returned v, w₄, hR, (StepsIn.trans harr s1).trans (StepsIn.trans harr₂ (.one (fenced_calm (fr := b.atR a₂ []) hF' hr' rfl) (stepR_round_end rfl rfl hend)))⟩
    | ret => exact hq₂.elim
    | exit id => exact hq₂.elim
    | goto t => exact hq₂.elim
    | panic chain =>
      obtain ⟨hd, hR⟩ := hq₂
      obtain ⟨todo, hs⟩ := harr₂
      have hl : Frame.leaving P { b.atR a₂ todo with mode := .panicking chain } w₃ (.panicked chain) := ⟨rfl, hd, fn, hf⟩
      exact ⟨.panicked chain, w₃, hR, (StepsIn.trans harr s1).trans (StepsIn.trans hs (.one (fenced_leaving (F := F.inRound l) (n := n) hF' hr' hl) (step_leave_panicked hl)))⟩
    | outgrown => exact hq₂.elim
  | exit id => exact hq.elim
  | goto t => exact hq.elim
  | ret => exact hq.elim
  | panic chain => exact hq.elim
  | outgrown => exact hq.elim

/-! ### code in a frame of a function that there is -/
def Code.wpV (P : Program) (c : Code) (Q : Exit → Act → World → Prop) (a : Act) (w : World) : Prop :=
  ∀ (b : Frame) (k : List Item) (cs : List Frame), (∃ fn, P.funcs[b.fn]? = some fn) → ∃ e a' w', Q e a' w' ∧ Arrives P (lone (b.at a (.code c :: k)) cs w) b k cs e a' w'
section
variable {P : Program} {Q : Exit → Act → World → Prop} {a : Act} {w : World}
theorem wpV_of_wp {c : Code} (h : c.wp P Q a w) : Code.wpV P c Q a w := fun b k cs _ => h b k cs
theorem wpV_seq {x y : Code} (h : Code.wpV P x (Exit.then (Code.wpV P y Q) Q) a w) : Code.wpV P (Code.seq x y) Q a w := by
  intro b k cs hv
  obtain ⟨e, a₁, w₁, hq, harr⟩ := h b (.code y :: k) cs hv
  cases e with
  | normal =>
    obtain ⟨e₂, a₂, w₂, hq₂, harr₂⟩ := hq b k cs hv
    exact ⟨e₂, a₂, w₂, hq₂, .of_steps (.head step_seq harr) harr₂⟩
  | exit id => exact ⟨_, a₁, w₁, hq, .of_steps (.one step_seq) (.pass (x := .code y) rfl (fun _ _ => .inl (by simp)) harr)⟩
  | goto l => exact ⟨_, a₁, w₁, hq, .of_steps (.one step_seq) (.pass (x := .code y) rfl (fun _ _ => .inl (by simp)) harr)⟩
  | ret => exact ⟨_, a₁, w₁, hq, .of_steps (.one step_seq) (.pass (x := .code y) rfl (fun _ _ => .inl (by simp)) harr)⟩
  | panic ch => exact ⟨_, a₁, w₁, hq, .of_steps (.one step_seq) (.pass (x := .code y) rfl (fun _ _ => .inl (by simp)) harr)⟩
  | outgrown => exact ⟨_, a₁, w₁, hq, .of_steps (.one step_seq) (.pass (x := .code y) rfl (fun _ _ => .inl (by simp)) harr)⟩
/-- a plain statement, then the rest. -/
theorem wpV_plain {x y : Code} (h : ∀ K : Act → World → Prop, (∀ a w, Code.wpV P y Q a w → K a w) → x.wp P (Exit.then K Q) a w) : Code.wpV P (Code.seq x y) Q a w :=
  wpV_seq (wpV_of_wp (h _ fun _ _ h => h))
theorem wpV_then {x y : Code} (h : ∀ K : Act → World → Prop, (∀ a w, Code.wpV P y Q a w → K a w) → Code.wpV P x (Exit.then K Q) a w) : Code.wpV P (Code.seq x y) Q a w :=
  wpV_seq (h _ fun _ _ h => h)
theorem wpV_block {id : Nat} {c : Code} (h : Code.wpV P c (Exit.inBlock id Q) a w) : Code.wpV P (Code.block id c) Q a w := by
  intro b k cs hv
  obtain ⟨e, a₁, w₁, hq, harr⟩ := h b (.inBlock id :: k) cs hv
  cases e with
  | normal => exact ⟨.normal, a₁, w₁, hq, .head step_block (Steps.trans harr (.one step_inBlock))⟩
  | exit id' =>
    by_cases hid : id' = id
    · simp only [Exit.inBlock, hid, if_true] at hq
      exact ⟨.normal, a₁, w₁, hq, .head step_block (harr k (by simp [exitTo, hid]))⟩
    · simp only [Exit.inBlock, hid, if_false] at hq
      refine ⟨.exit id', a₁, w₁, hq, fun k' hk => .head step_block (harr k' ?_)⟩
      have : (id == id') = false := by simp; exact fun h => hid h.symm
      simp [exitTo, this, hk]
  | goto l => exact ⟨_, a₁, w₁, hq, fun k' hk => .head step_block (harr k' (by simp [gotoIn, hk]))⟩
  | ret => exact ⟨_, a₁, w₁, hq, .of_steps (.one step_block) harr⟩
  | panic ch => exact ⟨_, a₁, w₁, hq, .of_steps (.one step_block) harr⟩
  | outgrown => exact ⟨_, a₁, w₁, hq, .of_steps (b := b) (k := k) (cs := cs) (e := .outgrown) (.one step_block) harr⟩
/-- the statement; what is asked behind the function that was ranged over. -/
def rangePostV (P : Program) (l : Nat) (Q : Exit → Act → World → Prop) (a' : Act) : Ending → World → Prop
  | .returned _, w₃ => ∃ w₄, (Instr.endLoop l).run P w₃ = .ok none w₄ ∧ Q .normal a' w₄
  | .panicked chain, w₃ => Q (.panic chain) a' w₃
  | .outgrown, _ => False
theorem wpV_rangeFunc {n : Nat} {g : Operand} {ps : Array Tmp} {assign body : Code}
    (h : ∀ fn f0, P.funcs[fn]? = some f0 → ∃ (l : Nat) (mark : List Deferred) (w₁ : World) (d : Deferred) (w₁' : World) (f : FuncId) (args : Array Value) (w₂ : World),
      (Instr.enterLoop fn a.tmps ps assign body none).run P w = .ok (l, mark) w₁ ∧
      (resolve a.eval (rangeCall g l) 0).run P w₁ = .ok d w₁' ∧
      (invoke d.target d.args).run P w₁' = .ok (.enter f args) w₂ ∧
      CallsIn Fence.wide n P f args w₂ (rangePostV P l Q { a with defers := mark ++ a.defers })) :
    Code.wpV P (Code.rangeFunc g ps assign body) Q a w := by
  intro b k cs ⟨f0, hf0⟩
  obtain ⟨l, mark, w₁, d, w₁', f, args, w₂, he, hres, hinv, hcall0⟩ := h b.fn f0 hf0
  have hcall := callsIn_wide.1 hcall0
  have henter : step P (lone (b.at a (.code (.rangeFunc g ps assign body) :: k)) cs w) = .next (lone (Frame.enter P f args .normal) (b.at { a with defers := mark ++ a.defers } (.inRangeFunc l :: k) :: cs) w₂) :=
    stepR_rangeFunc (P := P) (b := { b with roundOf := none }) (a := a) (k := k) (cs := cs) (w := w) he hres hinv
  obtain ⟨e, w₃, fr, hR, hsteps, hfn, hleave⟩ := hcall (b.at { a with defers := mark ++ a.defers } (.inRangeFunc l :: k) :: cs)
  cases e with
  | outgrown => exact hR.elim
  | returned v =>
    obtain ⟨w₄, hend, hj⟩ := hR
    have h2 : step P (lone (b.at { a with defers := mark ++ a.defers } (.endRangeFunc l :: k)) cs w₃) = .next (lone (b.at { a with defers := mark ++ a.defers } k) cs w₄) :=
      stepR_endRangeFunc (P := P) (b := { b with roundOf := none }) (a := { a with defers := mark ++ a.defers }) (k := k) (cs := cs) (w := w₃) hend
    have h1 : step P (lone fr (b.at { a with defers := mark ++ a.defers } (.inRangeFunc l :: k) :: cs) w₃) = .next (lone (b.at { a with defers := mark ++ a.defers } (.endRangeFunc l :: k)) cs w₃) :=
      (step_leave_returned (cs := cs) (c := b.at { a with defers := mark ++ a.defers } (.inRangeFunc l :: k)) hleave).trans (congrArg (fun fr => Stepped.next (lone fr cs w₃)) (finish_atR_inRangeFunc (b := { b with roundOf := none }) (a := { a with defers := mark ++ a.defers }) (k := k) l v))
    exact ⟨.normal, _, w₄, hj, .head henter (Steps.trans hsteps (.head h1 (.one h2)))⟩
  | panicked chain =>
    have h1 := step_leave_panicked (cs := cs) (c := b.at { a with defers := mark ++ a.defers } (.inRangeFunc l :: k)) hleave
    rw [Frame.raise_at] at h1
    exact ⟨.panic chain, _, w₃, hR, .inRangeFunc l :: k, .head henter (Steps.trans hsteps (.one h1))⟩
end
/-- what a round leaves alone: all below n0, and all that lies above the record l. -/
def RKeeps (n0 l : Nat) (W W' : World) : Prop := Below n0 W W' ∧ ∀ k, l < k → k < W.heap.size → W'.heap[k]? = W.heap[k]?
/-- an iterator's contract: of each thing in turn it asks for a round; a round goes on, or panics. -/
def SeqP {α : Type} (P : Program) (g : FuncId) (lb : Array Value) (encs : α → Array Value) (xs : List α) (n0 : Nat) (w : World) : Prop :=
  ∀ (l : Nat) (J : List α → World → Prop) (Jp : List PanicEntry → World → Prop) (W : World), Below w.heap.size w W → w.heap.size ≤ l → l < W.heap.size → (∀ pre A B, J pre A → Below (l + 1) A B → J pre B) →
    (∀ pre x rest V, xs = pre ++ x :: rest → J pre V → l < V.heap.size → YieldAt Fence.wide 9 P l (encs x) V fun e V' => (e = .returned (.bool true) ∧ J (pre ++ [x]) V' ∧ RKeeps n0 l V V' ∧ V.heap.size ≤ V'.heap.size) ∨ (∃ ch, e = .panicked ch ∧ Jp ch V')) → J [] W →
    CallsIn Fence.wide 10 P g (#[.func (.yield l) #[] #[]] ++ lb) W fun e W' => (∃ v, e = .returned v ∧ J xs W') ∨ (∃ ch, e = .panicked ch ∧ Jp ch W')
theorem below_putObj {w : World} {l : Nat} {o : Obj} : Below l w (w.putObj l o) := ⟨rfl, rfl, rfl, by simp, fun k hk => World.putObj_heap_other (by omega)⟩
abbrev recOf (fn : FuncId) (tmps : Array Value) (ps : Array Tmp) (assign body : Code) (D : Nat) : Loop := { state := .ready, pending := none, fn, tmps, params := ps, assign, body, defers := D }
abbrev busyOf (fn : FuncId) (tmps : Array Value) (ps : Array Tmp) (assign body : Code) (D : Nat) : Loop := { state := .busy, pending := none, fn, tmps, params := ps, assign, body, defers := D }
/-- THE STATEMENT. 'I pre W': what holds between two rounds; it hangs on what lies below the loop's own two blocks alone. -/
theorem wpV_range {α : Type} {P : Program} {g : Operand} {ps : Array Tmp} {assign body : Code} {Q : Exit → Act → World → Prop} {a : Act} {w : World} {gf : FuncId} {lb : Array Value} {encs : α → Array Value} {xs : List α} {n0 : Nat}
    (hg : a.eval g = .func (.func gf) #[] lb) (eg : ∀ args w, (callFunc gf args).run P w = .ok (.enter gf args) w) (hps : ∀ x, (encs x).size = ps.size)
    (hseq : SeqP P gf lb encs xs n0 w) (hn0 : n0 ≤ w.heap.size)
    (I : List α → World → Prop) (Ip : List PanicEntry → World → Prop) (hI : ∀ pre A B, I pre A → Below w.heap.size A B → I pre B) (h0 : I [] w)
    (hround : ∀ pre x rest V, xs = pre ++ x :: rest → I pre V → w.heap.size + 2 ≤ V.heap.size →
      assign.wpIn (Fence.wide.inRound (w.heap.size + 1)) 9 P (Exit.then (fun a₁ V₁ => Below V.heap.size V V₁ ∧ ∀ V₂, Below (w.heap.size + 1) V₁ V₂ → (∀ k, w.heap.size + 1 < k → V₂.heap[k]? = V₁.heap[k]?) → V₂.heap.size = V₁.heap.size → body.wpIn (Fence.wide.inRound (w.heap.size + 1)) 9 P
        (fun e a₃ V₃ => match e with
          | .normal => (∀ k, w.heap.size ≤ k → k < V₂.heap.size → V₃.heap[k]? = V₂.heap[k]?) ∧ V₂.heap.size ≤ V₃.heap.size ∧ Below n0 V₂ V₃ ∧ I (pre ++ [x]) V₃
          | .panic ch => a₃.defers = [] ∧ V₃.heap[w.heap.size]? = V₂.heap[w.heap.size]? ∧ Ip ch V₃
          | _ => False) a₁ V₂) (fun _ _ _ => False))
        { tmps := (ps.zip (encs x)).foldl (fun tmps (t, v) => tmps.setIfInBounds t v) a.tmps, defers := [] } V)
    (hdone : ∀ W, I xs W → W.heap[w.heap.size]? = some (.deferred (some [])) → w.heap.size + 2 ≤ W.heap.size → Q .normal { a with defers := { target := .collected w.heap.size, args := #[] } :: a.defers } W)
    (hpanic : ∀ ch W, Ip ch W → W.heap[w.heap.size]? = some (.deferred (some [])) → Q (.panic ch) { a with defers := { target := .collected w.heap.size, args := #[] } :: a.defers } W) :
    Code.wpV P (Code.rangeFunc g ps assign body) Q a w := by
  refine wpV_rangeFunc (n := 10) fun fn f0 hf0 => ?_
  obtain ⟨W1, hW1⟩ : ∃ W1, W1 = (w.alloc (.deferred (some []))).alloc (.loop (recOf fn a.tmps ps assign body w.heap.size)) := ⟨_, rfl⟩
  have hL1 : W1.heap[w.heap.size + 1]? = some (.loop (recOf fn a.tmps ps assign body w.heap.size)) := by rw [hW1]; have := World.alloc_heap_new (w.alloc (.deferred (some []))) (.loop (recOf fn a.tmps ps assign body w.heap.size)); rwa [World.size_alloc] at this
  have hK1 : W1.heap[w.heap.size]? = some (.deferred (some [])) := by
    rw [hW1]; exact (Below.heap_alloc _ _ _ (by simp)).trans (World.alloc_heap_new w _)
  have hb1 : Below w.heap.size w W1 := by rw [hW1]; exact ((Below.refl _ w).alloc (Nat.le_refl _) _).alloc (by simp) _
  have hz1 : W1.heap.size = w.heap.size + 2 := by rw [hW1]; simp
  refine ⟨w.heap.size + 1, [{ target := .collected w.heap.size, args := #[] }], W1, { target := .fn (.func gf) lb, args := #[.func (.yield (w.heap.size + 1)) #[] #[]] }, W1, gf,
    #[.func (.yield (w.heap.size + 1)) #[] #[]] ++ lb, W1, ?_, ?_, ?_, ?_⟩
  · rw [hW1]; exact run_enterLoop_outer _ _ _ _ _
  · simp only [resolve, hg]
    simp [go_sem]
  · simp [invoke, go_sem, eg]
  · refine (hseq (w.heap.size + 1)
      (fun pre W => I pre W ∧ W.heap[w.heap.size + 1]? = some (.loop (recOf fn a.tmps ps assign body w.heap.size)) ∧ W.heap[w.heap.size]? = some (.deferred (some [])) ∧ w.heap.size + 2 ≤ W.heap.size)
      (fun ch W => Ip ch W ∧ W.heap[w.heap.size]? = some (.deferred (some [])))
      W1 hb1 (by omega) (by omega)
      (fun pre A B h hb => ⟨hI pre A B h.1 (hb.mono (by omega)), (hb.block _ (by omega)).trans h.2.1, (hb.block _ (by omega)).trans h.2.2.1, Nat.le_trans h.2.2.2 hb.size⟩)
      ?_ ⟨hI [] w W1 h0 hb1, hL1, hK1, by omega⟩).mono ?_
    · -- one round
      rintro pre x rest V hx ⟨hi, hl, hk, hz⟩ hlt
      have hy := run_yield (P := P) (args := encs x) hl (hps x)
      refine ⟨fn, _, assign, body, hy, roundIn_of_wpIn_p hf0 trivial (wpIn_mono (hround pre x rest V hx hi hz) ?_)⟩
      intro e a₁ V₁ he
      cases e with
      | normal =>
        obtain ⟨hb, hbody⟩ := he
        have hl2 : V₁.heap[w.heap.size + 1]? = some (.loop (recOf fn a.tmps ps assign body w.heap.size)) := (hb.block _ (by omega)).trans hl
        have hk2 : V₁.heap[w.heap.size]? = some (.deferred (some [])) := (hb.block _ (by omega)).trans hk
        refine ⟨_, run_beginRound hl2 rfl, wpIn_mono (hbody _ below_putObj (fun k hk => World.putObj_heap_other (by omega)) (by simp)) ?_⟩
        have hlb : (V₁.putObj (w.heap.size + 1) (.loop (busyOf fn a.tmps ps assign body w.heap.size))).heap[w.heap.size + 1]? = some (.loop (busyOf fn a.tmps ps assign body w.heap.size)) := World.putObj_heap_same (by have := hb.size; omega)
        have hkb : (V₁.putObj (w.heap.size + 1) (.loop (busyOf fn a.tmps ps assign body w.heap.size))).heap[w.heap.size]? = some (.deferred (some [])) := (World.putObj_heap_other (by omega)).trans hk2
        intro e a₃ V₃ h3
        cases e with
        | normal =>
          obtain ⟨hs, hz3, hbn, hi3⟩ := h3
          have hl3 : V₃.heap[w.heap.size + 1]? = some (.loop (busyOf fn a.tmps ps assign body w.heap.size)) := (hs _ (by omega) (by have := hb.size; simp; omega)).trans hlb
          have hk3 : V₃.heap[w.heap.size]? = some (.deferred (some [])) := (hs _ (by omega) (by have := hb.size; simp; omega)).trans hkb
          have hz4 : V₁.heap.size ≤ V₃.heap.size := by simpa using hz3
          refine ⟨_, _, run_endRound (P := P) none hl3, .inl ⟨rfl, ⟨hI _ _ _ hi3 (below_putObj.mono (by omega)), World.putObj_heap_same (by have := hb.size; omega), (World.putObj_heap_other (by omega)).trans hk3, ?_⟩, ⟨?_, ?_⟩, ?_⟩⟩
          · have := hb.size; simp; omega
          · exact ((hb.mono (by omega)).trans ((below_putObj.mono (by omega)).trans hbn)).trans (below_putObj.mono (by omega))
          · intro k h1 h2
            have hbs := hb.size
            rw [World.putObj_heap_other (by omega), hs k (by omega) (by simp; omega), World.putObj_heap_other (by omega)]
            exact hb.block k h2
          · have := hb.size; simp; omega
        | panic ch =>
          obtain ⟨hd, hk3, hi3⟩ := h3
          exact ⟨hd, .inr ⟨ch, rfl, hi3, hk3.trans hkb⟩⟩
        | ret => exact h3.elim
        | exit id => exact h3.elim
        | goto t => exact h3.elim
        | outgrown => exact h3.elim
      | ret => exact he.elim
      | exit id => exact he.elim
      | goto t => exact he.elim
      | panic ch => exact he.elim
      | outgrown => exact he.elim
    · rintro e W2 (⟨v, rfl, hi, hl, hk, hz⟩ | ⟨ch, rfl, hi, hk⟩)
      · refine ⟨_, run_endLoop (P := P) hl (by simp), ?_⟩
        exact hdone _ (hI _ _ _ hi (below_putObj.mono (by omega))) ((World.putObj_heap_other (by omega)).trans hk) (by simp; omega)
      · exact hpanic ch _ hi hk
end Go.Proofs.YthhjgndaiimgjaaGreatDoor
end
/-! A range over a function whose rounds may change all but the iterator's own box and the loop's own two blocks. At the wide fence. -/
section
set_option linter.unusedVariables false
set_option linter.unusedSimpArgs false
namespace Go.Proofs.YthhjgndaiimgjaaGreatDoor
open Go.RowKit Gno Go.Shelf
/-- all stands but the blocks told by S. -/
structure Kp (S : Nat → Prop) (w w' : World) : Prop where
  os : w'.os = w.os
  tape : w'.tape = w.tape
  output : w'.output = w.output
  size : w.heap.size ≤ w'.heap.size
  block : ∀ k, ¬ S k → k < w.heap.size → w'.heap[k]? = w.heap[k]?
theorem Kp.refl (S : Nat → Prop) (w : World) : Kp S w w := ⟨rfl, rfl, rfl, Nat.le_refl _, fun _ _ _ => rfl⟩
theorem Kp.trans {S : Nat → Prop} {a b c : World} (h : Kp S a b) (k : Kp S b c) : Kp S a c :=
  ⟨k.os.trans h.os, k.tape.trans h.tape, k.output.trans h.output, Nat.le_trans h.size k.size, fun i hi hl => (k.block i hi (Nat.lt_of_lt_of_le hl h.size)).trans (h.block i hi hl)⟩
theorem Kp.mono {S T : Nat → Prop} {a b : World} (h : Kp S a b) (hs : ∀ k, S k → T k) : Kp T a b := ⟨h.os, h.tape, h.output, h.size, fun k hk hl => h.block k (fun q => hk (hs k q)) hl⟩
theorem Kp.of_below {S : Nat → Prop} {a b : World} (h : Below a.heap.size a b) : Kp S a b := ⟨h.os, h.tape, h.output, h.size, fun k _ hl => h.block k hl⟩
theorem Kp.setCell {S : Nat → Prop} {a b : World} (h : Kp S a b) {p : Addr} (hp : S p.block) (v : Value) : Kp S a (b.setCell p v) :=
  ⟨h.os, h.tape, h.output, by simpa using h.size, fun k hk hl => (Below.heap_setCell b p v k (fun e => hk (by first | (rw [e]; exact hp) | (rw [← e]; exact hp)))).trans (h.block k hk hl)⟩
theorem Kp.alloc {S : Nat → Prop} {a b : World} (h : Kp S a b) (o : Obj) : Kp S a (b.alloc o) :=
  ⟨h.os, h.tape, h.output, by have := h.size; simp; omega, fun k hk hl => (Below.heap_alloc b o k (by have := h.size; omega)).trans (h.block k hk hl)⟩
theorem Kp.putObj {S : Nat → Prop} {a b : World} (h : Kp S a b) {l : Nat} (hl : S l) (o : Obj) : Kp S a (b.putObj l o) :=
  ⟨h.os, h.tape, h.output, by simpa using h.size, fun k hk hlt => (World.putObj_heap_other (fun e => hk (by first | (rw [e]; exact hl) | (rw [← e]; exact hl)))).trans (h.block k hk hlt)⟩
theorem Kp.below {S : Nat → Prop} {a b : World} {n : Nat} (h : Kp S a b) (hs : ∀ k, S k → n ≤ k) (hn : n ≤ a.heap.size) : Below n a b :=
  ⟨h.os, h.tape, h.output, h.size, fun k hk => h.block k (fun q => by have := hs k q; omega) (by omega)⟩
/-- an iterator's contract: it has one box (bs) of its own; of each thing in turn it asks for a round; a round goes on, or panics. -/
def SeqB {α : Type} (P : Program) (g : FuncId) (lb : Array Value) (encs : α → Array Value) (xs : List α) (bs : Nat) (w : World) : Prop :=
  ∀ (l : Nat) (J : List α → World → Prop) (Jp : List PanicEntry → World → Prop) (W : World), Below w.heap.size w W → w.heap.size ≤ l → l < W.heap.size → (∀ pre A B, J pre A → Kp (fun k => k = bs) A B → J pre B) →
    (∀ pre x rest V, xs = pre ++ x :: rest → J pre V → l < V.heap.size → (∃ s, V.heap[bs]? = some (.cells #[.string s] 9)) → YieldAt Fence.wide 9 P l (encs x) V fun e V' => (e = .returned (.bool true) ∧ J (pre ++ [x]) V' ∧ V'.heap[bs]? = V.heap[bs]? ∧ V.heap.size ≤ V'.heap.size) ∨ (∃ ch, e = .panicked ch ∧ Jp ch V')) → J [] W →
    CallsIn Fence.wide 10 P g (#[.func (.yield l) #[] #[]] ++ lb) W fun e W' => (∃ v, e = .returned v ∧ J xs W') ∨ (∃ ch, e = .panicked ch ∧ Jp ch W')
/-- THE STATEMENT. 'I pre W': what holds between two rounds; it hangs neither on the iterator's box nor on the loop's record. -/
theorem wpV_rangeB {α : Type} {P : Program} {g : Operand} {ps : Array Tmp} {assign body : Code} {Q : Exit → Act → World → Prop} {a : Act} {w : World} {gf : FuncId} {lb : Array Value} {encs : α → Array Value} {xs : List α} {bs : Nat}
    (hg : a.eval g = .func (.func gf) #[] lb) (eg : ∀ args w, (callFunc gf args).run P w = .ok (.enter gf args) w) (hps : ∀ x, (encs x).size = ps.size)
    (hseq : SeqB P gf lb encs xs bs w) (hbs : bs < w.heap.size)
    (I : List α → World → Prop) (Ip : List PanicEntry → World → Prop) (hI : ∀ pre A B, I pre A → Kp (fun k => k = bs ∨ k = w.heap.size + 1) A B → I pre B) (h0 : I [] w)
    (hround : ∀ pre x rest V, xs = pre ++ x :: rest → I pre V → w.heap.size + 2 ≤ V.heap.size →
      assign.wpIn (Fence.wide.inRound (w.heap.size + 1)) 9 P (Exit.then (fun a₁ V₁ => Below V.heap.size V V₁ ∧ ∀ V₂, Kp (fun k => k = w.heap.size + 1) V₁ V₂ → V₂.heap.size = V₁.heap.size → V₂.heap[w.heap.size]? = some (.deferred (some [])) → (∃ lp, V₂.heap[w.heap.size + 1]? = some (.loop lp)) → (∃ s, V₂.heap[bs]? = some (.cells #[.string s] 9)) → body.wpIn (Fence.wide.inRound (w.heap.size + 1)) 9 P
        (fun e a₃ V₃ => match e with
          | .normal => V₃.heap[w.heap.size]? = V₂.heap[w.heap.size]? ∧ V₃.heap[w.heap.size + 1]? = V₂.heap[w.heap.size + 1]? ∧ V₃.heap[bs]? = V₂.heap[bs]? ∧ V₂.heap.size ≤ V₃.heap.size ∧ I (pre ++ [x]) V₃
          | .panic ch => a₃.defers = [] ∧ V₃.heap[w.heap.size]? = V₂.heap[w.heap.size]? ∧ Ip ch V₃
          | _ => False) a₁ V₂) (fun _ _ _ => False))
        { tmps := (ps.zip (encs x)).foldl (fun tmps (t, v) => tmps.setIfInBounds t v) a.tmps, defers := [] } V)
    (hdone : ∀ W, I xs W → W.heap[w.heap.size]? = some (.deferred (some [])) → w.heap.size + 2 ≤ W.heap.size → Q .normal { a with defers := { target := .collected w.heap.size, args := #[] } :: a.defers } W)
    (hpanic : ∀ ch W, Ip ch W → W.heap[w.heap.size]? = some (.deferred (some [])) → Q (.panic ch) { a with defers := { target := .collected w.heap.size, args := #[] } :: a.defers } W) :
    Code.wpV P (Code.rangeFunc g ps assign body) Q a w := by
  refine wpV_rangeFunc (n := 10) fun fn f0 hf0 => ?_
  obtain ⟨W1, hW1⟩ : ∃ W1, W1 = (w.alloc (.deferred (some []))).alloc (.loop (recOf fn a.tmps ps assign body w.heap.size)) := ⟨_, rfl⟩
  have hL1 : W1.heap[w.heap.size + 1]? = some (.loop (recOf fn a.tmps ps assign body w.heap.size)) := by rw [hW1]; have := World.alloc_heap_new (w.alloc (.deferred (some []))) (.loop (recOf fn a.tmps ps assign body w.heap.size)); rwa [World.size_alloc] at this
  have hK1 : W1.heap[w.heap.size]? = some (.deferred (some [])) := by
    rw [hW1]; exact (Below.heap_alloc _ _ _ (by simp)).trans (World.alloc_heap_new w _)
  have hb1 : Below w.heap.size w W1 := by rw [hW1]; exact ((Below.refl _ w).alloc (Nat.le_refl _) _).alloc (by simp) _
  have hz1 : W1.heap.size = w.heap.size + 2 := by rw [hW1]; simp
  refine ⟨w.heap.size + 1, [{ target := .collected w.heap.size, args := #[] }], W1, { target := .fn (.func gf) lb, args := #[.func (.yield (w.heap.size + 1)) #[] #[]] }, W1, gf,
    #[.func (.yield (w.heap.size + 1)) #[] #[]] ++ lb, W1, ?_, ?_, ?_, ?_⟩
  · rw [hW1]; exact run_enterLoop_outer _ _ _ _ _
  · simp only [resolve, hg]
    simp [go_sem]
  · simp [invoke, go_sem, eg]
  · refine (hseq (w.heap.size + 1)
      (fun pre W => I pre W ∧ W.heap[w.heap.size + 1]? = some (.loop (recOf fn a.tmps ps assign body w.heap.size)) ∧ W.heap[w.heap.size]? = some (.deferred (some [])) ∧ w.heap.size + 2 ≤ W.heap.size)
      (fun ch W => Ip ch W ∧ W.heap[w.heap.size]? = some (.deferred (some [])))
      W1 hb1 (by omega) (by omega)
      (fun pre A B h hb => ⟨hI pre A B h.1 (hb.mono fun k hk => .inl hk), (hb.block _ (by omega) (by have := h.2.2.2; omega)).trans h.2.1, (hb.block _ (by omega) (by have := h.2.2.2; omega)).trans h.2.2.1, Nat.le_trans h.2.2.2 hb.size⟩)
      ?_ ⟨hI [] w W1 h0 (.of_below hb1), hL1, hK1, by omega⟩).mono ?_
    · -- one round
      rintro pre x rest V hx ⟨hi, hl, hk, hz⟩ hlt ⟨sb, hsb⟩
      have hy := run_yield (P := P) (args := encs x) hl (hps x)
      refine ⟨fn, _, assign, body, hy, roundIn_of_wpIn_p hf0 trivial (wpIn_mono (hround pre x rest V hx hi hz) ?_)⟩
      intro e a₁ V₁ he
      cases e with
      | normal =>
        obtain ⟨hb, hbody⟩ := he
        have hl2 : V₁.heap[w.heap.size + 1]? = some (.loop (recOf fn a.tmps ps assign body w.heap.size)) := (hb.block _ (by omega)).trans hl
        have hk2 : V₁.heap[w.heap.size]? = some (.deferred (some [])) := (hb.block _ (by omega)).trans hk
        have hlb : (V₁.putObj (w.heap.size + 1) (.loop (busyOf fn a.tmps ps assign body w.heap.size))).heap[w.heap.size + 1]? = some (.loop (busyOf fn a.tmps ps assign body w.heap.size)) := World.putObj_heap_same (by have := hb.size; omega)
        have hkb : (V₁.putObj (w.heap.size + 1) (.loop (busyOf fn a.tmps ps assign body w.heap.size))).heap[w.heap.size]? = some (.deferred (some [])) := (World.putObj_heap_other (by omega)).trans hk2
        have hsb2 : (V₁.putObj (w.heap.size + 1) (.loop (busyOf fn a.tmps ps assign body w.heap.size))).heap[bs]? = some (.cells #[.string sb] 9) := (World.putObj_heap_other (by omega)).trans ((hb.block _ (by omega)).trans hsb)
        refine ⟨_, run_beginRound hl2 rfl, wpIn_mono (hbody _ (Kp.putObj (S := fun k => k = w.heap.size + 1) (Kp.refl _ _) rfl _) (by simp) hkb ⟨_, hlb⟩ ⟨_, hsb2⟩) ?_⟩
        intro e a₃ V₃ h3
        cases e with
        | normal =>
          obtain ⟨hs0, hs1, hsb, hz3, hi3⟩ := h3
          have hl3 : V₃.heap[w.heap.size + 1]? = some (.loop (busyOf fn a.tmps ps assign body w.heap.size)) := hs1.trans hlb
          have hk3 : V₃.heap[w.heap.size]? = some (.deferred (some [])) := hs0.trans hkb
          have hz4 : V₁.heap.size ≤ V₃.heap.size := by simpa using hz3
          refine ⟨_, _, run_endRound (P := P) none hl3, .inl ⟨rfl, ⟨hI _ _ _ hi3 (Kp.putObj (S := fun k => k = bs ∨ k = w.heap.size + 1) (Kp.refl _ _) (.inr rfl) _), World.putObj_heap_same (by have := hb.size; omega), (World.putObj_heap_other (by omega)).trans hk3, ?_⟩, ?_, ?_⟩⟩
          · have := hb.size; simp; omega
          · rw [World.putObj_heap_other (by omega), hsb, World.putObj_heap_other (by omega)]
            exact hb.block bs (by omega)
          · have := hb.size; simp; omega
        | panic ch =>
          obtain ⟨hd, hk3, hi3⟩ := h3
          exact ⟨hd, .inr ⟨ch, rfl, hi3, hk3.trans hkb⟩⟩
        | ret => exact h3.elim
        | exit id => exact h3.elim
        | goto t => exact h3.elim
        | outgrown => exact h3.elim
      | ret => exact he.elim
      | exit id => exact he.elim
      | goto t => exact he.elim
      | panic ch => exact he.elim
      | outgrown => exact he.elim
    · rintro e W2 (⟨v, rfl, hi, hl, hk, hz⟩ | ⟨ch, rfl, hi, hk⟩)
      · refine ⟨_, run_endLoop (P := P) hl (by simp), ?_⟩
        exact hdone _ (hI _ _ _ hi (Kp.putObj (S := fun k => k = bs ∨ k = w.heap.size + 1) (Kp.refl _ _) (.inr rfl) _)) ((World.putObj_heap_other (by omega)).trans hk) (by simp; omega)
      · exact hpanic ch _ hi hk
end Go.Proofs.YthhjgndaiimgjaaGreatDoor
end
