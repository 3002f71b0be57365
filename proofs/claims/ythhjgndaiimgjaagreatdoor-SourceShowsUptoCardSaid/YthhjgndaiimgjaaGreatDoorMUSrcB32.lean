/- Parts of a proof, laid together. -/
import Derived.Recover
import Derived.Defers
import Derived.Test.YthhjgndaiimgjaaGreatDoorMUSrcB30
import Derived.Test.YthhjgndaiimgjaaGreatDoorMUSrcB31
import Derived.Test.YthhjgndaiimgjaaGreatDoorMUSrcB29
import Derived.Test.YthhjgndaiimgjaaGreatDoorMUSrcB16
set_option linter.unusedSimpArgs false
set_option linter.unusedVariables false
/-! source.line, whatever the line is. -/
section
set_option linter.unusedVariables false
set_option linter.unusedSimpArgs false
set_option maxRecDepth 100000
namespace Gno
open Go Go.RowKit Go.Proofs.YthhjgndaiimgjaaGreatDoor
theorem nums_take : ∀ (k : Nat) (t : List Bt), numsP k t = (match (t.take k).mapM pnI with | some l => if l.length = k then some (l, t.drop k) else none | none => none)
  | 0, t => by simp [numsP]
  | k + 1, [] => by simp [numsP, numP]
  | k + 1, x :: r => by
    have ih := nums_take k r
    simp only [numsP, numP, List.take_succ_cons, List.drop_succ_cons, List.mapM_cons]
    cases hx : pnI x with
    | none => rfl
    | some v =>
      simp only [ih]
      cases hr : (r.take k).mapM pnI with
      | none => rfl
      | some l =>
        simp only [Option.bind_eq_bind, Option.bind_some, Option.pure_def, List.length_cons, Nat.add_right_cancel_iff]
        split <;> rfl
theorem eraP_is (t : List Bt) : eraP t = (match numsP 3 t with
    | some (l, f :: t4) => (match numP t4 with
      | some (v, t5) => some ((l, f, v), t5)
      | none => none)
    | _ => none) := by
  unfold eraP
  simp only [numsP]
  cases h1 : numP t with
  | none => rfl
  | some q1 =>
    obtain ⟨v1, t1⟩ := q1
    simp only
    cases h2 : numP t1 with
    | none => rfl
    | some q2 =>
      obtain ⟨v2, t2⟩ := q2
      simp only
      cases h3 : numP t2 with
      | none => rfl
      | some q3 =>
        obtain ⟨v3, t3⟩ := q3
        cases t3 <;> rfl
/-- the program's step, in the words of its walk. -/
def stepQ (c : Cn) (ws : List Bt) : Option Cn := match ws with
  | [] => none
  | k :: t =>
    if k = wSet then (match t with
      | [n] => some { c with ss := c.ss ++ [(n, [])] }
      | _ => none)
    else if k = wRule then (if c.ss = [] then none else match numsP 8 t with
      | some (l, [w]) => some { c with ss := ontoLast c.ss (l, wLet w) }
      | _ => none)
    else if k = wZone then (match t with
      | [n] => some { c with zs := c.zs ++ [(n, [])] }
      | _ => none)
    else if k = wEra then (if c.zs = [] then none else match eraP t with
      | some (x, []) => some { c with zs := ontoLast c.zs x }
      | _ => none)
    else if k = wLink then (match t with
      | [a, b] => some { c with ls := c.ls ++ [(a, b)] }
      | _ => none)
    else none
theorem rule_same (c : Cn) (t : List Bt) : (match (t.take 8).mapM pnI, t.drop 8 with
      | some l, [w] => if l.length = 8 then some { c with ss := ontoLast c.ss (l, wLet w) } else none
      | _, _ => none) = (match numsP 8 t with
      | some (l, [w]) => some { c with ss := ontoLast c.ss (l, wLet w) }
      | _ => none) := by
  rw [nums_take]
  cases hm : (t.take 8).mapM pnI with
  | none => rfl
  | some l =>
    simp only
    by_cases h8 : l.length = 8
    · simp only [if_pos h8]
      cases hd : t.drop 8 with
      | nil => rfl
      | cons a r =>
        cases r with
        | nil =>
          show (if l.length = 8 then some { c with ss := ontoLast c.ss (l, wLet a) } else none) = _
          rw [if_pos h8]
        | cons b r => rfl
    · simp only [if_neg h8]
      cases hd : t.drop 8 with
      | nil => rfl
      | cons a r =>
        cases r with
        | nil =>
          show (if l.length = 8 then some { c with ss := ontoLast c.ss (l, wLet a) } else none) = _
          rw [if_neg h8]
        | cons b r => rfl
theorem era_same (c : Cn) (t : List Bt) : (match (t.take 3).mapM pnI, t.drop 3 with
      | some l, [f, u] => (match pnI u with
        | some v => if l.length = 3 then some { c with zs := ontoLast c.zs (l, f, v) } else none
        | none => none)
      | _, _ => none) = (match eraP t with
      | some (x, []) => some { c with zs := ontoLast c.zs x }
      | _ => none) := by
  rw [eraP_is, nums_take]
  cases hm : (t.take 3).mapM pnI with
  | none => rfl
  | some l =>
    simp only
    by_cases h8 : l.length = 3
    · simp only [if_pos h8]
      cases hd : t.drop 3 with
      | nil => rfl
      | cons f r =>
        cases r with
        | nil => rfl
        | cons u r =>
          simp only [numP]
          cases hu : pnI u with
          | none =>
            cases r with
            | nil =>
              show (match pnI u with | some v => if l.length = 3 then some { c with zs := ontoLast c.zs (l, f, v) } else none | none => none) = _
              rw [hu]
            | cons z r => rfl
          | some v =>
            cases r with
            | nil =>
              show (match pnI u with | some v => if l.length = 3 then some { c with zs := ontoLast c.zs (l, f, v) } else none | none => none) = _
              rw [hu]
              show (if l.length = 3 then some { c with zs := ontoLast c.zs (l, f, v) } else none) = _
              rw [if_pos h8]
            | cons z r => rfl
    · simp only [if_neg h8]
      cases hd : t.drop 3 with
      | nil => rfl
      | cons f r =>
        cases r with
        | nil => rfl
        | cons u r =>
          cases r with
          | nil =>
            show (match pnI u with | some v => if l.length = 3 then some { c with zs := ontoLast c.zs (l, f, v) } else none | none => none) = _
            cases hu : pnI u with
            | none => rfl
            | some v =>
              show (if l.length = 3 then some { c with zs := ontoLast c.zs (l, f, v) } else none) = _
              rw [if_neg h8]
          | cons z r => rfl
theorem stepQ_is (c : Cn) (ws : List Bt) : stepP pnI c ws = stepQ c ws := by
  unfold stepP stepQ
  cases ws with
  | nil => rfl
  | cons k t =>
    simp only
    by_cases h1 : k = wSet
    · rw [if_pos h1, if_pos h1]
      rfl
    rw [if_neg h1, if_neg h1]
    by_cases h2 : k = wRule
    · rw [if_pos h2, if_pos h2]
      by_cases hc : c.ss = []
      · rw [if_pos hc, if_pos hc]
      · rw [if_neg hc, if_neg hc]
        exact rule_same c t
    rw [if_neg h2, if_neg h2]
    by_cases h3 : k = wZone
    · rw [if_pos h3, if_pos h3]
      rfl
    rw [if_neg h3, if_neg h3]
    by_cases h4 : k = wEra
    · rw [if_pos h4, if_pos h4]
      by_cases hc : c.zs = []
      · rw [if_pos hc, if_pos hc]
      · rw [if_neg hc, if_neg hc]
        exact era_same c t
    rw [if_neg h4, if_neg h4]
    rfl
end Gno
namespace Go.Proofs.YthhjgndaiimgjaaGreatDoor
open Go.RowKit Gno
set_option maxHeartbeats 8000000 in
theorem ln_bad (B X pw : Nat) (c : Cn) (k : Bt) (t : List Bt) (w : World) (hD : DOwn B X c w) (hW : WLeft B pw (k :: t) w) (hX : B ≤ X) (hB : B ≤ w.heap.size) (hl : t.length ≤ 100000) (h1 : k ≠ wSet) (h2 : k ≠ wRule) (h3 : k ≠ wZone) (h4 : k ≠ wEra) (h5 : k ≠ wLink) :
    Calls Tryz.prog 28 #[.pointer (some ⟨X, 0, none⟩), .pointer (some ⟨pw, 0, none⟩)] w fun e w' => LG B X pw w w' ∧ (∃ vs vz vl, XAt X vs vz vl w') ∧ e = .panicked broke := by
  obtain ⟨vs, vz, vl, ps, pz, hx, hd⟩ := hD
  have hxp := x_ne_pw hx hW
  obtain ⟨a, ha⟩ : ∃ a, a = Bs k := ⟨_, rfl⟩
  have C1 : Hid (Calls Tryz.prog 65 #[.pointer (some ⟨pw, 0, none⟩)] w fun e w' => e = .returned (.string a) ∧ WLeft B pw t w' ∧ OnlyW B pw w w') := Lib.hid (by rw [ha]; exact text_some B pw k t w hW (by omega))
  have ne : ∀ l : Bt, k ≠ l → (a.toList == l) = false := fun l hne => by rw [ha, Lib.toList_data, list_Bs]; exact beq_eq_false_iff_ne.2 hne
  have g1 : (a.toList == ([115, 101, 116] : List UInt8)) = false := ne _ h1
  have g2 : (a.toList == ([114, 117, 108, 101] : List UInt8)) = false := ne _ h2
  have g3 : (a.toList == ([122, 111, 110, 101] : List UInt8)) = false := ne _ h3
  have g4 : (a.toList == ([101, 114, 97] : List UInt8)) = false := ne _ h4
  have g5 : (a.toList == ([108, 105, 110, 107] : List UInt8)) = false := ne _ h5
  have HX0 := Lib.hid hx
  clear hW hx hd h1 h2 h3 h4 h5 ne ha
  go_enter Tryz.func28, Tryz.ntmps28
  go_wp2_with (go_at_call 65; (with_reducible refine C1.out.mono ?_); rintro e w1 ⟨rfl, hl1, ho1⟩)
  exact ⟨rfl, LG.of_only ho1, ⟨_, _, _, XAt.only HX0.out ho1 hxp⟩, rfl⟩
/-- what is told of a line's answer. -/
def LnE (B X : Nat) (o : Option Cn) (e : Ending) (w' : World) : Prop := match o with
  | some c' => e = .returned (.tuple #[]) ∧ DOwn B X c' w'
  | none => e = .panicked broke
theorem lineP_any (B X pw n : Nat) (c : Cn) (ws : List Bt) (w : World) (hD : DOwn B X c w) (hz : CnZ n c) (hn : n ≤ 5000) (hne : ws ≠ []) (hW : WLeft B pw ws w) (hm : SMet w B) (hX : B ≤ X) (hB : B ≤ w.heap.size) (hs : ∀ x ∈ ws, x.length ≤ 5000) (hl : ws.length ≤ 100000) :
    Calls Tryz.prog 28 #[.pointer (some ⟨X, 0, none⟩), .pointer (some ⟨pw, 0, none⟩)] w fun e w' => LG B X pw w w' ∧ (∃ vs vz vl, XAt X vs vz vl w') ∧ LnE B X (stepP pnI c ws) e w' := by
  rw [stepQ_is]
  cases ws with
  | nil => exact absurd rfl hne
  | cons k t =>
    have hl2 : t.length ≤ 100000 := by simp at hl; omega
    have hs2 : ∀ x ∈ t, x.length ≤ 5000 := fun x hx => hs x (List.mem_cons_of_mem _ hx)
    unfold stepQ
    simp only
    by_cases h1 : k = wSet
    · rw [if_pos h1]
      subst h1
      cases t with
      | nil => exact ln_setN B X pw c w hD hW hX hB
      | cons x t =>
        refine (ln_set B X pw n c x t w hD hz hn hW hX hB (by simp at hl2; omega)).mono fun e w' q => ⟨q.1, q.2.1, ?_⟩
        cases t with
        | nil => exact q.2.2.1 rfl
        | cons y t => exact q.2.2.2 (by simp)
    rw [if_neg h1]
    by_cases h2 : k = wRule
    · rw [if_pos h2]
      subst h2
      by_cases hc : c.ss = []
      · rw [if_pos hc]
        exact ln_ruleN B X pw c t w hD hc hW hX hB hl2
      · rw [if_neg hc]
        cases hq : numsP 8 t with
        | none => exact ln_ruleP B X pw n c t w hD hz hn hc hW (.inl hq) hm hX hB hs2 hl2
        | some q =>
          obtain ⟨l, r⟩ := q
          cases r with
          | nil => exact ln_ruleP B X pw n c t w hD hz hn hc hW (.inr ⟨l, hq⟩) hm hX hB hs2 hl2
          | cons x r =>
            refine (ln_rule B X pw n c t r l x w hD hz hn hc hW hq hm hX hB hs2 hl2).mono fun e w' q => ⟨q.1, q.2.1, ?_⟩
            cases r with
            | nil => exact q.2.2.1 rfl
            | cons y r => exact q.2.2.2 (by simp)
    rw [if_neg h2]
    by_cases h3 : k = wZone
    · rw [if_pos h3]
      subst h3
      cases t with
      | nil => exact ln_zoneN B X pw c w hD hW hX hB
      | cons x t =>
        refine (ln_zone B X pw n c x t w hD hz hn hW hX hB (by simp at hl2; omega)).mono fun e w' q => ⟨q.1, q.2.1, ?_⟩
        cases t with
        | nil => exact q.2.2.1 rfl
        | cons y t => exact q.2.2.2 (by simp)
    rw [if_neg h3]
    by_cases h4 : k = wEra
    · rw [if_pos h4]
      subst h4
      by_cases hc : c.zs = []
      · rw [if_pos hc]
        exact ln_eraN B X pw c t w hD hc hW hX hB hl2
      · rw [if_neg hc]
        rcases eraP_cases t with ⟨q0, he⟩ | ⟨v1, t1, q0, ⟨q1, he⟩ | ⟨v2, t2, q1, ⟨q2, he⟩ | ⟨v3, t3, q2, ⟨q3, he⟩ | ⟨f, t4, rfl, ⟨q4, he⟩ | ⟨v4, t5, q4, he⟩⟩⟩⟩⟩
        · rw [he]; exact ln_eraP0 B X pw n c t w hD hz hn hc hW q0 hm hX hB hs2 hl2
        · rw [he]; exact ln_eraP1 B X pw n c t t1 v1 w hD hz hn hc hW q0 q1 hm hX hB hs2 hl2
        · rw [he]; exact ln_eraP2 B X pw n c t t1 t2 v1 v2 w hD hz hn hc hW q0 q1 q2 hm hX hB hs2 hl2
        · rw [he]; subst q3; exact ln_eraP3 B X pw n c t t1 t2 v1 v2 v3 w hD hz hn hc hW q0 q1 q2 hm hX hB hs2 hl2
        · rw [he]; exact ln_eraP4 B X pw n c t t1 t2 t4 v1 v2 v3 f w hD hz hn hc hW q0 q1 q2 q4 hm hX hB hs2 hl2
        · rw [he]
          refine (ln_era B X pw n c t t1 t2 t4 t5 v1 v2 v3 v4 f w hD hz hn hc hW q0 q1 q2 q4 hm hX hB hs2 hl2).mono fun e w' q => ⟨q.1, q.2.1, ?_⟩
          cases t5 with
          | nil => exact q.2.2.1 rfl
          | cons y r => exact q.2.2.2 (by simp)
    rw [if_neg h4]
    by_cases h5 : k = wLink
    · rw [if_pos h5]
      subst h5
      cases t with
      | nil => exact ln_linkN B X pw c w hD hW hX hB
      | cons x t =>
        cases t with
        | nil => exact ln_linkN2 B X pw c x w hD hW hX hB
        | cons y t =>
          refine (ln_link B X pw n c x y t w hD hz hn hW hX hB (by simp at hl2; omega)).mono fun e w' q => ⟨q.1, q.2.1, ?_⟩
          cases t with
          | nil => exact q.2.2.1 rfl
          | cons z t => exact q.2.2.2 (by simp)
    rw [if_neg h5]
    exact ln_bad B X pw c k t w hD hW hX hB hl2 h1 h2 h3 h4 h5
end Go.Proofs.YthhjgndaiimgjaaGreatDoor
end
/-! The deferred closure of source.Read; strings.Lines. -/
section
set_option linter.unusedVariables false
set_option linter.unusedSimpArgs false
set_option maxRecDepth 100000
namespace Go.Proofs.YthhjgndaiimgjaaGreatDoor
open Go.RowKit Gno
def dataV0 : Value := .agg #[.slice none 0 0, .slice none 0 0, .slice none 0 0]
theorem data_set {X : Nat} {a b c a' b' c' : Value} {w : World} (h : w.heap[X]? = some (.cells #[a, b, c] 26)) :
    (((w.setCell ⟨X, 0, none⟩ a').setCell ⟨X, 1, none⟩ b').setCell ⟨X, 2, none⟩ c').heap[X]? = some (.cells #[a', b', c'] 26) := by
  simp [World.setCell, Array.getElem?_modify, h]
theorem errno_set {E : Nat} {a a' : Value} {w : World} (h : w.heap[E]? = some (.cells #[a] 27)) :
    (w.setCell ⟨E, 0, none⟩ a').heap[E]? = some (.cells #[a'] 27) := by
  simp [World.setCell, Array.getElem?_modify, h]
/-- what a defer of Read's has done. -/
def CatR (X E : Nat) (v : Value) (x : Int) (w w' : World) : Prop := Kp (fun k => k = X ∨ k = E) w w' ∧ (∃ a b c, v = .agg #[a, b, c] ∧ XAt X a b c w') ∧ w'.heap[E]? = some (.cells #[.int .i64 x] 27)
theorem catS_thrown (X E : Nat) (x : Int) (vs vz vl : Value) (w : World) (hX : XAt X vs vz vl w) (hE : w.heap[E]? = some (.cells #[.int .i64 x] 27)) (hne : X ≠ E) :
    CallsD Tryz.prog 26 #[.pointer (some ⟨X, 0, none⟩), .pointer (some ⟨E, 0, none⟩)] (.panicking broke) w fun e u' w' =>
      e = .returned (.tuple #[]) ∧ u' = .panicking [{ v := .iface 82 (.agg #[]), recovered := true }] ∧ CatR X E dataV0 1 w w' := by
  unfold XAt at hX
  have c0 : w.cell? ⟨X, 0, none⟩ = some vs := cell_of hX rfl
  have c1 : w.cell? ⟨X, 1, none⟩ = some vz := cell_of hX rfl
  have c2 : w.cell? ⟨X, 2, none⟩ = some vl := cell_of hX rfl
  have f0 : w.frozen? ⟨X, 0, none⟩ = false := frozen_of hX
  have f1 : w.frozen? ⟨X, 1, none⟩ = false := frozen_of hX
  have f2 : w.frozen? ⟨X, 2, none⟩ = false := frozen_of hX
  have c3 : w.cell? ⟨E, 0, none⟩ = some (.int .i64 x) := cell_of hE rfl
  have f3 : w.frozen? ⟨E, 0, none⟩ = false := frozen_of hE
  have hX1 := data_set (a' := .slice none 0 0) (b' := .slice none 0 0) (c' := .slice none 0 0) hX
  have hXE : ∀ (u : World) i v, (u.setCell ⟨X, i, none⟩ v).heap[E]? = u.heap[E]? := fun u i v => Below.heap_setCell u ⟨X, i, none⟩ v E (fun e => hne e.symm)
  have HF : Hid (CatR X E dataV0 1 w ((((w.setCell ⟨X, 0, none⟩ (.slice none 0 0)).setCell ⟨X, 1, none⟩ (.slice none 0 0)).setCell ⟨X, 2, none⟩ (.slice none 0 0)).setCell ⟨E, 0, none⟩ (.int .i64 1))) := Lib.hid
    ⟨((((Kp.refl _ w).setCell (p := ⟨X, 0, none⟩) (.inl rfl) _).setCell (p := ⟨X, 1, none⟩) (.inl rfl) _).setCell (p := ⟨X, 2, none⟩) (.inl rfl) _).setCell (p := ⟨E, 0, none⟩) (.inr rfl) _,
     ⟨_, _, _, rfl, (Below.heap_setCell _ ⟨E, 0, none⟩ _ X hne).trans hX1⟩, errno_set (a := .int .i64 x) (by rw [hXE, hXE, hXE]; exact hE)⟩
  clear hX hE hX1 hXE
  refine callsD_of_wpS Tryz.func26 rfl fun cc cs hu => ?_
  apply wpS_seq
  apply wpS_region
  simp [wpOpsS, go_sem, recoverD, hu, broke, Tryz.ntmps26, Exit.thenS]
  refine wpS_of_wp ?_
  simp only [Array.replicate_succ, Array.replicate_zero, List.push_toArray, List.append_toArray, List.nil_append, List.cons_append, List.setIfInBounds_toArray, List.set_cons_succ, List.set_cons_zero]
  go_wp2
  simp [bodyPostS, results, Tryz.results26]
  exact HF.out
theorem catS_idle (X E : Nat) (w : World) :
    CallsD Tryz.prog 26 #[.pointer (some ⟨X, 0, none⟩), .pointer (some ⟨E, 0, none⟩)] .returning w fun e u' w' =>
      e = .returned (.tuple #[]) ∧ u' = .returning ∧ w' = w := by
  refine callsD_of_wpS Tryz.func26 rfl fun c₀ cs hu => ?_
  apply wpS_seq
  apply wpS_region
  simp [wpOpsS, go_sem, recoverD, hu, Tryz.ntmps26, Exit.thenS]
  refine wpS_of_wp ?_
  simp only [Array.replicate_succ, Array.replicate_zero, List.push_toArray, List.append_toArray, List.nil_append, List.cons_append, List.setIfInBounds_toArray, List.set_cons_succ, List.set_cons_zero]
  go_wp2
  cases c₀
  simp_all [bodyPostS, results, Tryz.results26]
theorem lines_any (s : ByteArray) (w : World) :
    Calls Tryz.prog 27 #[.string s] w fun e w' => e = .returned (.func (.func 63) #[] #[.pointer (some ⟨w.heap.size, 0, none⟩)]) ∧ w' = w.alloc (.cells #[.string s] 9) := by
  have hmf : ∀ (fn : Fn) (first cap : Array Value) (w : World), (Instr.makeFunc fn first cap).run Tryz.prog w = .ok (.func fn first cap) w := fun _ _ _ _ => rfl
  go_enter Tryz.func27, Tryz.ntmps27
  go_wp2
  first
  | (go_ret; exact ⟨rfl, rfl⟩)
  | exact ⟨rfl, rfl⟩
end Go.Proofs.YthhjgndaiimgjaaGreatDoor
end
/-! How source.Read's frame leaves. -/
section
set_option linter.unusedVariables false
set_option linter.unusedSimpArgs false
set_option maxRecDepth 100000
namespace Go.Proofs.YthhjgndaiimgjaaGreatDoor
open Go.RowKit Gno
abbrev guardR (X E : Nat) : Deferred := { target := .fn (.func 26) #[.pointer (some ⟨X, 0, none⟩), .pointer (some ⟨E, 0, none⟩)], args := #[] }
theorem resS_at {tmps : Array Value} {X E : Nat} {x : Int} {a b c : Value} {W : World} (ht : tmps[2]? = some (.pointer (some ⟨X, 0, none⟩))) (ht3 : tmps[3]? = some (.pointer (some ⟨E, 0, none⟩))) (hX : XAt X a b c W) (hE : W.heap[E]? = some (.cells #[.int .i64 x] 27)) :
    (results Tryz.f8 tmps).run Tryz.prog W = .ok (.tuple #[.agg #[a, b, c], .int .i64 x]) W := by
  unfold XAt at hX
  have c0 : W.cell? ⟨X, 0, none⟩ = some a := cell_of hX rfl
  have c1 : W.cell? ⟨X, 1, none⟩ = some b := cell_of hX rfl
  have c2 : W.cell? ⟨X, 2, none⟩ = some c := cell_of hX rfl
  have c3 : W.cell? ⟨E, 0, none⟩ = some (.int .i64 x) := cell_of hE rfl
  simp [results, Tryz.results8, go_sem, ht, ht3, c0, c1, c2, c3]
theorem mark_ne {r k : Nat} {W : World} {c : Array Value} {T : TypeId} (h : W.heap[r]? = some (.deferred (some []))) (h2 : W.heap[k]? = some (.cells c T)) : k ≠ r := by
  rintro rfl
  rw [h] at h2
  cases h2
theorem doorS_panic {X E r : Nat} {x : Int} {vs vz vl : Value} {tmps : Array Value} {R : Ending → World → Prop} {W : World} (hX : XAt X vs vz vl W) (hE : W.heap[E]? = some (.cells #[.int .i64 x] 27)) (hne : X ≠ E)
    (hr : W.heap[r]? = some (.deferred (some []))) (ht : tmps[2]? = some (.pointer (some ⟨X, 0, none⟩))) (ht3 : tmps[3]? = some (.pointer (some ⟨E, 0, none⟩)))
    (hR : ∀ W', Kp (fun k => k = X ∨ k = E ∨ k = r) W W' → R (.returned (.tuple #[dataV0, .int .i64 1])) W') :
    LeavesV Tryz.prog Tryz.f8 tmps R [markD r, guardR X E] (.panicking broke) W := by
  refine door_mark (by simp) hr ?_
  have hX2 : XAt X vs vz vl (W.putObj r (.deferred none)) := (World.putObj_heap_other (mark_ne hr hX)).trans hX
  have hE2 : (W.putObj r (.deferred none)).heap[E]? = some (.cells #[.int .i64 x] 27) := (World.putObj_heap_other (mark_ne hr hE)).trans hE
  have hk : Kp (fun k => k = r) W (W.putObj r (.deferred none)) := Kp.putObj (S := fun k => k = r) (Kp.refl _ _) rfl _
  refine ⟨by simp, .inr ⟨_, _, 26, #[.pointer (some ⟨X, 0, none⟩), .pointer (some ⟨E, 0, none⟩)], rfl, ?_, ?_⟩⟩
  · have he := enters_of Tryz.func26 (f := 26) (by kernel_rfl) rfl
    simp [invoke, go_sem, he]
  · intro c cs hu
    obtain ⟨e, u', w', fr, ⟨rfl, rfl, h1, ⟨a, b, c', h2, h3⟩, h4⟩, rest⟩ := catS_thrown X E x vs vz vl _ hX2 hE2 hne c cs hu
    refine ⟨_, _, w', fr, ?_, rest⟩
    rw [h2] at hR
    exact (show ∃ v, (results _ tmps).run Tryz.prog w' = .ok v w' ∧ R (.returned v) w' from ⟨_, resS_at ht ht3 h3 h4, hR _ ((hk.mono fun k hk => .inr (.inr hk)).trans (h1.mono fun k hk => hk.elim .inl fun q => .inr (.inl q)))⟩)
theorem doorS_ret {X E r : Nat} {x : Int} {vs vz vl : Value} {tmps : Array Value} {R : Ending → World → Prop} {W : World} (hX : XAt X vs vz vl W) (hE : W.heap[E]? = some (.cells #[.int .i64 x] 27))
    (hr : W.heap[r]? = some (.deferred (some []))) (ht : tmps[2]? = some (.pointer (some ⟨X, 0, none⟩))) (ht3 : tmps[3]? = some (.pointer (some ⟨E, 0, none⟩)))
    (hR : R (.returned (.tuple #[.agg #[vs, vz, vl], .int .i64 x])) (W.putObj r (.deferred none))) :
    LeavesV Tryz.prog Tryz.f8 tmps R [markD r, guardR X E] .returning W := by
  refine door_mark (by simp) hr ?_
  have hX2 : XAt X vs vz vl (W.putObj r (.deferred none)) := (World.putObj_heap_other (mark_ne hr hX)).trans hX
  have hE2 : (W.putObj r (.deferred none)).heap[E]? = some (.cells #[.int .i64 x] 27) := (World.putObj_heap_other (mark_ne hr hE)).trans hE
  refine ⟨by simp, .inr ⟨_, _, 26, #[.pointer (some ⟨X, 0, none⟩), .pointer (some ⟨E, 0, none⟩)], rfl, ?_, ?_⟩⟩
  · have he := enters_of Tryz.func26 (f := 26) (by kernel_rfl) rfl
    simp [invoke, go_sem, he]
  · intro c cs hu
    obtain ⟨e, u', w', fr, ⟨rfl, rfl, rfl⟩, rest⟩ := catS_idle X E _ c cs hu
    refine ⟨_, _, _, fr, ?_, rest⟩
    exact (show ∃ v, (results _ tmps).run Tryz.prog _ = .ok v _ ∧ R (.returned v) _ from ⟨_, resS_at ht ht3 hX2 hE2, hR⟩)
end Go.Proofs.YthhjgndaiimgjaaGreatDoor
end
