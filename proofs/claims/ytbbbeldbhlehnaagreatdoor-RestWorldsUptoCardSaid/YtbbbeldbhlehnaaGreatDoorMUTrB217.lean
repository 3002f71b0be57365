/- Parts of a proof, laid together. -/
import Derived.Test.YtbbbeldbhlehnaaGreatDoorMUTrB211
import Derived.Test.YtbbbeldbhlehnaaGreatDoorMUTrB212
set_option linter.unusedSimpArgs false
set_option linter.unusedVariables false
section
set_option maxRecDepth 100000
namespace Gno
open Go
def farN (t : List Nd) (s : List Nat) : Nat → Nat
 | 0 => 0
 | n + 1 => if goT t 0 (s.take (n + 1)) < 0 then farN t s n else n + 1
theorem goT_app (t : List Nd) : ∀ (r q : List Nat) (a : Int), goT t a (r ++ q) = goT t (goT t a r) q
 | [], q, a => rfl
 | c :: r, q, a => by
   rw [List.cons_append]
   show (if a < 0 then a else goT t (edTo (ndAt t a).es c) (r ++ q)) = goT t (if a < 0 then a else goT t (edTo (ndAt t a).es c) r) q
   by_cases h : a < 0
   ·rw [if_pos h, if_pos h, goT_neg t h]
   ·rw [if_neg h, if_neg h, goT_app t r q]
theorem take_succ_at {s : List Nat} {i c : Nat} (h : s[i]? = some c) : s.take (i + 1) = s.take i ++ [c] := by
 rw [List.take_add_one, h]; rfl
theorem goT_succ (t : List Nd) {s : List Nat} {i c : Nat} {a : Nat} {q : Nd} (h : goT t 0 (s.take i) = (a : Int)) (hq : t[a]? = some q) (hc : s[i]? = some c) : goT t 0 (s.take (i + 1)) = edTo q.es c := by
 rw [take_succ_at hc, goT_app, h]
 show (if (a : Int) < 0 then (a : Int) else edTo (ndAt t a).es c) = _
 rw [if_neg (by omega), ndAt_of hq]
theorem hasE_yes {l : List Eg} {c : Nat} (hr : Rise l) (h : hasE l c = true) : ∃ e, l[cntE l c]? = some e ∧ edTo l c = e.to := by
 unfold hasE at h
 split at h
 ·rename_i e he
  refine ⟨e, he, ?_⟩
  rw [beq_iff_eq] at h
  rw [← h] at he ⊢
  exact edTo_mem hr (List.mem_of_getElem? he)
 ·cases h
theorem hasE_no {l : List Eg} {c : Nat} (hr : Rise l) (h : hasE l c = false) : edTo l c = -1 ∧ ∀ e ∈ l, e.c ≠ c := by
 rcases edTo_cnt (c := c) hr with ⟨e, h1, h2, h3⟩ | ⟨_, h2, h3⟩
 ·unfold hasE at h
  rw [h1] at h
  simp only at h
  rw [beq_eq_false_iff_ne] at h
  exact absurd h2 h
 ·exact ⟨h3, h2⟩
def seenW (t : List Nd) (s : List Nat) (m : Nat) : List (Nat × Int) := (List.range (m + 1)).map fun i => (i, findK t (s.take i))
theorem seenW_split {t : List Nd} {s : List Nat} {m i : Nat} (h : i ≤ m) : seenW t s m = (List.range i).map (fun i => (i, findK t (s.take i))) ++ (i, findK t (s.take i)) :: ((List.range' (i + 1) (m - i)).map fun i => (i, findK t (s.take i))) := by
 unfold seenW
 rw [List.range_eq_range', List.range_eq_range', show m + 1 = i + (1 + (m - i)) by omega, ← List.range'_append_1, List.map_append, ← List.range'_append_1]
 simp
theorem seenW_pre {t : List Nd} {s : List Nat} (i : Nat) : (List.range (i + 1)).map (fun i => (i, findK t (s.take i))) = (List.range i).map (fun i => (i, findK t (s.take i))) ++ [(i, findK t (s.take i))] := by
 rw [List.range_succ, List.map_append]; rfl
end Gno
namespace Go.Proofs.YtbbbeldbhlehnaaGreatDoor
open Go.RowKit Gno Go.Shelf
attribute [local go_sem] Oper.semAt_some
def SeqP2 {α : Type} (P : Program) (g : FuncId) (lb : Array Value) (encs : α → Array Value) (xs : List α) (n0 : Nat) (C : World → Prop) (w : World) : Prop :=
 ∀ (l : Nat) (J : List α → World → Prop) (Jp : List PanicEntry → World → Prop) (W : World), Below w.heap.size w W → w.heap.size ≤ l → l < W.heap.size → (∀ pre A B, J pre A → Below (l + 1) A B → J pre B) → (∀ pre A, J pre A → C A) →
  (∀ pre x rest V, xs = pre ++ x :: rest → J pre V → l < V.heap.size → YieldAt Fence.wide 9 P l (encs x) V fun e V' => (e = .returned (.bool true) ∧ J (pre ++ [x]) V' ∧ RKeeps n0 l V V' ∧ V.heap.size ≤ V'.heap.size) ∨ (∃ ch, e = .panicked ch ∧ Jp ch V')) → J [] W →
  CallsIn Fence.wide 10 P g (#[.func (.yield l) #[] #[]] ++ lb) W fun e W' => (∃ v, e = .returned v ∧ J xs W') ∨ (∃ ch, e = .panicked ch ∧ Jp ch W')
theorem wpV_range2 {α : Type} {P : Program} {g : Operand} {ps : Array Tmp} {assign body : Code} {Q : Exit → Act → World → Prop} {a : Act} {w : World} {gf : FuncId} {lb : Array Value} {encs : α → Array Value} {xs : List α} {n0 : Nat}
 (hg : a.eval g = .func (.func gf) #[] lb) (eg : ∀ args w, (callFunc gf args).run P w = .ok (.enter gf args) w) (hps : ∀ x, (encs x).size = ps.size)
 (C : World → Prop) (hseq : SeqP2 P gf lb encs xs n0 C w) (hn0 : n0 ≤ w.heap.size)
 (I : List α → World → Prop) (hIC : ∀ pre V, I pre V → C V) (Ip : List PanicEntry → World → Prop) (hI : ∀ pre A B, I pre A → Below w.heap.size A B → I pre B) (h0 : I [] w)
 (hround : ∀ pre x rest V, xs = pre ++ x :: rest → I pre V → w.heap.size + 2 ≤ V.heap.size →
  assign.wpIn (Fence.wide.inRound (w.heap.size + 1)) 9 P (Exit.then (fun a₁ V₁ => Below V.heap.size V V₁ ∧ ∀ V₂, Below (w.heap.size + 1) V₁ V₂ → (∀ k, w.heap.size + 1 < k → V₂.heap[k]? = V₁.heap[k]?) → V₂.heap.size = V₁.heap.size → body.wpIn (Fence.wide.inRound (w.heap.size + 1)) 9 P
   (fun e a₃ V₃ => match e with
    | .normal => (∀ k, w.heap.size ≤ k → k < V₂.heap.size → V₃.heap[k]? = V₂.heap[k]?) ∧ V₂.heap.size ≤ V₃.heap.size ∧ Below n0 V₂ V₃ ∧ I (pre ++ [x]) V₃
    | .panic ch => a₃.defers = [] ∧ V₃.heap[w.heap.size]? = V₂.heap[w.heap.size]? ∧ Ip ch V₃
    | _ => False) a₁ V₂) (fun _ _ _ => False))
   { tmps := (ps.zip (encs x)).foldl (fun tmps (t, v) => tmps.setIfInBounds t v) a.tmps, defers := [] } V)
 (hdone : ∀ W, I xs W → W.heap[w.heap.size]? = some (.deferred (some [])) → w.heap.size + 2 ≤ W.heap.size → Q .normal { a with defers := { target := .collected w.heap.size, args := #[] } :: a.defers } W)
 (hpanic : ∀ ch W, Ip ch W → W.heap[w.heap.size]? = some (.deferred (some [])) → Q (.panic ch) { a with defers := { target := .collected w.heap.size, args := #[] } :: a.defers } W) :
 Code.wpV P (Code.rangeFunc g ps assign body) Q a w := by
 refine wpV_rangeFunc (n := 10) fun fn f0 hf0 => ?_
 obtain ⟨W1, hW1⟩ : ∃ W1, W1 = (w.alloc (.deferred (some []))).alloc (.loop (recOf fn a.tmps ps assign body w.heap.size)) := ⟨_, rfl⟩
 have hL1 : W1.heap[w.heap.size + 1]? = some (.loop (recOf fn a.tmps ps assign body w.heap.size)) := by rw [hW1]; have := World.alloc_heap_new (w.alloc (.deferred (some []))) (.loop (recOf fn a.tmps ps assign body w.heap.size)); rwa [World.size_alloc] at this
 have hK1 : W1.heap[w.heap.size]? = some (.deferred (some [])) := by
  rw [hW1]; exact (Below.heap_alloc _ _ _ (by simp)).trans (World.alloc_heap_new w _)
 have hb1 : Below w.heap.size w W1 := by rw [hW1]; exact ((Below.refl _ w).alloc (Nat.le_refl _) _).alloc (by simp) _
 have hz1 : W1.heap.size = w.heap.size + 2 := by rw [hW1]; simp
 refine ⟨w.heap.size + 1, [{ target := .collected w.heap.size, args := #[] }], W1, { target := .fn (.func gf) lb, args := #[.func (.yield (w.heap.size + 1)) #[] #[]] }, W1, gf,
  #[.func (.yield (w.heap.size + 1)) #[] #[]] ++ lb, W1, ?_, ?_, ?_, ?_⟩
 ·rw [hW1]; exact run_enterLoop_outer _ _ _ _ _
 ·simp only [resolve, hg]
  simp [go_sem]
 ·simp [invoke, go_sem, eg]
 ·refine (hseq (w.heap.size + 1)
   (fun pre W => I pre W ∧ W.heap[w.heap.size + 1]? = some (.loop (recOf fn a.tmps ps assign body w.heap.size)) ∧ W.heap[w.heap.size]? = some (.deferred (some [])) ∧ w.heap.size + 2 ≤ W.heap.size)
   (fun ch W => Ip ch W ∧ W.heap[w.heap.size]? = some (.deferred (some [])))
   W1 hb1 (by omega) (by omega)
   (fun pre A B h hb => ⟨hI pre A B h.1 (hb.mono (by omega)), (hb.block _ (by omega)).trans h.2.1, (hb.block _ (by omega)).trans h.2.2.1, Nat.le_trans h.2.2.2 hb.size⟩)
   (fun pre V h => hIC pre V h.1)
   ?_ ⟨hI [] w W1 h0 hb1, hL1, hK1, by omega⟩).mono ?_
  ·-- one round
   rintro pre x rest V hx ⟨hi, hl, hk, hz⟩ hlt
   have hy := run_yield (P := P) (args := encs x) hl (hps x)
   refine ⟨fn, _, assign, body, hy, roundIn_of_wpIn_p hf0 trivial (wpIn_mono (hround pre x rest V hx hi hz) ?_)⟩
   intro e a₁ V₁ he
   cases e with
   | normal =>
     obtain ⟨hb, hbody⟩ := he
     have hl2 : V₁.heap[w.heap.size + 1]? = some (.loop (recOf fn a.tmps ps assign body w.heap.size)) := (hb.block _ (by omega)).trans hl
     have hk2 : V₁.heap[w.heap.size]? = some (.deferred (some [])) := (hb.block _ (by omega)).trans hk
     refine ⟨_, run_beginRound hl2 rfl, wpIn_mono (hbody _ below_putObj (fun k hk => World.putObj_heap_other (by omega)) (by simp)) ?_⟩
     have hlb : (V₁.putObj (w.heap.size + 1) (.loop (busyOf fn a.tmps ps assign body w.heap.size))).heap[w.heap.size + 1]? = some (.loop (busyOf fn a.tmps ps assign body w.heap.size)) := World.putObj_heap_same (by have := hb.size; omega)
     have hkb : (V₁.putObj (w.heap.size + 1) (.loop (busyOf fn a.tmps ps assign body w.heap.size))).heap[w.heap.size]? = some (.deferred (some [])) := (World.putObj_heap_other (by omega)).trans hk2
     intro e a₃ V₃ h3
     cases e with
     | normal =>
       obtain ⟨hs, hz3, hbn, hi3⟩ := h3
       have hl3 : V₃.heap[w.heap.size + 1]? = some (.loop (busyOf fn a.tmps ps assign body w.heap.size)) := (hs _ (by omega) (by have := hb.size; simp; omega)).trans hlb
       have hk3 : V₃.heap[w.heap.size]? = some (.deferred (some [])) := (hs _ (by omega) (by have := hb.size; simp; omega)).trans hkb
       have hz4 : V₁.heap.size ≤ V₃.heap.size := by simpa using hz3
       refine ⟨_, _, run_endRound (P := P) none hl3, .inl ⟨rfl, ⟨hI _ _ _ hi3 (below_putObj.mono (by omega)), World.putObj_heap_same (by have := hb.size; omega), (World.putObj_heap_other (by omega)).trans hk3, ?_⟩, ⟨?_, ?_⟩, ?_⟩⟩
       ·have := hb.size; simp; omega
       ·exact ((hb.mono (by omega)).trans ((below_putObj.mono (by omega)).trans hbn)).trans (below_putObj.mono (by omega))
       ·intro k h1 h2
        have hbs := hb.size
        rw [World.putObj_heap_other (by omega), hs k (by omega) (by simp; omega), World.putObj_heap_other (by omega)]
        exact hb.block k h2
       ·have := hb.size; simp; omega
     | panic ch =>
       obtain ⟨hd, hk3, hi3⟩ := h3
       exact ⟨hd, .inr ⟨ch, rfl, hi3, hk3.trans hkb⟩⟩
     | ret => exact h3.elim
     | exit id => exact h3.elim
     | goto t => exact h3.elim
     | outgrown => exact h3.elim
   | ret => exact he.elim
   | exit id => exact he.elim
   | goto t => exact he.elim
   | panic ch => exact he.elim
   | outgrown => exact he.elim
  ·rintro e W2 (⟨v, rfl, hi, hl, hk, hz⟩ | ⟨ch, rfl, hi, hk⟩)
   ·refine ⟨_, run_endLoop (P := P) hl (by simp), ?_⟩
    exact hdone _ (hI _ _ _ hi (below_putObj.mono (by omega))) ((World.putObj_heap_other (by omega)).trans hk) (by simp; omega)
   ·exact hpanic ch _ hi hk
def encW (x : Nat × Int) : Array Value := #[.int .i64 x.1, .int .i64 x.2]
theorem walk_any (A : Option Addr) (n cap : Nat) (s : ByteArray) (w : World) :
 Calls Tryz.prog 138 #[.slice A n cap, .string s] w fun e w' => e = .returned (.func (.func 188) #[] #[.pointer (some ⟨w.heap.size, 0, none⟩), .pointer (some ⟨w.heap.size + 1, 0, none⟩)]) ∧
  w' = (w.alloc (.cells #[.slice A n cap] 65)).alloc (.cells #[.string s] 9) := by
 have hmf : ∀ (fn : Fn) (first cap : Array Value) (w : World), (Instr.makeFunc fn first cap).run Tryz.prog w = .ok (.func fn first cap) w := fun _ _ _ _ => rfl
 go_enter Tryz.func138, Tryz.ntmps138
 go_wp2
 go_ret
 exact ⟨rfl, rfl⟩
def Far (t : List Nd) (s : List Nat) (m : Nat) : Prop := m ≤ s.length ∧ (∀ i, i ≤ m → 0 ≤ goT t 0 (s.take i)) ∧ (m < s.length → goT t 0 (s.take (m + 1)) < 0)
def BoxesAt (bx by' : Nat) (A : Option Addr) (n cap : Nat) (s : ByteArray) (V : World) : Prop := V.cell? ⟨bx, 0, none⟩ = some (.slice A n cap) ∧ V.cell? ⟨by', 0, none⟩ = some (.string s)
set_option maxRecDepth 100000 in
set_option maxHeartbeats 8000000 in
theorem walk_seq (t : List Nd) (A : Option Addr) (n cap : Nat) (s : ByteArray) (m n0 bx by' : Nat) (hs : m ≤ 9223372036854775807) (w : World) (hT : NodesAt w n0 A n t) (hok : trieOk t = true) (hm : Far t (bs s) m) (hn0 : n0 ≤ w.heap.size) :
 SeqP2 Tryz.prog 188 #[.pointer (some ⟨bx, 0, none⟩), .pointer (some ⟨by', 0, none⟩)] encW (seenW t (bs s) m) n0 (BoxesAt bx by' A n cap s) w := by
 intro l J Jp W hW hl hlW hJ hJC hY h0
 have HY := Lib.hid hY
 have HJ := Lib.hid hJ
 have HC := Lib.hid hJC
 have hnl : n ≤ 9223372036854775807 := hT.2.1
 have HN : Hid (t.length = n) := Lib.hid hT.1
 have HT : Hid (NodesAt W n0 A n t) := Lib.hid (SlAt.below keeps_nd hT (hW.mono hn0) (Nat.le_refl _))
 have hnW : n0 ≤ l := by omega
 have HM := Lib.hid hm
 have OK := Lib.hid hok
 clear hY hJ hT hJC hm hok
 refine callsIn_of_wp Tryz.func188 rfl trivial ?_ rfl
 simp only [Tryz.ntmps188, List.size_toArray, List.length_cons, List.length_nil, Nat.reduceAdd, Nat.reduceSub, Array.replicate_succ, Array.replicate_zero, List.push_toArray, List.append_toArray, List.nil_append, List.cons_append]
 gi_wp2
 gi_loopw [4, 5] (fun b4 b5 wr => ∃ (i a : Nat), i ≤ m ∧ b5 = .int .i64 i ∧ b4 = .int .i64 a ∧ Hid (goT t 0 ((bs s).take i) = (a : Int)) ∧ a < n ∧ Hid (J ((List.range i).map fun i => (i, findK t ((bs s).take i))) wr) ∧ RKeeps n0 l W wr ∧ W.heap.size ≤ wr.heap.size) (fun _ b5 _ => s.size + 1 - (intOf b5).toNat)
 case atStart => exact ⟨0, 0, Nat.zero_le _, rfl, rfl, Lib.hid rfl, by have := trieOk_pos OK.out; rw [HN.out] at this; exact this, Lib.hid (by simpa using h0), ⟨Below.refl _ _, fun _ _ _ => rfl⟩, Nat.le_refl _⟩
 case round =>
  obtain ⟨i, a, hi, rfl, rfl, hg, han, hj, hrk, hz⟩ := hrel
  clear h0
  obtain ⟨b, o, q, hA, hbB, hq, A2, cap2, hqq⟩ := nodes_get HT.out han
  obtain ⟨e0, e1, _⟩ := hqq _ hrk.1
  obtain ⟨bx0, by0⟩ := HC.out _ _ hj.out
  rw [hA] at bx0
  have HQ := Lib.hid hq
  have HW : Hid (findK t ((bs s).take i) = q.word) := Lib.hid (findK_at hg.out hq)
  have hsl := bs_len s
  have his : i ≤ s.size := by have := HM.out.1; omega
  obtain ⟨fn, tmps, assign, body, hy, hR⟩ := HY.out _ (i, findK t ((bs s).take i)) _ _ (seenW_split hi) hj.out (by omega)
  dsimp only [encW] at hy
  rw [HW.out] at hy hR
  have HR := Lib.hid hR
  clear hR hsl
  gi_wp2
  refine HR.out.mono ?_
  rintro e W3 (⟨rfl, hj3, hk3, hz3⟩ | ⟨ch, rfl, hjp⟩)
  ·have hrk3 : RKeeps n0 l W W3 := ⟨hrk.1.trans hk3.1, fun q h1 h2 => (hk3.2 q h1 (by omega)).trans (hrk.2 q h1 h2)⟩
   have hz4 : W.heap.size ≤ W3.heap.size := by omega
   have HJ3 : Hid (J ((List.range (i + 1)).map fun i => (i, findK t ((bs s).take i))) W3) := Lib.hid (by rw [seenW_pre]; rw [HW.out]; exact hj3)
   obtain ⟨bx3, by3⟩ := HC.out _ _ HJ3.out
   rw [hA] at bx3
   obtain ⟨f0, f1, hE⟩ := hqq _ hrk3.1
   clear hk3 hj3 hrk hz3 hj e0 e1 bx0 by0
   by_cases hlt : i < s.size
   ·have hc := bs_at s i hlt
    obtain ⟨c, hcc⟩ : ∃ c, c = s[i].toNat := ⟨_, rfl⟩
    rw [← hcc] at hc
    have hr := (trieOk_get OK.out HQ.out).2.2
    have HR2 := Lib.hid hr
    have hE2 := Lib.hid (fun (V : World) (h : Below W3.heap.size W3 V) => (EdgesAt.next (SlAt.below keeps_ed hE (Below.refl _ _) (Nat.le_trans (by omega) hz4)) h))
    have HF : Hid (∀ V, Below W3.heap.size W3 V → Calls Tryz.prog 65 #[.agg #[.slice A2 q.es.length cap2, .int .i64 q.word], .int .u8 s[i].toNat] V fun e w' => e = .returned (.tuple #[.int .i64 (cntE q.es c), .bool (hasE q.es c)]) ∧ Below V.heap.size V w') := Lib.hid fun V hV => by rw [← hcc]; exact findP_any q A2 cap2 c V (hE2.out V hV) HR2.out
    have HG : Hid (goT t 0 ((bs s).take (i + 1)) = edTo q.es c) := Lib.hid (goT_succ t hg.out HQ.out hc)
    obtain ⟨T, hTT⟩ : ∃ T, T = hasE q.es c := ⟨_, rfl⟩
    have HT2 := Lib.hid hTT
    rw [← hTT] at HF
    obtain ⟨N, hNN⟩ : ∃ N, N = cntE q.es c := ⟨_, rfl⟩
    have HN2 := Lib.hid hNN
    rw [← hNN] at HF
    have hml : q.es.length ≤ 9223372036854775807 := hE.2.1
    have HEd := Lib.hid hE
    obtain ⟨ml, hmm⟩ : ∃ ml, ml = q.es.length := ⟨_, rfl⟩
    have HM2 := Lib.hid hmm
    rw [← hmm] at f0 hml HF HEd
    have HB := Lib.hid (trieOk_to OK.out HQ.out c)
    have hbd : Below W3.heap.size W3 W3.drew := ⟨rfl, rfl, rfl, Nat.le_refl _, fun _ _ => rfl⟩
    have HS : Hid (∀ V, Below W3.heap.size W3 V → Below W3.heap.size W3 V ∧ (V.cell? ⟨bx, 0, none⟩ = some (.slice (some ⟨b, o, none⟩) n cap) ∧ V.cell? ⟨by', 0, none⟩ = some (.string s)) ∧ (V.cell? ⟨b, o + a * 2, none⟩ = some (.slice A2 ml cap2) ∧ V.cell? ⟨b, o + a * 2 + 1, none⟩ = some (.int .i64 q.word))) := Lib.hid fun V hV => ⟨hV, ⟨(hV.cell (lt_of_cell' bx3)).trans bx3, (hV.cell (lt_of_cell' by3)).trans by3⟩, (hV.cell (lt_of_cell' f0)).trans f0, (hV.cell (lt_of_cell' f1)).trans f1⟩
    clear hc hr hTT hNN hE hmm hcc hqq hq
    cases T
    ·gi_wp2
     refine wpIn_wide.2 ?_
     go_region_held3 (fun w' => Below W3.heap.size W3 w' ∧ (w'.cell? ⟨bx, 0, none⟩ = some (.slice (some ⟨b, o, none⟩) n cap) ∧ w'.cell? ⟨by', 0, none⟩ = some (.string s)) ∧ (w'.cell? ⟨b, o + a * 2, none⟩ = some (.slice A2 ml cap2) ∧ w'.cell? ⟨b, o + a * 2 + 1, none⟩ = some (.int .i64 q.word))) (first | exact HS.out _ (Below.refl _ _) | exact HS.out _ hbd | exact HS.out _ hb2) (first | (go_at_call 65; (with_reducible refine (HF.out _ (by first | exact Below.refl _ _ | exact hbd)).mono ?_); rintro e w2 ⟨rfl, hb20⟩; have hb2 := hbd.trans (hb20.mono hbd.size); clear hb20))
     have HJ4 : J (seenW t (bs s) m) w2 := by
      have h1 := HG.out
      have h2 := hasE_no HR2.out HT2.out.symm
      have hm : m = i := by
       have h3 := HM.out.2.1 (i + 1)
       by_cases q1 : i + 1 ≤ m
       ·have := h3 q1; rw [h1, h2.1] at this; omega
       ·omega
      have h5 := HJ.out _ _ w2 HJ3.out (hb2.mono (by omega))
      rw [hm]
      unfold seenW
      exact h5
     gi_wp2
     exact bodyPost_ret (results_none Tryz.results188 _ _ _) rfl (.inl ⟨_, rfl, HJ4⟩)
    ·have HK : Hid (∃ e, q.es[N]? = some e ∧ edTo q.es c = e.to) := Lib.hid (by rw [HN2.out]; exact hasE_yes HR2.out HT2.out.symm)
     obtain ⟨e, he, hto⟩ := HK.out
     have hNl : N < ml := by rw [HM2.out]; exact (List.getElem?_eq_some_iff.1 he).1
     obtain ⟨b2, o2, e2, hA2, hbB2, he2, hec, hee⟩ := edges_get HEd.out hNl
     rw [he] at he2
     injection he2 with he2
     subst he2
     obtain ⟨j, hj, hjl⟩ : ∃ j : Nat, e.to = (j : Int) ∧ j < n := by
      rcases HB.out with h | ⟨j, h1, h2⟩
      ·have := ((trieOk_get OK.out HQ.out).2.1 e (List.mem_of_getElem? he)).1
       rw [hto] at h; omega
      ·rw [hto] at h1; exact ⟨j, h1, by rw [← HN.out]; exact h2⟩
     have HG2 : Hid (goT t 0 ((bs s).take (i + 1)) = (j : Int)) := Lib.hid (by rw [HG.out, hto, hj])
     have him : i + 1 ≤ m := by
      have h3 := HM.out.2.2
      by_cases q1 : i + 1 ≤ m
      ·exact q1
      ·have hmi : m = i := by omega
       rw [hmi, bs_len, HG2.out] at h3
       have := h3 hlt
       omega
     have HEE : Hid (∀ V, Below n0 W3 V → EdAt V b2 (o2 + N * 2) e) := Lib.hid hee
     have HJJ := Lib.hid hj
     clear he hto hee HK HG HB HT2 HN2 hj
     subst hA2
     gi_wp2
     refine wpIn_wide.2 ?_
     go_region_held3 (fun w' => Below W3.heap.size W3 w' ∧ (w'.cell? ⟨bx, 0, none⟩ = some (.slice (some ⟨b, o, none⟩) n cap) ∧ w'.cell? ⟨by', 0, none⟩ = some (.string s)) ∧ (w'.cell? ⟨b, o + a * 2, none⟩ = some (.slice (some ⟨b2, o2, none⟩) ml cap2) ∧ w'.cell? ⟨b, o + a * 2 + 1, none⟩ = some (.int .i64 q.word))) (first | exact HS.out _ (Below.refl _ _) | exact HS.out _ hbd | exact HS.out _ hb2) (first | (go_at_call 65; (with_reducible refine (HF.out _ (by first | exact Below.refl _ _ | exact hbd)).mono ?_); rintro e w2 ⟨rfl, hb20⟩; have hb2 := hbd.trans (hb20.mono hbd.size); clear hb20))
     have hrk4 : RKeeps n0 l W w2 := ⟨hrk3.1.trans (hb2.mono (by omega)), fun q h1 h2 => (hb2.block q (by omega)).trans (hrk3.2 q h1 h2)⟩
     have hz5 : W.heap.size ≤ w2.heap.size := Nat.le_trans hz4 hb2.size
     have HJ4 : Hid (J ((List.range (i + 1)).map fun i => (i, findK t ((bs s).take i))) w2) := Lib.hid (HJ.out _ _ _ HJ3.out (hb2.mono (by omega)))
     obtain ⟨_, ⟨k0, k1⟩, k2, k3⟩ := HS.out _ hb2
     obtain ⟨g0, g1⟩ := HEE.out _ (hb2.mono (by omega))
     rw [HJJ.out] at g1
     gi_wp2
     go_roundw
     case rel => exact ⟨i + 1, j, him, by go_num, rfl, HG2, hjl, HJ4, hrk4, hz5⟩
     case measure => simp [intOf]; omega
   ·have hm : m = i := by
     have h1 := HM.out.1
     rw [bs_len] at h1
     omega
    subst hm
    gi_wp2
    go_end0
    exact .inl ⟨_, rfl, HJ3.out⟩
  ·gi_wp2
   exact ⟨rfl, .inr ⟨ch, rfl, hjp⟩⟩
end Go.Proofs.YtbbbeldbhlehnaaGreatDoor
end
