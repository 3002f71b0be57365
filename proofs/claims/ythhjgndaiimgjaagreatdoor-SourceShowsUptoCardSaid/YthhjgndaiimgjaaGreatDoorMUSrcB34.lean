/- Parts of a proof, laid together. -/
import Derived.Deep.RegionHeld3
import Derived.BigRegion
import Derived.Test.YthhjgndaiimgjaaGreatDoorMUSrcB32
import Derived.Test.YthhjgndaiimgjaaGreatDoorMUSrcB30
import Derived.Test.YthhjgndaiimgjaaGreatDoorMUSrcB33
import Derived.Test.YthhjgndaiimgjaaGreatDoorMUSrcB25
import Derived.Test.YthhjgndaiimgjaaGreatDoorMUSrcB26
set_option linter.unusedSimpArgs false
set_option linter.unusedVariables false
/-! source.Read: what holds between two rounds. -/
section
set_option linter.unusedVariables false
set_option linter.unusedSimpArgs false
set_option maxRecDepth 100000
namespace Gno
open Go Go.RowKit Go.Proofs.YthhjgndaiimgjaaGreatDoor
/-- the words of a line. -/
def lineOf (x : Bt) : List Bt := splitB 32 (Lib.trimSuffix x [10])
theorem lines_raw (s : Bt) : linesP s = (rawL s).map lineOf := by
  rw [linesP_is, ← rawL_trim, List.map_map]
  rfl
theorem trim_len (x y : Bt) : (Lib.trimSuffix x y).length ≤ x.length := by
  unfold Lib.trimSuffix
  split
  · rw [List.length_take]; omega
  · exact Nat.le_refl _
theorem line_small {x : Bt} {n : Nat} (h : x.length ≤ n) : (lineOf x).length ≤ n + 1 ∧ ∀ y ∈ lineOf x, y.length ≤ n := by
  obtain ⟨h1, h2⟩ := splitB_len 32 (Lib.trimSuffix x [10])
  have := trim_len x [10]
  exact ⟨by unfold lineOf; omega, fun y hy => by have := h2 y hy; omega⟩
/-- no block of a data's kind. -/
def NF (k : Nat) (w : World) : Prop := ∀ (c : Array Value) (T : TypeId) (fz : Nat × Nat), w.heap[k]? = some (.cells c T fz) → T ∉ fiveT
theorem keepT_kp {S : Nat → Prop} {A B : World} {T : TypeId} (h : Kp S A B) (hT : T ∈ fiveT) (hS : ∀ k, S k → NF k A) : KeepT T A B := fun k c fz hk =>
  (h.block k (fun q => hS k q c T fz hk hT) (Array.getElem?_eq_some_iff.1 hk).1).trans hk
theorem keepD_kp {S : Nat → Prop} {A B : World} (h : Kp S A B) (hS : ∀ k, S k → NF k A) : KeepD A B :=
  ⟨keepT_kp h (by decide) hS, keepT_kp h (by decide) hS, keepT_kp h (by decide) hS, keepT_kp h (by decide) hS, keepT_kp h (by decide) hS⟩
theorem nf_none {k : Nat} {w : World} (h : w.heap[k]? = none) : NF k w := fun c T fz hk => by rw [h] at hk; cases hk
theorem nf_loop {k : Nat} {w : World} {l} (h : w.heap[k]? = some (.loop l)) : NF k w := fun c T fz hk => by rw [h] at hk; cases hk
theorem nf_def {k : Nat} {w : World} {l} (h : w.heap[k]? = some (.deferred l)) : NF k w := fun c T fz hk => by rw [h] at hk; cases hk
theorem nf_str {k : Nat} {w : World} {c : Array Value} (h : w.heap[k]? = some (.cells c 9)) : NF k w := fun c T fz hk => by
  rw [h] at hk
  injection hk with hk
  injection hk with _ e
  subst e
  decide
theorem nf_err {k : Nat} {w : World} {c : Array Value} (h : w.heap[k]? = some (.cells c 27)) : NF k w := fun c T fz hk => by
  rw [h] at hk
  injection hk with hk
  injection hk with _ e
  subst e
  decide
theorem nf_data {k : Nat} {w : World} {c : Array Value} (h : w.heap[k]? = some (.cells c 26)) : NF k w := fun c T fz hk => by
  rw [h] at hk
  injection hk with hk
  injection hk with _ e
  subst e
  decide
/-- between two rounds of Read's loop: B the first block of the call's own (the data's box); the answer's cell at B+1, the iterator's box at B+2, the loop's blocks at B+3 and B+4. -/
structure RdI (B : Nat) (c : Cn) (n : Nat) (w A : World) : Prop where
  below : Below B w A
  own : DOwn B B c A
  small : CnZ n c
  err : A.heap[B + 1]? = some (.cells #[.int .i64 0] 27)
  nf2 : NF (B + 2) A
  nf4 : NF (B + 4) A
  size : B + 3 ≤ A.heap.size
def Two (B : Nat) (k : Nat) : Prop := k = B + 2 ∨ k = B + 4
def RdW (B : Nat) (pre : List Bt) (w V : World) : Prop := ∃ c A, readP pnI ⟨[], [], []⟩ (pre.map lineOf) = some c ∧ RdI B c pre.length w A ∧ Kp (Two B) A V
theorem RdW.kp {B : Nat} {pre : List Bt} {w V V' : World} (h : RdW B pre w V) (k : Kp (Two B) V V') : RdW B pre w V' := by
  obtain ⟨c, A, h1, h2, h3⟩ := h
  exact ⟨c, A, h1, h2, h3.trans k⟩
/-- what stands in a world that has come from one between two rounds. -/
structure RdH (B : Nat) (c : Cn) (n : Nat) (w V : World) : Prop where
  below : Below B w V
  own : DOwn B B c V
  small : CnZ n c
  err : V.heap[B + 1]? = some (.cells #[.int .i64 0] 27)
  size : B + 3 ≤ V.heap.size
theorem RdI.at {B : Nat} {c : Cn} {n : Nat} {w A V : World} (h : RdI B c n w A) (k : Kp (Two B) A V) : RdH B c n w V := by
  have hz := h.size
  have kd : KeepD A V := keepD_kp k (fun i hi => by rcases hi with rfl | rfl <;> first | exact h.nf2 | exact h.nf4)
  refine ⟨h.below.trans (k.below (fun i hi => by rcases hi with rfl | rfl <;> omega) (by omega)), ?_, h.small, (k.block _ (by unfold Two; omega) (by omega)).trans h.err, Nat.le_trans hz k.size⟩
  obtain ⟨vs, vz, vl, ps, pz, hx, hd⟩ := h.own
  exact ⟨vs, vz, vl, ps, pz, (k.block _ (by unfold Two; omega) (by omega)).trans hx, hd.keep kd⟩
theorem RdH.next {B : Nat} {c : Cn} {n : Nat} {w V V' : World} (h : RdH B c n w V) (k : Below V.heap.size V V') : RdH B c n w V' := by
  have hz := h.size
  obtain ⟨vs, vz, vl, ps, pz, hx, hd⟩ := h.own
  exact ⟨h.below.trans (k.mono (by omega)), ⟨vs, vz, vl, ps, pz, hx.below k, hd.keep (keepD_below k)⟩, h.small, (k.block _ (by omega)).trans h.err, Nat.le_trans hz k.size⟩
/-- what the program's reader answers. -/
noncomputable def ReadE (s : ByteArray) (e : Ending) (w' : World) : Prop :=
  if 4096 < s.size then e = .returned (.tuple #[dataV0, .int .i64 2]) else match readC s.data.toList with
    | some c => ∃ d : Dt, e = .returned (.tuple #[d.val, .int .i64 0]) ∧ DataAt w' w'.heap.size d ∧ cnOf d = c ∧ Cons d
    | none => e = .returned (.tuple #[dataV0, .int .i64 1])
theorem readE_none {s : ByteArray} {w' : World} (h : ¬ 4096 < s.size) (hn : readC s.data.toList = none) : ReadE s (.returned (.tuple #[dataV0, .int .i64 1])) w' := by
  unfold ReadE
  rw [if_neg h, hn]
theorem readE_some {s : ByteArray} {w' : World} {d : Dt} (h : ¬ 4096 < s.size) (hn : readC s.data.toList = some (cnOf d)) (hD : DataAt w' w'.heap.size d) (hc : Cons d) : ReadE s (.returned (.tuple #[d.val, .int .i64 0])) w' := by
  unfold ReadE
  rw [if_neg h, hn]
  exact ⟨d, rfl, hD, rfl, hc⟩
theorem readC_step {s : Bt} {pre rest : List Bt} {x : Bt} {c : Cn} (hx : rawL s = pre ++ x :: rest) (hc : readP pnI ⟨[], [], []⟩ (pre.map lineOf) = some c) (hn : stepP pnI c (lineOf x) = none) : readC s = none := by
  unfold readC ansP
  rw [lines_raw, hx, List.map_append, List.map_cons, readP_app, hc]
  simp only [readP, hn]
theorem readP_step {pre : List Bt} {x : Bt} {c c' : Cn} (hc : readP pnI ⟨[], [], []⟩ (pre.map lineOf) = some c) (hn : stepP pnI c (lineOf x) = some c') : readP pnI ⟨[], [], []⟩ ((pre ++ [x]).map lineOf) = some c' := by
  rw [List.map_append, readP_app, hc]
  simp only [List.map_cons, List.map_nil, readP, hn]
theorem readC_done {s : Bt} {d : Dt} (hc : readP pnI ⟨[], [], []⟩ ((rawL s).map lineOf) = some (cnOf d)) (hd : Cons d) :
    (dataE d = 0 → showC Lib.itoa (cnOf d) = s → readC s = some (cnOf d)) ∧ ((dataE d ≠ 0 ∨ showC Lib.itoa (cnOf d) ≠ s) → readC s = none) := by
  unfold readC ansP
  rw [lines_raw, hc]
  have := okC_of hd
  refine ⟨fun h1 h2 => if_pos ⟨this.2 h1, h2⟩, fun h => if_neg fun q => ?_⟩
  rcases h with h | h
  · exact h (this.1 q.1)
  · exact h q.2
end Gno
end
/-! source.Read, walked. -/
section
set_option linter.unusedVariables false
set_option linter.unusedSimpArgs false
set_option maxRecDepth 100000
namespace Go.Proofs.YthhjgndaiimgjaaGreatDoor
open Go.RowKit Gno Go.Shelf
attribute [local go_sem] Oper.semAt_some
def ReadR (s : ByteArray) (w : World) (e : Ending) (w' : World) : Prop := Below w.heap.size w w' ∧ ReadE s e w'
set_option maxHeartbeats 8000000 in
theorem readS_long (s : ByteArray) (w : World) (hs : 4096 < s.size) :
    Calls Tryz.prog 8 #[.string s] w (ReadR s w) := by
  refine calls_of_wpU Tryz.func8 rfl ?_
  simp only [Tryz.ntmps8, List.size_toArray, List.length_cons, List.length_nil, Nat.reduceAdd, Nat.reduceSub, Array.replicate_succ, Array.replicate_zero, List.push_toArray, List.append_toArray, List.nil_append, List.cons_append]
  conv => arg 2; whnf
  have g : decide ((4096 : Int) < (s.size : Int)) = true := decide_eq_true (by omega)
  refine wpV_plain fun K hK => ?_
  have HK := Lib.hid hK
  clear hK
  go_wp2
  refine HK.out _ _ ?_
  clear HK
  refine wpV_plain fun K hK => ?_
  have HK := Lib.hid hK
  clear hK
  go_wp2
  refine (show ∃ v, (results _ _).run Tryz.prog _ = .ok v _ ∧ ReadR s w (.returned v) _ from ⟨.tuple #[dataV0, .int .i64 2], ?_, ?_, ?_⟩)
  · have hX : XAt w.heap.size (.slice none 0 0) (.slice none 0 0) (.slice none 0 0) ((w.alloc (.cells #[.slice none 0 0, .slice none 0 0, .slice none 0 0] 26)).alloc (.cells #[.int .i64 2] 27)) := (Below.heap_alloc _ _ _ (by simp)).trans (World.alloc_heap_new _ _)
    have hE : ((w.alloc (.cells #[.slice none 0 0, .slice none 0 0, .slice none 0 0] 26)).alloc (.cells #[.int .i64 2] 27)).heap[w.heap.size + 1]? = some (.cells #[.int .i64 2] 27) := by
      have := World.alloc_heap_new (w.alloc (.cells #[.slice none 0 0, .slice none 0 0, .slice none 0 0] 26)) (.cells #[.int .i64 2] 27)
      rwa [World.size_alloc] at this
    exact resS_at rfl rfl hX hE
  · exact ((Below.refl _ w).alloc (Nat.le_refl _) _).alloc (by simp) _
  · unfold ReadE
    rw [if_pos hs]
set_option maxHeartbeats 8000000 in
theorem readS_any (s : ByteArray) (w : World) (hm : SMet w w.heap.size) (hs : ¬ 4096 < s.size) :
    Calls Tryz.prog 8 #[.string s] w (ReadR s w) := by
  have hmf : ∀ (fn : Fn) (first cap : Array Value) (w : World), (Instr.makeFunc fn first cap).run Tryz.prog w = .ok (.func fn first cap) w := fun _ _ _ _ => rfl
  refine calls_of_wpU Tryz.func8 rfl ?_
  simp only [Tryz.ntmps8, List.size_toArray, List.length_cons, List.length_nil, Nat.reduceAdd, Nat.reduceSub, Array.replicate_succ, Array.replicate_zero, List.push_toArray, List.append_toArray, List.nil_append, List.cons_append]
  conv => arg 2; whnf
  have g : decide ((4096 : Int) < (s.size : Int)) = false := decide_eq_false (by omega)
  have HM := Lib.hid hm
  have HS := Lib.hid hs
  clear hm hs
  refine wpV_plain fun K hK => ?_
  have HK := Lib.hid hK
  clear hK
  go_wp2
  refine HK.out _ _ ?_
  clear HK
  refine wpV_plain fun K hK => ?_
  have HK := Lib.hid hK
  clear hK
  go_wp2
  refine HK.out _ _ ?_
  clear HK
  refine wpV_plain fun K hK => ?_
  have HK := Lib.hid hK
  clear hK
  go_wp2
  refine HK.out _ _ ?_
  clear HK
  have CL : Hid (∀ w, Calls Tryz.prog 27 #[.string s] w fun e w' => e = .returned (.func (.func 63) #[] #[.pointer (some ⟨w.heap.size, 0, none⟩)]) ∧ w' = w.alloc (.cells #[.string s] 9)) := Lib.hid fun w => lines_any s w
  refine wpV_then fun K hK => ?_
  have HK := Lib.hid hK
  clear hK
  refine wpV_plain fun K1 hK1 => ?_
  have HK1 := Lib.hid hK1
  clear hK1
  go_wp2_with (go_at_call 27; (with_reducible refine (CL.out _).mono ?_); rintro e w4 ⟨rfl, rfl⟩)
  refine HK1.out _ _ ?_
  clear HK1 CL
  obtain ⟨B, hB⟩ : ∃ B, B = w.heap.size := ⟨_, rfl⟩
  obtain ⟨W0, hW0⟩ : ∃ W0, W0 = (w.alloc (.cells #[.slice none 0 0, .slice none 0 0, .slice none 0 0] 26)).alloc (.cells #[.int .i64 0] 27) := ⟨_, rfl⟩
  have hz0 : W0.heap.size = B + 2 := by rw [hW0, hB]; simp
  obtain ⟨W1, hW1⟩ : ∃ W1, W1 = W0.alloc (.cells #[.string s] 9) := ⟨_, rfl⟩
  have hz1 : W1.heap.size = B + 3 := by rw [hW1]; simp [hz0]
  have hX1 : XAt B (.slice none 0 0) (.slice none 0 0) (.slice none 0 0) W1 := by
    rw [hW1, hW0, hB]
    exact (Below.heap_alloc _ _ _ (by simp; omega)).trans ((Below.heap_alloc _ _ _ (by simp)).trans (World.alloc_heap_new _ _))
  have hE1 : W1.heap[B + 1]? = some (.cells #[.int .i64 0] 27) := by
    rw [hW1]
    refine (Below.heap_alloc _ _ _ (by omega)).trans ?_
    have := World.alloc_heap_new (w.alloc (.cells #[.slice none 0 0, .slice none 0 0, .slice none 0 0] 26)) (.cells #[.int .i64 0] 27)
    rw [hW0, hB]
    rwa [World.size_alloc] at this
  have hs1 : W1.heap[B + 2]? = some (.cells #[.string s] 9) := by
    have := World.alloc_heap_new W0 (.cells #[.string s] 9)
    rw [hW1]
    rwa [hz0] at this
  have hb1 : Below B w W1 := by rw [hW1, hW0, hB]; exact (((Below.refl _ w).alloc (Nat.le_refl _) _).alloc (by simp) _).alloc (by simp; omega) _
  have HI0 : Hid (RdW B [] w W1) := Lib.hid ⟨⟨[], [], []⟩, W1, rfl, ⟨hb1, ⟨_, _, _, _, _, hX1, DHold.start _ _⟩, CnZ.nil, hE1, nf_str hs1, nf_none (Array.getElem?_eq_none (by omega)), by omega⟩, Kp.refl _ _⟩
  have SQ : Hid (SeqB Tryz.prog 63 #[.pointer (some ⟨B + 2, 0, none⟩)] encB (rawL s.data.toList) (B + 2) W1) := Lib.hid (lines_seq s (B + 2) W1 hs1 (by have := HS.out; omega))
  rw [← hW0, ← hW1, ← hB]
  clear hW1 hX1 hE1 hs1 hb1 hW0 hz0
  rw [← hB] at HM
  have HBQ := Lib.hid hB
  have HZ1 := Lib.hid hz1
  clear hB hz1
  refine wpV_block ?_
  refine wpV_rangeB (gf := 63) (lb := #[.pointer (some ⟨B + 2, 0, none⟩)]) (encs := encB) (xs := rawL s.data.toList) (bs := B + 2) rfl (enters_of Tryz.func63 (by kernel_rfl) rfl) (fun x => rfl) SQ.out (by have := HZ1.out; omega)
    (fun pre V => Hid (RdW B pre w V)) (fun ch V => Hid (ch = broke ∧ readC s.data.toList = none ∧ Below B w V ∧ (∃ vs vz vl, XAt B vs vz vl V) ∧ V.heap[B + 1]? = some (.cells #[.int .i64 0] 27)))
    (fun pre A A' h hb => Lib.hid (h.out.kp (hb.mono fun k hk => hk.elim .inl (fun q => .inr (by have := HZ1.out; omega))))) HI0 ?round ?done ?panic
  case panic =>
    have hB := HBQ.out
    have hz1 := HZ1.out
    rintro ch W' hp hk
    obtain ⟨rfl, hn, hb, ⟨vs, vz, vl, hx⟩, he⟩ := hp.out
    simp only [Exit.inBlock, Exit.then]
    refine doorS_panic hx he (by omega) hk rfl rfl fun W2 hk2 => ⟨?_, readE_none HS.out hn⟩
    rw [← hB]
    exact hb.trans (hk2.below (fun k hk => by rcases hk with rfl | rfl | rfl <;> omega) (by have := (Array.getElem?_eq_some_iff.1 he).1; omega))
  case round =>
    rintro pre x rest V hx hI hz
    have HX := Lib.hid hx
    clear hx
    dsimp only [encB]
    gi_wp2
    refine ⟨Below.refl _ _, ?_⟩
    intro V2 hk2 hs2 hd2 ⟨lp, hl2⟩ ⟨sb, hb2⟩
    have hz1 := HZ1.out
    obtain ⟨c, A, hr, hri, hkp⟩ := (hI.out.kp (hk2.mono fun k hk => .inr (by omega)))
    have hH := hri.at hkp
    have hlen : s.data.toList.length = s.size := Array.length_toList
    have hsz := HS.out
    obtain ⟨hrl1, hrl2⟩ := rawN_len s.data.toList.length s.data.toList
    have hxl : x.length ≤ 4096 := by
      have := hrl2 x (by show x ∈ rawL _; rw [HX.out]; simp)
      omega
    have hpl : pre.length ≤ 4096 := by
      have h1 : (rawL s.data.toList).length ≤ _ := hrl1
      rw [HX.out, List.length_append] at h1
      omega
    obtain ⟨hwn, hws⟩ := line_small hxl
    have HT : Hid (∀ w, Calls Tryz.prog 30 #[.string (Bs x), .string ⟨#[10]⟩] w fun e w' => e = .returned (.string (Bs (Lib.trimSuffix x [10]))) ∧ w = w') := Lib.hid fun w => by
      have := trimP_any (Bs x) (by rw [Bs_size]; omega) w
      rwa [list_Bs] at this
    have HSP : Hid (∀ w, SMet w B → Calls Tryz.prog 29 #[.string (Bs (Lib.trimSuffix x [10])), .string ⟨#[32]⟩] w fun e w' => e = .returned (.slice (some ⟨w.heap.size, 0, none⟩) (lineOf x).length (lineOf x).length) ∧
      w' = w.alloc (.cells ((lineOf x).map fun l => Value.string (Bs l)).toArray 9)) := Lib.hid fun w hm => by
      have := splitP_any (Bs (Lib.trimSuffix x [10])) (by rw [Bs_size]; have := trim_len x [10]; omega) B w hm
      rwa [list_Bs] at this
    have hz2 : B + 3 ≤ V2.heap.size := hH.size
    have hmV : SMet V2 B := HM.out.below hH.below (Nat.le_refl _)
    obtain ⟨W3, hW3⟩ : ∃ W3, W3 = (V2.alloc (.cells ((lineOf x).map fun l => Value.string (Bs l)).toArray 9)).alloc (.cells #[.slice (some ⟨V2.heap.size, 0, none⟩) (lineOf x).length (lineOf x).length] 80) := ⟨_, rfl⟩
    have hb3 : Below V2.heap.size V2 W3 := by rw [hW3]; exact ((Below.refl _ _).alloc (Nat.le_refl _) _).alloc (by simp) _
    have hz3 : W3.heap.size = V2.heap.size + 2 := by rw [hW3]; simp
    have hH3 := hH.next hb3
    have hW : WLeft B (V2.heap.size + 1) (lineOf x) W3 := by
      refine ⟨by omega, V2.heap.size, 0, ((lineOf x).map fun l => Value.string (Bs l)).toArray, by omega, ?_, ?_, fun i y hy => ?_⟩
      · have := World.alloc_heap_new (V2.alloc (.cells ((lineOf x).map fun l => Value.string (Bs l)).toArray 9)) (.cells #[.slice (some ⟨V2.heap.size, 0, none⟩) (lineOf x).length (lineOf x).length] 80)
        rw [hW3]
        rwa [World.size_alloc] at this
      · rw [hW3]
        exact (Below.heap_alloc _ _ _ (by simp)).trans (World.alloc_heap_new _ _)
      · simp [hy]
    have hline := lineP_any B B (V2.heap.size + 1) pre.length c (lineOf x) W3 hH3.own hH3.small (by omega) (splitB_ne _ _) hW (hmV.below (hb3.mono (by omega)) (Nat.le_refl _)) (Nat.le_refl _) (by omega) (fun y hy => by have := hws y hy; omega) (by omega)
    have hk0 : ∀ W4, LG B B (V2.heap.size + 1) W3 W4 → W4.heap[W1.heap.size]? = V2.heap[W1.heap.size]? ∧ W4.heap[W1.heap.size + 1]? = V2.heap[W1.heap.size + 1]? ∧ W4.heap[B + 2]? = V2.heap[B + 2]? ∧ V2.heap.size ≤ W4.heap.size ∧ W4.heap[B + 1]? = some (.cells #[.int .i64 0] 27) := fun W4 hg => by
      have a1 := (Array.getElem?_eq_some_iff.1 hd2).1
      have a2 := (Array.getElem?_eq_some_iff.1 hl2).1
      refine ⟨?_, ?_, ?_, by have := hg.below.size; omega, hg.keep _ _ hH3.err (by omega) (by omega) (fun T c fz e => nf_err hH3.err _ _ _ (by rw [hH3.err, e]))⟩
      · exact (hg.keep _ _ ((hb3.block _ a1).trans hd2) (by omega) (by omega) (fun T c fz e => by cases e)).trans hd2.symm
      · exact (hg.keep _ _ ((hb3.block _ a2).trans hl2) (by omega) (by omega) (fun T c fz e => by cases e)).trans hl2.symm
      · exact (hg.keep _ _ ((hb3.block _ (by omega)).trans hb2) (by omega) (by omega) (fun T c fz e => nf_str hb2 _ _ _ (by rw [hb2, e]))).trans hb2.symm
    have HK0 := Lib.hid hk0
    have HMV := Lib.hid hmV
    have HBW := Lib.hid hH3.below
    have HSM := Lib.hid hH3.small
    have HR := Lib.hid hr
    have HL2 := Lib.hid hl2
    have HB2 := Lib.hid hb2
    have HWS : Hid (∀ y ∈ lineOf x, y.length ≤ 5000) := Lib.hid fun y hy => Nat.le_trans (hws y hy) (by omega)
    rw [hW3] at hline
    have hw3 := hW3.symm
    have HW3 := Lib.hid hw3
    clear hrl1 hrl2 hwn hws hW hH3 hH hri hkp hk2 hs2 hd2 hl2 hb2 hmV hk0 hr hI hlen hsz hb3 hw3 hz1 HK SQ HI0
    cases hq : stepP pnI c (lineOf x) with
    | none =>
      rw [hq] at hline
      dsimp only [LnE] at hline
      have C := Lib.hid hline
      have HN := Lib.hid (readC_step HX.out HR.out hq)
      clear hline hW3 hz3 hq
      gi_wp2_with (first
        | (refine ⟨trivial, ?_⟩; gi_at_call 30; (with_reducible refine (CallsIn.inRound _ (callsIn_wide.2 (HT.out _))).mono ?_); rintro e w5 ⟨rfl, rfl⟩)
        | (refine ⟨trivial, ?_⟩; gi_at_call 29; (with_reducible refine (CallsIn.inRound _ (callsIn_wide.2 (HSP.out _ HMV.out))).mono ?_); rintro e w5 ⟨rfl, rfl⟩)
        | (refine ⟨trivial, ?_⟩; gi_at_call 28; (with_reducible refine (CallsIn.inRound _ (callsIn_wide.2 C.out)).mono ?_); rintro e w5 ⟨hg5, hx5, rfl⟩))
      rw [HW3.out] at hg5
      obtain ⟨a0, a1, a2, a3, a4⟩ := HK0.out _ hg5
      exact ⟨a0, Lib.hid ⟨HN.out, HBW.out.trans hg5.below, a4⟩⟩
    | some c' =>
      rw [hq] at hline
      dsimp only [LnE] at hline
      have C := Lib.hid hline
      have HN := Lib.hid (readP_step HR.out hq)
      have HC := Lib.hid (step_cnz HSM.out HWS.out hq)
      clear hline hW3 hz3 hq
      gi_wp2_with (first
        | (refine ⟨trivial, ?_⟩; gi_at_call 30; (with_reducible refine (CallsIn.inRound _ (callsIn_wide.2 (HT.out _))).mono ?_); rintro e w5 ⟨rfl, rfl⟩)
        | (refine ⟨trivial, ?_⟩; gi_at_call 29; (with_reducible refine (CallsIn.inRound _ (callsIn_wide.2 (HSP.out _ HMV.out))).mono ?_); rintro e w5 ⟨rfl, rfl⟩)
        | (refine ⟨trivial, ?_⟩; gi_at_call 28; (with_reducible refine (CallsIn.inRound _ (callsIn_wide.2 C.out)).mono ?_); rintro e w5 ⟨hg5, hx5, rfl, hd5⟩))
      rw [HW3.out] at hg5
      obtain ⟨a0, a1, a2, a3, a4⟩ := HK0.out _ hg5
      have hl5 := a1.trans HL2.out
      rw [HZ1.out] at hl5
      exact ⟨a0, a1, a2, a3, Lib.hid ⟨c', w5, HN.out, ⟨HBW.out.trans hg5.below, hd5, by have := HC.out; simpa using this, a4, nf_str (a2.trans HB2.out), nf_loop hl5, by omega⟩, Kp.refl _ _⟩⟩
  case done =>
    rintro W' hI hk hz
    simp only [Exit.inBlock, Exit.then]
    refine HK.out _ _ ?_
    clear HK SQ HI0
    obtain ⟨c, A, hr, hri, hkp⟩ := hI.out
    obtain ⟨hbw, ⟨vs, vz, vl, ps, pz, hx, hd⟩, hsm, he, hsz⟩ := hri.at hkp
    have hlen : s.data.toList.length = s.size := Array.length_toList
    have hle : (rawL s.data.toList).length ≤ 4096 := by
      have h1 : (rawL s.data.toList).length ≤ _ := (rawN_len s.data.toList.length s.data.toList).1
      have := HS.out
      omega
    obtain ⟨d, rfl, rfl, rfl, hDk, rfl, hcons⟩ := hd.dataK (hsm.up (by omega))
    have CS := Lib.hid (show_any d W' (hDk W' (keepD_below (Below.refl _ _))) ((HM.out.below hbw (Nat.le_refl _)).below (Below.refl _ _) (by omega)))
    obtain ⟨hy, hn⟩ := readC_done hr hcons
    have HT : Hid (shewT d = if dataE d = 0 then Bs (showC Lib.itoa (cnOf d)) else ⟨#[]⟩) := Lib.hid rfl
    have HY := Lib.hid hy
    have HN := Lib.hid hn
    have HDK := Lib.hid hDk
    have HX := Lib.hid hx
    have HE := Lib.hid he
    have HKK := Lib.hid hk
    have HBW := Lib.hid hbw
    unfold XAt at hx
    have c0 : W'.cell? ⟨B, 0, none⟩ = some (.slice d.sA d.sn d.sc) := cell_of hx rfl
    have c1 : W'.cell? ⟨B, 1, none⟩ = some (.slice d.zA d.zn d.zc) := cell_of hx rfl
    have c2 : W'.cell? ⟨B, 2, none⟩ = some (.slice d.lA d.ln d.lc) := cell_of hx rfl
    have HCO := Lib.hid hcons
    clear hd hsm hr hri hkp hI hlen hle hy hn hcons hDk hx he hk hbw HM
    obtain ⟨T, hT⟩ : ∃ T, T = shewT d := ⟨_, rfl⟩
    obtain ⟨n, hn⟩ : ∃ n, n = dataE d := ⟨_, rfl⟩
    rw [← hT, ← hn] at CS
    rw [← hT, ← hn] at HT
    rw [← hn] at HY HN
    have HTQ := Lib.hid hT
    have HNQ := Lib.hid hn
    clear hT hn
    unfold Dt.val at CS
    have hyt : n = 0 → T = s → readC s.data.toList = some (cnOf d) := fun h0 h1 => HY.out h0 (by
      have hT := HT.out
      rw [if_pos h0] at hT
      rw [← h1, hT, list_Bs])
    have hnt : n = 0 → T ≠ s → readC s.data.toList = none := fun h0 h1 => HN.out (.inr fun e => h1 (by
      have hT := HT.out
      rw [if_pos h0, e, Bs_list] at hT
      exact hT))
    have HYT := Lib.hid hyt
    have HNT := Lib.hid hnt
    clear hyt hnt
    have HPN : Hid (∀ (tm : Array Value) (w5 : World), Below W'.heap.size W' w5 → readC s.data.toList = none → tm[2]? = some (.pointer (some ⟨B, 0, none⟩)) → tm[3]? = some (.pointer (some ⟨B + 1, 0, none⟩)) → LeavesV Tryz.prog Tryz.f8 tm (ReadR s w) [markD W1.heap.size, guardR B (B + 1)] (.panicking broke) w5) := Lib.hid fun tm w5 hb5 hno t2 t3 => by
      have hz1 := HZ1.out
      have a1 := (Array.getElem?_eq_some_iff.1 HKK.out).1
      refine doorS_panic (HX.out.below hb5) ((hb5.block _ (by omega)).trans HE.out) (by omega) ((hb5.block _ a1).trans HKK.out) t2 t3 fun W2 hk2 => ⟨?_, readE_none HS.out hno⟩
      rw [← HBQ.out]
      exact (HBW.out.trans (hb5.mono (by omega))).trans (hk2.below (fun k hk => by rcases hk with rfl | rfl | rfl <;> omega) (by have := hb5.size; omega))
    refine wpV_plain fun K hK => ?_
    have HK := Lib.hid hK
    clear hK
    by_cases h0 : n = 0
    · subst h0
      by_cases h1 : T = s
      · have HYES := Lib.hid (HYT.out rfl h1)
        subst h1
        go_wp2_with (go_at_call 5; (with_reducible refine CS.out.mono ?_); rintro e w5 ⟨rfl, hb5⟩)
        refine HK.out _ _ ?_
        have hz1 := HZ1.out
        have a1 := (Array.getElem?_eq_some_iff.1 HKK.out).1
        have hx5 := HX.out.below hb5
        have he5 := (hb5.block _ (by omega)).trans HE.out
        have hk5 := (hb5.block _ a1).trans HKK.out
        have hz5 := hb5.size
        obtain ⟨W6, hW6⟩ : ∃ W6, W6 = (((w5.setCell ⟨B, 0, none⟩ (.slice d.sA d.sn d.sc)).setCell ⟨B, 1, none⟩ (.slice d.zA d.zn d.zc)).setCell ⟨B, 2, none⟩ (.slice d.lA d.ln d.lc)).setCell ⟨B + 1, 0, none⟩ (.int .i64 0) := ⟨_, rfl⟩
        have hkk : Kp (fun k => k = B ∨ k = B + 1) w5 W6 := by
          rw [hW6]
          exact ((((Kp.refl _ w5).setCell (p := ⟨B, 0, none⟩) (.inl rfl) _).setCell (p := ⟨B, 1, none⟩) (.inl rfl) _).setCell (p := ⟨B, 2, none⟩) (.inl rfl) _).setCell (p := ⟨B + 1, 0, none⟩) (.inr rfl) _
        have hx6 : XAt B (.slice d.sA d.sn d.sc) (.slice d.zA d.zn d.zc) (.slice d.lA d.ln d.lc) W6 := by
          rw [hW6]
          exact (Below.heap_setCell _ ⟨B + 1, 0, none⟩ _ B (by show B ≠ B + 1; omega)).trans (data_set hx5)
        have hne : ∀ (u : World) i v, (u.setCell ⟨B, i, none⟩ v).heap[B + 1]? = u.heap[B + 1]? := fun u i v => Below.heap_setCell u ⟨B, i, none⟩ v (B + 1) (by show B + 1 ≠ B; omega)
        have he6 : W6.heap[B + 1]? = some (.cells #[.int .i64 0] 27) := by
          rw [hW6]
          exact errno_set (a := .int .i64 0) (by rw [hne, hne, hne]; exact he5)
        have hk6 : W6.heap[W1.heap.size]? = some (.deferred (some [])) := (hkk.block _ (by omega) (by omega)).trans hk5
        have hkd : KeepD W' (W6.putObj W1.heap.size (.deferred none)) :=
          (keepD_below hb5).trans ((keepD_kp hkk (fun k hk => by rcases hk with rfl | rfl <;> first | exact nf_data hx5 | exact nf_err he5)).trans (keepD_kp (Kp.putObj (S := fun k => k = W1.heap.size) (Kp.refl _ _) rfl _) (fun k hk => by subst hk; exact nf_def hk6)))
        have HF : Hid (∀ tm : Array Value, tm[2]? = some (.pointer (some ⟨B, 0, none⟩)) → tm[3]? = some (.pointer (some ⟨B + 1, 0, none⟩)) → LeavesV Tryz.prog Tryz.f8 tm (ReadR T w) [markD W1.heap.size, guardR B (B + 1)] .returning W6) := Lib.hid (fun tm t2 t3 => doorS_ret hx6 he6 hk6 t2 t3 ⟨by
          rw [← HBQ.out]
          exact (HBW.out.trans (hb5.mono (by omega))).trans ((hkk.below (fun k hk => by rcases hk with rfl | rfl <;> omega) (by omega)).trans (below_putObj.mono (by omega))), readE_some HS.out HYES.out (HDK.out _ hkd) HCO.out⟩)
        have d0 : w5.cell? ⟨B, 0, none⟩ = some (.slice d.sA d.sn d.sc) := cell_of hx5 rfl
        have d1 : w5.cell? ⟨B, 1, none⟩ = some (.slice d.zA d.zn d.zc) := cell_of hx5 rfl
        have d2 : w5.cell? ⟨B, 2, none⟩ = some (.slice d.lA d.ln d.lc) := cell_of hx5 rfl
        have e0 : w5.frozen? ⟨B, 0, none⟩ = false := frozen_of hx5
        have e1 : w5.frozen? ⟨B, 1, none⟩ = false := frozen_of hx5
        have e2 : w5.frozen? ⟨B, 2, none⟩ = false := frozen_of hx5
        have d3 : w5.cell? ⟨B + 1, 0, none⟩ = some (.int .i64 0) := cell_of he5 rfl
        have e3 : w5.frozen? ⟨B + 1, 0, none⟩ = false := frozen_of he5
        rw [hW6] at HF
        clear hW6 hkk hx6 hne he6 hk6 hkd hx5 he5 hk5 hz5 hz1 a1 c0 c1 c2
        refine wpV_of_wp ?_
        go_wp2
        exact HF.out _ rfl rfl
      · have g1 : (T.toList == s.toList) = false := by
          rw [Lib.toList_data, Lib.toList_data]
          exact beq_eq_false_iff_ne.2 fun e => h1 (by rw [← Bs_list T, e, Bs_list])
        have HNO := Lib.hid (HNT.out rfl h1)
        clear h1
        go_wp2_with (go_at_call 5; (with_reducible refine CS.out.mono ?_); rintro e w5 ⟨rfl, hb5⟩)
        exact HPN.out _ w5 hb5 HNO.out rfl rfl
    · have g1 : decide (n = 0) = false := decide_eq_false h0
      have HNO := Lib.hid (HN.out (.inl h0))
      go_wp2_with (go_at_call 5; (with_reducible refine CS.out.mono ?_); rintro e w5 ⟨rfl, hb5⟩)
      exact HPN.out _ w5 hb5 HNO.out rfl rfl
end Go.Proofs.YthhjgndaiimgjaaGreatDoor
end
/-! Source's laws, plain: data of the same contents; what must be in any case. -/
section
set_option linter.unusedVariables false
set_option linter.unusedSimpArgs false
set_option maxRecDepth 100000
namespace Gno
open Go Go.RowKit Go.Proofs.YthhjgndaiimgjaaGreatDoor
theorem map_get {α β : Type} {f : α → β} {l l' : List α} (h : l.map f = l'.map f) {i : Nat} {s t : α} (hs : l[i]? = some s) (ht : l'[i]? = some t) : f s = f t := by
  have h1 : (l.map f)[i]? = some (f s) := by rw [List.getElem?_map, hs]; rfl
  have h2 : (l'.map f)[i]? = some (f t) := by rw [List.getElem?_map, ht]; rfl
  rw [h, h2] at h1
  exact (Option.some.inj h1).symm
theorem map_inj {α β : Type} {f : α → β} {g : β → α} (hg : ∀ x, g (f x) = x) {l l' : List α} (h : l.map f = l'.map f) : l = l' := by
  have := congrArg (List.map g) h
  rwa [map_back hg, map_back hg] at this
theorem list_inj {a b : ByteArray} (h : a.data.toList = b.data.toList) : a = b := by rw [← Bs_list a, h, Bs_list]
theorem same_of {d e : Dt} (h : cnOf d = cnOf e) (hd : Cons d) (he : Cons e) : SameD d e := by
  have h1 : d.ss.map cnS = e.ss.map cnS := congrArg Cn.ss h
  have h2 : d.zs.map cnZ = e.zs.map cnZ := congrArg Cn.zs h
  have h3 : d.ls.map cnL = e.ls.map cnL := congrArg Cn.ls h
  have l1 := congrArg List.length h1
  have l2 := congrArg List.length h2
  have l3 := congrArg List.length h3
  simp only [List.length_map] at l1 l2 l3
  refine ⟨by rw [← hd.sn, ← he.sn, l1], by rw [← hd.zn, ← he.zn, l2], by rw [← hd.ln, ← he.ln, l3], fun i s t hs ht => ?_, fun i s t hs ht => ?_, (map_inj lk_cn h3).symm⟩
  · have q := map_get h1 hs ht
    unfold cnS at q
    simp only [Prod.mk.injEq] at q
    have e2 : s.rs = t.rs := map_inj rl_cn q.2
    exact ⟨(list_inj q.1).symm, by rw [← hd.rs s (List.mem_of_getElem? hs), ← he.rs t (List.mem_of_getElem? ht), e2], e2.symm⟩
  · have q := map_get h2 hs ht
    unfold cnZ at q
    simp only [Prod.mk.injEq] at q
    have e2 : s.es = t.es := map_inj er_cn q.2
    exact ⟨(list_inj q.1).symm, by rw [← hd.es s (List.mem_of_getElem? hs), ← he.es t (List.mem_of_getElem? ht), e2], e2.symm⟩
theorem DataAt.cons {w : World} {n : Nat} {d : Dt} (h : DataAt w n d) (h2 : ∀ s ∈ d.ss, s.rs.length = s.n) (h3 : ∀ z ∈ d.zs, z.es.length = z.n) : Cons d := ⟨h.1.1, h.2.1.1, h.2.2.1.1, h2, h3⟩
/-- no data. -/
def dt0 : Dt := ⟨none, 0, 0, [], none, 0, 0, [], none, 0, 0, []⟩
theorem dt0_at (w : World) (n : Nat) : DataAt w n dt0 :=
  ⟨⟨rfl, Nat.zero_le _, fun h => absurd h (Nat.lt_irrefl 0)⟩, ⟨rfl, Nat.zero_le _, fun h => absurd h (Nat.lt_irrefl 0)⟩, ⟨rfl, Nat.zero_le _, fun h => absurd h (Nat.lt_irrefl 0)⟩, Nat.zero_le _⟩
theorem dt0_cons : Cons dt0 := ⟨rfl, rfl, rfl, by simp [dt0], by simp [dt0]⟩
theorem eu_cons (k : Nat) : Cons (euD k (-1) sOld) := ⟨rfl, rfl, rfl, by simp [euD, springs], by simp [euD]⟩
theorem eu_cn (k j : Nat) : cnOf (euD k (-1) sOld) = cnOf (euD j (-1) sOld) := rfl
def euT : ByteArray := Bs (showC Lib.itoa (cnOf (euD 0 (-1) sOld)))
theorem euT_size : euT.size = 227 := by kernel_rfl
theorem euT_head : euT.extract 0 7 = ⟨#[115, 101, 116, 32, 101, 117, 10]⟩ := by kernel_rfl
theorem eu_shew (k : Nat) : shewT (euD k (-1) sOld) = euT := by unfold shewT; rw [if_pos (eu_ok k)]; rfl
theorem eu_read (k : Nat) : readC euT.data.toList = some (cnOf (euD k (-1) sOld)) := by
  unfold euT
  rw [list_Bs, eu_cn 0 k]
  exact readC_shown ((okC_of (eu_cons k)).2 (eu_ok k))
theorem xline_cn : readP pnI ⟨[], [], []⟩ (linesP [115, 101, 116, 32, 120, 10]) = some ⟨[([120], [])], [], []⟩ := by kernel_rfl
theorem xline_no : readC [115, 101, 116, 32, 120, 10] = none := by
  unfold readC ansP
  rw [xline_cn]
  refine if_neg fun q => ?_
  have h := q.1.2
  unfold dataE dE1 at h
  rw [if_neg (by rw [show manyD (dtOf ⟨[([120], [])], [], []⟩) = false from rfl]; simp), if_pos (by rfl)] at h
  cases h
end Gno
end
/-! What must be in any case of a source. -/
section
set_option linter.unusedVariables false
set_option linter.unusedSimpArgs false
set_option maxRecDepth 100000
namespace Go.Proofs.YthhjgndaiimgjaaGreatDoor
open Go.RowKit Gno
attribute [local go_sem] Oper.semAt_some
/-- Read, whatever the text. -/
theorem read_all (s : ByteArray) (w : World) (hm : SMet w w.heap.size) : Calls Tryz.prog 8 #[.string s] w (ReadR s w) := by
  by_cases h : 4096 < s.size
  · exact readS_long s w h
  · exact readS_any s w hm h
theorem read_yes {s : ByteArray} {c : Cn} (hr : readC s.data.toList = some c) (hs : s.size ≤ 4096) (w : World) (hm : SMet w w.heap.size) :
    Calls Tryz.prog 8 #[.string s] w fun e w' => Below w.heap.size w w' ∧ ∃ d : Dt, e = .returned (.tuple #[.agg #[.slice d.sA d.sn d.sc, .slice d.zA d.zn d.zc, .slice d.lA d.ln d.lc], .int .i64 0]) ∧ DataAt w' w'.heap.size d ∧ cnOf d = c ∧ Cons d := by
  refine (read_all s w hm).mono fun e w' h => ⟨h.1, ?_⟩
  have h2 := h.2
  unfold ReadE at h2
  rw [if_neg (by omega), hr] at h2
  exact h2
theorem read_no {s : ByteArray} (hr : readC s.data.toList = none) (hs : s.size ≤ 4096) (w : World) (hm : SMet w w.heap.size) :
    Calls Tryz.prog 8 #[.string s] w fun e w' => Below w.heap.size w w' ∧ e = .returned (.tuple #[.agg #[.slice none 0 0, .slice none 0 0, .slice none 0 0], .int .i64 1]) := by
  refine (read_all s w hm).mono fun e w' h => ⟨h.1, ?_⟩
  have h2 := h.2
  unfold ReadE at h2
  rw [if_neg (by omega), hr] at h2
  exact h2
theorem read_long {s : ByteArray} (hs : 4096 < s.size) (w : World) (hm : SMet w w.heap.size) :
    Calls Tryz.prog 8 #[.string s] w fun e w' => Below w.heap.size w w' ∧ e = .returned (.tuple #[.agg #[.slice none 0 0, .slice none 0 0, .slice none 0 0], .int .i64 2]) := by
  refine (read_all s w hm).mono fun e w' h => ⟨h.1, ?_⟩
  have h2 := h.2
  unfold ReadE at h2
  rw [if_pos hs] at h2
  exact h2
set_option maxHeartbeats 8000000 in
theorem sourceBegun_any (w : World) (hm : SMet w w.heap.size) :
    Calls Tryz.prog 9 #[] w fun e w' => e = .returned (.bool true) ∧ Below w.heap.size w w' := by
  have SP := Lib.hid eu_mk
  have SH : Hid (∀ W, Below w.heap.size w W → Calls Tryz.prog 5 #[.agg #[.slice (some ⟨W.heap.size + 2, 0, none⟩) 1 1, .slice (some ⟨W.heap.size + 5, 0, none⟩) 2 2, .slice (some ⟨W.heap.size + 6, 0, none⟩) 2 2]] (euW W) fun e w' => e = .returned (.tuple #[.string euT, .int .i64 0]) ∧ Below (euW W).heap.size (euW W) w') := Lib.hid fun W hW => by
    have := show_any (euD W.heap.size (-1) sOld) (euW W) (eu_data (euW_in W) (by rw [euW_size]; omega) old_le) (hm.next (euW_next hW))
    rw [eu_shew, eu_ok] at this
    exact this
  have RY : Hid (∀ W, Below w.heap.size w W → Calls Tryz.prog 8 #[.string euT] W fun e w' => Below W.heap.size W w' ∧ ∃ d : Dt, e = .returned (.tuple #[.agg #[.slice d.sA d.sn d.sc, .slice d.zA d.zn d.zc, .slice d.lA d.ln d.lc], .int .i64 0]) ∧ DataAt w' w'.heap.size d ∧ cnOf d = cnOf (euD 0 (-1) sOld) ∧ Cons d) := Lib.hid fun W hW => read_yes (eu_read 0) (by rw [euT_size]; omega) W (hm.next hW)
  have RN : Hid (∀ W, Below w.heap.size w W → Calls Tryz.prog 8 #[.string ⟨#[115, 101, 116, 32, 120, 10]⟩] W fun e w' => Below W.heap.size W w' ∧ e = .returned (.tuple #[.agg #[.slice none 0 0, .slice none 0 0, .slice none 0 0], .int .i64 1])) := Lib.hid fun W hW => read_no (s := ⟨#[115, 101, 116, 32, 120, 10]⟩) xline_no (by decide) W (hm.next hW)
  obtain ⟨T, hT⟩ : ∃ T, T = euT := ⟨_, rfl⟩
  have hT1 : T.size = 227 := by rw [hT]; exact euT_size
  have hT2 : T.extract 0 7 = ⟨#[115, 101, 116, 32, 101, 117, 10]⟩ := by rw [hT]; exact euT_head
  rw [← hT] at SH RY
  have NX : Hid (∀ {w1 : World}, Below w.heap.size w w1 → Below w.heap.size w (euW w1)) := Lib.hid (fun h => euW_next h)
  clear hm hT
  go_enter Tryz.func9, Tryz.ntmps9
  go_wp2_with fail
  refine (SP.out _).mono ?_
  rintro e w' ⟨rfl, rfl⟩
  go_wp2_with fail
  refine (SH.out _ (Below.refl _ _)).mono ?_
  rintro e w1 ⟨rfl, hb1⟩
  have h1 : Below w.heap.size w w1 := (NX.out (Below.refl _ _)).trans (hb1.mono (NX.out (Below.refl _ _)).size)
  clear hb1
  go_wp2_with fail
  refine (RY.out _ h1).mono ?_
  rintro e w2 ⟨hb2, d, rfl, hD2, hcn, hcons⟩
  have h2 : Below w.heap.size w w2 := h1.trans (hb2.mono h1.size)
  have HD2 := Lib.hid hD2
  have HCN := Lib.hid hcn
  have HCO := Lib.hid hcons
  clear hb2 h1 hD2 hcn hcons
  go_wp2_with fail
  obtain ⟨W2, hW2⟩ : ∃ W2, W2 = w2.alloc (.cells #[.slice d.sA d.sn d.sc, .slice d.zA d.zn d.zc, .slice d.lA d.ln d.lc] 26) := ⟨_, rfl⟩
  have hbA : Below w2.heap.size w2 W2 := by rw [hW2]; exact (Below.refl _ _).alloc (Nat.le_refl _) _
  have hx2 : XAt w2.heap.size (.slice d.sA d.sn d.sc) (.slice d.zA d.zn d.zc) (.slice d.lA d.ln d.lc) W2 := by rw [hW2]; exact World.alloc_heap_new _ _
  have HB2 : Hid (Below w.heap.size w W2) := Lib.hid (h2.trans (hbA.mono h2.size))
  have HX2 := Lib.hid hx2
  have HDA := Lib.hid (HD2.out.next hbA)
  rw [← hW2]
  clear hW2 hbA hx2 h2
  refine (RN.out _ HB2.out).mono ?_
  rintro e w3 ⟨hb3, rfl⟩
  have HB3 : Hid (Below w.heap.size w w3) := Lib.hid (HB2.out.trans (hb3.mono HB2.out.size))
  have HX3 : Hid (XAt w2.heap.size (.slice d.sA d.sn d.sc) (.slice d.zA d.zn d.zc) (.slice d.lA d.ln d.lc) w3) := Lib.hid (HX2.out.below hb3)
  have HD3 := Lib.hid (HDA.out.next hb3)
  clear hb3
  go_upto_region 4 with fail
  obtain ⟨W4, hW4⟩ : ∃ W4, W4 = w3.alloc (.cells #[.slice none 0 0, .slice none 0 0, .slice none 0 0] 26) := ⟨_, rfl⟩
  have hb4 : Below w3.heap.size w3 W4 := by rw [hW4]; exact (Below.refl _ _).alloc (Nat.le_refl _) _
  have HD4 := Lib.hid (HD3.out.next hb4)
  have HX4 := Lib.hid (HX3.out.below hb4)
  have HB4 : Hid (Below w.heap.size w W4) := Lib.hid (HB3.out.trans (hb4.mono HB3.out.size))
  obtain ⟨D, hD⟩ : ∃ D, D = w2.heap.size := ⟨_, rfl⟩
  rw [← hD] at HX4
  rw [← hW4, ← hD]
  clear hW4 hD hb4 HD3 HX3 HB3 HD2 HX2 HDA HB2 RY RN SH
  have HC : Hid (∀ W, Below W4.heap.size W4 W → W.cell? ⟨D, 0, none⟩ = some (.slice d.sA d.sn d.sc) ∧ W.cell? ⟨D, 1, none⟩ = some (.slice d.zA d.zn d.zc) ∧ W.cell? ⟨D, 2, none⟩ = some (.slice d.lA d.ln d.lc)) := Lib.hid fun W hW => by
    have h := HX4.out.below hW
    unfold XAt at h
    exact ⟨cell_of h rfl, cell_of h rfl, cell_of h rfl⟩
  have NE : Hid (∀ W, Below W4.heap.size W4 W → Below W4.heap.size W4 (euW W)) := Lib.hid fun W hW => euW_next hW
  have NE2 : Hid (∀ W W', Below W4.heap.size W4 (euW W) → Below (euW W).heap.size (euW W) W' → Below W4.heap.size W4 W') := Lib.hid fun W W' h k => h.trans (k.mono h.size)
  have CM : Hid (∀ W, Below W4.heap.size W4 (euW W) → Calls Tryz.prog 10 #[.agg #[.slice d.sA d.sn d.sc, .slice d.zA d.zn d.zc, .slice d.lA d.ln d.lc], .agg #[.slice (some ⟨W.heap.size + 2, 0, none⟩) 1 1, .slice (some ⟨W.heap.size + 5, 0, none⟩) 2 2, .slice (some ⟨W.heap.size + 6, 0, none⟩) 2 2]] (euW W) fun e w' => e = .returned (.bool true) ∧ Below (euW W).heap.size (euW W) w') := Lib.hid fun W hW =>
    sameData_any d (euD W.heap.size (-1) sOld) (euW W) (HD4.out.next hW) (eu_data (euW_in W) (by rw [euW_size]; omega) old_le) (same_of (HCN.out.trans (eu_cn 0 _)) HCO.out (eu_cons _))
  have HBX : Hid (∀ W, Below W4.heap.size W4 W → Below w.heap.size w W) := Lib.hid fun W h => HB4.out.trans (h.mono HB4.out.size)
  have h4 : Below W4.heap.size W4 W4 := Below.refl _ _
  obtain ⟨k0, k1, k2⟩ := HC.out _ h4
  go_region_held3 (fun w' => w'.cell? ⟨D, 0, none⟩ = some (.slice d.sA d.sn d.sc) ∧ w'.cell? ⟨D, 1, none⟩ = some (.slice d.zA d.zn d.zc) ∧ w'.cell? ⟨D, 2, none⟩ = some (.slice d.lA d.ln d.lc) ∧ Below W4.heap.size W4 w')
    (refine ⟨?_, ?_, ?_, ?_⟩ <;> (first | assumption | exact Below.drew (by assumption) | go_keep))
    (first
      | (go_at_call 31; refine (SP.out _).mono ?_; rintro e w5 ⟨rfl, rfl⟩; have hb9 := NE.out _ (by assumption); obtain ⟨m0, m1, m2⟩ := HC.out _ hb9)
      | (go_at_call 10; refine (CM.out _ (by first | assumption | exact NE.out _ (Below.refl _ _).drew)).mono ?_; rintro e w6 ⟨rfl, hb8⟩; have hb7 := NE2.out _ _ (by first | assumption | exact NE.out _ (Below.refl _ _).drew) hb8; obtain ⟨n0, n1, n2⟩ := HC.out _ hb7))
  all_goals
    (go_wp2
     go_ret
     exact ⟨rfl, HBX.out _ (by first | assumption | (refine NE2.out _ _ ?_ (by assumption); exact NE.out _ (Below.refl _ _).drew))⟩)
end Go.Proofs.YthhjgndaiimgjaaGreatDoor
end
