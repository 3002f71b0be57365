/- Parts of a proof, laid together. -/
import Derived.Test.YtbbbeldbhlehnaaGreatMUsesTellsRow28
import Derived.Test.YtbbbeldbhlehnaaGreatMUsesTellsRow27
set_option linter.unusedSimpArgs false
set_option linter.unusedVariables false
/-! data.Check, whole. -/
section
set_option linter.unusedVariables false
set_option linter.unusedSimpArgs false
namespace Go.Proofs.YtbbbeldbhlehnaaGreat
open Go.RowKit Gno
theorem nif {c : Prop} [Decidable c] {x y z : Int} (h : z = if c then x else y) (hc : ¬ c) : z = y := by rw [h, if_neg hc]
theorem start_ws (d : Dt) (w : World) : WS d w [guardD (w.heap.size + 1)] ((w.alloc (Dobj d)).alloc (.cells #[.int .i64 0] 28)) :=
  ⟨((Below.refl _ _).alloc (Nat.le_refl _) _).alloc (by simp) _, (Below.heap_alloc _ _ _ (by simp)).trans (World.alloc_heap_new w _), by have := World.alloc_heap_new (w.alloc (Dobj d)) (.cells #[.int .i64 0] 28); rwa [World.size_alloc] at this,
    by simp, ⟨[], rfl, List.nodup_nil, fun r hr => by simp at hr⟩⟩
theorem setCell_same_val {W : World} {e0 : Nat} {T : TypeId} (h : W.heap[e0]? = some (.cells #[.int .i64 0] T)) : W.setCell ⟨e0, 0, none⟩ (.int .i64 0) = W := by
  unfold World.setCell
  have e : (W.heap.modify e0 fun
      | .cells c elem frozen => .cells (if (none : Option Nat).isSome then c else c.setIfInBounds 0 (.int .i64 0)) elem frozen
      | o => o) = W.heap := by
    refine Array.ext (by simp) fun i h1 h2 => ?_
    rw [Array.getElem_modify]
    by_cases h3 : e0 = i
    · subst h3
      rw [Array.getElem?_eq_getElem h2] at h
      injection h with h
      simp [h]
    · simp [h3]
  exact congrArg (fun h => ({ W with heap := h } : World)) e
set_option maxRecDepth 100000 in
set_option maxHeartbeats 8000000 in
theorem check_any (d : Dt) (w : World) (hD : DataAt w w.heap.size d) (hMX : MaxAt w w.heap.size) :
    Calls Tryz.prog 27 #[d.val] w fun e w' => e = .returned (.int .i64 (dataE d)) ∧ Below w.heap.size w w' := by
  have hmf : ∀ (fn : Fn) (first cap : Array Value) (w : World), (Instr.makeFunc fn first cap).run Tryz.prog w = .ok (.func fn first cap) w := fun _ _ _ _ => rfl
  refine calls_of_wpU (R := fun e w' => DoorR w.heap.size (dataE d) e w w') Tryz.func27 rfl ?_
  unfold Dt.val
  simp only [Tryz.ntmps27, List.size_toArray, List.length_cons, List.length_nil, Nat.reduceAdd, Nat.reduceSub, Array.replicate_succ, Array.replicate_zero, List.push_toArray, List.append_toArray, List.nil_append, List.cons_append]
  have HD := Lib.hid hD
  have HMX := Lib.hid hMX
  clear hD hMX
  refine wpV_plain fun K0 hK0 => ?_
  have HK0 := Lib.hid hK0
  clear hK0
  go_wp2
  refine HK0.out _ _ ?_
  clear HK0
  refine wpV_plain fun K1 hK1 => ?_
  have HK1 := Lib.hid hK1
  clear hK1
  go_wp2
  refine HK1.out _ _ ?_
  clear HK1
  refine wpV_plain fun K hK => st2 ?hl fun a2 W2 hm2 hL2 => hK _ _ ?_
  case hl => exact ⟨rfl, ⟨rfl, rfl, trivial⟩, start_ws d w⟩
  clear hK
  have hE1 : dataE d = dE1 d := by unfold dataE; rw [if_neg (by rw [hm2]; simp)]
  refine wpV_plain fun K hK => st3 HD.out hE1 hL2 fun a3 W3 hm3 hL3 => hK _ _ ?_
  clear hL2 hK
  have hE2 : dataE d = dE2 d := by rw [hE1]; unfold dE1; rw [if_neg (by rw [hm3]; simp)]
  refine wpV_plain fun K hK => st4 HD.out hE2 hL3 fun a4 W4 hm4 hL4 => hK _ _ ?_
  clear hL3 hK
  have hE3 : dataE d = dE3 d := by rw [hE2]; unfold dE2; rw [if_neg (by rw [hm4]; simp)]
  refine wpV_plain fun K hK => st5 HD.out hm2 hL4 fun a5 W5 v7 hL5 h7 _ => hK _ _ ?_
  clear hL4 hK
  refine wpV_plain fun K hK => st6 HD.out hm2 hL5 fun a6 W6 v8 hL6 h8 hb => hK _ _ ?_
  have h7 := h7.step hb
  clear hL5 hK hb
  refine wpV_plain fun K hK => st7 HD.out hm2 hL6 fun a7 W7 v9 hL7 h9 hb => hK _ _ ?_
  have h7 := h7.step hb
  have h8 := h8.step hb
  clear hL6 hK hb
  refine wpV_plain fun K hK => st8 HD.out hm2 hL7 fun a8 W8 v0 hL8 h0 hb => hK _ _ ?_
  have h7 := h7.step hb
  have h8 := h8.step hb
  have h9 := h9.step hb
  clear hL7 hK hb
  refine wpV_plain fun K hK => st9 HD.out hm2 hE3 hL8 h7 h8 h9 h0 fun a9 W9 hm9 hL9 hb => hK _ _ ?_
  have hE4 : dataE d = dE4 d := by rw [hE3]; unfold dE3; rw [if_neg (by rw [hm9]; simp)]
  have h7 := h7.step hb
  have h8 := h8.step hb
  have h9 := h9.step hb
  have h0 := h0.step hb
  clear hL8 hK hb
  refine wpV_plain fun K hK => st10 HD.out hm2 hE4 hL9 h7 h8 h9 fun a10 W10 hm10 hL10 hb => hK _ _ ?_
  have hE5 : dataE d = dE5 d := by rw [hE4]; unfold dE4; rw [if_neg (by rw [hm10]; simp)]
  have h8 := h8.step hb
  have h9 := h9.step hb
  have h0 := h0.step hb
  clear hL9 hK hb h7
  refine wpV_plain fun K hK => st11 HD.out hE5 hL10 fun a11 W11 hm11 hL11 hb => hK _ _ ?_
  have hE6 : dataE d = dE6 d := by rw [hE5]; unfold dE5; rw [if_neg (by rw [hm11]; simp)]
  have h8 := h8.step hb
  have h9 := h9.step hb
  have h0 := h0.step hb
  clear hL10 hK hb
  refine wpV_then fun K hK => st12 HD.out hm2 hE6 hL11 fun a12 W12 hm12 hL12 hb => hK _ _ ?_
  have hE7 : dataE d = dE7 d := by rw [hE6]; unfold dE6; rw [if_neg (by rw [hm12]; simp)]
  have h8 := h8.step hb
  have h9 := h9.step hb
  have h0 := h0.step hb
  clear hL11 hK hb
  refine wpV_plain fun K hK => st13 HD.out hm4 hE7 hL12 fun a13 W13 hm13 hL13 hb => hK _ _ ?_
  have hE8 : dataE d = dE8 d := by rw [hE7]; unfold dE7; rw [if_neg (by rw [hm13]; simp)]
  have h8 := h8.step hb
  have h9 := h9.step hb
  have h0 := h0.step hb
  clear hL12 hK hb
  refine wpV_then fun K hK => st14 HD.out HMX.out hE8 hL13 fun a14 W14 hm14 hL14 hb => hK _ _ ?_
  have hE9 : dataE d = dE9 d := by rw [hE8]; unfold dE8; rw [if_neg (by rw [hm14]; simp)]
  have h8 := h8.step hb
  have h9 := h9.step hb
  have h0 := h0.step hb
  clear hL13 hK hb
  refine wpV_plain fun K hK => st15 HD.out hE9 h8 h9 h0 hL14 fun a15 W15 hm15 hL15 hb => hK _ _ ?_
  have hE10 : dataE d = dE10 d := by rw [hE9]; unfold dE9; rw [if_neg (by rw [hm15]; simp)]
  have h9 := h9.step hb
  clear hL14 hK hb h8 h0
  refine wpV_plain fun K hK => st16 HD.out hE10 h9 hL15 fun a16 W16 hm16 hL16 hb => hK _ _ ?_
  have hE0 : dataE d = 0 := by rw [hE10]; unfold dE10; rw [if_neg (by rw [hm16]; simp)]
  clear hL15 hK hb h9
  obtain ⟨f, ds, rfl, hws⟩ := openS4 hL16
  have HW := Lib.hid hws
  have HE := Lib.hid hE0
  have ho := Lib.hid hws.e0
  have hc : W16.cell? ⟨w.heap.size + 1, 0, none⟩ = some (.int .i64 0) := by simp [World.cell?, ho.out]
  have hz : W16.frozen? ⟨w.heap.size + 1, 0, none⟩ = false := by simp [World.frozen?, ho.out]
  have hsame : W16.setCell ⟨w.heap.size + 1, 0, none⟩ (.int .i64 0) = W16 := setCell_same_val ho.out
  refine wpV_plain fun K hK => ?_
  have HK := Lib.hid hK
  clear hL16 hws hK hE0 hE1 hE2 hE3 hE4 hE5 hE6 hE7 hE8 hE9 hE10 hm2 hm3 hm4 hm9 hm10 hm11 hm12 hm13 hm14 hm15 hm16
  go_wp2
  refine HK.out _ _ (wpV_of_wp ?_)
  go_wp2
  exact door_ret HE.out HW.out rfl
end Go.Proofs.YtbbbeldbhlehnaaGreat
end
