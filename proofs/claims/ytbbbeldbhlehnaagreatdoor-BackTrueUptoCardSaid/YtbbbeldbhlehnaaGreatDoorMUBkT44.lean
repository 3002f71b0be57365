/- The walk of BackIds. -/
import Derived.Test.YtbbbeldbhlehnaaGreatDoorMUBkT43
import Derived.Test.YtbbbeldbhlehnaaGreatDoorMUBkT4
set_option linter.unusedSimpArgs false
set_option linter.unusedVariables false
section
set_option linter.unusedVariables false
set_option linter.unusedSimpArgs false
namespace Gno
open Go Go.RowKit Go.Proofs.YtbbbeldbhlehnaaGreatDoor
theorem names_nd {d : Dt} (h : dataE d = 0) : (d.zs.map (·.name)).Nodup := by
 have hr := right_of h
 rw [List.nodup_iff_pairwise_ne, List.pairwise_map, List.pairwise_iff_getElem]
 intro i j hi hj hij e
 have := hr.zz hij (List.getElem?_eq_getElem hi) (List.getElem?_eq_getElem hj)
 rw [e, same_refl] at this; cases this
theorem pre_self (s : ByteArray) : isPre s s := (isPre_iff s s).2 ⟨Nat.le_refl _, List.take_of_length_le (by rw [bs_len]; exact Nat.le_refl _)⟩
theorem told_whole {x : Wd} {loc s : ByteArray} {t p : Int} (hs : s ∈ wdsL x loc t p) : prsM x loc s t p = s.size ∧ prsB x loc s t p = s := by
 have h1 : prsM x loc s t p ≤ s.size := (lgN_spec _ _ _).1
 have h2 : prsM x loc s t p = bestF s (wdsL x loc t p) 0 := best_is _ s
 have h3 := (best_spec s (wdsL x loc t p) 0).2.2 s hs (pre_self s)
 have h4 : prsM x loc s t p = s.size := by omega
 refine ⟨h4, ?_⟩
 unfold prsB
 rw [h4]
 exact bs_inj (by rw [bs_take]; exact List.take_of_length_le (by rw [bs_len]; exact Nat.le_refl _))
end Gno
namespace Go.Proofs.YtbbbeldbhlehnaaGreatDoor
open Go.RowKit Gno
end Go.Proofs.YtbbbeldbhlehnaaGreatDoor
end
