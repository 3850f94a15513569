/- Words for the laws of package kids: the chapter's example. -/
import Derived.Test.YtfdpfhjdjhoenaaKids
import Derived.Test.YtfdpfhjdjhoenaaLawBase
namespace Go.Proofs.Ytfdpfhjdjhoenaa
open Go.RowKit Go.Conc Go.ChangeShapes Go.WideShapes
attribute [local go_sem] i64_and15
set_option linter.unusedVariables false
set_option linter.unusedSimpArgs false

set_option maxHeartbeats 1000000 in
theorem kawake_true (w : World) : Calls Try.prog 18 #[] w fun e w' => e = .returned (.bool true) ∧ Mods [] w w' := by
  go_enter Try.func18, Try.ntmps18
  have tokA : True := trivial
  go_wp2_with (first
    | (go_at_call 19; go_must (refine (kids_New _ 1 2).mono ?_); rintro e w1 ⟨k, m, rfl, hk1, hm1, hb1, hb2⟩)
    | (go_at_call 20; have _t := tokA; go_must (refine (kids_Add_new _ k m (kroom 1) 2 (-1) 3 [] hk1 rfl (by omega) (by omega) (by decide)).mono ?_); rintro e w2 ⟨x, rfl, hx1, hx2, hx3, hx4, hk2, hm2⟩; clear tokA _t; have tokB : True := trivial; have hx1' := Lib.hid hx1; clear hx1 hx2 hx3)
    | (go_at_call 20; have _t := tokB; go_must (refine (kids_Add_not _ k m (kroom 1) 2 (-1) 4 ([] ++ [x]) hk2 (by simp [find, hx1'.out]) (by right; right; simp [kroom, mn, mx])).mono ?_); rintro e w3 ⟨rfl, hm3⟩; clear tokB _t; have tokC : True := trivial; have hk3 := hk2.keeps hm3 (by simp))
    | (go_at_call 20; have _t := tokC; go_must (refine (kids_Add_there _ k m (kroom 1) 2 (-1) 3 ([] ++ [x]) hk3 x (by simp [find, hx1'.out])).mono ?_); rintro e w4 ⟨rfl, hk4, hm4⟩; clear tokC _t)
    | (go_at_call 27; go_must (refine (kids_Has _ k m (kroom 1) 2 (-1) 3 _ hk4).mono ?_; rw [show (find (hearL ([] ++ [x]) 3) 3).isSome = true by simp [find, hearL, setS, hx1'.out]]); rintro e w5 ⟨rfl, rfl⟩)
    | (go_at_call 26; go_must (refine (kids_Full _ k m (kroom 1) 2 (-1) _ hk4).mono ?_; rw [show decide (kroom 1 ≤ ((hearL ([] ++ [x]) 3).length : Int)) = true by simp [hearL, setS, kroom, mn, mx]]); rintro e w6 ⟨rfl, hm6⟩))
  go_ret
  refine ⟨rfl, ?_⟩
  have hs := hm1.size
  exact (((hm1.then hm2 (by simp; omega)).trans hm3).then hm4 (by have := hx4 x.kb (by simp [Kid.blocks]); simp; omega)).trans hm6

end Go.Proofs.Ytfdpfhjdjhoenaa
