/- The document's answers of layers 4 and 5, as far as laws call them: Width, Make. -/
import Derived.Test.YtldjmacnokkjdaaDoorCellM
namespace Go.Proofs.YtldjmacnokkjdaaDoor
open Go.RowKit
set_option linter.unusedVariables false
set_option linter.unusedSimpArgs false

theorem ref4_none (w : World) (r : Int) : Calls Tryd.prog 85 #[.int .i32 r] w fun e w' => e = .returned (.bool (!validRune r)) ∧ w = w' := by
  unfold validRune
  by_cases h1 : r < 0 <;> by_cases h2 : 1114111 < r <;> by_cases h3 : 55296 ≤ r <;> by_cases h4 : r ≤ 57343
  all_goals first
    | (exfalso; omega)
    | (go_enter Tryd.func85, Tryd.ntmps85
       go_wp2
       go_ret
       refine ⟨?_, rfl⟩
       first
         | (congr 2; simp; omega)
         | (congr 2; simp; done)
         | (simp; omega)
         | (simp; done))
theorem ref4_within (w : World) (r a b : Int) (h1 : -2147483648 ≤ r) (h2 : r ≤ 2147483647) : Calls Tryd.prog 86 #[.int .i32 r, .int .i64 a, .int .i64 b] w fun e w' => e = .returned (.bool (decide (a ≤ r) && decide (r ≤ b))) ∧ w = w' := by
  by_cases h3 : a ≤ r <;> by_cases h4 : r ≤ b
  all_goals
    go_enter Tryd.func86, Tryd.ntmps86
    go_wp2
    go_ret
    simp [h3, h4]
theorem width_spans (r : Int) : width r = if !validRune r then 0 else if inSpans r noneSpans then 0 else if inSpans r wideSpans then 2 else 1 := by
  unfold width
  cases validRune r <;> cases inSpans r noneSpans <;> rfl
set_option maxRecDepth 4000 in
set_option maxHeartbeats 4000000 in
theorem ref4_Width (w : World) (r : Int) (h1 : -2147483648 ≤ r) (h2 : r ≤ 2147483647) : Calls Tryd.prog 68 #[.int .i32 r] w fun e w' => e = .returned (.int .i64 (width r)) ∧ w = w' := by
  have HW := Lib.hid (width_spans r)
  have hv : validRune r = false ∨ (validRune r = true ∧ 0 ≤ r) := by unfold validRune; cases h : decide (0 ≤ r) <;> simp at h ⊢ <;> omega
  rcases hv with hv | ⟨hv, h0⟩
  · rw [hv] at HW
    have HV := Lib.hid hv
    clear hv
    go_enter Tryd.func68, Tryd.ntmps68
    go_wp2_with (go_at_call 85; go_must (refine (ref4_none _ r).mono ?_); rw [HV.out]; rintro e w1 ⟨rfl, rfl⟩)
    go_ret
    exact ⟨by rw [HW.out]; rfl, rfl⟩
  · rw [hv] at HW
    have HV := Lib.hid hv
    clear hv
    go_enter Tryd.func68, Tryd.ntmps68
    go_wp2_with (first
      | (go_at_call 85; go_must (refine (ref4_none _ r).mono ?_); rw [HV.out]; rintro e w1 ⟨rfl, rfl⟩)
      | (go_at_call 86; go_must (refine (ref4_within _ r _ _ h1 h2).mono ?_); generalize hb : (decide (_ ≤ r) && decide (r ≤ _)) = bb; rintro e w1 ⟨rfl, rfl⟩; cases bb))
    all_goals
      go_ret
      refine ⟨?_, rfl⟩
      rw [HW.out]
      simp [inSpans, noneSpans, wideSpans, *]
      try omega
end Go.Proofs.YtldjmacnokkjdaaDoor
