/- What the functions of package cell do with one cell. -/
import Derived.Test.YtldjmacnokkjdaaDoorCell
import Derived.Deep.RegionHeld3
namespace Go.Proofs.YtldjmacnokkjdaaDoor
open Go.RowKit
set_option linter.unusedVariables false
set_option linter.unusedSimpArgs false

theorem cell_wide (w : World) (c : Cell) : Calls Tryd.prog 76 #[c.val] w fun e w' => e = .returned (.bool c.wide) ∧ Mods [] w w' := by
  obtain ⟨r, fg, bg, a⟩ := c
  have hb := and64 a
  have hM := (Mods.refl [] w).alloc (.cells #[Value.int .i32 r, Value.int .u8 fg, Value.int .u8 bg, Value.int .u8 (a.val : Int)] 27)
  cases hw : wideA a
  all_goals
    rw [hw] at hb
    simp only [Bool.false_eq_true, if_false, if_true] at hb
    have HW := Lib.hid hw
    clear hw
    go_enter Tryd.func76, Tryd.ntmps76
    go_wp2
    go_ret
    exact ⟨by simp [Cell.wide, HW.out], hM⟩
theorem cell_tail (w : World) (c : Cell) : Calls Tryd.prog 63 #[c.val] w fun e w' => e = .returned (.bool c.tail) ∧ Mods [] w w' := by
  obtain ⟨r, fg, bg, a⟩ := c
  have hb := and128 a
  have hM := (Mods.refl [] w).alloc (.cells #[Value.int .i32 r, Value.int .u8 fg, Value.int .u8 bg, Value.int .u8 (a.val : Int)] 27)
  cases hw : tailA a
  all_goals
    rw [hw] at hb
    simp only [Bool.false_eq_true, if_false, if_true] at hb
    have HW := Lib.hid hw
    clear hw
    go_enter Tryd.func63, Tryd.ntmps63
    go_wp2
    go_ret
    exact ⟨by simp [Cell.tail, HW.out], hM⟩
theorem or128 (a : Fin 256) : bits .or .u8 ((a.val : Int) % 64) 128 = ((tailOf a).val : Int) := by revert a; decide +kernel
theorem cell_behind (w : World) (c : Cell) : Calls Tryd.prog 84 #[c.val] w fun e w' => e = .returned c.behind.val ∧ Mods [] w w' := by
  obtain ⟨r, fg, bg, a⟩ := c
  have hb := or128 a
  go_enter Tryd.func84, Tryd.ntmps84
  go_wp2
  exact bodyPost_ret (v := (Cell.mk 0 fg bg (tailOf a)).val) (by simp [results, Tryd.results84, go_sem]) rfl ⟨rfl, ((Mods.refl _ _).alloc _).alloc _⟩
theorem cell_Check (w : World) (c : Cell) : Calls Tryd.prog 62 #[c.val] w fun e w' => e = .returned (.bool c.ok) ∧ Mods [] w w' := by
  obtain ⟨r, fg, bg, a⟩ := c
  have hM := (Mods.refl [] w).alloc (.cells #[Value.int .i32 r, Value.int .u8 fg, Value.int .u8 bg, Value.int .u8 (a.val : Int)] 27)
  have T0 : ∀ w, Calls Tryd.prog 63 #[.agg #[.int .i32 r, .int .u8 fg, .int .u8 bg, .int .u8 (a.val : Int)]] w fun e w' => e = .returned (.bool (tailA a)) ∧ Mods [] w w' := fun w => cell_tail w ⟨r, fg, bg, a⟩
  have W0 : ∀ w, Calls Tryd.prog 76 #[.agg #[.int .i32 r, .int .u8 fg, .int .u8 bg, .int .u8 (a.val : Int)]] w fun e w' => e = .returned (.bool (wideA a)) ∧ Mods [] w w' := fun w => cell_wide w ⟨r, fg, bg, a⟩
  have T1 := Lib.hid T0
  have W1 := Lib.hid W0
  clear T0 W0
  have VW : Cell.ok ⟨r, fg, bg, a⟩ = if tailA a then !wideA a && decide (r = 0) else if wideA a then decide (width r = 2) else decide (width r = 1) := rfl
  have HV := Lib.hid VW
  clear VW
  cases hw : wideA a <;> cases ht : tailA a
  all_goals
    rw [hw, ht] at HV
    rw [hw] at W1
    rw [ht] at T1
    clear hw ht
    go_enter Tryd.func62, Tryd.ntmps62
    have hX := Mods.refl [] (w.alloc (.cells #[Value.int .i32 r, Value.int .u8 fg, Value.int .u8 bg, Value.int .u8 (a.val : Int)] 27))
    go_wp2_with (first
      | (go_at_call 63; go_must (refine (T1.out _).mono ?_); rintro e w1 ⟨rfl, hm⟩; have hY := hX.trans hm; clear hX hm; have hX := hY; clear hY; have C := kept_cells hX)
      | (go_at_call 76; go_must (refine (W1.out _).mono ?_); rintro e w1 ⟨rfl, hm⟩; have hY := hX.trans hm; clear hX hm; have hX := hY; clear hY; have C := kept_cells hX)
      | (go_at_call 77; go_must (refine (runes_Width _ r).mono ?_); rintro e w1 ⟨rfl, hm⟩; have hY := hX.trans hm; clear hX hm; have hX := hY; clear hY; have C := kept_cells hX))
    all_goals
      go_ret
      exact ⟨by rw [HV.out]; first | (simp [*]; done) | (simp [*]; rfl), hM.trans hX⟩
end Go.Proofs.YtldjmacnokkjdaaDoor
