/- Rows of cells held against each other (lyceumref05.Same); a history that is cleared. -/
import Derived.Test.YtldjmacnokkjdaaDoorLet
namespace Go.Proofs.YtldjmacnokkjdaaDoor
open Go.RowKit
set_option linter.unusedVariables false
set_option linter.unusedSimpArgs false

theorem cell_cases (r r' fg fg' bg bg' : Int) (a a' : Fin 256) : (r = r' ∧ fg = fg' ∧ bg = bg' ∧ (a.val : Int) = (a'.val : Int)) ∨ (r ≠ r') ∨ (r = r' ∧ fg ≠ fg') ∨ (r = r' ∧ fg = fg' ∧ bg ≠ bg') ∨ (r = r' ∧ fg = fg' ∧ bg = bg' ∧ ¬ (a.val : Int) = (a'.val : Int)) := by
  by_cases q1 : r = r' <;> by_cases q2 : fg = fg' <;> by_cases q3 : bg = bg' <;> by_cases q4 : (a.val : Int) = (a'.val : Int) <;> simp [q1, q2, q3, q4]
theorem cell_ne {r r' fg fg' bg bg' : Int} {a a' : Fin 256} (h : (r ≠ r') ∨ (r = r' ∧ fg ≠ fg') ∨ (r = r' ∧ fg = fg' ∧ bg ≠ bg') ∨ (r = r' ∧ fg = fg' ∧ bg = bg' ∧ ¬ (a.val : Int) = (a'.val : Int))) : Cell.mk r fg bg a ≠ Cell.mk r' fg' bg' a' := by
  intro e; simp only [Cell.mk.injEq] at e; obtain ⟨e1, e2, e3, e4⟩ := e; subst e4; rcases h with h | h | h | h <;> simp_all
def SameRel (w : World) (xs ys : List Cell) (n : Nat) (kk : Nat) (idx : Value) (wr : World) : Prop :=
  ∃ (i m : Nat), idx = .int .i64 i ∧ i ≤ n ∧ xs.take i = ys.take i ∧ wr = w.drewN m ∧ kk + i = n
set_option maxHeartbeats 1000000 in
theorem ref5_Same (w : World) (A B : Option Addr) (n m ca cb : Nat) (xs ys : List Cell) (hx : ReadsRows w A n 4 Cell.vals xs) (hy : ReadsRows w B m 4 Cell.vals ys) :
    Calls Tryd.prog 15 #[.slice A n ca, .slice B m cb] w fun e w' => e = .returned (.bool (decide (xs = ys))) ∧ ∃ k, w' = w.drewN k := by
  have hn := hx.2.1
  have hm := hy.2.1
  unfold maxLen at hn hm
  have HX := Lib.hid hx
  have HY := Lib.hid hy
  have LX := Lib.hid hx.1
  have LY := Lib.hid hy.1
  clear hx hy
  by_cases hnm : n = m
  · have hb : ((n : Int) != (m : Int)) = false := by simp [hnm]
    have HNM := Lib.hid hnm
    clear hnm
    go_enter Tryd.func15, Tryd.ntmps15
    go_wp2
    clear hb
    go_loopg [5] n (SameRel w xs ys n)
    case atStart => exact ⟨0, 0, rfl, by omega, rfl, rfl, by omega⟩
    case round =>
      obtain ⟨i, k, rfl, hi, htk, rfl, hkk⟩ := hrel
      have HTK := Lib.hid htk
      have HKK := Lib.hid hkk
      have hk2 := hkk
      clear htk hkk
      by_cases hlt : i < n
      · obtain ⟨c, hc⟩ : ∃ c, xs[i]? = some c := ⟨_, List.getElem?_eq_getElem (by rw [LX.out]; exact hlt)⟩
        obtain ⟨d, hd⟩ : ∃ d, ys[i]? = some d := ⟨_, List.getElem?_eq_getElem (by rw [LY.out, ← HNM.out]; exact hlt)⟩
        obtain ⟨a, rfl, c0, hcs⟩ := HX.out.row hc
        obtain ⟨b, rfl, d0, hds⟩ := HY.out.row hd
        have c1 := hcs 0 (by omega)
        have c2 := hcs 1 (by omega)
        have c3 := hcs 2 (by omega)
        have d1 := hds 0 (by omega)
        have d2 := hds 1 (by omega)
        have d3 := hds 2 (by omega)
        clear hcs hds
        obtain ⟨r, fg, bg, at'⟩ := c
        obtain ⟨r', fg', bg', bt⟩ := d
        simp only [Cell.vals, List.getElem?_cons_zero, List.getElem?_cons_succ] at c0 c1 c2 c3 d0 d1 d2 d3
        have HXC := Lib.hid hc
        have HYD := Lib.hid hd
        clear hc hd
        have hlm : (i : Int) < (m : Int) := by have := HNM.out; omega
        have hln : (i : Int) < (n : Int) := by omega
        rcases cell_cases r r' fg fg' bg bg' at' bt with hq | hq
        · obtain ⟨q1, q2, q3, q4⟩ := hq
          have hab : at' = bt := by rw [Fin.ext_iff]; omega
          subst q1 q2 q3 hab
          have hts : xs.take (i + 1) = ys.take (i + 1) := by rw [List.take_add_one, List.take_add_one, HTK.out, HXC.out, HYD.out]
          have HTS := Lib.hid hts
          clear hts q4
          go_upto_region 6 with fail
          go_quiet (fail)
          go_wp2
          go_roundg (gk - 1)
          case measure => omega
          case rel => exact ⟨i + 1, _, by go_num, by omega, HTS.out, rfl, by omega⟩
        · have hne := cell_ne hq
          have hxy : xs ≠ ys := by
            intro e; subst e
            have := HXC.out.symm.trans HYD.out
            simp only [Option.some.injEq] at this
            exact hne this
          have HXY := Lib.hid hxy
          clear hne hxy
          rcases hq with q1 | ⟨rfl, q2⟩ | ⟨rfl, rfl, q3⟩ | ⟨rfl, rfl, rfl, q4⟩
          all_goals
            go_upto_region 6 with fail
            go_quiet (fail)
            go_wp2
            go_ret
            exact ⟨by show Ending.returned (.bool false) = _; rw [decide_eq_false HXY.out], _, World.drewN_drewN _ _ _⟩
      · have hin : i = n := by omega
        have hxy : xs = ys := by
          have h1 := HTK.out
          rwa [List.take_of_length_le (by rw [LX.out]; omega), List.take_of_length_le (by rw [LY.out, ← HNM.out]; omega)] at h1
        have HXY := Lib.hid hxy
        clear hxy
        go_wp2
        go_ret
        exact ⟨by show Ending.returned (.bool true) = _; rw [decide_eq_true HXY.out], _, rfl⟩
  · have hb : ((n : Int) != (m : Int)) = true := by simp; omega
    have hxy : xs ≠ ys := by intro e; exact hnm (by rw [← LX.out, ← LY.out, e])
    have HXY := Lib.hid hxy
    clear hxy
    go_enter Tryd.func15, Tryd.ntmps15
    go_wp2
    go_ret
    exact ⟨by show Ending.returned (.bool false) = _; rw [decide_eq_false HXY.out], 0, rfl⟩
theorem ring_Clear (w : World) (h lo : Nat) (lv : Value) (room first : Nat) (rows : List (List Cell)) (vs : List Value) (hh : HAt w h lo lv room first rows vs) :
    Calls Tryd.prog 39 #[.pointer (some ⟨h, 0, none⟩)] w fun e w' => e = .returned (.tuple #[]) ∧ HAt w' h lo (.slice none 0 0) room 0 [] [] ∧ Mods [h] w w' := by
  have C := fun i => blk_cell hh.head i
  have F := fun i => blk_frozen hh.head i
  have HH := Lib.hid hh
  clear hh
  go_enter Tryd.func39, Tryd.ntmps39
  go_wp2
  have e := blk_set (blk_set HH.out.head 1 (.slice none 0 0)) 2 (.int .i64 0)
  simp at e
  exact bodyPost_end (results_none rfl _ _ _) rfl ⟨rfl, ⟨e, own_nil _ _ _ _, by simp, HH.out.hlo, by simp [Value.ownBlock], HH.out.room5, by simp, .inl rfl⟩, ((Mods.refl [h] w).setCell _ _ (.inl (by simp))).setCell _ _ (.inl (by simp))⟩
theorem history_Clear (w : World) (h lo : Nat) (lv : Value) (room first : Nat) (rows : List (List Cell)) (vs : List Value) (hh : HAt w h lo lv room first rows vs) :
    Calls Tryd.prog 16 #[.pointer (some ⟨h, 0, none⟩)] w fun e w' => e = .returned (.tuple #[]) ∧ HAt w' h lo (.slice none 0 0) room 0 [] [] ∧ Mods [h] w w' := by
  have HH := Lib.hid hh
  clear hh
  go_enter Tryd.func16, Tryd.ntmps16
  go_wp2_with (go_at_call 39; go_must (refine (ring_Clear _ h lo lv room first rows vs HH.out).mono ?_); rintro e w1 ⟨rfl, hh1, hm1⟩; have HH1 := Lib.hid hh1; clear hh1)
  exact bodyPost_end (results_none rfl _ _ _) rfl ⟨rfl, HH1.out, hm1⟩
end Go.Proofs.YtldjmacnokkjdaaDoor
