/- slices.Clone of a row of cells. -/
import Derived.Test.YtldjmacnokkjdaaDoorCellM
import Derived.Lib.SliceRun
import Derived.Lib.BufferMore
namespace Go.Proofs.YtldjmacnokkjdaaDoor
open Go.RowKit
set_option linter.unusedVariables false
set_option linter.unusedSimpArgs false

theorem own_empty (w : World) (e : TypeId) (size : Nat) : (w.alloc (.cells #[] e)).ownsRow w.heap.size e size (.slice (some ⟨w.heap.size, 0, none⟩) 0 0) 0 [] :=
  ⟨by simp, .inr ⟨w.heap.size, 0, #[], rfl, Nat.le_refl _, heap_alloc_new w _, Nat.le_refl _, by unfold maxLen; omega, by simp, by simp⟩⟩
set_option maxHeartbeats 1000000 in
theorem clone_cells (w : World) (A : Option Addr) (n cap : Nat) (row : List Cell) (h : ReadsRows w A n 4 Cell.vals row) (hcap : n ≤ cap) (hA : A = none → n = 0 ∧ cap = 0) (hsm : n ≤ 1000000) :
    Calls Tryd.prog 36 #[.slice A n cap] w fun e w' => ∃ v, e = .returned v ∧ w'.ownsRow w.heap.size 27 4 v n (row.flatMap Cell.vals) ∧ (A = none → v = .slice none 0 0) ∧ Mods [] w w' := by
  have hl := h.1
  cases A with
  | none =>
    obtain ⟨rfl, rfl⟩ := hA rfl
    have hr : row = [] := List.eq_nil_of_length_eq_zero hl
    subst hr
    have hnil := Lib.run_eql_slice_nil (P := Tryd.prog) w _ _ none 0 0 0 0 Tryd.underlying28
    simp only [Option.isNone_none] at hnil
    clear h hl
    go_enter Tryd.func36, Tryd.ntmps36
    go_wp2
    go_ret
    exact ⟨.slice none 0 0, rfl, own_nil _ _ _ _, (by simp), Mods.refl _ _⟩
  | some a =>
    have hM0 := (Mods.refl [] w).alloc (.cells #[] 27)
    have hr1 := h.keepsM (fun _ => rfl) hM0 (by simp)
    have HR := Lib.hid hr1
    have HL := Lib.hid hl
    have hnil := Lib.run_eql_slice_nil (P := Tryd.prog) w _ _ (some a) n cap 0 0 Tryd.underlying28
    simp only [Option.isNone_some] at hnil
    clear h hl hr1
    go_enter Tryd.func36, Tryd.ntmps36
    go_wp2_with (at_builtin; go_must (refine append_src (w := w) (S := []) w.heap.size rfl (.tmp 5) (.tmp 6) 28 27 (.agg #[.int .i32 0, .int .u8 0, .int .u8 0, .int .u8 0]) 4 8 rfl Tryd.underlying28 (by kernel_rfl) rfl (by decide) (by decide) (.slice (some ⟨w.heap.size, 0, none⟩) 0 0) 0 [] a n cap (row.flatMap Cell.vals) rfl rfl (by rw [vals_len, HL.out]) (by have := rows_news HR.out 0 row [] (by simp); simpa [Addr.add] using this) (vals_one row) (own_empty w _ _) hM0 (by simp) (Nat.le_refl _) (by omega) ?_); intro v1 w2 hown2 hM2 hgr hblk; clear hgr hblk)
    go_ret
    exact ⟨_, rfl, by simpa using hown2, by simp, hM2⟩
end Go.Proofs.YtldjmacnokkjdaaDoor
