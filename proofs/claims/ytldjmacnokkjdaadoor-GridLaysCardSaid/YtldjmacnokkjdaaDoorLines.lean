/- grid.Lines. -/
import Derived.Test.YtldjmacnokkjdaaDoorL6G
import Derived.Test.YtldjmacnokkjdaaDoorText
namespace Go.Proofs.YtldjmacnokkjdaaDoor
open Go.RowKit
set_option linter.unusedVariables false
set_option linter.unusedSimpArgs false
attribute [local go_sem] max2_mx min2_mn max_two min_two

def lineV (row : List Cell) : List Value := [.string ⟨(textB row).toArray⟩]
/-- The rows of a grid. -/
def rowsG (w h : Nat) (L : List Cell) : List (List Cell) := (List.range h).map fun y => rowC w y L
theorem rowsG_take {w h y : Nat} {L : List Cell} (hy : y < h) : (rowsG w h L).take (y + 1) = (rowsG w h L).take y ++ [rowC w y L] := by
  rw [List.take_add_one]; simp [rowsG, hy]
def LinesRel (W0 : World) (w h : Nat) (L : List Cell) (kk : Nat) (out y4 r5 idx : Value) (wr : World) : Prop :=
  ∃ i : Nat, idx = .int .i64 (i : Int) ∧ i ≤ h ∧ wr.ownsRow W0.heap.size 9 1 out i (((rowsG w h L).take i).flatMap lineV) ∧ Mods [] W0 wr ∧ kk + i = h
set_option maxRecDepth 4000 in
set_option maxHeartbeats 2000000 in
theorem grid_Lines (W : World) (w h n c : Nat) (a : Addr) (L : List Cell) (hg : GridOk w h n c) (hL : ReadsRows W (some a) n 4 Cell.vals L) (hb : Small L) :
    Calls Tryd.prog 51 #[gridV w h (some a) n c] W fun e W' => ∃ v, e = .returned v ∧ W'.ownsRow W.heap.size 9 1 v h ((rowsG w h L).flatMap lineV) ∧ Mods [] W W' := by
  obtain ⟨hw1, hw2, hh1, hh2, hn, hc⟩ := id hg
  have HN := Lib.hid hn
  have HL := Lib.hid hL
  have HB := Lib.hid hb
  have hM0 := (Mods.refl [] W).alloc (.cells #[.int .i64 (w : Int), .int .i64 (h : Int), .slice (some a) n c] 38)
  have hG := Lib.hid (blk_new W (.cells #[.int .i64 (w : Int), .int .i64 (h : Int), .slice (some a) n c] 38))
  have hmx : mx (h : Int) 0 = (h : Int) := by unfold mx; split <;> omega
  clear hn hL hg hb
  go_enter Tryd.func51, Tryd.ntmps51
  go_wp2
  clear hmx
  generalize W.alloc (.cells #[.int .i64 (w : Int), .int .i64 (h : Int), .slice (some a) n c] 38) = W0 at *
  go_loopg [3, 4, 5, 9] h (LinesRel W0 w h L)
  case atStart => exact ⟨0, rfl, by omega, own_nil _ _ _ _, Mods.refl _ _, by omega⟩
  case round =>
    obtain ⟨i, rfl, hi, hown, hM, hkk⟩ := hrel
    have HOWN := Lib.hid hown
    have HKK := Lib.hid hkk
    have hsz := hM.size
    clear hown hkk
    by_cases hlt : i < h
    · have C := fun j => blk_cell (hM.at hG.out (by simp)) j
      have hk2 := HKK.out
      have hMW := hM0.trans hM
      go_wp2_with fail
      clear C
      refine (grid_row _ w h n c a i hw1 hw2 hh1 hh2 HN.out hc hlt).mono ?_
      rintro e w2 ⟨rfl, hm2⟩
      have hnil := Lib.run_eql_slice_nil (P := Tryd.prog) w2 _ _ (some (a.add (i * w * 4))) w w 0 0 Tryd.underlying28
      go_wp2_with fail
      clear hnil
      refine (cell_Text w2 _ w w (rowC w i L) ((HL.out.keepsM (fun _ => rfl) (hMW.trans hm2) (by simp)).row_of HN.out hlt) (by omega) (HB.out.row w i)).mono ?_
      rintro e w3 ⟨rfl, hm3⟩
      have hm23 := hm2.trans hm3
      have hown3 := own_mods HOWN.out hm23 (by simp)
      have hM3 := hM.trans hm23
      have hs3 := hm23.size
      have HT := Lib.hid (rowsG_take (w := w) (L := L) hlt)
      go_wp2_with (at_builtin; go_must (refine append_one (w := W0) (S := []) W0.heap.size rfl (.tmp 17) (.tmp 20) 79 9 (.string ⟨#[]⟩) 1 16 rfl Tryd.underlying79 (by kernel_rfl) rfl (by decide) (by decide) _ i (((rowsG w h L).take i).flatMap lineV) (lineV (rowC w i L)) rfl rfl rfl (by simp [lineV, Value.oneCell']) hown3 hM3 (by omega) (Nat.le_refl _) (by omega) ?_); intro v1 w6 hown6 hM6 hgr hblk; clear hgr hblk hown3; have HOWN6 := Lib.hid hown6; clear hown6)
      go_roundg (gk - 1)
      case measure => omega
      case rel => exact ⟨i + 1, by go_num, by omega, by rw [HT.out, List.flatMap_append]; simpa using HOWN6.out, hM6, by omega⟩
    · have hin : i = h := by omega
      subst hin
      go_wp2
      go_ret
      refine ⟨_, rfl, ?_, hM0.trans hM⟩
      have := own_lower HOWN.out hM0.size
      rwa [List.take_of_length_le (by simp [rowsG])] at this
end Go.Proofs.YtldjmacnokkjdaaDoor
