/- lyceumlaw06.awake answers true. -/
import Derived.Test.YtldjmacnokkjdaaDoorLines
namespace Go.Proofs.YtldjmacnokkjdaaDoor
open Go.RowKit
set_option linter.unusedVariables false
set_option linter.unusedSimpArgs false

def awkL1 : List Cell := putG 3 1 (List.replicate 3 blankC) 0 0 (cells6 [2, 3, 6])
def awkL2 : List Cell := shiftG 3 1 awkL1 1 0 1 blankC
theorem awk_r1 : rightG 3 1 awkL1 = true := by decide +kernel
theorem awk_r2 : rightG 3 1 awkL2 = true := by decide +kernel
theorem awk_l1 : awkL1.length = 3 := by decide +kernel
theorem awk_l2 : awkL2.length = 3 := by decide +kernel
theorem awk_text : (rowsG 3 1 awkL2).flatMap lineV = [.string ⟨#[97, 32, 98]⟩] := by
  have : textB (rowC 3 0 awkL2) = [97, 32, 98] := by decide +kernel
  simp [rowsG, lineV, this]
theorem ints_reads {w : World} {g : Nat} {l : List Int} (h : w.heap[g]? = some (.cells (l.flatMap intV).toArray 3 (0, 0))) (hn : l.length ≤ maxLen) : ReadsRows w (some ⟨g, 0, none⟩) l.length 1 intV l := by
  refine ⟨rfl, hn, fun i o hi => ⟨⟨g, 0, none⟩, rfl, fun j hj => ?_⟩⟩
  have h2 := flat_get (rd := intV) (size := 1) (fun _ => rfl) hi hj
  rw [addr_at, addr_at, blk_cell h, Nat.zero_add]
  simpa using h2
set_option maxHeartbeats 2000000 in
theorem law06_awake (W : World) : Calls Tryd.prog 23 #[] W fun e W' => e = .returned (.bool true) ∧ Mods [] W W' := by
  go_enter Tryd.func23, Tryd.ntmps23
  go_wp2_with fail
  refine (grid_New W 3 1 (by omega) (by omega) (by omega) (by omega)).mono ?_
  rintro e w1 ⟨g, rfl, hB1, hge1, hm1⟩
  have hR1 := hB1.reads
  clear hB1
  have HR1 := Lib.hid hR1
  clear hR1
  go_wp2_with fail
  have hi := blk_new w1 (.cells #[.int .i64 2, .int .i64 3, .int .i64 6] 3)
  refine (law06_cells _ (some ⟨w1.heap.size, 0, none⟩) 3 3 [2, 3, 6] (ints_reads (l := [2, 3, 6]) hi (by unfold maxLen; simp))).mono ?_
  rintro e w2 ⟨v2, rfl, hown2, hm2⟩
  obtain ⟨A2, c2, rfl, q1, q2, q3⟩ := own_slice' hown2
  have hle2 := cells6_le [2, 3, 6]
  have hR2 := (own_reads hown2 rfl (by omega)).1
  have hm12 : Mods [] w1 w2 := ((Mods.refl [] w1).alloc _).trans hm2
  have HR2 := Lib.hid hR2
  have HQ1 := Lib.hid q1
  have HLE := Lib.hid hle2
  have gok : GridOk 3 1 3 3 := ⟨by omega, by omega, by omega, by omega, rfl, Nat.le_refl _⟩
  have HGOK := Lib.hid gok
  clear hown2 q1 q2 q3 hle2 hR2 hi gok
  go_wp2_with fail
  refine (grid_Put w2 3 1 3 3 ⟨g, 0, none⟩ (List.replicate 3 blankC) 0 0 A2 (cells6 [2, 3, 6]).length c2 (cells6 [2, 3, 6]) HGOK.out (HR1.out.keepsM (fun _ => rfl) hm12 (by simp)) (rightG_blanks 3 1) (by decide) HR2.out (by have := HLE.out; omega) HQ1.out).mono ?_
  rintro e w3 ⟨a3, c3, rfl, hc3, hR3, _, hm3⟩
  have HR3 := Lib.hid hR3
  have hm4 := hm12.trans hm3
  have C := fun i => blk_cell (blk_new w3 (.cells #[.int .i64 3, .int .i64 1, .slice (some a3) 3 c3] 38)) i
  clear hR3
  go_wp2_with fail
  clear C
  have hm5 : Mods [] w3 (w3.alloc (.cells #[.int .i64 3, .int .i64 1, .slice (some a3) 3 c3] 38)) := (Mods.refl [] w3).alloc _
  refine (grid_Shift _ 3 1 3 c3 a3 awkL1 1 0 1 blankC ⟨by omega, by omega, by omega, by omega, rfl, hc3⟩ (HR3.out.keepsM (fun _ => rfl) hm5 (by simp)) awk_r1 (by omega) (by decide +kernel)).mono ?_
  rintro e w6 ⟨a6, c6, rfl, hc6, hR6, _, hm6⟩
  have HR6 := Lib.hid hR6
  clear hR6
  go_wp2_with fail
  refine (grid_Lines w6 3 1 3 c6 a6 awkL2 ⟨by omega, by omega, by omega, by omega, rfl, hc6⟩ HR6.out (right_smallG awk_l2 rfl awk_r2)).mono ?_
  rintro e w7 ⟨v7, rfl, hown7, hm7⟩
  rw [awk_text] at hown7
  obtain ⟨A7, c7, rfl, q1, q2, q3⟩ := own_slice' hown7
  obtain ⟨g7, rfl⟩ := q3 (by omega)
  have hc := own_cells hown7 0 (u := .string ⟨#[97, 32, 98]⟩) rfl
  clear hown7 q1 q2 q3
  go_wp2
  go_ret
  exact ⟨rfl, hm1.trans (hm4.trans (hm5.trans (hm6.trans hm7)))⟩
end Go.Proofs.YtldjmacnokkjdaaDoor
