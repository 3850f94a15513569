/- The document's answer of layer 5: Tail, Make. -/
import Derived.Test.YtldjmacnokkjdaaDoorRef5
import Derived.Test.YtldjmacnokkjdaaDoorHistU
namespace Go.Proofs.YtldjmacnokkjdaaDoor
open Go.RowKit
set_option linter.unusedVariables false
set_option linter.unusedSimpArgs false

theorem addtail (a : Fin 256) : IntKind.u8.wrap ((a.val : Int) % 64 + 128) = ((tailOf a).val : Int) := by revert a; decide +kernel
theorem ref5_Tail (w : World) (c : Cell) : Calls Tryd.prog 69 #[c.val] w fun e w' => e = .returned c.behind.val ∧ Mods [] w w' := by
  obtain ⟨r, fg, bg, a⟩ := c
  have hb := addtail a
  go_enter Tryd.func69, Tryd.ntmps69
  go_wp2
  exact bodyPost_ret (v := (Cell.mk 0 fg bg (tailOf a)).val) (by simp [results, Tryd.results69, go_sem]) rfl ⟨rfl, ((Mods.refl _ _).alloc _).alloc _⟩
def mod64 (a : Fin 256) : Fin 256 := ⟨a.val % 64, by omega⟩
def wide64 (a : Fin 256) : Fin 256 := ⟨a.val % 64 + 64, by omega⟩
def makeC (r : Int) (pen : Cell) : List Cell := if width r = 1 then [⟨r, pen.fg, pen.bg, mod64 pen.attr⟩] else if width r = 2 then [⟨r, pen.fg, pen.bg, wide64 pen.attr⟩, ⟨0, pen.fg, pen.bg, tailOf (wide64 pen.attr)⟩] else []
theorem own_block {w : World} {base g : Nat} {e : TypeId} {cs : Array Value} {size n : Nat} (h : w.heap[g]? = some (.cells cs e (0, 0))) (hb : base ≤ g) (hn : cs.size = n * size) (hm : n ≤ maxLen) : w.ownsRow base e size (.slice (some ⟨g, 0, none⟩) n n) n cs.toList :=
  ⟨by rw [Array.length_toList]; exact hn, .inr ⟨g, n, cs, rfl, hb, h, Nat.le_refl _, hm, hn, List.take_of_length_le (by rw [Array.length_toList, hn]; exact Nat.le_refl _)⟩⟩
set_option maxHeartbeats 1000000 in
theorem ref5_Make_1 (w : World) (r : Int) (pen : Cell) (h1 : -2147483648 ≤ r) (h2 : r ≤ 2147483647) (hw : width r = 1) :
    Calls Tryd.prog 38 #[.int .i32 r, pen.val] w fun e w' => ∃ v, e = .returned v ∧ w'.ownsRow w.heap.size 27 4 v (makeC r pen).length ((makeC r pen).flatMap Cell.vals) ∧ Mods [] w w' := by
  obtain ⟨pr, fg, bg, a⟩ := pen
  have HW := Lib.hid hw
  clear hw
  go_enter Tryd.func38, Tryd.ntmps38
  go_wp2_with (go_at_call 68; go_must (refine (ref4_Width _ r h1 h2).mono ?_); rw [HW.out]; rintro e w1 ⟨rfl, rfl⟩)
  go_ret
  have hd : makeC r ⟨pr, fg, bg, a⟩ = [⟨r, fg, bg, mod64 a⟩] := by simp [makeC, HW.out]
  have he : ((mod64 a).val : Int) = (a.val : Int) % 64 := by simp [mod64]
  rw [hd]
  refine ⟨_, rfl, ?_, (((Mods.refl _ _).alloc _).alloc _).alloc _⟩
  have := own_block (base := w.heap.size) (n := 1) (size := 4) (blk_new' ((w.alloc (.cells #[.int .i32 pr, .int .u8 fg, .int .u8 bg, .int .u8 (a.val : Int)] 27)).alloc (.cells #[.int .i32 r, .int .u8 fg, .int .u8 bg, .int .u8 ((a.val : Int) % 64)] 27)) (.cells #[.int .i32 r, .int .u8 fg, .int .u8 bg, .int .u8 ((a.val : Int) % 64)] 27) (k := w.heap.size + 1 + 1) (by simp)) (by omega) rfl (by decide)
  simpa [Cell.vals, he] using this
theorem ref5_Make_0 (w : World) (r : Int) (pen : Cell) (h1 : -2147483648 ≤ r) (h2 : r ≤ 2147483647) (hw : width r = 0) :
    Calls Tryd.prog 38 #[.int .i32 r, pen.val] w fun e w' => ∃ v, e = .returned v ∧ w'.ownsRow w.heap.size 27 4 v (makeC r pen).length ((makeC r pen).flatMap Cell.vals) ∧ Mods [] w w' := by
  obtain ⟨pr, fg, bg, a⟩ := pen
  have HW := Lib.hid hw
  clear hw
  go_enter Tryd.func38, Tryd.ntmps38
  go_wp2_with (go_at_call 68; go_must (refine (ref4_Width _ r h1 h2).mono ?_); rw [HW.out]; rintro e w1 ⟨rfl, rfl⟩)
  go_ret
  have hd : makeC r ⟨pr, fg, bg, a⟩ = [] := by simp [makeC, HW.out]
  rw [hd]
  exact ⟨_, rfl, own_nil _ _ _ _, ((Mods.refl _ _).alloc _).alloc _⟩
theorem addwide (a : Fin 256) : IntKind.u8.wrap ((a.val : Int) % 64 + 64) = ((wide64 a).val : Int) := by revert a; decide +kernel
set_option maxHeartbeats 1000000 in
theorem ref5_Make_2 (w : World) (r : Int) (pen : Cell) (h1 : -2147483648 ≤ r) (h2 : r ≤ 2147483647) (hw : width r = 2) :
    Calls Tryd.prog 38 #[.int .i32 r, pen.val] w fun e w' => ∃ v, e = .returned v ∧ w'.ownsRow w.heap.size 27 4 v (makeC r pen).length ((makeC r pen).flatMap Cell.vals) ∧ Mods [] w w' := by
  obtain ⟨pr, fg, bg, a⟩ := pen
  have HW := Lib.hid hw
  have ea := addwide a
  clear hw
  go_enter Tryd.func38, Tryd.ntmps38
  go_upto_region 7 with (go_at_call 68; go_must (refine (ref4_Width _ r h1 h2).mono ?_); rw [HW.out]; rintro e w1 ⟨rfl, rfl⟩)
  have hb2 := blk_new' (w.alloc (.cells #[.int .i32 pr, .int .u8 fg, .int .u8 bg, .int .u8 (a.val : Int)] 27)) (.cells #[.int .i32 r, .int .u8 fg, .int .u8 bg, .int .u8 ((wide64 a).val : Int)] 27) (k := w.heap.size + 1) (by simp)
  have hM2 : Mods [] w ((w.alloc (.cells #[.int .i32 pr, .int .u8 fg, .int .u8 bg, .int .u8 (a.val : Int)] 27)).alloc (.cells #[.int .i32 r, .int .u8 fg, .int .u8 bg, .int .u8 ((wide64 a).val : Int)] 27)) := ((Mods.refl _ _).alloc _).alloc _
  generalize (w.alloc (.cells #[.int .i32 pr, .int .u8 fg, .int .u8 bg, .int .u8 (a.val : Int)] 27)).alloc (.cells #[.int .i32 r, .int .u8 fg, .int .u8 bg, .int .u8 ((wide64 a).val : Int)] 27) = W2 at *
  have d0 : W2.cell? ⟨w.heap.size + 1, 0, none⟩ = some (.int .i32 r) := blk_cell hb2 0
  have d1 : W2.cell? ⟨w.heap.size + 1, 1, none⟩ = some (.int .u8 fg) := blk_cell hb2 1
  have d2 : W2.cell? ⟨w.heap.size + 1, 2, none⟩ = some (.int .u8 bg) := blk_cell hb2 2
  have d3 : W2.cell? ⟨w.heap.size + 1, 3, none⟩ = some (.int .u8 ((wide64 a).val : Int)) := blk_cell hb2 3
  clear hb2 ea
  have T0 : ∀ W, Calls Tryd.prog 69 #[.agg #[.int .i32 r, .int .u8 fg, .int .u8 bg, .int .u8 ((wide64 a).val : Int)]] W fun e w' => e = .returned (.agg #[.int .i32 0, .int .u8 fg, .int .u8 bg, .int .u8 ((tailOf (wide64 a)).val : Int)]) ∧ Mods [] W w' := fun W => ref5_Tail W ⟨r, fg, bg, wide64 a⟩
  have T1 := Lib.hid T0
  clear T0
  go_region_held3 (fun W => W.cell? ⟨w.heap.size + 1, 0, none⟩ = some (.int .i32 r) ∧ W.cell? ⟨w.heap.size + 1, 1, none⟩ = some (.int .u8 fg) ∧ W.cell? ⟨w.heap.size + 1, 2, none⟩ = some (.int .u8 bg) ∧ W.cell? ⟨w.heap.size + 1, 3, none⟩ = some (.int .u8 ((wide64 a).val : Int)))
    (first
      | exact ⟨d0, d1, d2, d3⟩
      | exact ⟨hm.cell d0 (by simp), hm.cell d1 (by simp), hm.cell d2 (by simp), hm.cell d3 (by simp)⟩
      | exact ⟨(hm.alloc _).cell d0 (by simp), (hm.alloc _).cell d1 (by simp), (hm.alloc _).cell d2 (by simp), (hm.alloc _).cell d3 (by simp)⟩)
    (first | (go_at_call 69; refine (T1.out _).mono ?_; rintro e w2 ⟨rfl, hm⟩))
  go_wp2
  go_ret
  have hd : makeC r ⟨pr, fg, bg, a⟩ = [⟨r, fg, bg, wide64 a⟩, ⟨0, fg, bg, tailOf (wide64 a)⟩] := by simp [makeC, HW.out]
  rw [hd]
  have hM3 : Mods [] w w2 := hM2.drew.trans hm
  refine ⟨_, rfl, ?_, hM3.alloc _⟩
  have := own_block (base := w.heap.size) (n := 2) (size := 4) (blk_new w2 (.cells #[.int .i32 r, .int .u8 fg, .int .u8 bg, .int .u8 ((wide64 a).val : Int), .int .i32 0, .int .u8 fg, .int .u8 bg, .int .u8 ((tailOf (wide64 a)).val : Int)] 27)) hM3.size rfl (by decide)
  simpa [Cell.vals] using this
end Go.Proofs.YtldjmacnokkjdaaDoor
