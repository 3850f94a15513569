/- grid.New, grid.At, grid.Row. -/
import Derived.Test.YtldjmacnokkjdaaDoorRep
namespace Go.Proofs.YtldjmacnokkjdaaDoor
open Go.RowKit
set_option linter.unusedVariables false
set_option linter.unusedSimpArgs false
attribute [local go_sem] max2_mx min2_mn max_two min_two

theorem blank_reads (w : World) : ReadsRows (w.alloc (.cells #[.int .i32 32, .int .u8 0, .int .u8 0, .int .u8 0] 27)) (some ⟨w.heap.size, 0, none⟩) 1 4 Cell.vals [blankC] :=
  rows_of_block (size := 4) (rd := Cell.vals) (xs := [blankC]) (blk_new w _) (by omega) (fun _ => rfl) rfl (by simp [maxLen])
theorem grid_New_no (W : World) (x y : Int) (h : ¬ (1 ≤ x ∧ x ≤ 200 ∧ 1 ≤ y ∧ y ≤ 60)) : Calls Tryd.prog 49 #[.int .i64 x, .int .i64 y] W fun e W' => e = .returned (gridV 0 0 none 0 0) ∧ Mods [] W W' := by
  have HN := Lib.hid h
  clear h
  go_enter Tryd.func49, Tryd.ntmps49
  go_wp2_with fail
  refine (grid_may _ _ _).mono ?_
  rw [decide_eq_false HN.out]
  rintro e w1 ⟨rfl, rfl⟩
  go_wp2
  exact bodyPost_ret (v := gridV 0 0 none 0 0) (by simp [results, Tryd.results49, go_sem, gridV]) rfl ⟨rfl, (Mods.refl _ _).alloc _⟩
set_option maxHeartbeats 1000000 in
theorem grid_New (W : World) (w h : Nat) (hw1 : 1 ≤ w) (hw2 : w ≤ 200) (hh1 : 1 ≤ h) (hh2 : h ≤ 60) : Calls Tryd.prog 49 #[.int .i64 (w : Int), .int .i64 (h : Int)] W fun e W' => ∃ g, e = .returned (gridV w h (some ⟨g, 0, none⟩) (w * h) (w * h)) ∧ CellB W' g (w * h) (w * h) (List.replicate (w * h) blankC) ∧ W.heap.size ≤ g ∧ Mods [] W W' := by
  obtain ⟨n, hn⟩ : ∃ n, n = w * h := ⟨_, rfl⟩
  have hn2 : n ≤ 12000 := by rw [hn]; exact Nat.mul_le_mul hw2 hh2
  rw [← hn]
  have hm : wrap64 ((w : Int) * (h : Int)) = (n : Int) := by rw [hn, ← Int.natCast_mul]; exact IntWalk.wrap64_in _ (by omega)
  have HM := Lib.hid hm
  clear hm hn
  have hd : decide (1 ≤ (w : Int) ∧ (w : Int) ≤ 200 ∧ 1 ≤ (h : Int) ∧ (h : Int) ≤ 60) = true := by simp; omega
  have HD := Lib.hid hd
  clear hd
  go_enter Tryd.func49, Tryd.ntmps49
  go_wp2_with fail
  refine (grid_may _ _ _).mono ?_
  rw [HD.out]
  rintro e w1 ⟨rfl, rfl⟩
  go_wp2_with fail
  refine (cell_Blank _).mono ?_
  rintro e w2 ⟨rfl, hm2⟩
  go_wp2_with fail
  rw [HM.out]
  refine (slices_Repeat _ _ n (by omega) blankC (blank_reads w2)).mono ?_
  rintro e w3 ⟨g, rfl, hB, hg, hm3⟩
  have hs2 := hm2.size
  have hs3 : w2.heap.size < g := by simp at hg; omega
  simp only [World.size_alloc] at hs2
  have hmA := ((Mods.refl [] w2).alloc (.cells #[.int .i32 32, .int .u8 0, .int .u8 0, .int .u8 0] 27)).trans hm3
  have hb := (hm2.trans hmA).at (blk_new W _) (by simp)
  have hM3 := ((Mods.refl [] W).alloc (.cells #[.int .i64 0, .int .i64 0, .slice none 0 0] 38)).trans (hm2.trans hmA)
  have HBLK := Lib.hid hb
  have HB := Lib.hid hB
  have C := fun i => blk_cell hb i
  have F := fun i => blk_frozen hb i
  clear hb hB hmA hm3
  go_wp2
  have e4 := blk_set (blk_set (blk_set HBLK.out 0 (.int .i64 (w : Int))) 1 (.int .i64 (h : Int))) 2 (.slice (some ⟨g, 0, none⟩) n n)
  simp at e4
  have C4 := fun i => blk_cell e4 i
  have hM4 := (((Mods.refl [W.heap.size] w3).setCell ⟨W.heap.size, 0, none⟩ (.int .i64 (w : Int)) (.inl (by simp))).setCell ⟨W.heap.size, 1, none⟩ (.int .i64 (h : Int)) (.inl (by simp))).setCell ⟨W.heap.size, 2, none⟩ (.slice (some ⟨g, 0, none⟩) n n) (.inl (by simp))
  refine bodyPost_ret (v := gridV w h (some ⟨g, 0, none⟩) n n) ?_ rfl ⟨g, rfl, HB.out.keeps hM4 (by simp; omega), by omega, hM3.then hM4 (by simp)⟩
  simp only [results, Tryd.results49]
  generalize ((w3.setCell _ _).setCell _ _).setCell _ _ = W4 at *
  clear C F
  simp [go_sem, C4]
theorem grid_At_out (W : World) (w h n c : Nat) (a : Addr) (L : List Cell) (x y : Int) (hg : GridOk w h n c) (hL : ReadsRows W (some a) n 4 Cell.vals L) (ho : ¬ (0 ≤ y ∧ y < h ∧ 0 ≤ x ∧ x < w)) :
    Calls Tryd.prog 22 #[gridV w h (some a) n c, .int .i64 x, .int .i64 y] W fun e W' => e = .returned (.agg #[.int .i32 0, .int .u8 0, .int .u8 0, .int .u8 0]) ∧ Mods [] W W' := by
  obtain ⟨hw1, hw2, hh1, hh2, hn, hc⟩ := hg
  have HN := Lib.hid hn
  clear hL hn
  have h3 : (y < 0 ∨ (h : Int) ≤ y) ∨ ((0 ≤ y ∧ y < h) ∧ (x < 0 ∨ (¬ x < 0 ∧ (w : Int) ≤ x))) := by omega
  have hM0 := ((Mods.refl [] W).alloc (.cells #[.int .i64 (w : Int), .int .i64 (h : Int), .slice (some a) n c] 38)).alloc (.cells #[.int .i32 0, .int .u8 0, .int .u8 0, .int .u8 0] 27)
  have hG := blk_new (W.alloc (.cells #[.int .i64 (w : Int), .int .i64 (h : Int), .slice (some a) n c] 38)) (.cells #[.int .i32 0, .int .u8 0, .int .u8 0, .int .u8 0] 27)
  rw [World.size_alloc] at hG
  have HG := Lib.hid hG
  clear ho hG
  rcases h3 with h3 | ⟨⟨y0, y1⟩, h3⟩
  · go_enter Tryd.func22, Tryd.ntmps22
    go_wp2_with fail
    with_reducible refine (grid_row_none _ w h n c (some a) y h3).mono ?_
    rintro e w2 ⟨rfl, hm2⟩
    have HG2 := Lib.hid (hm2.at HG.out (by simp))
    have h4 : x < 0 ∨ (¬ x < 0 ∧ 0 ≤ x) := by omega
    rcases h4 with h4 | ⟨h4, h5⟩
    all_goals
      go_wp2_with (refine store_blk HG2.out rfl (.tmp 6) (.tmp 19) 27 rfl (c' := #[.int .i32 0, .int .u8 0, .int .u8 0, .int .u8 0]) (by kernel_rfl) rfl rfl rfl (by simp [Value.oneCell']) ?_; intro w3 hb3 hm3; have HB3 := Lib.hid hb3; clear hb3)
      have C3 := fun i => blk_cell HB3.out i
      exact bodyPost_ret (v := .agg #[.int .i32 0, .int .u8 0, .int .u8 0, .int .u8 0]) (by simp [results, Tryd.results22, go_sem, C3]) rfl ⟨rfl, (hM0.trans hm2).then hm3 (by simp)⟩
  · obtain ⟨y', rfl⟩ := Int.eq_ofNat_of_zero_le y0
    have y2 : y' < h := by omega
    go_enter Tryd.func22, Tryd.ntmps22
    go_wp2_with fail
    with_reducible refine (grid_row _ w h n c a y' hw1 hw2 hh1 hh2 HN.out hc y2).mono ?_
    rintro e w2 ⟨rfl, hm2⟩
    have HG2 := Lib.hid (hm2.at HG.out (by simp))
    rcases h3 with h4 | ⟨h4, h5⟩
    · go_wp2_with (refine store_blk HG2.out rfl (.tmp 6) (.tmp 19) 27 rfl (c' := #[.int .i32 0, .int .u8 0, .int .u8 0, .int .u8 0]) (by kernel_rfl) rfl rfl rfl (by simp [Value.oneCell']) ?_; intro w3 hb3 hm3; have HB3 := Lib.hid hb3; clear hb3)
      have C3 := fun i => blk_cell HB3.out i
      exact bodyPost_ret (v := .agg #[.int .i32 0, .int .u8 0, .int .u8 0, .int .u8 0]) (by simp [results, Tryd.results22, go_sem, C3]) rfl ⟨rfl, (hM0.trans hm2).then hm3 (by simp)⟩
    · have d5 : decide (x ≥ (w : Int)) = true := by simp; omega
      go_wp2_with (refine store_blk HG2.out rfl (.tmp 6) (.tmp 19) 27 rfl (c' := #[.int .i32 0, .int .u8 0, .int .u8 0, .int .u8 0]) (by kernel_rfl) rfl rfl rfl (by simp [Value.oneCell']) ?_; intro w3 hb3 hm3; have HB3 := Lib.hid hb3; clear hb3)
      have C3 := fun i => blk_cell HB3.out i
      exact bodyPost_ret (v := .agg #[.int .i32 0, .int .u8 0, .int .u8 0, .int .u8 0]) (by simp [results, Tryd.results22, go_sem, C3]) rfl ⟨rfl, (hM0.trans hm2).then hm3 (by simp)⟩
theorem grid_At_in (W : World) (w h n c : Nat) (a : Addr) (L : List Cell) (x y : Nat) (hg : GridOk w h n c) (hL : ReadsRows W (some a) n 4 Cell.vals L) (hy : y < h) (hx : x < w) (d : Cell) (hd : (rowC w y L)[x]? = some d) :
    Calls Tryd.prog 22 #[gridV w h (some a) n c, .int .i64 (x : Int), .int .i64 (y : Int)] W fun e W' => e = .returned d.val ∧ Mods [] W W' := by
  obtain ⟨hw1, hw2, hh1, hh2, hn, hc⟩ := hg
  have HN := Lib.hid hn
  have hM0 := ((Mods.refl [] W).alloc (.cells #[.int .i64 (w : Int), .int .i64 (h : Int), .slice (some a) n c] 38)).alloc (.cells #[.int .i32 0, .int .u8 0, .int .u8 0, .int .u8 0] 27)
  have hG := blk_new (W.alloc (.cells #[.int .i64 (w : Int), .int .i64 (h : Int), .slice (some a) n c] 38)) (.cells #[.int .i32 0, .int .u8 0, .int .u8 0, .int .u8 0] 27)
  rw [World.size_alloc] at hG
  have HG := Lib.hid hG
  have HR := Lib.hid ((hL.row_of hn hy).keepsM (fun _ => rfl) hM0 (by simp))
  have HD := Lib.hid hd
  clear hL hn hG hd
  go_enter Tryd.func22, Tryd.ntmps22
  go_wp2_with fail
  with_reducible refine (grid_row _ w h n c a y hw1 hw2 hh1 hh2 HN.out hc hy).mono ?_
  rintro e w2 ⟨rfl, hm2⟩
  have HG2 := Lib.hid (hm2.at HG.out (by simp))
  obtain ⟨a2, ha2, c0, hcs⟩ := (HR.out.keepsM (fun _ => rfl) hm2 (by simp)).row HD.out
  cases ha2
  have c1 := hcs 0 (by omega)
  have c2 := hcs 1 (by omega)
  have c3 := hcs 2 (by omega)
  clear hcs HD HR
  obtain ⟨r, fg, bg, at'⟩ := d
  simp only [Cell.vals, List.getElem?_cons_zero, List.getElem?_cons_succ] at c0 c1 c2 c3
  have d5 : decide ((x : Int) ≥ (w : Int)) = false := by simp; omega
  have d6 : decide (w ≤ x) = false := by simp; omega
  generalize a.add (y * w * 4) = b at *
  go_wp2_with (refine store_blk HG2.out rfl (.tmp 6) (.tmp 23) 27 rfl (c' := #[.int .i32 r, .int .u8 fg, .int .u8 bg, .int .u8 (at'.val : Int)]) (by kernel_rfl) rfl rfl rfl (by simp [Value.oneCell']) ?_; intro w3 hb3 hm3; have HB3 := Lib.hid hb3; clear hb3)
  clear c0 c1 c2 c3
  have C3 := fun i => blk_cell HB3.out i
  exact bodyPost_ret (v := .agg #[.int .i32 r, .int .u8 fg, .int .u8 bg, .int .u8 (at'.val : Int)]) (by simp [results, Tryd.results22, go_sem, C3]) rfl ⟨rfl, (hM0.trans hm2).then hm3 (by simp)⟩
theorem grid_Row (W : World) (w h n c : Nat) (a : Addr) (L : List Cell) (y : Nat) (hg : GridOk w h n c) (hL : ReadsRows W (some a) n 4 Cell.vals L) (hy : y < h) :
    Calls Tryd.prog 45 #[gridV w h (some a) n c, .int .i64 (y : Int)] W fun e W' => ∃ v, e = .returned v ∧ W'.ownsRow W.heap.size 27 4 v w ((rowC w y L).flatMap Cell.vals) ∧ Mods [] W W' := by
  obtain ⟨hw1, hw2, hh1, hh2, hn, hc⟩ := hg
  have HN := Lib.hid hn
  have hM0 := (Mods.refl [] W).alloc (.cells #[.int .i64 (w : Int), .int .i64 (h : Int), .slice (some a) n c] 38)
  have HR := Lib.hid ((hL.row_of hn hy).keepsM (fun _ => rfl) hM0 (by simp))
  clear hL hn
  go_enter Tryd.func45, Tryd.ntmps45
  go_wp2_with fail
  with_reducible refine (grid_row _ w h n c a y hw1 hw2 hh1 hh2 HN.out hc hy).mono ?_
  rintro e w2 ⟨rfl, hm2⟩
  go_wp2_with fail
  refine (clone_cells _ _ w w (rowC w y L) (HR.out.keepsM (fun _ => rfl) hm2 (by simp)) (Nat.le_refl _) (fun h => by cases h) (by omega)).mono ?_
  rintro e w3 ⟨v, rfl, hown, _, hm3⟩
  have HOWN := Lib.hid (own_lower hown (base' := W.heap.size) (Nat.le_trans hM0.size hm2.size))
  clear hown
  go_wp2
  go_ret
  exact ⟨v, rfl, HOWN.out, (hM0.trans hm2).trans hm3⟩
end Go.Proofs.YtldjmacnokkjdaaDoor
