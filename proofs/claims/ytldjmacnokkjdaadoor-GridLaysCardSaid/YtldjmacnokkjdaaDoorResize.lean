/- grid.Resize. -/
import Derived.Test.YtldjmacnokkjdaaDoorBlit
namespace Go.Proofs.YtldjmacnokkjdaaDoor
open Go.RowKit Go.Shelf
set_option linter.unusedVariables false
set_option linter.unusedSimpArgs false

theorem right_blanks (n : Nat) : rightC (List.replicate n blankC) = true := by
  induction n with
  | zero => rfl
  | succ n ih =>
    rw [List.replicate_succ, rightC_1, ih]
    exact blank_size blankC _
theorem rightG_blanks (w h : Nat) : rightG w h (List.replicate (w * h) blankC) = true := by
  unfold rightG
  rw [List.all_eq_true]
  intro y hy
  unfold rowC
  rw [List.drop_replicate, List.take_replicate]
  exact right_blanks _
theorem fillC_len {w h n : Nat} {L : List Cell} {x y rw' rh : Int} {c : Cell} (hl : L.length = n) (hn : n = w * h) : (fillC w h L x y rw' rh c).length = n := by
  obtain ⟨s1, s2, s3⟩ := span_le x rw' w (by omega)
  obtain ⟨t1, t2, t3⟩ := span_le y rh h (by omega)
  unfold fillC
  split
  · exact hl
  · exact changed_len (fun _ r hr => fillRow_len hr (by omega) (by omega)) L hl hn (by omega)
theorem right_fillC {w h n : Nat} {L : List Cell} {x y rw' rh : Int} {c : Cell} (hl : L.length = n) (hn : n = w * h) (hr : rightG w h L = true) : rightG w h (fillC w h L x y rw' rh c) = true := by
  obtain ⟨s1, s2, s3⟩ := span_le x rw' w (by omega)
  obtain ⟨t1, t2, t3⟩ := span_le y rh h (by omega)
  unfold fillC
  split
  · exact hr
  · exact right_changed (fun _ r hr => fillRow_len hr (by omega) (by omega)) L hl hn (by omega) hr
/-- What Resize makes of a right grid. -/
def resizeG (w h : Nat) (L : List Cell) (w' h' : Nat) (c : Cell) : List Cell := blitG w' h' (fillC w' h' (List.replicate (w' * h') blankC) 0 0 w' h' c) w h L 0 0
def GridNew (W W' : World) (w h n : Nat) (L : List Cell) (e : Ending) : Prop :=
  ∃ a c, e = .returned (gridV w h (some a) n c) ∧ n ≤ c ∧ ReadsRows W' (some a) n 4 Cell.vals L ∧ W.heap.size ≤ a.block ∧ Mods [] W W'
set_option maxRecDepth 4000 in
set_option maxHeartbeats 2000000 in
theorem grid_Resize (W : World) (w h n c0 : Nat) (a : Addr) (L : List Cell) (w' h' : Nat) (c : Cell) (hg : GridOk w h n c0) (hL : ReadsRows W (some a) n 4 Cell.vals L) (hr : rightG w h L = true)
    (gw1 : 1 ≤ w') (gw2 : w' ≤ 200) (gh1 : 1 ≤ h') (gh2 : h' ≤ 60) (hc : (c.ok && decide (c.attr.val < 64)) = true) :
    Calls Tryd.prog 29 #[gridV w h (some a) n c0, .int .i64 (w' : Int), .int .i64 (h' : Int), c.val] W fun e W' => GridNew W W' w' h' (w' * h') (resizeG w h L w' h' c) e := by
  have HG := Lib.hid hg
  have HL := Lib.hid hL
  have HR := Lib.hid hr
  have HC := Lib.hid hc
  obtain ⟨r, fg, bg, at'⟩ := c
  clear hg hL hr hc
  go_enter Tryd.func29, Tryd.ntmps29
  go_wp2_with fail
  refine Calls.named fun W0 hW0 => ?_
  obtain ⟨hM0, hb4, hb7, hb8, hsz⟩ := boxes3 hW0
  have B4 := Lib.hid hb4
  have B7 := Lib.hid hb7
  have B8 := Lib.hid hb8
  have HSZ := Lib.hid hsz
  have HM0 := Lib.hid hM0
  clear hb4 hb7 hb8 hsz hW0
  refine (grid_Check W0 w h n c0 a L HG.out (HL.out.keepsM (fun _ => rfl) hM0 (by simp))).mono ?_
  rw [HR.out]
  rintro e w1 ⟨rfl, hm1⟩
  have C7 := fun i => blk_cell (hm1.at B7.out (by simp)) i
  go_wp2_with fail
  refine (grid_may _ _ _).mono ?_
  have hd : decide (1 ≤ (w' : Int) ∧ (w' : Int) ≤ 200 ∧ 1 ≤ (h' : Int) ∧ (h' : Int) ≤ 60) = true := by simp; omega
  rw [hd]
  clear hd
  rintro e w1' ⟨rfl, rfl⟩
  go_wp2_with fail
  clear C7
  refine (grid_plain w1 ⟨r, fg, bg, at'⟩).mono ?_
  rw [HC.out]
  rintro e w2 ⟨rfl, hm2⟩
  have hM2 := hm1.trans hm2
  have K40 : w2.cell? ⟨W.heap.size, 0, none⟩ = some (.int .i64 (w : Int)) := blk_cell (hM2.at B4.out (by simp)) 0
  have K41 : w2.cell? ⟨W.heap.size, 1, none⟩ = some (.int .i64 (h : Int)) := blk_cell (hM2.at B4.out (by simp)) 1
  have K42 : w2.cell? ⟨W.heap.size, 2, none⟩ = some (.slice (some a) n c0) := blk_cell (hM2.at B4.out (by simp)) 2
  have K70 : w2.cell? ⟨W.heap.size + 1, 0, none⟩ = some (.int .i32 r) := blk_cell (hM2.at B7.out (by simp)) 0
  have K71 : w2.cell? ⟨W.heap.size + 1, 1, none⟩ = some (.int .u8 fg) := blk_cell (hM2.at B7.out (by simp)) 1
  have K72 : w2.cell? ⟨W.heap.size + 1, 2, none⟩ = some (.int .u8 bg) := blk_cell (hM2.at B7.out (by simp)) 2
  have K73 : w2.cell? ⟨W.heap.size + 1, 3, none⟩ = some (.int .u8 (at'.val : Int)) := blk_cell (hM2.at B7.out (by simp)) 3
  have hs2 := hM2.size
  have hsz := HSZ.out
  have hlt8 := heap_lt B8.out
  have KA : ∀ X, Mods [W.heap.size + 1 + 1] w2 X → (X.cell? ⟨W.heap.size, 0, none⟩ = some (.int .i64 (w : Int)) ∧ X.cell? ⟨W.heap.size, 1, none⟩ = some (.int .i64 (h : Int)) ∧ X.cell? ⟨W.heap.size, 2, none⟩ = some (.slice (some a) n c0) ∧ X.cell? ⟨W.heap.size + 1, 0, none⟩ = some (.int .i32 r) ∧ X.cell? ⟨W.heap.size + 1, 1, none⟩ = some (.int .u8 fg) ∧ X.cell? ⟨W.heap.size + 1, 2, none⟩ = some (.int .u8 bg) ∧ X.cell? ⟨W.heap.size + 1, 3, none⟩ = some (.int .u8 (at'.val : Int))) :=
    fun X hX => ⟨hX.cell K40 (by simp; omega), hX.cell K41 (by simp; omega), hX.cell K42 (by simp; omega), hX.cell K70 (by simp), hX.cell K71 (by simp), hX.cell K72 (by simp), hX.cell K73 (by simp)⟩
  have KA0 := KA _ (Mods.refl _ w2)
  have hn' : w' * h' = w' * h' := rfl
  have GOK : Hid (GridOk w' h' (w' * h') (w' * h')) := Lib.hid ⟨gw1, gw2, gh1, gh2, rfl, Nat.le_refl _⟩
  have CS : Hid ((-1000000 : Int) ≤ (w' : Int) ∧ (w' : Int) ≤ 1000000) := Lib.hid ⟨by omega, by omega⟩
  have CS2 : Hid ((-1000000 : Int) ≤ (h' : Int) ∧ (h' : Int) ≤ 1000000) := Lib.hid ⟨by omega, by omega⟩
  clear K40 K41 K42 K70 K71 K72 K73
  go_wp2_with fail
  go_region_held3 (fun X => X.cell? ⟨W.heap.size, 0, none⟩ = some (.int .i64 (w : Int)) ∧ X.cell? ⟨W.heap.size, 1, none⟩ = some (.int .i64 (h : Int)) ∧ X.cell? ⟨W.heap.size, 2, none⟩ = some (.slice (some a) n c0) ∧ X.cell? ⟨W.heap.size + 1, 0, none⟩ = some (.int .i32 r) ∧ X.cell? ⟨W.heap.size + 1, 1, none⟩ = some (.int .u8 fg) ∧ X.cell? ⟨W.heap.size + 1, 2, none⟩ = some (.int .u8 bg) ∧ X.cell? ⟨W.heap.size + 1, 3, none⟩ = some (.int .u8 (at'.val : Int)))
    (first
      | exact KA0
      | with_reducible exact KA _ (hmA.mono (by simp))
      | with_reducible exact KA _ (hmB.mono (by simp))
      | with_reducible exact KA _ (hmC.mono (by simp))
      | with_reducible exact KA _ ((((hmC.mono (by simp)).setCell _ _ (.inl (by simp))).setCell _ _ (.inl (by simp))).setCell _ _ (.inl (by simp))))
    (first
      | (go_at_call 49; refine (grid_New _ w' h' gw1 gw2 gh1 gh2).mono ?_; rintro e wA ⟨g, rfl, hB, hge, hm⟩; have hmA : Mods [] w2 wA := (Mods.refl [] w2).drew.trans hm; have hRA := hB.reads)
      | (go_at_call 25; refine (grid_Fill _ w' h' (w' * h') (w' * h') ⟨g, 0, none⟩ _ 0 0 w' h' ⟨r, fg, bg, at'⟩ GOK.out hRA (rightG_blanks w' h') (by decide) (by decide) CS.out CS2.out HC.out).mono ?_; rintro e wB ⟨a1, c1, rfl, hc1, hRB, hor, hm'⟩; have hmB : Mods [] w2 wB := hmA.trans hm')
      | (go_at_call 28; refine (grid_Blit _ w' h' (w' * h') c1 a1 _ w h n c0 a L 0 0 ⟨gw1, gw2, gh1, gh2, rfl, hc1⟩ hRB (right_fillC (by simp) rfl (rightG_blanks w' h')) HG.out (HL.out.keepsM (fun _ => rfl) (HM0.out.trans (hM2.trans hmB)) (by simp)) HR.out (by decide) (by decide)).mono ?_; rintro e wC ⟨a3, c3, rfl, hc3, hRC, hor3, hm3⟩; have hmC : Mods [] w2 wC := hmB.trans hm3; have hb8C := hmC.at (hM2.at B8.out (by simp)) (by simp); have CC := fun i => blk_cell hb8C i; have FC := fun i => blk_frozen hb8C i; have HB8C := Lib.hid hb8C; clear hb8C))
  rename_i hHeld
  clear hHeld
  have e8 := blk_set (blk_set (blk_set HB8C.out 0 (.int .i64 (w' : Int))) 1 (.int .i64 (h' : Int))) 2 (.slice (some a3) (w' * h') c3)
  simp at e8
  have hm9 := (((Mods.refl [W.heap.size + 1 + 1] wC).setCell ⟨W.heap.size + 1 + 1, 0, none⟩ (.int .i64 (w' : Int)) (.inl (by simp))).setCell ⟨W.heap.size + 1 + 1, 1, none⟩ (.int .i64 (h' : Int)) (.inl (by simp))).setCell ⟨W.heap.size + 1 + 1, 2, none⟩ (.slice (some a3) (w' * h') c3) (.inl (by simp))
  clear CC FC
  generalize ((wC.setCell ⟨W.heap.size + 1 + 1, 0, none⟩ (.int .i64 (w' : Int))).setCell ⟨W.heap.size + 1 + 1, 1, none⟩ (.int .i64 (h' : Int))).setCell ⟨W.heap.size + 1 + 1, 2, none⟩ (.slice (some a3) (w' * h') c3) = W9 at *
  have hsA := hmA.size
  have hsB := hmB.size
  have hge' : w2.heap.size ≤ g := hge
  have hb1 : W0.heap.size ≤ a1.block := by
    rcases hor with h1 | ⟨_, h1, _⟩
    · rw [h1]; show W0.heap.size ≤ g; omega
    · omega
  have hb3 : W0.heap.size ≤ a3.block := by
    rcases hor3 with h1 | ⟨_, h1, _⟩
    · rw [h1]; exact hb1
    · omega
  have hRD := hRC.keepsM (fun _ => rfl) hm9 (by intro a' ha'; cases ha'; simp; omega)
  have hM9 := (HM0.out.trans (hM2.trans hmC)).then hm9 (fun k hk => .inr (by simp at hk; omega))
  have CF := fun i => blk_cell e8 i
  go_wp2_with fail
  exact bodyPost_ret (v := gridV w' h' (some a3) (w' * h') c3) (by simp [results, Tryd.results29, go_sem, CF]) rfl ⟨a3, c3, rfl, hc3, hRD, by omega, hM9⟩
end Go.Proofs.YtldjmacnokkjdaaDoor
