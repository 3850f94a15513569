/- grid.Shift. -/
import Derived.Test.YtldjmacnokkjdaaDoorResize
namespace Go.Proofs.YtldjmacnokkjdaaDoor
open Go.RowKit Go.Shelf
set_option linter.unusedVariables false
set_option linter.unusedSimpArgs false

/-- The cell that a place of a shifted row has. -/
def shiftAt (w x : Nat) (k : Int) (c : Cell) (old : List Cell) (i : Nat) : Cell :=
  if (x : Int) ≤ movedF i (-k) x w ∧ movedF i (-k) x w < w then (old[(movedF i (-k) x w).toNat]?).getD c else c
/-- Cells of a function of the place in the places x to i. -/
def mapRow (x i : Nat) (f : Nat → Cell) (r : List Cell) : List Cell := r.take x ++ (List.range' x (i - x)).map f ++ r.drop i
theorem mapRow_len {x i w : Nat} {f : Nat → Cell} {r : List Cell} (hr : r.length = w) (hl : x ≤ i) (hx : i ≤ w) : (mapRow x i f r).length = w := by unfold mapRow; simp [hr]; omega
theorem mapRow_get {x j w : Nat} {f : Nat → Cell} {r : List Cell} (hr : r.length = w) (hl : x ≤ j) (hx : j ≤ w) (i : Nat) : (mapRow x j f r)[i]? = if x ≤ i ∧ i < j then some (f i) else r[i]? := by
  unfold mapRow
  have e1 : (r.take x).length = x := by simp; omega
  by_cases h1 : i < x
  · rw [if_neg (by omega), List.append_assoc, List.getElem?_append_left (by omega), List.getElem?_take, if_pos h1]
  · by_cases h2 : i < j
    · rw [if_pos (by omega), List.append_assoc, List.getElem?_append_right (by omega), List.getElem?_append_left (by simp; omega), e1, List.getElem?_map, List.getElem?_range' (by omega)]
      simp
      congr 1; omega
    · rw [if_neg (by omega), List.getElem?_append_right (by simp; omega), List.getElem?_drop]
      congr 1
      simp; omega
theorem mapRow_self {x : Nat} {f : Nat → Cell} {r : List Cell} : mapRow x x f r = r := by unfold mapRow; simp
theorem mapRow_set {x j w : Nat} {f : Nat → Cell} {r : List Cell} (hr : r.length = w) (hl : x ≤ j) (hx : j < w) : (mapRow x j f r).set j (f j) = mapRow x (j + 1) f r := by
  apply List.ext_getElem?
  intro i
  rw [List.getElem?_set, mapRow_get hr hl (by omega), mapRow_get hr (by omega) (by omega), mapRow_len hr hl (by omega)]
  by_cases h : j = i
  · subst h; rw [if_pos rfl, if_pos hx, if_pos (by omega)]
  · rw [if_neg h]
    by_cases h2 : x ≤ i ∧ i < j
    · rw [if_pos h2, if_pos (by omega)]
    · rw [if_neg h2, if_neg (by omega)]
def Shift1Rel (W1 : World) (b cap n w y x : Nat) (f : Nat → Cell) (L1 : List Cell) (kk : Nat) (idx : Value) (wr : World) : Prop :=
  ∃ i : Nat, idx = .int .i64 (i : Int) ∧ x ≤ i ∧ i ≤ w ∧ CellB wr b n cap (setRow w y (mapRow x i f (rowC w y L1)) L1) ∧ Mods [b] W1 wr ∧ kk + i = w + x
set_option maxRecDepth 4000 in
set_option maxHeartbeats 2000000 in
theorem shift1_how (W : World) (w h n c0 lo hi bx bg bn bc bo x yo : Nat) (a : Addr) (L : List Cell) (hg : GridOk w h n c0) (hL : ReadsRows W (some a) n 4 Cell.vals L) (hyo : yo < h) (hih : hi ≤ h) (hx : x ≤ w) (k : Int) (hk : -1000000 ≤ k ∧ k ≤ 1000000) (c : Cell)
    (h1 : W.heap[bx]? = some (.cells #[.int .i64 (x : Int)] 3 (0, 0))) (h2 : W.heap[bg]? = some (.cells #[.int .i64 (w : Int), .int .i64 (h : Int), .slice (some a) n c0] 38 (0, 0))) (h3 : W.heap[bn]? = some (.cells #[.int .i64 k] 3 (0, 0)))
    (h4 : W.heap[bc]? = some (.cells #[.int .i32 c.r, .int .u8 c.fg, .int .u8 c.bg, .int .u8 (c.attr.val : Int)] 27 (0, 0))) (h5 : W.heap[bo]? = some (.cells #[.slice (some (a.add (yo * w * 4))) w w] 28 (0, 0))) :
    HowDoes W w h n lo hi 73 #[.pointer (some ⟨bx, 0, none⟩), .pointer (some ⟨bg, 0, none⟩), .pointer (some ⟨bn, 0, none⟩), .pointer (some ⟨bc, 0, none⟩), .pointer (some ⟨bo, 0, none⟩)] (fun _ r => mapRow x w (shiftAt w x k c (rowC w yo L)) r) := by
  intro W1 b cap L1 y hM hb hB hy1 hy2
  obtain ⟨hw1, hw2, hh1, hh2, hn, hcc⟩ := id hg
  have hyw := row_le (y := y) hn (by omega)
  have hL1 := hB.len
  have hrl := rowC_len (y := y) hL1 hn (by omega)
  have m1 : bx ≠ b := by have := heap_lt h1; omega
  have m2 : bg ≠ b := by have := heap_lt h2; omega
  have m3 : bn ≠ b := by have := heap_lt h3; omega
  have m4 : bc ≠ b := by have := heap_lt h4; omega
  have m5 : bo ≠ b := by have := heap_lt h5; omega
  have H1 := Lib.hid (hM.at h1 (by simp))
  have H2 := Lib.hid (hM.at h2 (by simp))
  have H3 := Lib.hid (hM.at h3 (by simp))
  have H4 := Lib.hid (hM.at h4 (by simp))
  have H5 := Lib.hid (hM.at h5 (by simp))
  have hLl := hL.1
  have HOb : ∀ X, Mods [b] W1 X → ReadsRows X (some (a.add (yo * w * 4))) w 4 Cell.vals (rowC w yo L) := fun X hX => (hL.keepsM (fun _ => rfl) (hM.then hX (fun k hk => .inr (by simp at hk; omega))) (by simp)).row_of hn hyo
  have HOB := Lib.hid HOb
  have hol := rowC_len (y := yo) hLl hn hyo
  have HOL := Lib.hid hol
  have HN := Lib.hid hn
  have HB := Lib.hid hB
  have HL1 := Lib.hid hL1
  have HRL := Lib.hid hrl
  have HYW := Lib.hid hyw
  have C1 := blk_cell H1.out 0
  generalize hold : rowC w yo L = old at *
  generalize a.add (yo * w * 4) = ao at *
  obtain ⟨r, fg, bg', at'⟩ := c
  clear h1 h2 h3 h4 h5 hn hB hL1 hrl hM hL hol hLl hyw hold HOb
  have nk : IntKind.i64.wrap (-k) = -k := IntWalk.i64_in _ (by omega)
  have NK := Lib.hid nk
  show Calls _ _ #[.int .i64 (y : Int), .slice (some ⟨b, y * w * 4, none⟩) w w, .pointer (some ⟨bx, 0, none⟩), .pointer (some ⟨bg, 0, none⟩), .pointer (some ⟨bn, 0, none⟩), .pointer (some ⟨bc, 0, none⟩), .pointer (some ⟨bo, 0, none⟩)] _ _
  go_enter Tryd.func73, Tryd.ntmps73
  go_wp2
  clear C1
  go_loopg [9] w (Shift1Rel W1 b cap n w y x (shiftAt w x k ⟨r, fg, bg', at'⟩ old) L1)
  case atStart => exact ⟨x, rfl, Nat.le_refl _, hx, by rw [mapRow_self, setRow_self (by rw [HL1.out]; exact HYW.out)]; exact HB.out, Mods.refl _ _, by omega⟩
  case round =>
    obtain ⟨i, rfl, hx1, hx2, hBx, hMx, hkk⟩ := hrel
    have HBX := Lib.hid hBx
    have HKK := Lib.hid hkk
    clear hBx hkk
    have C2 := fun i => blk_cell (hMx.at H2.out (by simpa using m2)) i
    by_cases hlt : i < w
    · have hk2 := HKK.out
      have C1 := fun i => blk_cell (hMx.at H1.out (by simpa using m1)) i
      have C3 := fun i => blk_cell (hMx.at H3.out (by simpa using m3)) i
      have C4 := fun i => blk_cell (hMx.at H4.out (by simpa using m4)) i
      have i0 : (0 : Int) ≤ (i : Int) := by omega
      have i1 : (i : Int) < (w : Int) := by omega
      go_wp2_with fail
      refine (grid_moved wr i (-k) x w (by omega) (by omega) (by omega) (by omega)).mono ?_
      rintro e w2 ⟨rfl, rfl⟩
      by_cases hq : (x : Int) ≤ movedF i (-k) x w ∧ movedF i (-k) x w < w
      · rw [decide_eq_true hq]
        obtain ⟨f, hf⟩ := Int.eq_ofNat_of_zero_le (show 0 ≤ movedF i (-k) x w by omega)
        obtain ⟨d, hd⟩ : ∃ d, old[f]? = some d := ⟨_, List.getElem?_eq_getElem (by rw [HOL.out]; omega)⟩
        have hsa : shiftAt w x k ⟨r, fg, bg', at'⟩ old i = d := by unfold shiftAt; rw [if_pos hq, hf]; simp [hd]
        have HSA := Lib.hid hsa
        have HD := Lib.hid hd
        have hfw : f < w := by omega
        have f0 : (0 : Int) ≤ (f : Int) := by omega
        have f1 : (f : Int) < (w : Int) := by omega
        rw [hf]
        clear hf hsa hd hq
        obtain ⟨d1, d2, d3, d4⟩ := d
        clear C1 C2 C3
        go_wp2_with
          (first
            | (refine store_cell HBX.out rfl (.tmp 32) (.tmp 31) 27 rfl (by kernel_rfl) (y * w + i) _ (idx4 y w i) ⟨r, fg, bg', at'⟩ rfl rfl (by have := HYW.out; omega) ?_; intro w5 hB5 hM5; have HB5 := Lib.hid hB5; clear hB5; clear C4; have C5 := blk_cell ((hMx.trans hM5).at H5.out (by simpa using m5)) 0; obtain ⟨a2, ha2, c0', hcs⟩ := (HOB.out _ (hMx.trans hM5)).row HD.out; cases ha2; have c1' := hcs 0 (by omega); have c2' := hcs 1 (by omega); have c3' := hcs 2 (by omega); clear hcs; simp only [Cell.vals, List.getElem?_cons_zero, List.getElem?_cons_succ] at c0' c1' c2' c3')
            | (refine store_cell HB5.out rfl (.tmp 40) (.tmp 39) 27 rfl (by kernel_rfl) (y * w + i) _ (idx4 y w i) ⟨d1, d2, d3, d4⟩ rfl rfl (by have := HYW.out; omega) ?_; intro w6 hB6 hM6; have HB6 := Lib.hid hB6; clear hB6; clear C5 c0' c1' c2' c3'))
        go_roundg (gk - 1)
        case measure => omega
        case rel =>
          refine ⟨i + 1, by go_num, by omega, by omega, ?_, (hMx.trans hM5).trans hM6, by omega⟩
          have := HB6.out
          rw [List.set_set, setRow_set (mapRow_len HRL.out hx1 (by omega)) (by rw [HL1.out]; exact HYW.out) (by omega)] at this
          have e := mapRow_set (f := shiftAt w x k ⟨r, fg, bg', at'⟩ old) HRL.out hx1 hlt
          rw [HSA.out] at e
          rw [e] at this
          exact this
      · rw [decide_eq_false hq]
        have hsa : shiftAt w x k ⟨r, fg, bg', at'⟩ old i = ⟨r, fg, bg', at'⟩ := if_neg hq
        have HSA := Lib.hid hsa
        clear hsa hq C1 C2 C3
        go_wp2_with (refine store_cell HBX.out rfl (.tmp 32) (.tmp 31) 27 rfl (by kernel_rfl) (y * w + i) _ (idx4 y w i) ⟨r, fg, bg', at'⟩ rfl rfl (by have := HYW.out; omega) ?_; intro w5 hB5 hM5; have HB5 := Lib.hid hB5; clear hB5)
        go_roundg (gk - 1)
        case measure => omega
        case rel =>
          refine ⟨i + 1, by go_num, by omega, by omega, ?_, hMx.trans hM5, by omega⟩
          have := HB5.out
          rw [setRow_set (mapRow_len HRL.out hx1 (by omega)) (by rw [HL1.out]; exact HYW.out) (by omega)] at this
          have e := mapRow_set (f := shiftAt w x k ⟨r, fg, bg', at'⟩ old) HRL.out hx1 hlt
          rw [HSA.out] at e
          rw [e] at this
          exact this
    · have hxr : i = w := by omega
      subst hxr
      go_wp2
      exact bodyPost_end (results_none rfl _ _ _) rfl ⟨⟨_, rfl⟩, HBX.out, hMx⟩
/-- What Shift makes of a right grid, at a row that is there. -/
def shiftG (w h : Nat) (L : List Cell) (x : Int) (y : Nat) (k : Int) (c : Cell) : List Cell :=
  changedC w y (y + 1) (fun _ r => mapRow (mn (mx x 0) w).toNat w (shiftAt w (mn (mx x 0) w).toNat (mn (mx k (-(w : Int))) w) c (rowC w y L)) r) L
attribute [local go_sem] max2_mx min2_mn max_two min_two
set_option maxRecDepth 4000 in
set_option maxHeartbeats 2000000 in
theorem grid_Shift (W : World) (w h n c0 : Nat) (a : Addr) (L : List Cell) (x : Int) (y : Nat) (k : Int) (c : Cell) (hg : GridOk w h n c0) (hL : ReadsRows W (some a) n 4 Cell.vals L) (hr : rightG w h L = true)
    (hy : y < h) (hc : (c.ok && decide (c.attr.val < 64)) = true) :
    Calls Tryd.prog 52 #[gridV w h (some a) n c0, .int .i64 x, .int .i64 (y : Int), .int .i64 k, c.val] W fun e W' => GridOut W W' w h n a (shiftG w h L x y k c) e := by
  obtain ⟨hw1, hw2, hh1, hh2, hn, hcc⟩ := id hg
  have HG := Lib.hid hg
  have HL := Lib.hid hL
  have HLL := Lib.hid hL.1
  have HR := Lib.hid hr
  have HN := Lib.hid hn
  have HC := Lib.hid hc
  obtain ⟨x', hx', hx2⟩ := clampG x w
  have hk1 : -(w : Int) ≤ mn (mx k (-(w : Int))) w ∧ mn (mx k (-(w : Int))) w ≤ w := by unfold mn mx; split <;> split <;> omega
  have hsc : shiftG w h L x y k c = changedC w y (y + 1) (fun _ r => mapRow x' w (shiftAt w x' (mn (mx k (-(w : Int))) w) c (rowC w y L)) r) L := by
    unfold shiftG
    rw [hx']
    simp only [Int.toNat_natCast]
  have HSC := Lib.hid hsc
  have HX := Lib.hid hx'
  obtain ⟨r, fg, bg, at'⟩ := c
  clear hg hL hr hn hsc hx' hc
  have nw : IntKind.i64.wrap (-(w : Int)) = -(w : Int) := IntWalk.i64_in _ (by omega)
  have d3 : decide ((y : Int) ≥ (h : Int)) = false := by simp; omega
  have d4 : decide (h ≤ y) = false := by simp; omega
  go_enter Tryd.func52, Tryd.ntmps52
  go_wp2_with fail
  refine Calls.named fun W0 hW0 => ?_
  obtain ⟨hM0, hb5, hb6, hb8, hb9, hb10, hsz⟩ := boxes5 hW0
  have B5 := Lib.hid hb5
  have B6 := Lib.hid hb6
  have B8 := Lib.hid hb8
  have B9 := Lib.hid hb9
  have B10 := Lib.hid hb10
  have HSZ := Lib.hid hsz
  have HM0 := Lib.hid hM0
  clear hb5 hb6 hb8 hb9 hb10 hsz hW0
  refine (grid_Check W0 w h n c0 a L HG.out (HL.out.keepsM (fun _ => rfl) hM0 (by simp))).mono ?_
  rw [HR.out]
  rintro e w1 ⟨rfl, hm1⟩
  have C9 := fun i => blk_cell (hm1.at B9.out (by simp)) i
  go_wp2_with fail
  clear C9
  refine (grid_plain w1 ⟨r, fg, bg, at'⟩).mono ?_
  rw [HC.out]
  rintro e w2 ⟨rfl, hm2⟩
  have hM2 := hm1.trans hm2
  have C5 := fun i => blk_cell (hM2.at B5.out (by simp)) i
  have C6 := fun i => blk_cell (hM2.at B6.out (by simp)) i
  have C8 := fun i => blk_cell (hM2.at B8.out (by simp)) i
  have F6 := blk_frozen (hM2.at B6.out (by simp)) 0
  have F8 := blk_frozen (hM2.at B8.out (by simp)) 0
  go_wp2_with fail
  have hb6 := hM2.at B6.out (by simp)
  have hb8 := hM2.at B8.out (by simp)
  have hs2 := hM2.size
  have hsz := HSZ.out
  have hx1 := blk_set hb6 0 (.int .i64 (mn (mx x 0) (w : Int)))
  have hm6 := (Mods.refl [W.heap.size + 1, W.heap.size + 1 + 1] w2).setCell ⟨W.heap.size + 1, 0, none⟩ (.int .i64 (mn (mx x 0) (w : Int))) (.inl (by simp))
  have hb8' := (((Mods.refl [W.heap.size + 1] w2).setCell ⟨W.heap.size + 1, 0, none⟩ (.int .i64 (mn (mx x 0) (w : Int))) (.inl (by simp))).at hb8 (by simp))
  have hx8 := blk_set hb8' 0 (.int .i64 (mn (mx k (-(w : Int))) w))
  have hx6 := ((Mods.refl [W.heap.size + 1 + 1] (w2.setCell ⟨W.heap.size + 1, 0, none⟩ (.int .i64 (mn (mx x 0) (w : Int))))).setCell ⟨W.heap.size + 1 + 1, 0, none⟩ (.int .i64 (mn (mx k (-(w : Int))) w)) (.inl (by simp))).at hx1 (by simp)
  have hm7 := hm6.setCell ⟨W.heap.size + 1 + 1, 0, none⟩ (.int .i64 (mn (mx k (-(w : Int))) w)) (.inl (by simp))
  simp at hx6 hx8
  clear C5 C6 C8 F6 F8 hx1 hb8' hb6 hb8 hm6 nw
  generalize (w2.setCell ⟨W.heap.size + 1, 0, none⟩ (.int .i64 (mn (mx x 0) (w : Int)))).setCell ⟨W.heap.size + 1 + 1, 0, none⟩ (.int .i64 (mn (mx k (-(w : Int))) w)) = W2 at *
  have hM3 : Mods [W.heap.size + 1, W.heap.size + 1 + 1] W0 W2 := (hM2.mono (by simp)).trans hm7
  rw [HX.out] at hx6
  rw [HX.out]
  generalize mn (mx k (-(w : Int))) w = k' at *
  refine (grid_row W2 w h n c0 a y hw1 hw2 hh1 hh2 HN.out hcc hy).mono ?_
  rintro e w3 ⟨rfl, hm3⟩
  have hM4 : Mods [W.heap.size + 1, W.heap.size + 1 + 1] W0 (w3.alloc (.cells #[.slice (some (a.add (y * w * 4))) w w] 28)) := (hM3.trans (hm3.mono (by simp))).alloc _
  have hm4 : Mods [] W2 (w3.alloc (.cells #[.slice (some (a.add (y * w * 4))) w w] 28)) := hm3.alloc _
  have hb11 := blk_new w3 (.cells #[.slice (some (a.add (y * w * 4))) w w] 28)
  have hb6 := hm4.at hx6 (by simp)
  have hb8 := hm4.at hx8 (by simp)
  have C5 := fun i => blk_cell (hM4.at B5.out (by simp; omega)) i
  clear hx6 hx8 hm4
  go_wp2_with fail
  clear C5
  generalize w3.alloc (.cells #[.slice (some (a.add (y * w * 4))) w w] 28) = W4 at *
  have hMW : Mods [] W W4 := HM0.out.then hM4 (fun k hk => .inr (by simp at hk; omega))
  have hs4 := hM4.size
  refine (grid_changed W4 w h n c0 a L y _ y (y + 1) 73 _ (fun _ r' => mapRow x' w (shiftAt w x' k' ⟨r, fg, bg, at'⟩ (rowC w y L)) r') HG.out (HL.out.keepsM (fun _ => rfl) hMW (by simp)) (by unfold mx; split <;> omega) (fun y' _ => by unfold mn; split <;> omega) (by omega) (fun _ r' hr' => mapRow_len hr' hx2 (Nat.le_refl _)) (enters_of Tryd.func73 (by kernel_rfl) rfl)
    (shift1_how W4 w h n c0 y (y + 1) _ _ _ _ _ x' y a L HG.out (HL.out.keepsM (fun _ => rfl) hMW (by simp)) hy (by omega) hx2 k' (by omega) ⟨r, fg, bg, at'⟩ hb6 (hM4.at B5.out (by simp; omega)) hb8 (hM4.at B9.out (by simp; omega)) hb11)).mono ?_
  rintro e w5 ⟨b, cap, rfl, hB, hge, hm5⟩
  have HB10 := Lib.hid ((hM4.trans (hm5.mono (by simp))).at B10.out (by simp; omega))
  go_wp2_with (refine store_blk HB10.out rfl (.tmp 10) (.tmp 52) 38 rfl (c' := #[.int .i64 (w : Int), .int .i64 (h : Int), .slice (some ⟨b, 0, none⟩) n cap]) (by kernel_rfl) rfl rfl rfl (by simp [Value.oneCell']) ?_; intro w6 hb6 hm6; have HB7 := Lib.hid hb6; clear hb6)
  have CF := fun i => blk_cell HB7.out i
  have hM6 := (hMW.trans hm5).then hm6 (fun k hk => .inr (by simp at hk; omega))
  have hB6 := hB.keeps hm6 (by simp; omega)
  have hnc := hB6.cap
  exact bodyPost_ret (v := gridV w h (some ⟨b, 0, none⟩) n cap) (by simp [results, Tryd.results52, go_sem, CF]) rfl (by rw [HSC.out]; exact ⟨⟨b, 0, none⟩, cap, rfl, hnc, hB6.reads, .inr ⟨rfl, by show W.heap.size ≤ b; omega, hB6⟩, hM6⟩)
end Go.Proofs.YtldjmacnokkjdaaDoor
