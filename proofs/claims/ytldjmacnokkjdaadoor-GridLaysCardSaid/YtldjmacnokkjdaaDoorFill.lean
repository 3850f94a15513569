/- grid.Fill. -/
import Derived.Test.YtldjmacnokkjdaaDoorGridP
namespace Go.Proofs.YtldjmacnokkjdaaDoor
open Go.RowKit Go.Shelf
set_option linter.unusedVariables false
set_option linter.unusedSimpArgs false

theorem idx4 (y w x : Nat) : y * w * 4 + x * 4 = (y * w + x) * 4 := by omega
def Fill1Rel (W1 : World) (b cap n w y l rt : Nat) (c : Cell) (L1 : List Cell) (kk : Nat) (idx : Value) (wr : World) : Prop :=
  ∃ x : Nat, idx = .int .i64 (x : Int) ∧ l ≤ x ∧ x ≤ rt ∧ CellB wr b n cap (setRow w y (fillRow l x c (rowC w y L1)) L1) ∧ Mods [b] W1 wr ∧ kk + x = rt + l
set_option maxRecDepth 4000 in
set_option maxHeartbeats 1000000 in
theorem fill1_how (W : World) (w h n lo hi bl br bc l rt : Nat) (hn : n = w * h) (hih : hi ≤ h) (hw : w ≤ 200) (hl : l ≤ rt) (hr : rt ≤ w) (c : Cell)
    (h1 : W.heap[bl]? = some (.cells #[.int .i64 (l : Int)] 3 (0, 0))) (h2 : W.heap[br]? = some (.cells #[.int .i64 (rt : Int)] 3 (0, 0))) (h3 : W.heap[bc]? = some (.cells #[.int .i32 c.r, .int .u8 c.fg, .int .u8 c.bg, .int .u8 (c.attr.val : Int)] 27 (0, 0))) :
    HowDoes W w h n lo hi 55 #[.pointer (some ⟨bl, 0, none⟩), .pointer (some ⟨br, 0, none⟩), .pointer (some ⟨bc, 0, none⟩)] (fun _ r => fillRow l rt c r) := by
  intro W1 b cap L1 y hM hb hB hy1 hy2
  have hyw := row_le (y := y) hn (by omega)
  have hL1 := hB.len
  have hrl := rowC_len (y := y) hL1 hn (by omega)
  have H1 := Lib.hid (hM.at h1 (by simp))
  have H2 := Lib.hid (hM.at h2 (by simp))
  have H3 := Lib.hid (hM.at h3 (by simp))
  have n1 : bl ≠ b := by have := heap_lt h1; omega
  have n2 : br ≠ b := by have := heap_lt h2; omega
  have n3 : bc ≠ b := by have := heap_lt h3; omega
  have HB := Lib.hid hB
  have HL1 := Lib.hid hL1
  have HRL := Lib.hid hrl
  have C1 := blk_cell H1.out 0
  have hlen : (rowC w y L1).length = w := hrl
  obtain ⟨r, fg, bg, at'⟩ := c
  clear h1 h2 h3 hn hB hL1 hrl hlen hM
  show Calls _ _ #[_, _, _, _, _] _ _
  go_enter Tryd.func55, Tryd.ntmps55
  go_wp2
  clear C1
  go_loopg [7] rt (Fill1Rel W1 b cap n w y l rt ⟨r, fg, bg, at'⟩ L1)
  case atStart => exact ⟨l, rfl, Nat.le_refl _, hl, by rw [fillRow_self, setRow_self (by rw [HL1.out]; exact hyw)]; exact HB.out, Mods.refl _ _, by omega⟩
  case round =>
    obtain ⟨x, rfl, hx1, hx2, hBx, hM, hkk⟩ := hrel
    have HBX := Lib.hid hBx
    have HKK := Lib.hid hkk
    have C2 := blk_cell (hM.at H2.out (by simpa using n2)) 0
    have C3 := fun i => blk_cell (hM.at H3.out (by simpa using n3)) i
    clear hBx hkk
    by_cases hlt : x < rt
    · have hk2 := HKK.out
      have x0 : (0 : Int) ≤ (x : Int) := by omega
      have x1 : (x : Int) < (w : Int) := by omega
      go_wp2_with (refine store_cell HBX.out rfl (.tmp 17) (.tmp 16) 27 rfl (by kernel_rfl) (y * w + x) _ (idx4 y w x) ⟨r, fg, bg, at'⟩ rfl rfl (by omega) ?_; intro w5 hB5 hM5; have HB5 := Lib.hid hB5; clear hB5)
      go_roundg (gk - 1)
      case measure => omega
      case rel =>
        refine ⟨x + 1, by go_num, by omega, by omega, ?_, hM.trans hM5, by omega⟩
        have := HB5.out
        rwa [setRow_set (fillRow_len HRL.out hx1 (by omega)) (by rw [HL1.out]; exact hyw) (by omega), fillRow_set HRL.out hx1 (by omega)] at this
    · have hxr : x = rt := by omega
      subst hxr
      go_wp2
      exact bodyPost_end (results_none rfl _ _ _) rfl ⟨⟨_, rfl⟩, HBX.out, hM⟩
/-- What Fill makes of a right grid. -/
def fillC (w h : Nat) (L : List Cell) (x y rw' rh : Int) (c : Cell) : List Cell :=
  if (spanF x rw' w).1 = (spanF x rw' w).2 then L else changedC w (spanF y rh h).1.toNat (spanF y rh h).2.toNat (fun _ r => fillRow (spanF x rw' w).1.toNat (spanF x rw' w).2.toNat c r) L
theorem span_le (f m e : Int) (he : 0 ≤ e) : 0 ≤ (spanF f m e).1 ∧ (spanF f m e).1 ≤ (spanF f m e).2 ∧ (spanF f m e).2 ≤ e := by
  unfold spanF
  split
  · exact ⟨by simp, by simp, he⟩
  · rename_i h1
    split
    · rename_i h2
      unfold mx mn
      refine ⟨by simp, ?_, ?_⟩ <;> simp only <;> split <;> split <;> omega
    · rename_i h2
      unfold mn
      refine ⟨by simp only; omega, ?_, ?_⟩ <;> simp only <;> split <;> omega
/-- A grid that a function hands back: the same rows as ever, or a block of its own. -/
def GridOut (W W' : World) (w h n : Nat) (a : Addr) (L : List Cell) (e : Ending) : Prop :=
  ∃ a' c', e = .returned (gridV w h (some a') n c') ∧ n ≤ c' ∧ ReadsRows W' (some a') n 4 Cell.vals L ∧ (a' = a ∨ (a'.off = 0 ∧ W.heap.size ≤ a'.block ∧ CellB W' a'.block n c' L)) ∧ Mods [] W W'
theorem CellB.cap {W : World} {g n cap : Nat} {L : List Cell} (h : CellB W g n cap L) : n ≤ cap := by obtain ⟨cur, h1, h2, h3, _⟩ := h; exact h3
set_option maxRecDepth 4000 in
set_option maxHeartbeats 2000000 in
theorem grid_Fill (W : World) (w h n c0 : Nat) (a : Addr) (L : List Cell) (x y rw' rh : Int) (c : Cell) (hg : GridOk w h n c0) (hL : ReadsRows W (some a) n 4 Cell.vals L) (hr : rightG w h L = true)
    (hx : -1000000 ≤ x ∧ x ≤ 1000000) (hy : -1000000 ≤ y ∧ y ≤ 1000000) (hrw : -1000000 ≤ rw' ∧ rw' ≤ 1000000) (hrh : -1000000 ≤ rh ∧ rh ≤ 1000000) (hc : (c.ok && decide (c.attr.val < 64)) = true) :
    Calls Tryd.prog 25 #[gridV w h (some a) n c0, .agg #[.int .i64 x, .int .i64 y, .int .i64 rw', .int .i64 rh], c.val] W fun e W' => GridOut W W' w h n a (fillC w h L x y rw' rh c) e := by
  obtain ⟨hw1, hw2, hh1, hh2, hn, hcc⟩ := id hg
  have HG := Lib.hid hg
  have HL := Lib.hid hL
  have HR := Lib.hid hr
  have HC := Lib.hid hc
  have HN := Lib.hid hn
  obtain ⟨s1, s2, s3⟩ := span_le x rw' w (by omega)
  obtain ⟨t1, t2, t3⟩ := span_le y rh h (by omega)
  obtain ⟨l, hl⟩ := Int.eq_ofNat_of_zero_le s1
  obtain ⟨rt, hrt⟩ := Int.eq_ofNat_of_zero_le (Int.le_trans s1 s2)
  obtain ⟨tp, htp⟩ := Int.eq_ofNat_of_zero_le t1
  obtain ⟨en, hen⟩ := Int.eq_ofNat_of_zero_le (Int.le_trans t1 t2)
  have hfill : fillC w h L x y rw' rh c = if l = rt then L else changedC w tp en (fun _ r => fillRow l rt c r) L := by
    unfold fillC
    rw [hl, hrt, htp, hen]
    simp only [Int.toNat_natCast, Int.natCast_inj]
  have HFILL := Lib.hid hfill
  have hlr : l ≤ rt := by omega
  have hrw2 : rt ≤ w := by omega
  have hte : tp ≤ en := by omega
  have heh : en ≤ h := by omega
  have HS1 := Lib.hid hl
  have HS2 := Lib.hid hrt
  have HS3 := Lib.hid htp
  have HS4 := Lib.hid hen
  clear hg hL hr hc hn hl hrt htp hen hfill s1 s2 s3 t1 t2 t3
  obtain ⟨r, fg, bg, at'⟩ := c
  go_enter Tryd.func25, Tryd.ntmps25
  go_wp2_with fail
  have hM0 : Mods [] W ((((W.alloc (.cells #[.int .i64 (w : Int), .int .i64 (h : Int), .slice (some a) n c0] 38)).alloc (.cells #[.int .i64 x, .int .i64 y, .int .i64 rw', .int .i64 rh] 50)).alloc (.cells #[.int .i32 r, .int .u8 fg, .int .u8 bg, .int .u8 (at'.val : Int)] 27)).alloc (.cells #[.int .i64 0, .int .i64 0, .slice none 0 0] 38)) := ((((Mods.refl [] W).alloc _).alloc _).alloc _).alloc _
  have hb3 := blk_alloc (blk_alloc (blk_alloc (blk_new W (.cells #[.int .i64 (w : Int), .int .i64 (h : Int), .slice (some a) n c0] 38)) (.cells #[.int .i64 x, .int .i64 y, .int .i64 rw', .int .i64 rh] 50)) (.cells #[.int .i32 r, .int .u8 fg, .int .u8 bg, .int .u8 (at'.val : Int)] 27)) (.cells #[.int .i64 0, .int .i64 0, .slice none 0 0] 38)
  have hb4 := blk_alloc (blk_alloc (blk_new' (W.alloc (.cells #[.int .i64 (w : Int), .int .i64 (h : Int), .slice (some a) n c0] 38)) (.cells #[.int .i64 x, .int .i64 y, .int .i64 rw', .int .i64 rh] 50) (k := W.heap.size + 1) (by simp)) (.cells #[.int .i32 r, .int .u8 fg, .int .u8 bg, .int .u8 (at'.val : Int)] 27)) (.cells #[.int .i64 0, .int .i64 0, .slice none 0 0] 38)
  have hb5 := blk_alloc (blk_new' ((W.alloc (.cells #[.int .i64 (w : Int), .int .i64 (h : Int), .slice (some a) n c0] 38)).alloc (.cells #[.int .i64 x, .int .i64 y, .int .i64 rw', .int .i64 rh] 50)) (.cells #[.int .i32 r, .int .u8 fg, .int .u8 bg, .int .u8 (at'.val : Int)] 27) (k := W.heap.size + 1 + 1) (by simp)) (.cells #[.int .i64 0, .int .i64 0, .slice none 0 0] 38)
  have hb6 := blk_new' (((W.alloc (.cells #[.int .i64 (w : Int), .int .i64 (h : Int), .slice (some a) n c0] 38)).alloc (.cells #[.int .i64 x, .int .i64 y, .int .i64 rw', .int .i64 rh] 50)).alloc (.cells #[.int .i32 r, .int .u8 fg, .int .u8 bg, .int .u8 (at'.val : Int)] 27)) (.cells #[.int .i64 0, .int .i64 0, .slice none 0 0] 38) (k := W.heap.size + 1 + 1 + 1) (by simp)
  have hsz : ((((W.alloc (.cells #[.int .i64 (w : Int), .int .i64 (h : Int), .slice (some a) n c0] 38)).alloc (.cells #[.int .i64 x, .int .i64 y, .int .i64 rw', .int .i64 rh] 50)).alloc (.cells #[.int .i32 r, .int .u8 fg, .int .u8 bg, .int .u8 (at'.val : Int)] 27)).alloc (.cells #[.int .i64 0, .int .i64 0, .slice none 0 0] 38)).heap.size = W.heap.size + 1 + 1 + 1 + 1 := by simp
  generalize ((((W.alloc (.cells #[.int .i64 (w : Int), .int .i64 (h : Int), .slice (some a) n c0] 38)).alloc (.cells #[.int .i64 x, .int .i64 y, .int .i64 rw', .int .i64 rh] 50)).alloc (.cells #[.int .i32 r, .int .u8 fg, .int .u8 bg, .int .u8 (at'.val : Int)] 27)).alloc (.cells #[.int .i64 0, .int .i64 0, .slice none 0 0] 38)) = W0 at *
  have B3 := Lib.hid hb3
  have B4 := Lib.hid hb4
  have B5 := Lib.hid hb5
  have B6 := Lib.hid hb6
  have HSZ := Lib.hid hsz
  have HM0 := Lib.hid hM0
  clear hb3 hb4 hb5 hb6 hsz
  refine (grid_Check W0 w h n c0 a L HG.out (HL.out.keepsM (fun _ => rfl) hM0 (by simp))).mono ?_
  rw [HR.out]
  rintro e w1 ⟨rfl, hm1⟩
  have C5 := fun i => blk_cell (hm1.at B5.out (by simp)) i
  go_wp2_with fail
  clear C5
  refine (grid_plain w1 ⟨r, fg, bg, at'⟩).mono ?_
  rw [HC.out]
  rintro e w2 ⟨rfl, hm2⟩
  have hM2 := hm1.trans hm2
  clear hm1 hm2
  have C3 := fun i => blk_cell (hM2.at B3.out (by simp)) i
  have C4 := fun i => blk_cell (hM2.at B4.out (by simp)) i
  go_wp2_with fail
  refine (grid_span w2 x rw' w hx hrw (by omega)).mono ?_
  rw [HS1.out, HS2.out]
  rintro e w3 ⟨rfl, rfl⟩
  have hb7 := blk_alloc (blk_new w2 (.cells #[.int .i64 (l : Int)] 3)) (.cells #[.int .i64 (rt : Int)] 3)
  have hb8 := blk_new' (w2.alloc (.cells #[.int .i64 (l : Int)] 3)) (.cells #[.int .i64 (rt : Int)] 3) (k := w2.heap.size + 1) (by simp)
  have hM3 : Mods [] W0 ((w2.alloc (.cells #[.int .i64 (l : Int)] 3)).alloc (.cells #[.int .i64 (rt : Int)] 3)) := (hM2.alloc _).alloc _
  have D3 := fun i => blk_cell (hM3.at B3.out (by simp)) i
  have D4 := fun i => blk_cell (hM3.at B4.out (by simp)) i
  have D7 := fun i => blk_cell hb7 i
  have D8 := fun i => blk_cell hb8 i
  go_wp2_with fail
  clear C3 C4
  generalize (w2.alloc (.cells #[.int .i64 (l : Int)] 3)).alloc (.cells #[.int .i64 (rt : Int)] 3) = W3 at *
  have B7 := Lib.hid hb7
  have B8 := Lib.hid hb8
  have hs2 := hM2.size
  clear hb7 hb8
  refine (grid_span W3 y rh h hy hrh (by omega)).mono ?_
  rw [HS3.out, HS4.out]
  rintro e w4 ⟨rfl, rfl⟩
  by_cases hlt : l = rt
  · subst hlt
    have hb6 := hM3.at B6.out (by simp)
    have HB6 := Lib.hid hb6
    clear hb6
    go_wp2_with (refine store_blk HB6.out rfl (.tmp 6) (.tmp 43) 38 rfl (c' := #[.int .i64 (w : Int), .int .i64 (h : Int), .slice (some a) n c0]) (by kernel_rfl) rfl rfl rfl (by simp [Value.oneCell']) ?_; intro w5 hb5 hm5; have HB5 := Lib.hid hb5; clear hb5)
    have CF := fun i => blk_cell HB5.out i
    have hM5 := (HM0.out.trans hM3).then hm5 (fun k hk => .inr (by simp at hk; omega))
    clear D3 D4 D7 D8
    exact bodyPost_ret (v := gridV w h (some a) n c0) (by simp [results, Tryd.results25, go_sem, CF]) rfl (by rw [HFILL.out]; simp only [if_true]; exact ⟨a, c0, rfl, hcc, HL.out.keepsM (fun _ => rfl) hM5 (by simp), .inl rfl, hM5⟩)
  · have hlt2 : l < rt := by omega
    have hb : ((l : Int) == (rt : Int)) = false := by simp; omega
    have HLT := Lib.hid hlt
    clear hlt
    go_wp2_with fail
    have hMW := HM0.out.trans hM3
    refine (grid_changed W3 w h n c0 a L tp en tp en 55 _ (fun _ r' => fillRow l rt ⟨r, fg, bg, at'⟩ r') HG.out (HL.out.keepsM (fun _ => rfl) hMW (by simp)) (by unfold mx; split <;> omega) (fun y _ => by unfold mn; split <;> omega) heh (fun _ r' hr' => fillRow_len hr' hlr hrw2) (enters_of Tryd.func55 (by kernel_rfl) rfl)
      (fill1_how W3 w h n tp en _ _ _ l rt HN.out heh hw2 hlr hrw2 ⟨r, fg, bg, at'⟩ B7.out B8.out (hM3.at B5.out (by simp)))).mono ?_
    rintro e w5 ⟨b, cap, rfl, hB, hge, hm5⟩
    have hM5 := hM3.trans hm5
    have HB6 := Lib.hid (hM5.at B6.out (by simp))
    have hs3 := hM3.size
    clear D3 D4 D7 D8 hb
    go_wp2_with (refine store_blk HB6.out rfl (.tmp 6) (.tmp 48) 38 rfl (c' := #[.int .i64 (w : Int), .int .i64 (h : Int), .slice (some ⟨b, 0, none⟩) n cap]) (by kernel_rfl) rfl rfl rfl (by simp [Value.oneCell']) ?_; intro w6 hb6 hm6; have HB7 := Lib.hid hb6; clear hb6)
    have CF := fun i => blk_cell HB7.out i
    have hM6 := (HM0.out.trans hM5).then hm6 (fun k hk => .inr (by simp at hk; omega))
    have hsz := HSZ.out
    have hB6 := hB.keeps hm6 (by simp; omega)
    have hnc := hB6.cap
    exact bodyPost_ret (v := gridV w h (some ⟨b, 0, none⟩) n cap) (by simp [results, Tryd.results25, go_sem, CF]) rfl (by rw [HFILL.out, if_neg HLT.out]; exact ⟨⟨b, 0, none⟩, cap, rfl, hnc, hB6.reads, .inr ⟨rfl, by show W.heap.size ≤ b; omega, hB6⟩, hM6⟩)
end Go.Proofs.YtldjmacnokkjdaaDoor
