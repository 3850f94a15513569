/- A part of the library on package lyceum: Rep, GridN, Some, Chg, GridP, Fill, Box, Put, Scroll, Blit, Resize, Shift, Fit. -/
import Derived.Test.YtldjmacnokkjdaaDoorGc
import Derived.Test.YtldjmacnokkjdaaDoorLib2
import Derived.OwnWalk
import Derived.RangeFuncNested
import Derived.RangeFuncBound
import Derived.RangeFuncCalls
import Derived.RangeFuncLeaves
import Derived.TacticsInMore
import Derived.LoopNIn
import Derived.LoopIn
import Derived.Shelf.Abstract
import Derived.StillTailTactics
import Derived.Deep.RegionHeld3
import Derived.Test.YtldjmacnokkjdaaDoorGb
/- slices.Repeat of one cell; grid.New, grid.At, grid.Row. -/
namespace Go.Proofs.YtldjmacnokkjdaaDoor
open Go.RowKit
set_option linter.unusedVariables false
set_option linter.unusedSimpArgs false
attribute [local go_sem] max2_mx min2_mn max_two min_two

theorem made_cells (n : Nat) : (madeCells (Value.agg #[.int .i32 0, .int .u8 0, .int .u8 0, .int .u8 0]).cells (n * 4)).toList = (List.replicate n zeroC).flatMap Cell.vals := by
  apply List.ext_getElem?
  intro i
  by_cases hi : i < n * 4
  · have h1 : (List.replicate n zeroC)[i / 4]? = some zeroC := by rw [List.getElem?_replicate, if_pos (by omega)]
    have h2 := flat_get (rd := Cell.vals) (size := 4) (fun _ => rfl) h1 (j := i % 4) (by omega)
    rw [show i / 4 * 4 + i % 4 = i by omega] at h2
    rw [h2]
    have h4 : i % 4 = 0 ∨ i % 4 = 1 ∨ i % 4 = 2 ∨ i % 4 = 3 := by omega
    rcases h4 with h | h | h | h <;> simp [madeCells, Value.cells, hi, h, zeroC, Cell.vals]
  · rw [List.getElem?_eq_none (by simp [madeCells]; omega), List.getElem?_eq_none (by rw [vals_len]; simp; omega)]
def RepRel (W1 : World) (g n : Nat) (c : Cell) (kk : Nat) (idx : Value) (wr : World) : Prop :=
  ∃ k : Nat, idx = .int .i64 k ∧ k ≤ n ∧ (0 < n → 0 < k) ∧ CellB wr g n n (List.replicate k c ++ List.replicate (n - k) zeroC) ∧ Mods [g] W1 wr ∧ kk + k = n + min 1 n
set_option maxRecDepth 100000 in
set_option maxHeartbeats 400000 in
theorem slices_Repeat (w : World) (a : Addr) (n : Nat) (hn : n ≤ 100000) (c : Cell) (h : ReadsRows w (some a) 1 4 Cell.vals [c]) :
    Calls Tryd.prog 71 #[.slice (some a) 1 1, .int .i64 (n : Int)] w fun e w' => ∃ g, e = .returned (.slice (some ⟨g, 0, none⟩) n n) ∧ CellB w' g n n (List.replicate n c) ∧ w.heap.size ≤ g ∧ Mods [] w w' := by
  have HO := Lib.hid h
  clear h
  have u1 : IntKind.u64.wrap (n : Int) = (n : Int) := IntWalk.u64_in _ (by omega)
  have u2 : IntKind.i64.wrap (n : Int) = (n : Int) := IntWalk.i64_in _ (by omega)
  go_enter Tryd.func71, Tryd.ntmps71
  go_wp2_with fail
  refine (Tryd.bits_Mul 1 n (by omega) (by omega) _).mono ?_
  rw [show 1 * n / 18446744073709551616 = 0 by omega, show 1 * n % 18446744073709551616 = n by omega]
  rintro e w1 ⟨rfl, rfl⟩
  obtain ⟨i0, hi, hz0, hz1, hz2⟩ := info_parts (show (Tryd.prog.info? 27).map (fun i => (i.zero, i.size, i.bytes)) = some (some (.agg #[.int .i32 0, .int .u8 0, .int .u8 0, .int .u8 0]), 4, 8) by kernel_rfl)
  have HI := Lib.hid hi
  have HZ0 := Lib.hid hz0
  have HZ1 := Lib.hid hz1
  have HZ2 := Lib.hid hz2
  clear hi hz0 hz1 hz2
  go_wp2_with (first
    | (refine wpList_make_full _ rfl (.tmp 29) (.tmp 29) 28 rfl w1.heap.size 27 i0 _ 4 Tryd.underlying28 HI.out HZ0.out HZ1.out .i64 .i64 _ _ n rfl rfl rfl rfl (by rw [HZ2.out]; omega) (by unfold maxLen; omega) (Nat.le_refl _) ?_; intro w2 hown hgrow; rw [made_cells] at hown; have HOWN := Lib.hid hown; have HG := Lib.hid hgrow; clear hown hgrow)
    | (refine copy_own (L := List.replicate n zeroC) (CellB.of_own HOWN.out (by simp)).1 rfl (.tmp 31) (.tmp 32) 28 27 rfl Tryd.underlying28 (by kernel_rfl) 0 n n 1 1 _ _ rfl rfl [c] (HO.out.keepsM (fun _ => rfl) (S := []) ((Mods.refl [] w1).grown HG.out (fun k e => by cases e)) (by simp)) (by omega) (fun _ => by rw [Nat.zero_mul]) ?_; intro w3 hB3 hM3; have HB3 := Lib.hid hB3; clear hB3))
  have hM2 : Mods [] w1 w2 := (Mods.refl [] w1).grown HG.out (fun k e => by cases e)
  have hs2 : w1.heap.size < w2.heap.size := own_lt HOWN.out _ rfl
  clear HOWN HG HI HZ0 HZ1 HZ2
  go_loopg [8] n (RepRel w2 w1.heap.size n c)
  case atStart =>
    refine ⟨min 1 n, rfl, by omega, by omega, ?_, hM3, ?_⟩
    · have := HB3.out
      have e : List.take 0 (List.replicate n zeroC) ++ List.take (min 1 n) [c] ++ List.drop (0 + min 1 n) (List.replicate n zeroC) = List.replicate (min 1 n) c ++ List.replicate (n - min 1 n) zeroC := by
        rcases Nat.eq_zero_or_pos n with rfl | h0
        · rfl
        · rw [show min 1 n = 1 by omega]; simp
      rw [← e]; exact this
    · rfl
  case round =>
    obtain ⟨k, rfl, hk, hk0, hB, hM, hkk⟩ := hrel
    have HB := Lib.hid hB
    have HKK := Lib.hid hkk
    clear hB hkk
    by_cases hlt : k < n
    · have hk1 : 0 < k := hk0 (by omega)
      have hm0 : 1 ≤ min k (n - k) ∧ k + min k (n - k) ≤ n := by omega
      have HBd : Hid (CellB wr.drew w1.heap.size n n (List.replicate k c ++ List.replicate (n - k) zeroC)) := Lib.hid HB.out
      have hsrc : ReadsRows wr.drew (some ⟨w1.heap.size, 0, none⟩) k 4 Cell.vals ((List.replicate k c ++ List.replicate (n - k) zeroC).take k) := HBd.out.reads.first k hk
      have HSRC := Lib.hid hsrc
      have k0 : (0 : Int) ≤ (k : Int) := by omega
      have k1 : (k : Int) ≤ (n : Int) := by omega
      clear hk0 hsrc
      have s1 : IntKind.i64.wrap ((k : Int) + ((min k (n - k) : Nat) : Int)) = ((k + min k (n - k) : Nat) : Int) := by rw [Int.natCast_add]; exact IntWalk.i64_in _ (by omega)
      go_upto_region 9 with fail
      go_region_law (refine step_copy_own HBd.out rfl (.tmp 41) (.tmp 44) 28 27 rfl Tryd.underlying28 (by kernel_rfl) k (n - k) (n - k) k n (if n = k then some ⟨w1.heap.size, 0, none⟩ else some ⟨w1.heap.size, k * 4, none⟩) (some ⟨w1.heap.size, 0, none⟩) (by go_simp) (by go_simp) _ HSRC.out (by omega) (fun _ => if_neg (by omega)) ?_; intro w4 hB4 hM4)
      have HB4 := Lib.hid hB4
      clear hB4 s1
      have hk2 := HKK.out
      have hm3 := hm0.1
      go_wp2
      go_roundg (gk - min k (n - k))
      case measure => omega
      case rel =>
        refine ⟨k + min k (n - k), by go_num, by omega, by omega, ?_, hM.drew.trans hM4, by omega⟩
        have := HB4.out
        have e : (List.replicate k c ++ List.replicate (n - k) zeroC).take k ++ ((List.replicate k c ++ List.replicate (n - k) zeroC).take k).take (min k (n - k)) ++ (List.replicate k c ++ List.replicate (n - k) zeroC).drop (k + min k (n - k)) = List.replicate (k + min k (n - k)) c ++ List.replicate (n - (k + min k (n - k))) zeroC := by
          rw [List.take_left' (by simp), List.take_replicate, List.replicate_append_replicate]
          congr 1
          · congr 1; omega
          · rw [List.drop_append, List.drop_of_length_le (by simp), List.nil_append, List.drop_replicate]
            congr 1; simp; omega
        rw [← e]; exact this
    · have hkn : k = n := by omega
      subst hkn
      go_wp2
      go_ret
      refine ⟨_, rfl, ?_, Nat.le_refl _, hM2.then hM (by simp)⟩
      have := HB.out
      simpa using this
end Go.Proofs.YtldjmacnokkjdaaDoor
/- grid.New, grid.At, grid.Row. -/
namespace Go.Proofs.YtldjmacnokkjdaaDoor
open Go.RowKit
set_option linter.unusedVariables false
set_option linter.unusedSimpArgs false
attribute [local go_sem] max2_mx min2_mn max_two min_two

theorem blank_reads (w : World) : ReadsRows (w.alloc (.cells #[.int .i32 32, .int .u8 0, .int .u8 0, .int .u8 0] 27)) (some ⟨w.heap.size, 0, none⟩) 1 4 Cell.vals [blankC] :=
  rows_of_block (size := 4) (rd := Cell.vals) (xs := [blankC]) (blk_new w _) (by omega) (fun _ => rfl) rfl (by simp [maxLen])
theorem grid_New_no (W : World) (x y : Int) (h : ¬ (1 ≤ x ∧ x ≤ 200 ∧ 1 ≤ y ∧ y ≤ 60)) : Calls Tryd.prog 49 #[.int .i64 x, .int .i64 y] W fun e W' => e = .returned (gridV 0 0 none 0 0) ∧ Mods [] W W' := by
  have HN := Lib.hid h
  clear h
  go_enter Tryd.func49, Tryd.ntmps49
  go_wp2_with fail
  refine (grid_may _ _ _).mono ?_
  rw [decide_eq_false HN.out]
  rintro e w1 ⟨rfl, rfl⟩
  go_wp2
  exact bodyPost_ret (v := gridV 0 0 none 0 0) (by simp [results, Tryd.results49, go_sem, gridV]) rfl ⟨rfl, (Mods.refl _ _).alloc _⟩
set_option maxHeartbeats 1000000 in
theorem grid_New (W : World) (w h : Nat) (hw1 : 1 ≤ w) (hw2 : w ≤ 200) (hh1 : 1 ≤ h) (hh2 : h ≤ 60) : Calls Tryd.prog 49 #[.int .i64 (w : Int), .int .i64 (h : Int)] W fun e W' => ∃ g, e = .returned (gridV w h (some ⟨g, 0, none⟩) (w * h) (w * h)) ∧ CellB W' g (w * h) (w * h) (List.replicate (w * h) blankC) ∧ W.heap.size ≤ g ∧ Mods [] W W' := by
  obtain ⟨n, hn⟩ : ∃ n, n = w * h := ⟨_, rfl⟩
  have hn2 : n ≤ 12000 := by rw [hn]; exact Nat.mul_le_mul hw2 hh2
  rw [← hn]
  have hm : wrap64 ((w : Int) * (h : Int)) = (n : Int) := by rw [hn, ← Int.natCast_mul]; exact IntWalk.wrap64_in _ (by omega)
  have HM := Lib.hid hm
  clear hm hn
  have hd : decide (1 ≤ (w : Int) ∧ (w : Int) ≤ 200 ∧ 1 ≤ (h : Int) ∧ (h : Int) ≤ 60) = true := by simp; omega
  have HD := Lib.hid hd
  clear hd
  go_enter Tryd.func49, Tryd.ntmps49
  go_wp2_with fail
  refine (grid_may _ _ _).mono ?_
  rw [HD.out]
  rintro e w1 ⟨rfl, rfl⟩
  go_wp2_with fail
  refine (cell_Blank _).mono ?_
  rintro e w2 ⟨rfl, hm2⟩
  go_wp2_with fail
  rw [HM.out]
  refine (slices_Repeat _ _ n (by omega) blankC (blank_reads w2)).mono ?_
  rintro e w3 ⟨g, rfl, hB, hg, hm3⟩
  have hs2 := hm2.size
  have hs3 : w2.heap.size < g := by simp at hg; omega
  simp only [World.size_alloc] at hs2
  have hmA := ((Mods.refl [] w2).alloc (.cells #[.int .i32 32, .int .u8 0, .int .u8 0, .int .u8 0] 27)).trans hm3
  have hb := (hm2.trans hmA).at (blk_new W _) (by simp)
  have hM3 := ((Mods.refl [] W).alloc (.cells #[.int .i64 0, .int .i64 0, .slice none 0 0] 38)).trans (hm2.trans hmA)
  have HBLK := Lib.hid hb
  have HB := Lib.hid hB
  have C := fun i => blk_cell hb i
  have F := fun i => blk_frozen hb i
  clear hb hB hmA hm3
  go_wp2
  have e4 := blk_set (blk_set (blk_set HBLK.out 0 (.int .i64 (w : Int))) 1 (.int .i64 (h : Int))) 2 (.slice (some ⟨g, 0, none⟩) n n)
  simp at e4
  have C4 := fun i => blk_cell e4 i
  have hM4 := (((Mods.refl [W.heap.size] w3).setCell ⟨W.heap.size, 0, none⟩ (.int .i64 (w : Int)) (.inl (by simp))).setCell ⟨W.heap.size, 1, none⟩ (.int .i64 (h : Int)) (.inl (by simp))).setCell ⟨W.heap.size, 2, none⟩ (.slice (some ⟨g, 0, none⟩) n n) (.inl (by simp))
  refine bodyPost_ret (v := gridV w h (some ⟨g, 0, none⟩) n n) ?_ rfl ⟨g, rfl, HB.out.keeps hM4 (by simp; omega), by omega, hM3.then hM4 (by simp)⟩
  simp only [results, Tryd.results49]
  generalize ((w3.setCell _ _).setCell _ _).setCell _ _ = W4 at *
  clear C F
  simp [go_sem, C4]
theorem grid_At_out (W : World) (w h n c : Nat) (a : Addr) (L : List Cell) (x y : Int) (hg : GridOk w h n c) (hL : ReadsRows W (some a) n 4 Cell.vals L) (ho : ¬ (0 ≤ y ∧ y < h ∧ 0 ≤ x ∧ x < w)) :
    Calls Tryd.prog 22 #[gridV w h (some a) n c, .int .i64 x, .int .i64 y] W fun e W' => e = .returned (.agg #[.int .i32 0, .int .u8 0, .int .u8 0, .int .u8 0]) ∧ Mods [] W W' := by
  obtain ⟨hw1, hw2, hh1, hh2, hn, hc⟩ := hg
  have HN := Lib.hid hn
  clear hL hn
  have h3 : (y < 0 ∨ (h : Int) ≤ y) ∨ ((0 ≤ y ∧ y < h) ∧ (x < 0 ∨ (¬ x < 0 ∧ (w : Int) ≤ x))) := by omega
  have hM0 := ((Mods.refl [] W).alloc (.cells #[.int .i64 (w : Int), .int .i64 (h : Int), .slice (some a) n c] 38)).alloc (.cells #[.int .i32 0, .int .u8 0, .int .u8 0, .int .u8 0] 27)
  have hG := blk_new (W.alloc (.cells #[.int .i64 (w : Int), .int .i64 (h : Int), .slice (some a) n c] 38)) (.cells #[.int .i32 0, .int .u8 0, .int .u8 0, .int .u8 0] 27)
  rw [World.size_alloc] at hG
  have HG := Lib.hid hG
  clear ho hG
  rcases h3 with h3 | ⟨⟨y0, y1⟩, h3⟩
  · go_enter Tryd.func22, Tryd.ntmps22
    go_wp2_with fail
    with_reducible refine (grid_row_none _ w h n c (some a) y h3).mono ?_
    rintro e w2 ⟨rfl, hm2⟩
    have HG2 := Lib.hid (hm2.at HG.out (by simp))
    have h4 : x < 0 ∨ (¬ x < 0 ∧ 0 ≤ x) := by omega
    rcases h4 with h4 | ⟨h4, h5⟩
    all_goals
      go_wp2_with (refine store_blk HG2.out rfl (.tmp 6) (.tmp 19) 27 rfl (c' := #[.int .i32 0, .int .u8 0, .int .u8 0, .int .u8 0]) (by kernel_rfl) rfl rfl rfl (by simp [Value.oneCell']) ?_; intro w3 hb3 hm3; have HB3 := Lib.hid hb3; clear hb3)
      have C3 := fun i => blk_cell HB3.out i
      exact bodyPost_ret (v := .agg #[.int .i32 0, .int .u8 0, .int .u8 0, .int .u8 0]) (by simp [results, Tryd.results22, go_sem, C3]) rfl ⟨rfl, (hM0.trans hm2).then hm3 (by simp)⟩
  · obtain ⟨y', rfl⟩ := Int.eq_ofNat_of_zero_le y0
    have y2 : y' < h := by omega
    go_enter Tryd.func22, Tryd.ntmps22
    go_wp2_with fail
    with_reducible refine (grid_row _ w h n c a y' hw1 hw2 hh1 hh2 HN.out hc y2).mono ?_
    rintro e w2 ⟨rfl, hm2⟩
    have HG2 := Lib.hid (hm2.at HG.out (by simp))
    rcases h3 with h4 | ⟨h4, h5⟩
    · go_wp2_with (refine store_blk HG2.out rfl (.tmp 6) (.tmp 19) 27 rfl (c' := #[.int .i32 0, .int .u8 0, .int .u8 0, .int .u8 0]) (by kernel_rfl) rfl rfl rfl (by simp [Value.oneCell']) ?_; intro w3 hb3 hm3; have HB3 := Lib.hid hb3; clear hb3)
      have C3 := fun i => blk_cell HB3.out i
      exact bodyPost_ret (v := .agg #[.int .i32 0, .int .u8 0, .int .u8 0, .int .u8 0]) (by simp [results, Tryd.results22, go_sem, C3]) rfl ⟨rfl, (hM0.trans hm2).then hm3 (by simp)⟩
    · have d5 : decide (x ≥ (w : Int)) = true := by simp; omega
      go_wp2_with (refine store_blk HG2.out rfl (.tmp 6) (.tmp 19) 27 rfl (c' := #[.int .i32 0, .int .u8 0, .int .u8 0, .int .u8 0]) (by kernel_rfl) rfl rfl rfl (by simp [Value.oneCell']) ?_; intro w3 hb3 hm3; have HB3 := Lib.hid hb3; clear hb3)
      have C3 := fun i => blk_cell HB3.out i
      exact bodyPost_ret (v := .agg #[.int .i32 0, .int .u8 0, .int .u8 0, .int .u8 0]) (by simp [results, Tryd.results22, go_sem, C3]) rfl ⟨rfl, (hM0.trans hm2).then hm3 (by simp)⟩
theorem grid_At_in (W : World) (w h n c : Nat) (a : Addr) (L : List Cell) (x y : Nat) (hg : GridOk w h n c) (hL : ReadsRows W (some a) n 4 Cell.vals L) (hy : y < h) (hx : x < w) (d : Cell) (hd : (rowC w y L)[x]? = some d) :
    Calls Tryd.prog 22 #[gridV w h (some a) n c, .int .i64 (x : Int), .int .i64 (y : Int)] W fun e W' => e = .returned d.val ∧ Mods [] W W' := by
  obtain ⟨hw1, hw2, hh1, hh2, hn, hc⟩ := hg
  have HN := Lib.hid hn
  have hM0 := ((Mods.refl [] W).alloc (.cells #[.int .i64 (w : Int), .int .i64 (h : Int), .slice (some a) n c] 38)).alloc (.cells #[.int .i32 0, .int .u8 0, .int .u8 0, .int .u8 0] 27)
  have hG := blk_new (W.alloc (.cells #[.int .i64 (w : Int), .int .i64 (h : Int), .slice (some a) n c] 38)) (.cells #[.int .i32 0, .int .u8 0, .int .u8 0, .int .u8 0] 27)
  rw [World.size_alloc] at hG
  have HG := Lib.hid hG
  have HR := Lib.hid ((hL.row_of hn hy).keepsM (fun _ => rfl) hM0 (by simp))
  have HD := Lib.hid hd
  clear hL hn hG hd
  go_enter Tryd.func22, Tryd.ntmps22
  go_wp2_with fail
  with_reducible refine (grid_row _ w h n c a y hw1 hw2 hh1 hh2 HN.out hc hy).mono ?_
  rintro e w2 ⟨rfl, hm2⟩
  have HG2 := Lib.hid (hm2.at HG.out (by simp))
  obtain ⟨a2, ha2, c0, hcs⟩ := (HR.out.keepsM (fun _ => rfl) hm2 (by simp)).row HD.out
  cases ha2
  have c1 := hcs 0 (by omega)
  have c2 := hcs 1 (by omega)
  have c3 := hcs 2 (by omega)
  clear hcs HD HR
  obtain ⟨r, fg, bg, at'⟩ := d
  simp only [Cell.vals, List.getElem?_cons_zero, List.getElem?_cons_succ] at c0 c1 c2 c3
  have d5 : decide ((x : Int) ≥ (w : Int)) = false := by simp; omega
  have d6 : decide (w ≤ x) = false := by simp; omega
  generalize a.add (y * w * 4) = b at *
  go_wp2_with (refine store_blk HG2.out rfl (.tmp 6) (.tmp 23) 27 rfl (c' := #[.int .i32 r, .int .u8 fg, .int .u8 bg, .int .u8 (at'.val : Int)]) (by kernel_rfl) rfl rfl rfl (by simp [Value.oneCell']) ?_; intro w3 hb3 hm3; have HB3 := Lib.hid hb3; clear hb3)
  clear c0 c1 c2 c3
  have C3 := fun i => blk_cell HB3.out i
  exact bodyPost_ret (v := .agg #[.int .i32 r, .int .u8 fg, .int .u8 bg, .int .u8 (at'.val : Int)]) (by simp [results, Tryd.results22, go_sem, C3]) rfl ⟨rfl, (hM0.trans hm2).then hm3 (by simp)⟩
theorem grid_Row (W : World) (w h n c : Nat) (a : Addr) (L : List Cell) (y : Nat) (hg : GridOk w h n c) (hL : ReadsRows W (some a) n 4 Cell.vals L) (hy : y < h) :
    Calls Tryd.prog 45 #[gridV w h (some a) n c, .int .i64 (y : Int)] W fun e W' => ∃ v, e = .returned v ∧ W'.ownsRow W.heap.size 27 4 v w ((rowC w y L).flatMap Cell.vals) ∧ Mods [] W W' := by
  obtain ⟨hw1, hw2, hh1, hh2, hn, hc⟩ := hg
  have HN := Lib.hid hn
  have hM0 := (Mods.refl [] W).alloc (.cells #[.int .i64 (w : Int), .int .i64 (h : Int), .slice (some a) n c] 38)
  have HR := Lib.hid ((hL.row_of hn hy).keepsM (fun _ => rfl) hM0 (by simp))
  clear hL hn
  go_enter Tryd.func45, Tryd.ntmps45
  go_wp2_with fail
  with_reducible refine (grid_row _ w h n c a y hw1 hw2 hh1 hh2 HN.out hc hy).mono ?_
  rintro e w2 ⟨rfl, hm2⟩
  go_wp2_with fail
  refine (clone_cells _ _ w w (rowC w y L) (HR.out.keepsM (fun _ => rfl) hm2 (by simp)) (Nat.le_refl _) (fun h => by cases h) (by omega)).mono ?_
  rintro e w3 ⟨v, rfl, hown, _, hm3⟩
  have HOWN := Lib.hid (own_lower hown (base' := W.heap.size) (Nat.le_trans hM0.size hm2.size))
  clear hown
  go_wp2
  go_ret
  exact ⟨v, rfl, HOWN.out, (hM0.trans hm2).trans hm3⟩
end Go.Proofs.YtldjmacnokkjdaaDoor
/- The iterator over a grid's rows (grid.some): its contract at the wide fence. -/
namespace Go.Proofs.YtldjmacnokkjdaaDoor
open Go.RowKit
set_option linter.unusedVariables false
set_option linter.unusedSimpArgs false
attribute [local go_sem] Oper.semAt_some max2_mx min2_mn max_two min_two

/-- What a round keeps: all that lay below n₀ but the blocks of S. -/
structure KeepN (n₀ : Nat) (S : List Nat) (w w' : World) : Prop where
  os : w'.os = w.os
  tape : w'.tape = w.tape
  output : w'.output = w.output
  size : w.heap.size ≤ w'.heap.size
  block : ∀ k, k < n₀ → k ∉ S → w'.heap[k]? = w.heap[k]?
theorem KeepN.trans {n₀ : Nat} {S : List Nat} {a b c : World} (h : KeepN n₀ S a b) (k : KeepN n₀ S b c) : KeepN n₀ S a c :=
  ⟨k.os.trans h.os, k.tape.trans h.tape, k.output.trans h.output, Nat.le_trans h.size k.size, fun i hi hs => (k.block i hi hs).trans (h.block i hi hs)⟩
theorem KeepN.of_mods {n₀ : Nat} {S : List Nat} {a b : World} (h : Mods S a b) (hn : n₀ ≤ a.heap.size) : KeepN n₀ S a b :=
  ⟨h.os, h.tape, h.output, h.size, fun k hk hs => h.block k (Nat.lt_of_lt_of_le hk hn) hs⟩
theorem KeepN.at {n₀ : Nat} {S : List Nat} {a b : World} (h : KeepN n₀ S a b) {k : Nat} {o : Obj} (hk : a.heap[k]? = some o) (hn : k < n₀) (hS : k ∉ S) : b.heap[k]? = some o := (h.block k hn hS).trans hk
theorem keepN_b {n₀ : Nat} {S : List Nat} {w : World} (hn : n₀ ≤ w.heap.size) (W : World) (l : Nat) (o o' : Obj) (hl : w.heap.size ≤ l) (h : W.heap[l]? = some o) (_ : o.isCells = false) (_ : o.isWalk = false) : KeepN n₀ S W (W.putObj l o') := by
  have hb := belowK_b (w := w) hn W l o o' hl h ‹_› ‹_›
  exact ⟨hb.os, hb.tape, hb.output, hb.size, fun k hk _ => hb.block k hk⟩
theorem grown_of_mods {w w' : World} (h : Mods [] w w') : w.grownBy w' none := ⟨h.os, h.tape, h.output, h.size, fun k hk _ => h.block k hk (by simp)⟩

/-- The rows of a grid, by their numbers. -/
abbrev Ys (lo hi : Nat) := { y : Nat // lo ≤ y ∧ y < hi }
def ysEnc (lo hi w b : Nat) (y : Ys lo hi) : Array Value := #[.int .i64 ((y.val : Nat) : Int), .slice (some ⟨b, y.val * w * 4, none⟩) w w]
set_option maxRecDepth 100000 in
set_option maxHeartbeats 1000000 in
theorem some1_in (m : Nat) (hm : 1 ≤ m) (bf be bg b n₀ w h n c : Nat) (f e : Int) (lo hi : Nat) (hg : GridOk w h n c) (hlo : (lo : Int) = mx f 0) (hhi : ∀ y : Nat, lo ≤ y → ((y : Int) < mn e (h : Int) ↔ y < hi)) (hih : hi ≤ h)
    (l : Nat) (J Jx : List (Ys lo hi) → World → Prop) (W : World) (hJ : AbidesFrom W.heap.size J)
    (hY : ∀ pre x W1, J pre W1 → pre.length < hi - lo → YieldAt Fence.wide (m - 1) Tryd.prog l (ysEnc lo hi w b x) W1 fun e W' => (e = .returned (.bool true) ∧ J (pre ++ [x]) W' ∧ KeepN n₀ [b] W1 W') ∨ (e = .returned (.bool false) ∧ Jx (pre ++ [x]) W'))
    (hnW : n₀ ≤ W.heap.size) (hbf : bf < n₀) (hbe : be < n₀) (hbg : bg < n₀) (nf : bf ≠ b) (ne : be ≠ b) (ng : bg ≠ b)
    (hf : W.heap[bf]? = some (.cells #[.int .i64 f] 3 (0, 0))) (he : W.heap[be]? = some (.cells #[.int .i64 e] 3 (0, 0))) (hgd : W.heap[bg]? = some (.cells #[.int .i64 (w : Int), .int .i64 (h : Int), .slice (some ⟨b, 0, none⟩) n c] 38 (0, 0)))
    (h0 : J [] W) :
    CallsIn Fence.wide m Tryd.prog 87 #[.func (.yield l) #[] #[], .pointer (some ⟨bf, 0, none⟩), .pointer (some ⟨be, 0, none⟩), .pointer (some ⟨bg, 0, none⟩)] W fun e W' => (∃ v, e = .returned v) ∧
      ((∃ xs : List (Ys lo hi), xs.map (·.val) = List.range' lo (hi - lo) ∧ J xs W') ∨ (∃ pre, True ∧ Jx pre W')) := by
  obtain ⟨hw1, hw2, hh1, hh2, hn, hc⟩ := hg
  have HN := Lib.hid hn
  have HY := Lib.hid hY
  have HLO := Lib.hid hlo
  have HHI := Lib.hid hhi
  have HF := Lib.hid hf
  have HE := Lib.hid he
  have HG := Lib.hid hgd
  have HJ := Lib.hid hJ
  have CF := fun i => blk_cell hf i
  clear hn hY hlo hhi hf he hgd hJ
  refine callsIn_of_wp Tryd.func87 rfl trivial ?_ rfl
  simp only [Tryd.ntmps87, List.size_toArray, List.length_cons, List.length_nil, Nat.reduceAdd, Nat.reduceSub, Array.replicate_succ, Array.replicate_zero, List.push_toArray, List.append_toArray, List.nil_append, List.cons_append]
  gi_wp2
  rw [← HLO.out]
  clear CF
  gi_loopw [5] (fun i wr => ∃ (pre : List (Ys lo hi)) (y : Nat), i = .int .i64 (y : Int) ∧ lo ≤ y ∧ (lo ≤ hi → y ≤ hi) ∧ (hi < lo → y = lo) ∧ pre.map (·.val) = List.range' lo (y - lo) ∧ J pre wr ∧ KeepN n₀ [b] W wr) (fun i _ => hi - (intOf i).toNat)
  case atStart => exact ⟨[], lo, rfl, Nat.le_refl _, fun h => h, fun _ => rfl, by simp, h0, ⟨rfl, rfl, rfl, Nat.le_refl _, fun _ _ _ => rfl⟩⟩
  case round =>
    obtain ⟨pre, y, rfl, hy1, hy2, hy3, hpre, hJr, hK⟩ := hrel
    have HPRE := Lib.hid hpre
    have hs := hK.size
    have hgr := hK.at HG.out hbg (by simpa using ng)
    have her := hK.at HE.out hbe (by simpa using ne)
    have CG := fun i => blk_cell hgr i
    have CE := fun i => blk_cell her i
    have hiff := HHI.out y hy1
    by_cases hlt : y < hi
    · have d : decide ((y : Int) < mn e (h : Int)) = true := by simpa using hiff.2 hlt
      clear hiff hpre
      gi_wp2_with (gi_at_call 48; fail)
      refine ⟨trivial, ?_⟩
      have hrow := callsIn_wide (n := m - 1) |>.2 (grid_row wr w h n c ⟨b, 0, none⟩ y hw1 hw2 hh1 hh2 HN.out hc (by omega))
      refine hrow.mono ?_
      clear hrow
      rintro r w2 ⟨rfl, hm2⟩
      have hJ2 : J pre w2 := HJ.out pre wr w2 none hJr (grown_of_mods hm2) (fun r e => by cases e)
      have hlen : pre.length < hi - lo := by
        have := congrArg List.length HPRE.out
        simp at this; omega
      obtain ⟨fn, tmps, assign, body, hy, hR⟩ := HY.out pre ⟨y, hy1, hlt⟩ w2 hJ2 hlen
      have ha : (Addr.mk b 0 none).add (y * w * 4) = ⟨b, y * w * 4, none⟩ := by rw [addr_at, Nat.zero_add]
      rw [ha]
      simp only [ysEnc] at hy
      have HR := Lib.hid hR
      have hK2 := hK.trans (KeepN.of_mods (hm2.mono (S' := [b]) (by simp)) (Nat.le_trans hnW hs))
      clear CG CE hR d ha hgr her
      gi_wp2
      refine HR.out.mono ?_
      rintro r W3 (⟨rfl, hJ3, hk3⟩ | ⟨rfl, hJx3⟩)
      · have hK3 := hK2.trans hk3
        have hs3 := hK3.size
        gi_wp2
        go_roundw
        case rel => exact ⟨pre ++ [⟨y, hy1, hlt⟩], y + 1, by go_num, by omega, by omega, by omega, by rw [List.map_append, HPRE.out]; simp only [List.map_cons, List.map_nil]; rw [show y + 1 - lo = (y - lo) + 1 by omega, List.range'_concat]; congr 2; simp; omega, hJ3, hK3⟩
        case measure => simp [intOf]; omega
      · gi_wp2
        refine bodyPost_ret (results_none rfl _ _ _) rfl ?_
        exact ⟨⟨_, rfl⟩, .inr ⟨_, trivial, hJx3⟩⟩
    · have d : decide ((y : Int) < mn e (h : Int)) = false := by
        rw [decide_eq_false_iff_not, hiff]; exact hlt
      clear hiff hpre
      gi_wp2
      go_end0
      refine ⟨⟨_, rfl⟩, .inl ⟨pre, ?_, hJr⟩⟩
      rw [HPRE.out]
      congr 1
      omega
end Go.Proofs.YtldjmacnokkjdaaDoor
/- grid.some, grid.changed. -/
namespace Go.Proofs.YtldjmacnokkjdaaDoor
open Go.RowKit Go.Shelf
set_option linter.unusedVariables false
set_option linter.unusedSimpArgs false
attribute [local go_sem] Oper.semAt_some

theorem grid_some (W : World) (w h : Int) (A : Option Addr) (n c : Nat) (f e : Int) : Calls Tryd.prog 70 #[gridV w h A n c, .int .i64 f, .int .i64 e] W fun r W' =>
    r = .returned (.func (.func 87) #[] #[.pointer (some ⟨W.heap.size + 1, 0, none⟩), .pointer (some ⟨W.heap.size + 1 + 1, 0, none⟩), .pointer (some ⟨W.heap.size, 0, none⟩)]) ∧
      W' = ((W.alloc (.cells #[.int .i64 w, .int .i64 h, .slice A n c] 38)).alloc (.cells #[.int .i64 f] 3)).alloc (.cells #[.int .i64 e] 3) := by
  go_enter Tryd.func70, Tryd.ntmps70
  go_wp2
  go_ret
  exact ⟨by simp, rfl⟩
theorem keepsOthers_of_mods {W W' : World} {S : List Nat} (h : Mods S W W') (hS : ∀ k ∈ S, ∃ o, W.heap[k]? = some o ∧ o.isCells = true) : KeepsOthers W W' := by
  refine ⟨h.size, fun k o hk ho => (h.at hk ?_)⟩
  intro hm
  obtain ⟨o', h1, h2⟩ := hS k hm
  rw [hk] at h1; cases h1; rw [ho] at h2; cases h2
theorem CellB.grown {W W' : World} {row : Option Nat} {g n cap : Nat} {L : List Cell} (h : CellB W g n cap L) (hg : W.grownBy W' row) (hr : ∀ r, row = some r → ∃ o : Obj, W.heap[r]? = some o ∧ o.isCells = false) : CellB W' g n cap L := by
  obtain ⟨cur, h1, r⟩ := h
  refine ⟨cur, (hg.block g (heap_lt h1) ?_).trans h1, r⟩
  intro e
  obtain ⟨o, h2, h3⟩ := hr g e.symm
  rw [h1] at h2; cases h2; cases h3
theorem Mods.grownR {S : List Nat} {a w w' : World} {row : Option Nat} (h : Mods S a w) (hg : w.grownBy w' row) (hr : ∀ r, row = some r → a.heap.size ≤ r) : Mods S a w' :=
  ⟨hg.os.trans h.os, hg.tape.trans h.tape, hg.output.trans h.output, Nat.le_trans h.size hg.size, fun k hk hS => (hg.block k (Nat.lt_of_lt_of_le hk h.size) (fun e => by have := hr k e.symm; omega)).trans (h.block k hk hS)⟩
def setRow (w y : Nat) (r L : List Cell) : List Cell := L.take (y * w) ++ r ++ L.drop (y * w + w)
def chg1 (w : Nat) (F : Nat → List Cell → List Cell) (L : List Cell) (y : Nat) : List Cell := setRow w y (mend (F y (rowC w y L))) L
def changedC (w lo hi : Nat) (F : Nat → List Cell → List Cell) (L : List Cell) : List Cell := (List.range' lo (hi - lo)).foldl (chg1 w F) L
theorem splice_row {P Fr D M : List Cell} {k w : Nat} (h1 : P.length = k) (h2 : Fr.length = w) : (P ++ Fr ++ D).take k ++ M ++ (P ++ Fr ++ D).drop (k + w) = P ++ M ++ D := by
  have e1 : (P ++ Fr ++ D).take k = P := by rw [List.append_assoc, List.take_left' h1]
  have e2 : (P ++ Fr ++ D).drop (k + w) = D := List.drop_left' (by rw [List.length_append, h1, h2])
  rw [e1, e2]
/-- What the closure does that changes a row. -/
def HowDoes (W : World) (w h n lo hi : Nat) (fh : Nat) (lb : Array Value) (F : Nat → List Cell → List Cell) : Prop :=
  ∀ (W1 : World) (b cap : Nat) (L1 : List Cell) (y : Nat), Mods [] W W1 → W.heap.size ≤ b → CellB W1 b n cap L1 → lo ≤ y → y < hi →
    Calls Tryd.prog fh (#[.int .i64 (y : Int), .slice (some ⟨b, y * w * 4, none⟩) w w] ++ lb) W1 fun e W2 => (∃ v, e = .returned v) ∧ CellB W2 b n cap (setRow w y (F y (rowC w y L1)) L1) ∧ Mods [b] W1 W2
set_option maxRecDepth 100000 in
set_option maxHeartbeats 2000000 in
theorem grid_changed (W : World) (w h n c : Nat) (a : Addr) (L : List Cell) (f e : Int) (lo hi fh : Nat) (lb : Array Value) (F : Nat → List Cell → List Cell) (hg : GridOk w h n c) (hL : ReadsRows W (some a) n 4 Cell.vals L)
    (hlo : (lo : Int) = mx f 0) (hhi : ∀ y : Nat, lo ≤ y → ((y : Int) < mn e (h : Int) ↔ y < hi)) (hih : hi ≤ h) (hF : ∀ y r, r.length = w → (F y r).length = w) (hent : Enters Tryd.prog fh) (hhow : HowDoes W w h n lo hi fh lb F) :
    Calls Tryd.prog 43 #[gridV w h (some a) n c, .int .i64 f, .int .i64 e, .func (.func fh) #[] lb] W fun r W' => ∃ b cap, r = .returned (gridV w h (some ⟨b, 0, none⟩) n cap) ∧ CellB W' b n cap (changedC w lo hi F L) ∧ W.heap.size ≤ b ∧ Mods [] W W' := by
  have HGOK := Lib.hid hg
  obtain ⟨hw1, hw2, hh1, hh2, hn, hc⟩ := hg
  have hn2 : n ≤ 12000 := by rw [hn]; exact Nat.mul_le_mul hw2 hh2
  have hn1 : 0 < n := by rw [hn]; exact Nat.mul_pos (by omega) (by omega)
  have HN := Lib.hid hn
  have HL := Lib.hid hL
  have HLO := Lib.hid hlo
  have HHI := Lib.hid hhi
  have HF := Lib.hid hF
  have HHOW := Lib.hid hhow
  have HENT := Lib.hid hent
  clear hn hL hlo hhi hF hhow hent
  refine callsIn_wide (n := 5) |>.1 (callsIn_of_wp_marks Tryd.func43 rfl trivial ?_ rfl)
  simp only [Tryd.ntmps43, List.size_toArray, List.length_cons, List.length_nil, Nat.reduceAdd, Nat.reduceSub, Array.replicate_succ, Array.replicate_zero, List.push_toArray, List.append_toArray, List.nil_append, List.cons_append]
  refine wpIn_wide.2 ?_
  go_upto_region 1 with fail
  have hM0 : Mods [] W (((W.alloc (.cells #[.int .i64 (w : Int), .int .i64 (h : Int), .slice (some a) n c] 38)).alloc (.cells #[.func (.func fh) #[] lb] 76)).alloc (.cells #[.int .i64 0, .int .i64 0, .slice none 0 0] 38)) := (((Mods.refl [] W).alloc _).alloc _).alloc _
  have hb4 := blk_alloc (blk_alloc (blk_new W (.cells #[.int .i64 (w : Int), .int .i64 (h : Int), .slice (some a) n c] 38)) (.cells #[.func (.func fh) #[] lb] 76)) (.cells #[.int .i64 0, .int .i64 0, .slice none 0 0] 38)
  have hb7 := blk_alloc (blk_new' (W.alloc (.cells #[.int .i64 (w : Int), .int .i64 (h : Int), .slice (some a) n c] 38)) (.cells #[.func (.func fh) #[] lb] 76) (k := W.heap.size + 1) (by simp)) (.cells #[.int .i64 0, .int .i64 0, .slice none 0 0] 38)
  have hb8 := blk_new' ((W.alloc (.cells #[.int .i64 (w : Int), .int .i64 (h : Int), .slice (some a) n c] 38)).alloc (.cells #[.func (.func fh) #[] lb] 76)) (.cells #[.int .i64 0, .int .i64 0, .slice none 0 0] 38) (k := W.heap.size + 1 + 1) (by simp)
  have hsz0 : (((W.alloc (.cells #[.int .i64 (w : Int), .int .i64 (h : Int), .slice (some a) n c] 38)).alloc (.cells #[.func (.func fh) #[] lb] 76)).alloc (.cells #[.int .i64 0, .int .i64 0, .slice none 0 0] 38)).heap.size = W.heap.size + 1 + 1 + 1 := by simp
  generalize ((W.alloc (.cells #[.int .i64 (w : Int), .int .i64 (h : Int), .slice (some a) n c] 38)).alloc (.cells #[.func (.func fh) #[] lb] 76)).alloc (.cells #[.int .i64 0, .int .i64 0, .slice none 0 0] 38) = W0 at *
  have B4 := Lib.hid hb4
  have B7 := Lib.hid hb7
  have B8 := Lib.hid hb8
  have l0 : W0.cell? ⟨W.heap.size, 0, none⟩ = some (.int .i64 (w : Int)) := blk_cell hb4 0
  have l1 : W0.cell? ⟨W.heap.size, 1, none⟩ = some (.int .i64 (h : Int)) := blk_cell hb4 1
  have l2 : W0.cell? ⟨W.heap.size, 2, none⟩ = some (.slice (some a) n c) := blk_cell hb4 2
  have HSZ0 := Lib.hid hsz0
  clear hb4 hb7 hb8 hsz0
  have KA : ∀ X, Mods [] W0 X → (X.cell? ⟨W.heap.size, 0, none⟩ = some (.int .i64 (w : Int)) ∧ X.cell? ⟨W.heap.size, 1, none⟩ = some (.int .i64 (h : Int)) ∧ X.cell? ⟨W.heap.size, 2, none⟩ = some (.slice (some a) n c)) := fun X hX => ⟨hX.cell l0 (by simp), hX.cell l1 (by simp), hX.cell l2 (by simp)⟩
  go_cut [9] from 9 (fun s9 wx => ∃ ob b cap, s9 = .pointer (some ⟨ob, 0, none⟩) ∧ wx.heap[ob]? = some (.cells #[.int .i64 (w : Int), .int .i64 (h : Int), .slice (some ⟨b, 0, none⟩) n cap] 38 (0, 0)) ∧ CellB wx b n cap L ∧ W0.heap.size ≤ ob ∧ W0.heap.size ≤ b ∧ ob ≠ b ∧ Mods [] W0 wx)
  case first =>
    go_region_held3 (fun X => X.cell? ⟨W.heap.size, 0, none⟩ = some (.int .i64 (w : Int)) ∧ X.cell? ⟨W.heap.size, 1, none⟩ = some (.int .i64 (h : Int)) ∧ X.cell? ⟨W.heap.size, 2, none⟩ = some (.slice (some a) n c))
      (first
        | exact ⟨l0, l1, l2⟩
        | with_reducible exact KA _ hmW
        | with_reducible exact KA _ ((Mods.refl [] W0).alloc _)
        | with_reducible exact KA _ ((Mods.refl [] W0).alloc _).drew
        | with_reducible exact KA _ (hmW.alloc _)
        | with_reducible exact KA _ (((hmW.setCell _ _ (.inr (Nat.le_refl _))).setCell _ _ (.inr (Nat.le_refl _))).setCell _ _ (.inr (Nat.le_refl _))))
      (first | (go_at_call 36; refine (clone_cells _ (some a) n c L ((HL.out.keepsM (fun _ => rfl) hM0 (by simp)).keepsM (fun _ => rfl) (S := []) (by first | exact (Mods.refl [] W0).drew | exact (Mods.refl [] W0).drew.alloc _) (by simp)) hc (fun h => by cases h) (by omega)).mono ?_; rintro r w1 ⟨v, rfl, hown, _, hm⟩; obtain ⟨A1, c1, rfl, q1, q2, q3⟩ := own_slice' hown; obtain ⟨b, rfl⟩ := q3 hn1; have hmW : Mods [] W0 w1 := (by first | exact (Mods.refl [] W0).drew.trans hm | exact ((Mods.refl [] W0).alloc _).drew.trans hm); try (have hbA : w1.heap[W0.heap.size]? = some (.cells #[.int .i64 0, .int .i64 0, .slice none 0 0] 38 (0, 0)) := hm.at (blk_new W0 (.cells #[.int .i64 0, .int .i64 0, .slice none 0 0] 38)) (by simp); have CA := fun i => blk_cell hbA i; have FA := fun i => blk_frozen hbA i; have HBA := Lib.hid hbA; clear hbA)))
    · have hL0 := HL.out.1
      obtain ⟨hB, hge⟩ := CellB.of_own hown hL0
      have hlt := hB.lt
      go_wp2_with fail
      go_meet
      exact ⟨w1.heap.size, b, c1, rfl, blk_new w1 _, hB.keeps ((Mods.refl [] w1).alloc _) (by simp), hmW.size, hge, by omega, hmW.alloc _⟩
    · have hL0 := HL.out.1
      obtain ⟨hB, hge⟩ := CellB.of_own hown hL0
      have hge' : W0.heap.size + 1 ≤ b := by have : (W0.alloc (.cells #[.int .i64 0, .int .i64 0, .slice none 0 0] 38)).heap.size = W0.heap.size + 1 := by simp
                                             exact Nat.le_trans (Nat.le_of_eq this.symm) hge
      have e := blk_set (blk_set (blk_set HBA.out 0 (.int .i64 (w : Int))) 1 (.int .i64 (h : Int))) 2 (.slice (some ⟨b, 0, none⟩) n c1)
      simp at e
      have hm3 := (((Mods.refl [W0.heap.size] w1).setCell ⟨W0.heap.size, 0, none⟩ (.int .i64 (w : Int)) (.inl (by simp))).setCell ⟨W0.heap.size, 1, none⟩ (.int .i64 (h : Int)) (.inl (by simp))).setCell ⟨W0.heap.size, 2, none⟩ (.slice (some ⟨b, 0, none⟩) n c1) (.inl (by simp))
      go_wp2_with fail
      go_meet
      exact ⟨W0.heap.size, b, c1, rfl, e, hB.keeps hm3 (by simp; omega), Nat.le_refl _, by omega, by omega, hmW.then hm3 (by simp)⟩
  case rest =>
    obtain ⟨ob, b, cap, rfl, hbo, hB, g1, g2, g3, hM1⟩ := hcut
    have BO := Lib.hid hbo
    have HB := Lib.hid hB
    have CO := fun i => blk_cell hbo i
    clear hbo hB l0 l1 l2 KA
    go_wp2_with fail
    refine (grid_some _ _ _ _ _ _ _ _).mono ?_
    rintro r w2 ⟨rfl, rfl⟩
    go_wp2
    have x1 := blk_alloc (blk_alloc (blk_new wc (.cells #[.int .i64 (w : Int), .int .i64 (h : Int), .slice (some ⟨b, 0, none⟩) n cap] 38)) (.cells #[.int .i64 f] 3)) (.cells #[.int .i64 e] 3)
    have x2 := blk_alloc (blk_new' (wc.alloc (.cells #[.int .i64 (w : Int), .int .i64 (h : Int), .slice (some ⟨b, 0, none⟩) n cap] 38)) (.cells #[.int .i64 f] 3) (k := wc.heap.size + 1) (by simp)) (.cells #[.int .i64 e] 3)
    have x3 := blk_new' ((wc.alloc (.cells #[.int .i64 (w : Int), .int .i64 (h : Int), .slice (some ⟨b, 0, none⟩) n cap] 38)).alloc (.cells #[.int .i64 f] 3)) (.cells #[.int .i64 e] 3) (k := wc.heap.size + 1 + 1) (by simp)
    have hM3 : Mods [] wc (((wc.alloc (.cells #[.int .i64 (w : Int), .int .i64 (h : Int), .slice (some ⟨b, 0, none⟩) n cap] 38)).alloc (.cells #[.int .i64 f] 3)).alloc (.cells #[.int .i64 e] 3)) := (((Mods.refl [] wc).alloc _).alloc _).alloc _
    have hsz3 : (((wc.alloc (.cells #[.int .i64 (w : Int), .int .i64 (h : Int), .slice (some ⟨b, 0, none⟩) n cap] 38)).alloc (.cells #[.int .i64 f] 3)).alloc (.cells #[.int .i64 e] 3)).heap.size = wc.heap.size + 1 + 1 + 1 := by simp
    clear CO
    generalize ((wc.alloc (.cells #[.int .i64 (w : Int), .int .i64 (h : Int), .slice (some ⟨b, 0, none⟩) n cap] 38)).alloc (.cells #[.int .i64 f] 3)).alloc (.cells #[.int .i64 e] 3) = W3 at *
    have X1 := Lib.hid x1
    have X2 := Lib.hid x2
    have X3 := Lib.hid x3
    have HSZ3 := Lib.hid hsz3
    have hbw := HB.out.lt
    have HB3 := Lib.hid (HB.out.keeps hM3 (by simp))
    clear x1 x2 x3 hsz3
    refine wpIn_wide (n := 5) |>.1 ?_
    refine wpIn_rangeFunc_ownF (F := Fence.wide) rfl (by omega) (gf := 87) (lb := #[.pointer (some ⟨wc.heap.size + 1, 0, none⟩), .pointer (some ⟨wc.heap.size + 1 + 1, 0, none⟩), .pointer (some ⟨wc.heap.size, 0, none⟩)]) rfl trivial (enters_of Tryd.func87 (by kernel_rfl) rfl)
      (α := Ys lo hi) (encs := ysEnc lo hi w b) (Kp := KeepN W3.heap.size [b]) (S := fun xs => xs.map (·.val) = List.range' lo (hi - lo)) (Sp := fun _ => True) (N := hi - lo) (w0 := W3) ?seq KeepN.trans (keepN_b (Nat.le_refl _)) (Below.refl _ _) (fun _ => rfl)
      (fun pre X => CellB X b n cap ((pre.map (·.val)).foldl (chg1 w F) L) ∧ Mods [b] W3 X) (fun _ _ _ => False) ?own (fun _ _ _ _ _ hs _ _ => hs) ⟨HB3.out, Mods.refl _ _⟩ ?a1 ?assign ?body ?done ?stop
    case seq =>
      intro l J Jx W' hW hJ hJx hY h0
      have hs := hW.size
      have hsz := HSZ3.out
      exact some1_in 4 (by omega) (wc.heap.size + 1) (wc.heap.size + 1 + 1) wc.heap.size b W3.heap.size w h n cap f e lo hi ⟨hw1, hw2, hh1, hh2, HN.out, by obtain ⟨_, _, _, hcap, _⟩ := HB.out; exact hcap⟩ HLO.out HHI.out hih l J Jx W' hJ hY hs (by omega) (by omega) (by omega) (by omega) (by omega) (by omega)
        ((hW.block _ (by omega)).trans X2.out) ((hW.block _ (by omega)).trans X3.out) ((hW.block _ (by omega)).trans X1.out) h0
    case own =>
      intro s A B row hs hg hr
      exact ⟨hs.1.grown hg (fun r e => (hr r e).2), hs.2.grownR hg (fun r e => (hr r e).1)⟩
    case assign =>
      intro l x X K hK
      simp only [ysEnc]
      gi_wp2
      exact hK
    case body =>
      rintro l pre x X ⟨hBx, hMx⟩ hlen
      have hs0 := hM0.size
      have hs1 := hM1.size
      have hs3 := hM3.size
      have hb7 := hMx.at (hM3.at (hM1.at B7.out (by simp)) (by simp)) (by have := HSZ0.out; simp; omega)
      have C7 := fun i => blk_cell hb7 i
      have HBX := Lib.hid hBx
      clear hBx hb7
      obtain ⟨y, hy1, hy2⟩ := x
      have eg : ∀ args w, (callFunc fh args).run Tryd.prog w = .ok (.enter fh args) w := HENT.out
      have hMX : Mods [] W X := (hM0.trans (hM1.trans hM3)).then hMx (fun k hk => .inr (by simp at hk; omega))
      generalize hLp : List.foldl (chg1 w F) L (List.map (fun x => x.val) pre) = Lp at *
      have HLP := Lib.hid hLp
      clear hLp
      gi_wp2_with fail
      refine ⟨trivial, ?_⟩
      refine (CallsIn.inRound l (callsIn_wide.2 (HHOW.out X b cap Lp y hMX (by omega) HBX.out hy1 hy2))).mono ?_
      rintro r X2 ⟨⟨v, rfl⟩, hB2, hM2⟩
      have hle := row_le (y := y) HN.out (by omega)
      have hl0 := HBX.out.len
      have hrl := rowC_len (y := y) hl0 HN.out (by omega)
      have hFl := HF.out y _ hrl
      have hR2 := hB2.reads_at (y * w) w hle
      have he2 : ((setRow w y (F y (rowC w y Lp)) Lp).drop (y * w)).take w = F y (rowC w y Lp) := by
        unfold setRow
        rw [List.append_assoc, List.drop_append_of_le_length (by simp; omega), List.drop_of_length_le (by simp; omega), List.nil_append, List.take_left' hFl]
      rw [he2] at hR2
      have HR2 := Lib.hid hR2
      have HB2 := Lib.hid hB2
      clear hR2 hB2 C7 he2 eg
      gi_wp2_with fail
      refine ⟨trivial, ?_⟩
      refine (CallsIn.inRound l (callsIn_wide.2 (cell_Mend X2 _ w w (F y (rowC w y Lp)) HR2.out (Nat.le_refl _) (by omega)))).mono ?_
      rintro r X5 ⟨v5, rfl, hown5, hml, hm5⟩
      obtain ⟨A5, c5, rfl, q1, q2, q3⟩ := own_slice' hown5
      have hR5 := Lib.hid (own_reads hown5 hml (by omega)).1
      have HB5 := Lib.hid (HB2.out.keeps hm5 (by simp))
      clear hown5 q1 q2 q3
      have hsl : (setRow w y (F y (rowC w y Lp)) Lp).length = n := HB2.out.len
      gi_wp2_with (refine copy_in HB5.out rfl (.tmp 30) (.tmp 32) 28 27 rfl Tryd.underlying28 (by kernel_rfl) (y * w) w w w c5 _ _ rfl rfl (mend (F y (rowC w y Lp))) hR5.out (by omega) (fun _ => rfl) ?_; intro X6 hB6 hM6; have HB6 := Lib.hid hB6; clear hB6)
      have hchg : List.foldl (chg1 w F) L (List.map (fun x => x.val) (pre ++ [(⟨y, hy1, hy2⟩ : Ys lo hi)])) = (setRow w y (F y (rowC w y Lp)) Lp).take (y * w) ++ (mend (F y (rowC w y Lp))).take (min w w) ++ (setRow w y (F y (rowC w y Lp)) Lp).drop (y * w + min w w) := by
        rw [List.map_append, List.foldl_append, HLP.out, Nat.min_self, List.take_of_length_le (l := mend _) (by omega)]
        show chg1 w F Lp y = _
        unfold chg1 setRow
        exact (splice_row (by simp; omega) hFl).symm
      have HCHG := Lib.hid hchg
      clear hchg
      have hMall : Mods [b] X X6 := hM2.trans ((hm5.mono (by simp)).trans hM6)
      have hcells : ∃ o, X.heap[b]? = some o ∧ o.isCells = true := by obtain ⟨cur, h1, _⟩ := HBX.out; exact ⟨_, h1, rfl⟩
      have hs3x := hMx.size
      exact ⟨keepsOthers_of_mods hMall (by simpa using hcells), KeepN.of_mods hMall hs3x, by rw [HCHG.out]; exact HB6.out, hMx.trans hMall⟩
    case done =>
      rintro D ys X hD hS ⟨hB, hM⟩ hK
      have hs0 := hM0.size
      have hs1 := hM1.size
      have hs3 := hM3.size
      have hsz0 := HSZ0.out
      have hob := heap_lt BO.out
      have hbo := hM.at (hM3.at BO.out (by simp)) (by simpa using g3)
      have hb8 := hM.at (hM3.at (hM1.at B8.out (by simp)) (by simp)) (by simp; omega)
      have CO := fun i => blk_cell hbo i
      have B8X := Lib.hid hb8
      have HBD := Lib.hid hB
      have HKD := Lib.hid hK
      have HSD := Lib.hid hS
      clear hbo hb8 hB hK hS
      go_wp2_with (refine store_blk B8X.out rfl (.tmp 8) (.tmp 34) 38 rfl (c' := #[.int .i64 (w : Int), .int .i64 (h : Int), .slice (some ⟨b, 0, none⟩) n cap]) (by kernel_rfl) rfl rfl rfl (by simp [Value.oneCell']) ?_; intro X9 hb9 hM9; have HB9 := Lib.hid hb9; clear hb9)
      have hK9 := hM9.at HKD.out (by simp; omega)
      have hw'' : (X9.putObj D (.deferred Option.none)).heap[W.heap.size + 1 + 1]? = some (.cells #[.int .i64 (w : Int), .int .i64 (h : Int), .slice (some ⟨b, 0, none⟩) n cap] 38 (0, 0)) := (World.putObj_heap_other (by omega)).trans HB9.out
      have hMD : Mods [D] X9 (X9.putObj D (.deferred Option.none)) := (Mods.refl [D] X9).then (S' := [D]) ⟨rfl, rfl, rfl, (grownBy_putObj' X9 D (.deferred Option.none)).size, fun k hk hn => (grownBy_putObj' X9 D (.deferred Option.none)).block k hk (by simpa using hn)⟩ (fun k hk => .inl hk)
      have hMfin : Mods [] W (X9.putObj D (.deferred Option.none)) := (((hM0.trans (hM1.trans hM3)).then hM (fun k hk => .inr (by simp at hk; omega))).then hM9 (fun k hk => .inr (by simp at hk; omega))).then hMD (fun k hk => .inr (by simp at hk; omega))
      have hb0 : W.heap.size ≤ b := by omega
      have hsb := HBD.out.lt
      have hKo : b ≠ D := by intro e; obtain ⟨cur, h1, _⟩ := HBD.out; rw [e] at h1; rw [HKD.out] at h1; cases h1
      have hBfin := (HBD.out.keeps hM9 (by simp; omega)).keeps hMD (by simpa using hKo)
      have hfold : List.foldl (chg1 w F) L (List.map (fun x => x.val) ys) = changedC w lo hi F L := by rw [HSD.out]; rfl
      rw [hfold] at hBfin
      refine ⟨by simp, .inl ⟨_, _, rfl, run_takeDeferred hK9, ?_⟩⟩
      have CF := fun i => blk_cell hw'' i
      refine ⟨gridV w h (some ⟨b, 0, none⟩) n cap, ?_, ⟨b, cap, rfl, hBfin, hb0, hMfin⟩⟩
      clear CO
      simp [results, Tryd.f43, go_sem, CF]
    case stop =>
      rintro D c pre X hD _ hf _
      exact hf.elim
end Go.Proofs.YtldjmacnokkjdaaDoor
/- Grids as rows: what a change of some rows leaves. -/
namespace Go.Proofs.YtldjmacnokkjdaaDoor
set_option linter.unusedVariables false
set_option linter.unusedSimpArgs false

theorem setRow_len {w y : Nat} {r L : List Cell} (hr : r.length = w) (hy : y * w + w ≤ L.length) : (setRow w y r L).length = L.length := by unfold setRow; simp [hr]; omega
theorem rowC_setRow {w y : Nat} {r L : List Cell} (hr : r.length = w) (hy : y * w + w ≤ L.length) : rowC w y (setRow w y r L) = r := by
  unfold rowC setRow
  rw [List.append_assoc, List.drop_append_of_le_length (by simp; omega), List.drop_of_length_le (by simp; omega), List.nil_append, List.take_left' hr]
theorem rowC_get {w y x : Nat} {L : List Cell} (hx : x < w) : (rowC w y L)[x]? = L[y * w + x]? := by
  unfold rowC; rw [List.getElem?_take, if_pos hx, List.getElem?_drop]
theorem setRow_get {w y : Nat} {r L : List Cell} (hr : r.length = w) (hy : y * w + w ≤ L.length) (i : Nat) : (setRow w y r L)[i]? = if y * w ≤ i ∧ i < y * w + w then r[i - y * w]? else L[i]? := by
  unfold setRow
  have e1 : (L.take (y * w)).length = y * w := by simp; omega
  by_cases h1 : i < y * w
  · rw [if_neg (by omega), List.append_assoc, List.getElem?_append_left (by omega), List.getElem?_take, if_pos h1]
  · by_cases h2 : i < y * w + w
    · rw [if_pos (by omega), List.append_assoc, List.getElem?_append_right (by omega), List.getElem?_append_left (by omega), e1]
    · rw [if_neg (by omega), List.getElem?_append_right (by simp; omega), List.getElem?_drop]
      congr 1
      simp [hr]; omega
theorem row_ne {w y y' x : Nat} (hx : x < w) (h : y' ≠ y) : ¬ (y * w ≤ y' * w + x ∧ y' * w + x < y * w + w) := by
  rcases Nat.lt_or_gt_of_ne h with h | h
  · have : (y' + 1) * w ≤ y * w := Nat.mul_le_mul_right _ h
    rw [Nat.add_mul] at this; omega
  · have : (y + 1) * w ≤ y' * w := Nat.mul_le_mul_right _ h
    rw [Nat.add_mul] at this; omega
theorem rowC_ext {w : Nat} {a b : List Cell} {y : Nat} (ha : y * w + w ≤ a.length) (hb : y * w + w ≤ b.length) (h : ∀ x, x < w → a[y * w + x]? = b[y * w + x]?) : rowC w y a = rowC w y b := by
  apply List.ext_getElem?
  intro x
  by_cases hx : x < w
  · rw [rowC_get hx, rowC_get hx, h x hx]
  · rw [List.getElem?_eq_none (by unfold rowC; simp; omega), List.getElem?_eq_none (by unfold rowC; simp; omega)]
theorem rowC_setRow_ne {w y y' : Nat} {r L : List Cell} (hr : r.length = w) (hy : y * w + w ≤ L.length) (hy' : y' * w + w ≤ L.length) (h : y' ≠ y) : rowC w y' (setRow w y r L) = rowC w y' L := by
  refine rowC_ext (by rw [setRow_len hr hy]; exact hy') hy' (fun x hx => ?_)
  rw [setRow_get hr hy, if_neg (row_ne hx h)]
theorem mend_len (l : List Cell) : (mend l).length = l.length := by
  have key : ∀ k (l : List Cell), l.length ≤ k → (mend l).length = l.length := by
    intro k
    induction k with
    | zero => intro l h; have : l = [] := List.eq_nil_of_length_eq_zero (by omega); subst this; rfl
    | succ k ih =>
      intro l h
      cases l with
      | nil => rfl
      | cons c l =>
        simp at h
        rcases sizeC_cases c l with h1 | h1 | ⟨h1, d, l', rfl⟩
        · rw [mend_0 h1, List.length_cons, ih l h, List.length_cons]
        · rw [mend_1 h1, List.length_cons, ih l h, List.length_cons]
        · simp at h
          rw [mend_2 h1, List.length_cons, List.length_cons, ih l' (by omega), List.length_cons, List.length_cons]
  exact key _ l (Nat.le_refl _)
theorem blank_size (c : Cell) (l : List Cell) : sizeC (c.blank :: l) = 1 := by
  have h1 : Cell.ok c.blank = true := by
    have : width 32 = 1 := by decide +kernel
    simp [Cell.ok, Cell.blank, Cell.tail, Cell.wide, tailA, wideA, this]
  have h2 : c.blank.tail = false := by simp [Cell.blank, Cell.tail, tailA]
  have h3 : c.blank.wide = false := by simp [Cell.blank, Cell.wide, wideA]
  have hu : sizeC (c.blank :: l) = if !c.blank.ok || c.blank.tail then 0 else if !c.blank.wide then 1 else if l.head? = some c.blank.behind then 2 else 0 := rfl
  rw [hu, h1, h2, h3]; rfl
theorem sizeC_same1 {c : Cell} {l : List Cell} (h : sizeC (c :: l) = 1) (l' : List Cell) : sizeC (c :: l') = 1 := by
  have hu : ∀ l, sizeC (c :: l) = if !c.ok || c.tail then 0 else if !c.wide then 1 else if l.head? = some c.behind then 2 else 0 := fun _ => rfl
  rw [hu] at h ⊢
  by_cases h1 : (!c.ok || c.tail) = true
  · rw [if_pos h1] at h; cases h
  · rw [if_neg h1] at h ⊢
    by_cases h2 : (!c.wide) = true
    · rw [if_pos h2]
    · rw [if_neg h2] at h; split at h <;> cases h
theorem sizeC_same2 {c d : Cell} {l : List Cell} (h : sizeC (c :: d :: l) = 2) (l' : List Cell) : sizeC (c :: d :: l') = 2 := h
/-- A mended row is right. -/
theorem right_mend (l : List Cell) : rightC (mend l) = true := by
  have key : ∀ k (l : List Cell), l.length ≤ k → rightC (mend l) = true := by
    intro k
    induction k with
    | zero => intro l h; have : l = [] := List.eq_nil_of_length_eq_zero (by omega); subst this; rfl
    | succ k ih =>
      intro l h
      cases l with
      | nil => rfl
      | cons c l =>
        simp at h
        rcases sizeC_cases c l with h1 | h1 | ⟨h1, d, l', rfl⟩
        · rw [mend_0 h1, rightC_1 (blank_size c _), ih l h]
        · rw [mend_1 h1, rightC_1 (sizeC_same1 h1 _), ih l h]
        · simp at h
          rw [mend_2 h1, rightC_2 (sizeC_same2 h1 _), ih l' (by omega)]
  exact key _ l (Nat.le_refl _)
/-- A right row is mended to itself. -/
theorem mend_right (l : List Cell) (hr : rightC l = true) : mend l = l := by
  have key : ∀ k (l : List Cell), l.length ≤ k → rightC l = true → mend l = l := by
    intro k
    induction k with
    | zero => intro l h _; have : l = [] := List.eq_nil_of_length_eq_zero (by omega); subst this; rfl
    | succ k ih =>
      intro l h hr
      cases l with
      | nil => rfl
      | cons c l =>
        simp at h
        rcases sizeC_cases c l with h1 | h1 | ⟨h1, d, l', rfl⟩
        · rw [rightC_0 h1] at hr; cases hr
        · rw [rightC_1 h1] at hr; rw [mend_1 h1, ih l h hr]
        · simp at h
          rw [rightC_2 h1] at hr; rw [mend_2 h1, ih l' (by omega) hr]
  exact key _ l (Nat.le_refl _) hr
section
variable {w h n : Nat} {F : Nat → List Cell → List Cell} (hF : ∀ y r, r.length = w → (F y r).length = w)
include hF
theorem chg1_len {L : List Cell} {y : Nat} (hl : L.length = n) (hn : n = w * h) (hy : y < h) : (chg1 w F L y).length = n := by
  unfold chg1
  rw [setRow_len (by rw [mend_len]; exact hF _ _ (rowC_len hl hn hy)) (by rw [hl]; exact row_le hn hy), hl]
theorem changed_foldl (L : List Cell) (hl : L.length = n) (hn : n = w * h) (lo : Nat) : ∀ k, lo + k ≤ h → ((List.range' lo k).foldl (chg1 w F) L).length = n ∧
    ∀ y, y < h → rowC w y ((List.range' lo k).foldl (chg1 w F) L) = if lo ≤ y ∧ y < lo + k then mend (F y (rowC w y L)) else rowC w y L := by
  intro k
  induction k with
  | zero => intro _; exact ⟨hl, fun y _ => by rw [if_neg (by omega)]; rfl⟩
  | succ k ih =>
    intro hk
    obtain ⟨h1, h2⟩ := ih (by omega)
    rw [List.range'_concat, List.foldl_append]
    simp only [List.foldl_cons, List.foldl_nil, Nat.one_mul]
    generalize (List.range' lo k).foldl (chg1 w F) L = X at *
    refine ⟨chg1_len hF h1 hn (by omega), fun y hy => ?_⟩
    have hrl : (F (lo + k) (rowC w (lo + k) X)).length = w := hF _ _ (rowC_len h1 hn (by omega))
    by_cases hyk : y = lo + k
    · subst hyk
      rw [if_pos (by omega)]
      unfold chg1
      rw [rowC_setRow (by rw [mend_len]; exact hrl) (by rw [h1]; exact row_le hn (by omega)), h2 _ (by omega), if_neg (by omega)]
    · unfold chg1
      rw [rowC_setRow_ne (by rw [mend_len]; exact hrl) (by rw [h1]; exact row_le hn (by omega)) (by rw [h1]; exact row_le hn hy) hyk, h2 y hy]
      by_cases h3 : lo ≤ y ∧ y < lo + k
      · rw [if_pos h3, if_pos (by omega)]
      · rw [if_neg h3, if_neg (by omega)]
theorem changed_len (L : List Cell) (hl : L.length = n) (hn : n = w * h) {lo hi : Nat} (hh : hi ≤ h) : (changedC w lo hi F L).length = n := by
  by_cases hlo : lo ≤ hi
  · exact (changed_foldl hF L hl hn lo (hi - lo) (by omega)).1
  · unfold changedC; rw [show hi - lo = 0 by omega]; exact hl
theorem rowC_changed (L : List Cell) (hl : L.length = n) (hn : n = w * h) {lo hi : Nat} (hh : hi ≤ h) {y : Nat} (hy : y < h) : rowC w y (changedC w lo hi F L) = if lo ≤ y ∧ y < hi then mend (F y (rowC w y L)) else rowC w y L := by
  by_cases hlo : lo ≤ hi
  · have := (changed_foldl hF L hl hn lo (hi - lo) (by omega)).2 y hy
    unfold changedC
    rw [this]
    by_cases h3 : lo ≤ y ∧ y < hi
    · rw [if_pos h3, if_pos (by omega)]
    · rw [if_neg h3, if_neg (by omega)]
  · unfold changedC; rw [show hi - lo = 0 by omega, if_neg (by omega)]; rfl
theorem right_changed (L : List Cell) (hl : L.length = n) (hn : n = w * h) {lo hi : Nat} (hh : hi ≤ h) (hr : rightG w h L = true) : rightG w h (changedC w lo hi F L) = true := by
  unfold rightG at hr ⊢
  rw [List.all_eq_true] at hr ⊢
  intro y hy
  have hy' : y < h := by simpa using hy
  rw [rowC_changed hF L hl hn hh hy']
  split
  · exact right_mend _
  · exact hr y hy
end
/-- Grids whose rows are the same are the same. -/
theorem grid_ext {w h n : Nat} {a b : List Cell} (ha : a.length = n) (hb : b.length = n) (hn : n = w * h) (hr : ∀ y, y < h → rowC w y a = rowC w y b) : a = b := by
  apply List.ext_getElem?
  intro i
  by_cases hi : i < n
  · have hw : 0 < w := by rcases Nat.eq_zero_or_pos w with h0 | h0; · rw [h0] at hn; omega
                          · exact h0
    have hy : i / w < h := by rw [Nat.div_lt_iff_lt_mul hw, Nat.mul_comm]; omega
    have hx : i % w < w := Nat.mod_lt _ hw
    have e := congrArg (fun l => l[i % w]?) (hr (i / w) hy)
    simp only [rowC_get hx] at e
    have e2 : i / w * w + i % w = i := by rw [Nat.mul_comm]; exact Nat.div_add_mod i w
    rwa [e2] at e
  · rw [List.getElem?_eq_none (by omega), List.getElem?_eq_none (by omega)]
/-! ### the ways in which a row is changed -/
def fillRow (l x : Nat) (c : Cell) (r : List Cell) : List Cell := r.take l ++ List.replicate (x - l) c ++ r.drop x
theorem fillRow_len {l x w : Nat} {c : Cell} {r : List Cell} (hr : r.length = w) (hl : l ≤ x) (hx : x ≤ w) : (fillRow l x c r).length = w := by unfold fillRow; simp [hr]; omega
theorem fillRow_get {l x w : Nat} {c : Cell} {r : List Cell} (hr : r.length = w) (hl : l ≤ x) (hx : x ≤ w) (i : Nat) : (fillRow l x c r)[i]? = if l ≤ i ∧ i < x then some c else r[i]? := by
  unfold fillRow
  have e1 : (r.take l).length = l := by simp; omega
  by_cases h1 : i < l
  · rw [if_neg (by omega), List.append_assoc, List.getElem?_append_left (by omega), List.getElem?_take, if_pos h1]
  · by_cases h2 : i < x
    · rw [if_pos (by omega), List.append_assoc, List.getElem?_append_right (by omega), List.getElem?_append_left (by simp; omega), e1, List.getElem?_replicate, if_pos (by omega)]
    · rw [if_neg (by omega), List.getElem?_append_right (by simp; omega), List.getElem?_drop]
      congr 1
      simp; omega
theorem fillRow_set {l x w : Nat} {c : Cell} {r : List Cell} (hr : r.length = w) (hl : l ≤ x) (hx : x < w) : (fillRow l x c r).set x c = fillRow l (x + 1) c r := by
  apply List.ext_getElem?
  intro i
  rw [List.getElem?_set, fillRow_get hr hl (by omega), fillRow_get hr (by omega) (by omega), fillRow_len hr hl (by omega)]
  by_cases h : x = i
  · subst h; rw [if_pos rfl, if_pos hx, if_pos (by omega)]
  · rw [if_neg h]
    by_cases h2 : l ≤ i ∧ i < x
    · rw [if_pos h2, if_pos (by omega)]
    · rw [if_neg h2, if_neg (by omega)]
theorem fillRow_self {l : Nat} {c : Cell} {r : List Cell} : fillRow l l c r = r := by unfold fillRow; simp
theorem setRow_set {w y x : Nat} {r L : List Cell} {c : Cell} (hr : r.length = w) (hy : y * w + w ≤ L.length) (hx : x < w) : (setRow w y r L).set (y * w + x) c = setRow w y (r.set x c) L := by
  apply List.ext_getElem?
  intro i
  rw [List.getElem?_set, setRow_get hr hy, setRow_get (by simpa using hr) hy, setRow_len hr hy, List.getElem?_set]
  by_cases h : y * w + x = i
  · subst h
    rw [if_pos rfl, if_pos (by omega), if_pos (by omega), if_pos (by omega), if_pos (by omega)]
  · rw [if_neg h]
    split
    · rw [if_neg (by omega)]
    · rfl
theorem setRow_self {w y : Nat} {L : List Cell} (hy : y * w + w ≤ L.length) : setRow w y (rowC w y L) L = L := by
  apply List.ext_getElem?
  intro i
  rw [setRow_get (by unfold rowC; simp; omega) hy]
  split
  · rename_i h
    rw [rowC_get (by omega)]
    congr 1; omega
  · rfl
end Go.Proofs.YtldjmacnokkjdaaDoor
/- grid.Fill. -/
namespace Go.Proofs.YtldjmacnokkjdaaDoor
open Go.RowKit Go.Shelf
set_option linter.unusedVariables false
set_option linter.unusedSimpArgs false

theorem idx4 (y w x : Nat) : y * w * 4 + x * 4 = (y * w + x) * 4 := by omega
def Fill1Rel (W1 : World) (b cap n w y l rt : Nat) (c : Cell) (L1 : List Cell) (kk : Nat) (idx : Value) (wr : World) : Prop :=
  ∃ x : Nat, idx = .int .i64 (x : Int) ∧ l ≤ x ∧ x ≤ rt ∧ CellB wr b n cap (setRow w y (fillRow l x c (rowC w y L1)) L1) ∧ Mods [b] W1 wr ∧ kk + x = rt + l
set_option maxRecDepth 4000 in
set_option maxHeartbeats 1000000 in
theorem fill1_how (W : World) (w h n lo hi bl br bc l rt : Nat) (hn : n = w * h) (hih : hi ≤ h) (hw : w ≤ 200) (hl : l ≤ rt) (hr : rt ≤ w) (c : Cell)
    (h1 : W.heap[bl]? = some (.cells #[.int .i64 (l : Int)] 3 (0, 0))) (h2 : W.heap[br]? = some (.cells #[.int .i64 (rt : Int)] 3 (0, 0))) (h3 : W.heap[bc]? = some (.cells #[.int .i32 c.r, .int .u8 c.fg, .int .u8 c.bg, .int .u8 (c.attr.val : Int)] 27 (0, 0))) :
    HowDoes W w h n lo hi 55 #[.pointer (some ⟨bl, 0, none⟩), .pointer (some ⟨br, 0, none⟩), .pointer (some ⟨bc, 0, none⟩)] (fun _ r => fillRow l rt c r) := by
  intro W1 b cap L1 y hM hb hB hy1 hy2
  have hyw := row_le (y := y) hn (by omega)
  have hL1 := hB.len
  have hrl := rowC_len (y := y) hL1 hn (by omega)
  have H1 := Lib.hid (hM.at h1 (by simp))
  have H2 := Lib.hid (hM.at h2 (by simp))
  have H3 := Lib.hid (hM.at h3 (by simp))
  have n1 : bl ≠ b := by have := heap_lt h1; omega
  have n2 : br ≠ b := by have := heap_lt h2; omega
  have n3 : bc ≠ b := by have := heap_lt h3; omega
  have HB := Lib.hid hB
  have HL1 := Lib.hid hL1
  have HRL := Lib.hid hrl
  have C1 := blk_cell H1.out 0
  have hlen : (rowC w y L1).length = w := hrl
  obtain ⟨r, fg, bg, at'⟩ := c
  clear h1 h2 h3 hn hB hL1 hrl hlen hM
  show Calls _ _ #[_, _, _, _, _] _ _
  go_enter Tryd.func55, Tryd.ntmps55
  go_wp2
  clear C1
  go_loopg [7] rt (Fill1Rel W1 b cap n w y l rt ⟨r, fg, bg, at'⟩ L1)
  case atStart => exact ⟨l, rfl, Nat.le_refl _, hl, by rw [fillRow_self, setRow_self (by rw [HL1.out]; exact hyw)]; exact HB.out, Mods.refl _ _, by omega⟩
  case round =>
    obtain ⟨x, rfl, hx1, hx2, hBx, hM, hkk⟩ := hrel
    have HBX := Lib.hid hBx
    have HKK := Lib.hid hkk
    have C2 := blk_cell (hM.at H2.out (by simpa using n2)) 0
    have C3 := fun i => blk_cell (hM.at H3.out (by simpa using n3)) i
    clear hBx hkk
    by_cases hlt : x < rt
    · have hk2 := HKK.out
      have x0 : (0 : Int) ≤ (x : Int) := by omega
      have x1 : (x : Int) < (w : Int) := by omega
      go_wp2_with (refine store_cell HBX.out rfl (.tmp 17) (.tmp 16) 27 rfl (by kernel_rfl) (y * w + x) _ (idx4 y w x) ⟨r, fg, bg, at'⟩ rfl rfl (by omega) ?_; intro w5 hB5 hM5; have HB5 := Lib.hid hB5; clear hB5)
      go_roundg (gk - 1)
      case measure => omega
      case rel =>
        refine ⟨x + 1, by go_num, by omega, by omega, ?_, hM.trans hM5, by omega⟩
        have := HB5.out
        rwa [setRow_set (fillRow_len HRL.out hx1 (by omega)) (by rw [HL1.out]; exact hyw) (by omega), fillRow_set HRL.out hx1 (by omega)] at this
    · have hxr : x = rt := by omega
      subst hxr
      go_wp2
      exact bodyPost_end (results_none rfl _ _ _) rfl ⟨⟨_, rfl⟩, HBX.out, hM⟩
/-- What Fill makes of a right grid. -/
def fillC (w h : Nat) (L : List Cell) (x y rw' rh : Int) (c : Cell) : List Cell :=
  if (spanF x rw' w).1 = (spanF x rw' w).2 then L else changedC w (spanF y rh h).1.toNat (spanF y rh h).2.toNat (fun _ r => fillRow (spanF x rw' w).1.toNat (spanF x rw' w).2.toNat c r) L
theorem span_le (f m e : Int) (he : 0 ≤ e) : 0 ≤ (spanF f m e).1 ∧ (spanF f m e).1 ≤ (spanF f m e).2 ∧ (spanF f m e).2 ≤ e := by
  unfold spanF
  split
  · exact ⟨by simp, by simp, he⟩
  · rename_i h1
    split
    · rename_i h2
      unfold mx mn
      refine ⟨by simp, ?_, ?_⟩ <;> simp only <;> split <;> split <;> omega
    · rename_i h2
      unfold mn
      refine ⟨by simp only; omega, ?_, ?_⟩ <;> simp only <;> split <;> omega
/-- A grid that a function hands back: the same rows as ever, or a block of its own. -/
def GridOut (W W' : World) (w h n : Nat) (a : Addr) (L : List Cell) (e : Ending) : Prop :=
  ∃ a' c', e = .returned (gridV w h (some a') n c') ∧ n ≤ c' ∧ ReadsRows W' (some a') n 4 Cell.vals L ∧ (a' = a ∨ (a'.off = 0 ∧ W.heap.size ≤ a'.block ∧ CellB W' a'.block n c' L)) ∧ Mods [] W W'
theorem CellB.cap {W : World} {g n cap : Nat} {L : List Cell} (h : CellB W g n cap L) : n ≤ cap := by obtain ⟨cur, h1, h2, h3, _⟩ := h; exact h3
set_option maxRecDepth 4000 in
set_option maxHeartbeats 2000000 in
theorem grid_Fill (W : World) (w h n c0 : Nat) (a : Addr) (L : List Cell) (x y rw' rh : Int) (c : Cell) (hg : GridOk w h n c0) (hL : ReadsRows W (some a) n 4 Cell.vals L) (hr : rightG w h L = true)
    (hx : -1000000 ≤ x ∧ x ≤ 1000000) (hy : -1000000 ≤ y ∧ y ≤ 1000000) (hrw : -1000000 ≤ rw' ∧ rw' ≤ 1000000) (hrh : -1000000 ≤ rh ∧ rh ≤ 1000000) (hc : (c.ok && decide (c.attr.val < 64)) = true) :
    Calls Tryd.prog 25 #[gridV w h (some a) n c0, .agg #[.int .i64 x, .int .i64 y, .int .i64 rw', .int .i64 rh], c.val] W fun e W' => GridOut W W' w h n a (fillC w h L x y rw' rh c) e := by
  obtain ⟨hw1, hw2, hh1, hh2, hn, hcc⟩ := id hg
  have HG := Lib.hid hg
  have HL := Lib.hid hL
  have HR := Lib.hid hr
  have HC := Lib.hid hc
  have HN := Lib.hid hn
  obtain ⟨s1, s2, s3⟩ := span_le x rw' w (by omega)
  obtain ⟨t1, t2, t3⟩ := span_le y rh h (by omega)
  obtain ⟨l, hl⟩ := Int.eq_ofNat_of_zero_le s1
  obtain ⟨rt, hrt⟩ := Int.eq_ofNat_of_zero_le (Int.le_trans s1 s2)
  obtain ⟨tp, htp⟩ := Int.eq_ofNat_of_zero_le t1
  obtain ⟨en, hen⟩ := Int.eq_ofNat_of_zero_le (Int.le_trans t1 t2)
  have hfill : fillC w h L x y rw' rh c = if l = rt then L else changedC w tp en (fun _ r => fillRow l rt c r) L := by
    unfold fillC
    rw [hl, hrt, htp, hen]
    simp only [Int.toNat_natCast, Int.natCast_inj]
  have HFILL := Lib.hid hfill
  have hlr : l ≤ rt := by omega
  have hrw2 : rt ≤ w := by omega
  have hte : tp ≤ en := by omega
  have heh : en ≤ h := by omega
  have HS1 := Lib.hid hl
  have HS2 := Lib.hid hrt
  have HS3 := Lib.hid htp
  have HS4 := Lib.hid hen
  clear hg hL hr hc hn hl hrt htp hen hfill s1 s2 s3 t1 t2 t3
  obtain ⟨r, fg, bg, at'⟩ := c
  go_enter Tryd.func25, Tryd.ntmps25
  go_wp2_with fail
  have hM0 : Mods [] W ((((W.alloc (.cells #[.int .i64 (w : Int), .int .i64 (h : Int), .slice (some a) n c0] 38)).alloc (.cells #[.int .i64 x, .int .i64 y, .int .i64 rw', .int .i64 rh] 50)).alloc (.cells #[.int .i32 r, .int .u8 fg, .int .u8 bg, .int .u8 (at'.val : Int)] 27)).alloc (.cells #[.int .i64 0, .int .i64 0, .slice none 0 0] 38)) := ((((Mods.refl [] W).alloc _).alloc _).alloc _).alloc _
  have hb3 := blk_alloc (blk_alloc (blk_alloc (blk_new W (.cells #[.int .i64 (w : Int), .int .i64 (h : Int), .slice (some a) n c0] 38)) (.cells #[.int .i64 x, .int .i64 y, .int .i64 rw', .int .i64 rh] 50)) (.cells #[.int .i32 r, .int .u8 fg, .int .u8 bg, .int .u8 (at'.val : Int)] 27)) (.cells #[.int .i64 0, .int .i64 0, .slice none 0 0] 38)
  have hb4 := blk_alloc (blk_alloc (blk_new' (W.alloc (.cells #[.int .i64 (w : Int), .int .i64 (h : Int), .slice (some a) n c0] 38)) (.cells #[.int .i64 x, .int .i64 y, .int .i64 rw', .int .i64 rh] 50) (k := W.heap.size + 1) (by simp)) (.cells #[.int .i32 r, .int .u8 fg, .int .u8 bg, .int .u8 (at'.val : Int)] 27)) (.cells #[.int .i64 0, .int .i64 0, .slice none 0 0] 38)
  have hb5 := blk_alloc (blk_new' ((W.alloc (.cells #[.int .i64 (w : Int), .int .i64 (h : Int), .slice (some a) n c0] 38)).alloc (.cells #[.int .i64 x, .int .i64 y, .int .i64 rw', .int .i64 rh] 50)) (.cells #[.int .i32 r, .int .u8 fg, .int .u8 bg, .int .u8 (at'.val : Int)] 27) (k := W.heap.size + 1 + 1) (by simp)) (.cells #[.int .i64 0, .int .i64 0, .slice none 0 0] 38)
  have hb6 := blk_new' (((W.alloc (.cells #[.int .i64 (w : Int), .int .i64 (h : Int), .slice (some a) n c0] 38)).alloc (.cells #[.int .i64 x, .int .i64 y, .int .i64 rw', .int .i64 rh] 50)).alloc (.cells #[.int .i32 r, .int .u8 fg, .int .u8 bg, .int .u8 (at'.val : Int)] 27)) (.cells #[.int .i64 0, .int .i64 0, .slice none 0 0] 38) (k := W.heap.size + 1 + 1 + 1) (by simp)
  have hsz : ((((W.alloc (.cells #[.int .i64 (w : Int), .int .i64 (h : Int), .slice (some a) n c0] 38)).alloc (.cells #[.int .i64 x, .int .i64 y, .int .i64 rw', .int .i64 rh] 50)).alloc (.cells #[.int .i32 r, .int .u8 fg, .int .u8 bg, .int .u8 (at'.val : Int)] 27)).alloc (.cells #[.int .i64 0, .int .i64 0, .slice none 0 0] 38)).heap.size = W.heap.size + 1 + 1 + 1 + 1 := by simp
  generalize ((((W.alloc (.cells #[.int .i64 (w : Int), .int .i64 (h : Int), .slice (some a) n c0] 38)).alloc (.cells #[.int .i64 x, .int .i64 y, .int .i64 rw', .int .i64 rh] 50)).alloc (.cells #[.int .i32 r, .int .u8 fg, .int .u8 bg, .int .u8 (at'.val : Int)] 27)).alloc (.cells #[.int .i64 0, .int .i64 0, .slice none 0 0] 38)) = W0 at *
  have B3 := Lib.hid hb3
  have B4 := Lib.hid hb4
  have B5 := Lib.hid hb5
  have B6 := Lib.hid hb6
  have HSZ := Lib.hid hsz
  have HM0 := Lib.hid hM0
  clear hb3 hb4 hb5 hb6 hsz
  refine (grid_Check W0 w h n c0 a L HG.out (HL.out.keepsM (fun _ => rfl) hM0 (by simp))).mono ?_
  rw [HR.out]
  rintro e w1 ⟨rfl, hm1⟩
  have C5 := fun i => blk_cell (hm1.at B5.out (by simp)) i
  go_wp2_with fail
  clear C5
  refine (grid_plain w1 ⟨r, fg, bg, at'⟩).mono ?_
  rw [HC.out]
  rintro e w2 ⟨rfl, hm2⟩
  have hM2 := hm1.trans hm2
  clear hm1 hm2
  have C3 := fun i => blk_cell (hM2.at B3.out (by simp)) i
  have C4 := fun i => blk_cell (hM2.at B4.out (by simp)) i
  go_wp2_with fail
  refine (grid_span w2 x rw' w hx hrw (by omega)).mono ?_
  rw [HS1.out, HS2.out]
  rintro e w3 ⟨rfl, rfl⟩
  have hb7 := blk_alloc (blk_new w2 (.cells #[.int .i64 (l : Int)] 3)) (.cells #[.int .i64 (rt : Int)] 3)
  have hb8 := blk_new' (w2.alloc (.cells #[.int .i64 (l : Int)] 3)) (.cells #[.int .i64 (rt : Int)] 3) (k := w2.heap.size + 1) (by simp)
  have hM3 : Mods [] W0 ((w2.alloc (.cells #[.int .i64 (l : Int)] 3)).alloc (.cells #[.int .i64 (rt : Int)] 3)) := (hM2.alloc _).alloc _
  have D3 := fun i => blk_cell (hM3.at B3.out (by simp)) i
  have D4 := fun i => blk_cell (hM3.at B4.out (by simp)) i
  have D7 := fun i => blk_cell hb7 i
  have D8 := fun i => blk_cell hb8 i
  go_wp2_with fail
  clear C3 C4
  generalize (w2.alloc (.cells #[.int .i64 (l : Int)] 3)).alloc (.cells #[.int .i64 (rt : Int)] 3) = W3 at *
  have B7 := Lib.hid hb7
  have B8 := Lib.hid hb8
  have hs2 := hM2.size
  clear hb7 hb8
  refine (grid_span W3 y rh h hy hrh (by omega)).mono ?_
  rw [HS3.out, HS4.out]
  rintro e w4 ⟨rfl, rfl⟩
  by_cases hlt : l = rt
  · subst hlt
    have hb6 := hM3.at B6.out (by simp)
    have HB6 := Lib.hid hb6
    clear hb6
    go_wp2_with (refine store_blk HB6.out rfl (.tmp 6) (.tmp 43) 38 rfl (c' := #[.int .i64 (w : Int), .int .i64 (h : Int), .slice (some a) n c0]) (by kernel_rfl) rfl rfl rfl (by simp [Value.oneCell']) ?_; intro w5 hb5 hm5; have HB5 := Lib.hid hb5; clear hb5)
    have CF := fun i => blk_cell HB5.out i
    have hM5 := (HM0.out.trans hM3).then hm5 (fun k hk => .inr (by simp at hk; omega))
    clear D3 D4 D7 D8
    exact bodyPost_ret (v := gridV w h (some a) n c0) (by simp [results, Tryd.results25, go_sem, CF]) rfl (by rw [HFILL.out]; simp only [if_true]; exact ⟨a, c0, rfl, hcc, HL.out.keepsM (fun _ => rfl) hM5 (by simp), .inl rfl, hM5⟩)
  · have hlt2 : l < rt := by omega
    have hb : ((l : Int) == (rt : Int)) = false := by simp; omega
    have HLT := Lib.hid hlt
    clear hlt
    go_wp2_with fail
    have hMW := HM0.out.trans hM3
    refine (grid_changed W3 w h n c0 a L tp en tp en 55 _ (fun _ r' => fillRow l rt ⟨r, fg, bg, at'⟩ r') HG.out (HL.out.keepsM (fun _ => rfl) hMW (by simp)) (by unfold mx; split <;> omega) (fun y _ => by unfold mn; split <;> omega) heh (fun _ r' hr' => fillRow_len hr' hlr hrw2) (enters_of Tryd.func55 (by kernel_rfl) rfl)
      (fill1_how W3 w h n tp en _ _ _ l rt HN.out heh hw2 hlr hrw2 ⟨r, fg, bg, at'⟩ B7.out B8.out (hM3.at B5.out (by simp)))).mono ?_
    rintro e w5 ⟨b, cap, rfl, hB, hge, hm5⟩
    have hM5 := hM3.trans hm5
    have HB6 := Lib.hid (hM5.at B6.out (by simp))
    have hs3 := hM3.size
    clear D3 D4 D7 D8 hb
    go_wp2_with (refine store_blk HB6.out rfl (.tmp 6) (.tmp 48) 38 rfl (c' := #[.int .i64 (w : Int), .int .i64 (h : Int), .slice (some ⟨b, 0, none⟩) n cap]) (by kernel_rfl) rfl rfl rfl (by simp [Value.oneCell']) ?_; intro w6 hb6 hm6; have HB7 := Lib.hid hb6; clear hb6)
    have CF := fun i => blk_cell HB7.out i
    have hM6 := (HM0.out.trans hM5).then hm6 (fun k hk => .inr (by simp at hk; omega))
    have hsz := HSZ.out
    have hB6 := hB.keeps hm6 (by simp; omega)
    have hnc := hB6.cap
    exact bodyPost_ret (v := gridV w h (some ⟨b, 0, none⟩) n cap) (by simp [results, Tryd.results25, go_sem, CF]) rfl (by rw [HFILL.out, if_neg HLT.out]; exact ⟨⟨b, 0, none⟩, cap, rfl, hnc, hB6.reads, .inr ⟨rfl, by show W.heap.size ≤ b; omega, hB6⟩, hM6⟩)
end Go.Proofs.YtldjmacnokkjdaaDoor
/- The boxes that a function makes of its parameters, named at once. -/
namespace Go.Proofs.YtldjmacnokkjdaaDoor
open Go.RowKit
set_option linter.unusedVariables false

theorem Calls.named {P : Program} {f : Nat} {args : Array Value} {W : World} {Q : Ending → World → Prop} (h : ∀ W0, W0 = W → Calls P f args W0 Q) : Calls P f args W Q := h W rfl
theorem wpList.named {P : Program} {ops : Array Oper} {Q : Exit → Act → World → Prop} {l : List Oper} {a : Act} {W : World} (h : ∀ W0, W0 = W → wpList P ops Q l a W0) : wpList P ops Q l a W := h W rfl
theorem boxes2 {W W0 : World} {a b : Obj} (h : W0 = (W.alloc a).alloc b) : Mods [] W W0 ∧ W0.heap[W.heap.size]? = some a ∧ W0.heap[W.heap.size + 1]? = some b ∧ W0.heap.size = W.heap.size + 1 + 1 := by
  subst h
  exact ⟨((Mods.refl [] W).alloc _).alloc _, blk_alloc (blk_new W a) b, blk_new' (W.alloc a) b (by simp), by simp⟩
theorem boxes3 {W W0 : World} {a b c : Obj} (h : W0 = ((W.alloc a).alloc b).alloc c) : Mods [] W W0 ∧ W0.heap[W.heap.size]? = some a ∧ W0.heap[W.heap.size + 1]? = some b ∧ W0.heap[W.heap.size + 1 + 1]? = some c ∧ W0.heap.size = W.heap.size + 1 + 1 + 1 := by
  obtain ⟨h1, h2, h3, h4⟩ := boxes2 (W := W) (a := a) (b := b) rfl
  subst h
  exact ⟨h1.alloc _, blk_alloc h2 c, blk_alloc h3 c, blk_new' _ c (by simp), by simp⟩
theorem boxes4 {W W0 : World} {a b c d : Obj} (h : W0 = (((W.alloc a).alloc b).alloc c).alloc d) : Mods [] W W0 ∧ W0.heap[W.heap.size]? = some a ∧ W0.heap[W.heap.size + 1]? = some b ∧ W0.heap[W.heap.size + 1 + 1]? = some c ∧ W0.heap[W.heap.size + 1 + 1 + 1]? = some d ∧ W0.heap.size = W.heap.size + 1 + 1 + 1 + 1 := by
  obtain ⟨h1, h2, h3, h4, h5⟩ := boxes3 (W := W) (a := a) (b := b) (c := c) rfl
  subst h
  exact ⟨h1.alloc _, blk_alloc h2 d, blk_alloc h3 d, blk_alloc h4 d, blk_new' _ d (by simp), by simp⟩
theorem boxes5 {W W0 : World} {a b c d e : Obj} (h : W0 = ((((W.alloc a).alloc b).alloc c).alloc d).alloc e) : Mods [] W W0 ∧ W0.heap[W.heap.size]? = some a ∧ W0.heap[W.heap.size + 1]? = some b ∧ W0.heap[W.heap.size + 1 + 1]? = some c ∧ W0.heap[W.heap.size + 1 + 1 + 1]? = some d ∧ W0.heap[W.heap.size + 1 + 1 + 1 + 1]? = some e ∧ W0.heap.size = W.heap.size + 1 + 1 + 1 + 1 + 1 := by
  obtain ⟨h1, h2, h3, h4, h5, h6⟩ := boxes4 (W := W) (a := a) (b := b) (c := c) (d := d) rfl
  subst h
  exact ⟨h1.alloc _, blk_alloc h2 e, blk_alloc h3 e, blk_alloc h4 e, blk_alloc h5 e, blk_new' _ e (by simp), by simp⟩
theorem boxes6 {W W0 : World} {a b c d e f : Obj} (h : W0 = (((((W.alloc a).alloc b).alloc c).alloc d).alloc e).alloc f) : Mods [] W W0 ∧ W0.heap[W.heap.size]? = some a ∧ W0.heap[W.heap.size + 1]? = some b ∧ W0.heap[W.heap.size + 1 + 1]? = some c ∧ W0.heap[W.heap.size + 1 + 1 + 1]? = some d ∧ W0.heap[W.heap.size + 1 + 1 + 1 + 1]? = some e ∧ W0.heap[W.heap.size + 1 + 1 + 1 + 1 + 1]? = some f ∧ W0.heap.size = W.heap.size + 1 + 1 + 1 + 1 + 1 + 1 := by
  obtain ⟨h1, h2, h3, h4, h5, h6, h7⟩ := boxes5 (W := W) (a := a) (b := b) (c := c) (d := d) (e := e) rfl
  subst h
  exact ⟨h1.alloc _, blk_alloc h2 f, blk_alloc h3 f, blk_alloc h4 f, blk_alloc h5 f, blk_alloc h6 f, blk_new' _ f (by simp), by simp⟩
end Go.Proofs.YtldjmacnokkjdaaDoor
/- grid.Put. -/
namespace Go.Proofs.YtldjmacnokkjdaaDoor
open Go.RowKit Go.Shelf
set_option linter.unusedVariables false
set_option linter.unusedSimpArgs false

/-- Cells of one list in the places of another one. -/
def layRow (l rt : Nat) (s r : List Cell) : List Cell := r.take l ++ s.take (rt - l) ++ r.drop rt
theorem layRow_len {l rt w : Nat} {s r : List Cell} (hr : r.length = w) (hl : l ≤ rt) (hx : rt ≤ w) (hs : rt - l ≤ s.length) : (layRow l rt s r).length = w := by unfold layRow; simp [hr]; omega
theorem layRow_get {l rt w : Nat} {s r : List Cell} (hr : r.length = w) (hl : l ≤ rt) (hx : rt ≤ w) (hs : rt - l ≤ s.length) (i : Nat) : (layRow l rt s r)[i]? = if l ≤ i ∧ i < rt then s[i - l]? else r[i]? := by
  unfold layRow
  have e1 : (r.take l).length = l := by simp; omega
  by_cases h1 : i < l
  · rw [if_neg (by omega), List.append_assoc, List.getElem?_append_left (by omega), List.getElem?_take, if_pos h1]
  · by_cases h2 : i < rt
    · rw [if_pos (by omega), List.append_assoc, List.getElem?_append_right (by omega), List.getElem?_append_left (by simp; omega), e1, List.getElem?_take, if_pos (by omega)]
    · rw [if_neg (by omega), List.getElem?_append_right (by simp; omega), List.getElem?_drop]
      congr 1
      simp; omega
theorem setRow_lay {w y l rt : Nat} {L s r : List Cell} (hr : r.length = w) (hl : l ≤ rt) (hx : rt ≤ w) (hs : rt - l ≤ s.length) (hy : y * w + w ≤ L.length) :
    (setRow w y r L).take (y * w + l) ++ s.take (rt - l) ++ (setRow w y r L).drop (y * w + l + (rt - l)) = setRow w y (layRow l rt s r) L := by
  have hsl := setRow_len hr hy
  have e1 : ((setRow w y r L).take (y * w + l)).length = y * w + l := by simp; omega
  apply List.ext_getElem?
  intro i
  rw [setRow_get (layRow_len hr hl hx hs) hy, layRow_get hr hl hx hs]
  by_cases h1 : i < y * w + l
  · rw [List.append_assoc, List.getElem?_append_left (by omega), List.getElem?_take, if_pos h1, setRow_get hr hy]
    split
    · rw [if_neg (by omega)]
    · rfl
  · by_cases h2 : i < y * w + rt
    · rw [List.append_assoc, List.getElem?_append_right (by omega), List.getElem?_append_left (by simp; omega), e1, List.getElem?_take, if_pos (by omega), if_pos (by omega), if_pos (by omega)]
      congr 1; omega
    · rw [List.getElem?_append_right (by simp; omega), List.getElem?_drop, setRow_get hr hy]
      have e3 : y * w + l + (rt - l) + (i - (List.take (y * w + l) (setRow w y r L) ++ List.take (rt - l) s).length) = i := by simp; omega
      rw [e3]
      split
      · rw [if_neg (by omega)]
      · rfl
theorem setRow_lay0 {w y l rt : Nat} {L s : List Cell} (hl : l ≤ rt) (hx : rt ≤ w) (hs : rt - l ≤ s.length) (hy : y * w + w ≤ L.length) :
    L.take (y * w + l) ++ s.take (rt - l) ++ L.drop (y * w + l + (rt - l)) = setRow w y (layRow l rt s (rowC w y L)) L := by
  have := setRow_lay (L := L) (s := s) (r := rowC w y L) (by unfold rowC; simp; omega) hl hx hs hy
  rwa [setRow_self hy] at this
/-- What Put's closure does. -/
def putRow (l rt : Nat) (x : Int) (s r : List Cell) : List Cell := if l < rt then layRow l rt (s.drop ((l : Int) - x).toNat) r else r
theorem span_many (f m e : Int) (h : (spanF f m e).1 < (spanF f m e).2) : f ≤ (spanF f m e).1 ∧ (spanF f m e).2 - f ≤ m := by
  unfold spanF at h ⊢
  split
  · rename_i h1; rw [if_pos h1] at h; simp at h
  · rename_i h1
    rw [if_neg h1] at h
    split
    · rename_i h2
      rw [if_pos h2] at h
      unfold mx mn at h ⊢
      simp only at h ⊢
      have a1 : (if e < f + m then e else f + m) ≤ f + m := by split <;> omega
      generalize (if e < f + m then e else f + m) = z at *
      refine ⟨by omega, ?_⟩
      split <;> omega
    · rename_i h2
      rw [if_neg h2] at h
      unfold mn at h ⊢
      simp only at h ⊢
      refine ⟨by omega, ?_⟩
      split <;> omega
set_option maxRecDepth 4000 in
set_option maxHeartbeats 1000000 in
theorem put1_how (W : World) (w h n lo hi bl br bs bx l rt k kc : Nat) (hn : n = w * h) (hih : hi ≤ h) (hw : w ≤ 200) (hl : l ≤ rt) (hr : rt ≤ w) (x : Int) (A : Option Addr) (s : List Cell) (hs : ReadsRows W A k 4 Cell.vals s) (hk : k ≤ 1000000)
    (hkc : k ≤ kc) (hx : l < rt → x ≤ l ∧ rt - x ≤ k) (hx0 : -1000000 ≤ x)
    (h1 : W.heap[bl]? = some (.cells #[.int .i64 (l : Int)] 3 (0, 0))) (h2 : W.heap[br]? = some (.cells #[.int .i64 (rt : Int)] 3 (0, 0))) (h3 : W.heap[bs]? = some (.cells #[.slice A k kc] 28 (0, 0))) (h4 : W.heap[bx]? = some (.cells #[.int .i64 x] 3 (0, 0))) :
    HowDoes W w h n lo hi 44 #[.pointer (some ⟨bl, 0, none⟩), .pointer (some ⟨br, 0, none⟩), .pointer (some ⟨bs, 0, none⟩), .pointer (some ⟨bx, 0, none⟩)] (fun _ r => putRow l rt x s r) := by
  intro W1 b cap L1 y hM hb hB hy1 hy2
  have hyw := row_le (y := y) hn (by omega)
  have hL1 := hB.len
  have H1 := Lib.hid (hM.at h1 (by simp))
  have H2 := Lib.hid (hM.at h2 (by simp))
  have H3 := Lib.hid (hM.at h3 (by simp))
  have H4 := Lib.hid (hM.at h4 (by simp))
  have HS := Lib.hid (hs.keepsM (fun _ => rfl) hM (by simp))
  have HB := Lib.hid hB
  have C1 := blk_cell H1.out 0
  have C2 := blk_cell H2.out 0
  have C3 := blk_cell H3.out 0
  have C4 := blk_cell H4.out 0
  have HX := Lib.hid hx
  have hsl := hs.1
  have HL1 := Lib.hid hL1
  have HYW := Lib.hid hyw
  have HSL := Lib.hid hsl
  clear h1 h2 h3 h4 hn hB hM hs hx hL1 hyw hsl
  show Calls _ _ #[.int .i64 (y : Int), .slice (some ⟨b, y * w * 4, none⟩) w w, .pointer (some ⟨bl, 0, none⟩), .pointer (some ⟨br, 0, none⟩), .pointer (some ⟨bs, 0, none⟩), .pointer (some ⟨bx, 0, none⟩)] _ _
  by_cases hlt : l < rt
  · obtain ⟨hx1, hx2⟩ := HX.out hlt
    obtain ⟨d, hd⟩ := Int.eq_ofNat_of_zero_le (show 0 ≤ (l : Int) - x by omega)
    have hdk : d ≤ k := by omega
    have hdk2 : rt - l ≤ k - d := by omega
    have hdk3 : d < k := by omega
    have hwr : IntKind.i64.wrap ((l : Int) - x) = (d : Int) := by rw [IntWalk.i64_in _ (by omega)]; exact hd
    have hrt : l + d - d ≤ w := by omega
    have HD := Lib.hid hd
    have hpr : ∀ r, putRow l rt x s r = layRow l rt (s.drop d) r := by intro r; unfold putRow; rw [if_pos hlt, HD.out]; rfl
    have HPR := Lib.hid hpr
    clear hd hpr
    go_enter Tryd.func44, Tryd.ntmps44
    obtain ⟨c0, hc0⟩ : ∃ c, s[0]? = some c := ⟨_, List.getElem?_eq_getElem (by rw [HSL.out]; omega)⟩
    obtain ⟨a, rfl, _⟩ := HS.out.2.2 0 c0 hc0
    clear hc0
    have D1 : W1.drew.cell? ⟨bl, 0, none⟩ = some (.int .i64 (l : Int)) := C1
    have D2 : W1.drew.cell? ⟨br, 0, none⟩ = some (.int .i64 (rt : Int)) := C2
    have D3 : W1.drew.cell? ⟨bs, 0, none⟩ = some (.slice (some a) k kc) := C3
    have D4 : W1.drew.cell? ⟨bx, 0, none⟩ = some (.int .i64 x) := C4
    have l0 : (0 : Int) ≤ (l : Int) := by omega
    have l1 : (l : Int) ≤ (rt : Int) := by omega
    have l2 : (rt : Int) ≤ (w : Int) := by omega
    have d0 : (0 : Int) ≤ (d : Int) := by omega
    have d1 : (d : Int) ≤ (k : Int) := by omega
    have d2 : (k : Int) ≤ (kc : Int) := by omega
    have HBd : Hid (CellB W1.drew b n cap L1) := Lib.hid HB.out
    have hsd : ReadsRows W1.drew (some a) k 4 Cell.vals s := HS.out
    have hsr := hsd.cut d (k - d) (by omega)
    rw [show (s.drop d).take (k - d) = s.drop d from List.take_of_length_le (by simp [HSL.out])] at hsr
    have HSR := Lib.hid hsr
    clear hsd hsr
    have hmin : min (k - d) (rt - l) = rt - l := Nat.min_eq_right hdk2
    have hrtk : rt - l ≤ w - l := by omega
    have hfit : y * w + l + (rt - l) ≤ n := by have := HYW.out; omega
    have hsl2 : rt - l ≤ (s.drop d).length := by simp [HSL.out]; omega
    have HMIN := Lib.hid hmin
    have HFIT := Lib.hid hfit
    have HSL2 := Lib.hid hsl2
    clear hmin hfit hsl2
    go_wp2_with fail
    clear C1 C2 C3 C4
    go_still_tail 9, (by kernel_rfl)
    change wpList _ _ _ _ _ W1.drew
    refine copy_own HBd.out rfl (.tmp 14) (.tmp 19) 28 27 rfl Tryd.underlying28 (by kernel_rfl) (y * w + l) (rt - l) (w - l) (k - d) (kc - d) (if w = l then some ⟨b, y * w * 4, none⟩ else some ⟨b, y * w * 4 + l * 4, none⟩) (if kc = d then some a else some (a.add (d * 4))) rfl rfl (s.drop d) (by rw [if_neg (by omega)]; exact HSR.out) (by rw [HMIN.out]; exact HFIT.out) (fun _ => by rw [if_neg (by omega), Nat.add_mul]) ?_
    intro w4 hB4 hM4
    rw [HMIN.out] at hB4
    have HB4 := Lib.hid hB4
    clear hB4
    go_wp2
    refine bodyPost_end (results_none rfl _ _ _) rfl ⟨⟨_, rfl⟩, ?_, (Mods.refl _ _).drew.trans hM4⟩
    rw [HPR.out, ← setRow_lay0 hl hr HSL2.out (by rw [HL1.out]; exact HYW.out)]
    exact HB4.out
  · go_enter Tryd.func44, Tryd.ntmps44
    go_wp2
    refine bodyPost_end (results_none rfl _ _ _) rfl ⟨⟨_, rfl⟩, ?_, Mods.refl _ _⟩
    have e : putRow l rt x s (rowC w y L1) = rowC w y L1 := if_neg hlt
    rw [e, setRow_self (by rw [HL1.out]; exact HYW.out)]
    exact HB.out
/-- What Put makes of a right grid. -/
def putG (w h : Nat) (L : List Cell) (x y : Int) (s : List Cell) : List Cell :=
  if 0 ≤ y ∧ y < h then changedC w y.toNat (y.toNat + 1) (fun _ r => putRow (spanF x s.length w).1.toNat (spanF x s.length w).2.toNat x s r) L else L
theorem putRow_len {l rt w k : Nat} {x : Int} {s r : List Cell} (hr : r.length = w) (hx : rt ≤ w) (hs : s.length = k) (h : l < rt → x ≤ l ∧ rt - x ≤ k) : (putRow l rt x s r).length = w := by
  unfold putRow
  split
  · rename_i hlt
    obtain ⟨h1, h2⟩ := h hlt
    exact layRow_len hr (by omega) hx (by rw [List.length_drop, hs]; omega)
  · exact hr
set_option maxRecDepth 4000 in
set_option maxHeartbeats 2000000 in
theorem grid_Put (W : World) (w h n c0 : Nat) (a : Addr) (L : List Cell) (x y : Int) (A : Option Addr) (k kc : Nat) (s : List Cell) (hg : GridOk w h n c0) (hL : ReadsRows W (some a) n 4 Cell.vals L) (hr : rightG w h L = true)
    (hx : -1000000 ≤ x ∧ x ≤ 1000000) (hs : ReadsRows W A k 4 Cell.vals s) (hk : k ≤ 1000000) (hkc : k ≤ kc) :
    Calls Tryd.prog 18 #[gridV w h (some a) n c0, .int .i64 x, .int .i64 y, .slice A k kc] W fun e W' => GridOut W W' w h n a (putG w h L x y s) e := by
  obtain ⟨hw1, hw2, hh1, hh2, hn, hcc⟩ := id hg
  have HG := Lib.hid hg
  have HL := Lib.hid hL
  have HR := Lib.hid hr
  have HN := Lib.hid hn
  have HS := Lib.hid hs
  have hsl := hs.1
  have HSL := Lib.hid hsl
  obtain ⟨s1, s2, s3⟩ := span_le x k w (by omega)
  obtain ⟨l, hl⟩ := Int.eq_ofNat_of_zero_le s1
  obtain ⟨rt, hrt⟩ := Int.eq_ofNat_of_zero_le (Int.le_trans s1 s2)
  have hmany := span_many x k w
  rw [hl, hrt] at hmany
  have hmany' : l < rt → x ≤ l ∧ (rt : Int) - x ≤ k := fun h => hmany (by omega)
  have HMANY := Lib.hid hmany'
  have hlr : l ≤ rt := by omega
  have hrw2 : rt ≤ w := by omega
  have HS1 := Lib.hid hl
  have HS2 := Lib.hid hrt
  have hput : putG w h L x y s = if 0 ≤ y ∧ y < h then changedC w y.toNat (y.toNat + 1) (fun _ r => putRow l rt x s r) L else L := by
    unfold putG
    rw [hsl, hl, hrt]
    simp only [Int.toNat_natCast]
  have HPUT := Lib.hid hput
  clear hg hL hr hn hl hrt s1 s2 s3 hs hsl hmany hmany' hput
  by_cases hy : 0 ≤ y ∧ y < h
  · have HY := Lib.hid hy
    obtain ⟨hy1, hy2⟩ := hy
    obtain ⟨y, rfl⟩ := Int.eq_ofNat_of_zero_le hy1
    have hyh : y < h := by omega
    have dy : decide ((y : Int) ≥ (h : Int)) = false := by simp; omega
    have dy2 : decide (h ≤ y) = false := by simp; omega
    have ysum : IntKind.i64.wrap ((y : Int) + 1) = ((y + 1 : Nat) : Int) := by rw [IntWalk.i64_in _ (by omega)]; omega
    have YS := Lib.hid ysum
    clear ysum
    go_enter Tryd.func18, Tryd.ntmps18
    go_wp2_with fail
    refine Calls.named fun W0 hW0 => ?_
    obtain ⟨hM0, hb4, hb5, hb7, hb8, hsz⟩ := boxes4 hW0
    have B4 := Lib.hid hb4
    have B5 := Lib.hid hb5
    have B7 := Lib.hid hb7
    have B8 := Lib.hid hb8
    have HSZ := Lib.hid hsz
    have HM0 := Lib.hid hM0
    clear hb4 hb5 hb7 hb8 hsz hW0
    refine (grid_Check W0 w h n c0 a L HG.out (HL.out.keepsM (fun _ => rfl) hM0 (by simp))).mono ?_
    rw [HR.out]
    rintro e w1 ⟨rfl, hm1⟩
    have C4 := fun i => blk_cell (hm1.at B4.out (by simp)) i
    have C5 := fun i => blk_cell (hm1.at B5.out (by simp)) i
    have C7 := fun i => blk_cell (hm1.at B7.out (by simp)) i
    go_wp2_with fail
    refine (grid_span w1 x k w hx (by omega) (by omega)).mono ?_
    rw [HS1.out, HS2.out]
    rintro e w2 ⟨rfl, rfl⟩
    have hb9 := blk_alloc (blk_new w1 (.cells #[.int .i64 (l : Int)] 3)) (.cells #[.int .i64 (rt : Int)] 3)
    have hb10 := blk_new' (w1.alloc (.cells #[.int .i64 (l : Int)] 3)) (.cells #[.int .i64 (rt : Int)] 3) (k := w1.heap.size + 1) (by simp)
    have hM2 : Mods [] W0 ((w1.alloc (.cells #[.int .i64 (l : Int)] 3)).alloc (.cells #[.int .i64 (rt : Int)] 3)) := (hm1.alloc _).alloc _
    have D4 := fun i => blk_cell (hM2.at B4.out (by simp)) i
    go_wp2_with fail
    clear C4 C5 C7 D4
    generalize (w1.alloc (.cells #[.int .i64 (l : Int)] 3)).alloc (.cells #[.int .i64 (rt : Int)] 3) = W2 at *
    have B9 := Lib.hid hb9
    have B10 := Lib.hid hb10
    have hs1 := hm1.size
    have hsz := HSZ.out
    have hMW := HM0.out.trans hM2
    clear hb9 hb10
    refine (grid_changed W2 w h n c0 a L y _ y (y + 1) 44 _ (fun _ r => putRow l rt x s r) HG.out (HL.out.keepsM (fun _ => rfl) hMW (by simp)) (by unfold mx; split <;> omega) (fun y' _ => by unfold mn; split <;> omega) (by omega) (fun _ r' hr' => putRow_len hr' hrw2 HSL.out HMANY.out) (enters_of Tryd.func44 (by kernel_rfl) rfl)
      (put1_how W2 w h n y (y + 1) _ _ _ _ l rt k kc HN.out (by omega) hw2 hlr hrw2 x A s (HS.out.keepsM (fun _ => rfl) hMW (by simp)) hk hkc HMANY.out hx.1 B9.out B10.out (hM2.at B7.out (by simp)) (hM2.at B5.out (by simp)))).mono ?_
    rintro e w5 ⟨b, cap, rfl, hB, hge, hm5⟩
    have hM5 := hM2.trans hm5
    have HB8 := Lib.hid (hM5.at B8.out (by simp))
    have hs3 := hM2.size
    go_wp2_with (refine store_blk HB8.out rfl (.tmp 8) (.tmp 39) 38 rfl (c' := #[.int .i64 (w : Int), .int .i64 (h : Int), .slice (some ⟨b, 0, none⟩) n cap]) (by kernel_rfl) rfl rfl rfl (by simp [Value.oneCell']) ?_; intro w6 hb6 hm6; have HB7 := Lib.hid hb6; clear hb6)
    have CF := fun i => blk_cell HB7.out i
    have hM6 := (HM0.out.trans hM5).then hm6 (fun k hk => .inr (by simp at hk; omega))
    have hB6 := hB.keeps hm6 (by simp; omega)
    have hnc := hB6.cap
    have hput := HPUT.out
    rw [if_pos HY.out, Int.toNat_natCast] at hput
    exact bodyPost_ret (v := gridV w h (some ⟨b, 0, none⟩) n cap) (by simp [results, Tryd.results18, go_sem, CF]) rfl (by rw [hput]; exact ⟨⟨b, 0, none⟩, cap, rfl, hnc, hB6.reads, .inr ⟨rfl, by show W.heap.size ≤ b; omega, hB6⟩, hM6⟩)
  · have HY := Lib.hid hy
    have hy2 : y < 0 ∨ (¬ y < 0 ∧ (h : Int) ≤ y) := by omega
    have hput := HPUT.out
    rw [if_neg hy] at hput
    have HP2 := Lib.hid hput
    clear hy hput
    rcases hy2 with hy2 | ⟨hy2, hy3⟩
    all_goals
      go_enter Tryd.func18, Tryd.ntmps18
      go_wp2_with fail
      refine Calls.named fun W0 hW0 => ?_
      obtain ⟨hM0, hb4, hb5, hb7, hb8, hsz⟩ := boxes4 hW0
      have B4 := Lib.hid hb4
      have B8 := Lib.hid hb8
      have HM0 := Lib.hid hM0
      clear hb4 hb5 hb7 hb8 hsz hW0
      refine (grid_Check W0 w h n c0 a L HG.out (HL.out.keepsM (fun _ => rfl) hM0 (by simp))).mono ?_
      rw [HR.out]
      rintro e w1 ⟨rfl, hm1⟩
      have C4 := fun i => blk_cell (hm1.at B4.out (by simp)) i
      have HB8 := Lib.hid (hm1.at B8.out (by simp))
      go_wp2_with (refine store_blk HB8.out rfl (.tmp 8) (.tmp 24) 38 rfl (c' := #[.int .i64 (w : Int), .int .i64 (h : Int), .slice (some a) n c0]) (by kernel_rfl) rfl rfl rfl (by simp [Value.oneCell']) ?_; intro w6 hb6 hm6; have HB7 := Lib.hid hb6; clear hb6)
      have CF := fun i => blk_cell HB7.out i
      have hM6 := (HM0.out.trans hm1).then hm6 (fun k hk => .inr (by simp at hk; omega))
      clear C4
      exact bodyPost_ret (v := gridV w h (some a) n c0) (by simp [results, Tryd.results18, go_sem, CF]) rfl (by rw [HP2.out]; exact ⟨a, c0, rfl, hcc, HL.out.keepsM (fun _ => rfl) hM6 (by simp), .inl rfl, hM6⟩)
end Go.Proofs.YtldjmacnokkjdaaDoor
/- grid.Scroll. -/
namespace Go.Proofs.YtldjmacnokkjdaaDoor
open Go.RowKit Go.Shelf
set_option linter.unusedVariables false
set_option linter.unusedSimpArgs false

def scrollRow (w tp en : Nat) (k : Int) (c : Cell) (L : List Cell) (y : Nat) : List Cell :=
  if (tp : Int) ≤ movedF y k tp en ∧ movedF y k tp en < en then rowC w (movedF y k tp en).toNat L else List.replicate w c
def Scroll1Rel (W1 : World) (b cap n w y : Nat) (c : Cell) (L1 : List Cell) (kk : Nat) (idx : Value) (wr : World) : Prop :=
  ∃ x : Nat, idx = .int .i64 (x : Int) ∧ x ≤ w ∧ CellB wr b n cap (setRow w y (fillRow 0 x c (rowC w y L1)) L1) ∧ Mods [b] W1 wr ∧ kk + x = w
theorem fillRow_all {w : Nat} {c : Cell} {r : List Cell} (hr : r.length = w) : fillRow 0 w c r = List.replicate w c := by
  unfold fillRow
  rw [List.drop_of_length_le (by omega)]; simp
theorem setRow_copy {w y : Nat} {L r s : List Cell} (hr : r.length = w) (hs : s.length = w) (hy : y * w + w ≤ L.length) :
    (setRow w y r L).take (y * w) ++ s.take (min w w) ++ (setRow w y r L).drop (y * w + min w w) = setRow w y s L := by
  rw [Nat.min_self]
  have := setRow_lay (l := 0) (rt := w) (s := s) hr (by omega) (Nat.le_refl _) (by omega) hy
  simp only [Nat.add_zero, Nat.sub_zero] at this
  rw [this]
  have e : layRow 0 w s r = s := by
    unfold layRow
    rw [List.drop_of_length_le (l := r) (by omega), List.take_zero, List.nil_append, List.append_nil, List.take_of_length_le (by omega)]
  rw [e]
set_option maxRecDepth 4000 in
set_option maxHeartbeats 1000000 in
theorem scroll1_how (W : World) (w h n c0 bn bt be bc bg tp en : Nat) (a : Addr) (L : List Cell) (hg : GridOk w h n c0) (hL : ReadsRows W (some a) n 4 Cell.vals L) (hih : en ≤ h) (k : Int) (hk : -9223372036854775808 ≤ k ∧ k ≤ 9223372036854775807) (c : Cell)
    (h1 : W.heap[bn]? = some (.cells #[.int .i64 k] 3 (0, 0))) (h2 : W.heap[bt]? = some (.cells #[.int .i64 (tp : Int)] 3 (0, 0))) (h3 : W.heap[be]? = some (.cells #[.int .i64 (en : Int)] 3 (0, 0)))
    (h4 : W.heap[bc]? = some (.cells #[.int .i32 c.r, .int .u8 c.fg, .int .u8 c.bg, .int .u8 (c.attr.val : Int)] 27 (0, 0))) (h5 : W.heap[bg]? = some (.cells #[.int .i64 (w : Int), .int .i64 (h : Int), .slice (some a) n c0] 38 (0, 0))) :
    HowDoes W w h n tp en 56 #[.pointer (some ⟨bn, 0, none⟩), .pointer (some ⟨bt, 0, none⟩), .pointer (some ⟨be, 0, none⟩), .pointer (some ⟨bc, 0, none⟩), .pointer (some ⟨bg, 0, none⟩)] (fun y _ => scrollRow w tp en k c L y) := by
  intro W1 b cap L1 y hM hb hB hy1 hy2
  obtain ⟨hw1, hw2, hh1, hh2, hn, hcc⟩ := id hg
  have hyw := row_le (y := y) hn (by omega)
  have hL1 := hB.len
  have hrl := rowC_len (y := y) hL1 hn (by omega)
  have H1 := Lib.hid (hM.at h1 (by simp))
  have H2 := Lib.hid (hM.at h2 (by simp))
  have H3 := Lib.hid (hM.at h3 (by simp))
  have H4 := Lib.hid (hM.at h4 (by simp))
  have H5 := Lib.hid (hM.at h5 (by simp))
  have n4 : bc ≠ b := by have := heap_lt h4; omega
  have n5 : bg ≠ b := by have := heap_lt h5; omega
  have hLl := hL.1
  have HLb : ∀ X, Mods [b] W1 X → ReadsRows X (some a) n 4 Cell.vals L := fun X hX => hL.keepsM (fun _ => rfl) (hM.then hX (fun k hk => .inr (by simp at hk; omega))) (by simp)
  have HLB := Lib.hid HLb
  have HLL := Lib.hid hLl
  have HN := Lib.hid hn
  have HB := Lib.hid hB
  have HL1 := Lib.hid hL1
  have HRL := Lib.hid hrl
  have HYW := Lib.hid hyw
  have C1 := blk_cell H1.out 0
  have C2 := blk_cell H2.out 0
  have C3 := blk_cell H3.out 0
  obtain ⟨r, fg, bg', at'⟩ := c
  clear h1 h2 h3 h4 h5 hn hB hL1 hrl hM hg hL HLb hLl hyw
  show Calls _ _ #[.int .i64 (y : Int), .slice (some ⟨b, y * w * 4, none⟩) w w, .pointer (some ⟨bn, 0, none⟩), .pointer (some ⟨bt, 0, none⟩), .pointer (some ⟨be, 0, none⟩), .pointer (some ⟨bc, 0, none⟩), .pointer (some ⟨bg, 0, none⟩)] _ _
  by_cases hq : (tp : Int) ≤ movedF y k tp en ∧ movedF y k tp en < en
  all_goals
    have hsr : scrollRow w tp en k ⟨r, fg, bg', at'⟩ L y = _ := rfl
    unfold scrollRow at hsr
    have HQ := Lib.hid hq
    go_enter Tryd.func56, Tryd.ntmps56
    go_wp2_with fail
    refine (grid_moved W1 y k tp en (by omega) hk (by omega) (by omega)).mono ?_
    rintro e w1 ⟨rfl, rfl⟩
    clear hsr
  · rw [decide_eq_true HQ.out]
    obtain ⟨f, hf⟩ := Int.eq_ofNat_of_zero_le (show 0 ≤ movedF y k tp en by omega)
    have hfe : f < en := by omega
    have hsr : scrollRow w tp en k ⟨r, fg, bg', at'⟩ L y = rowC w f L := by unfold scrollRow; rw [if_pos HQ.out, hf]; rfl
    rw [hf]
    have HSR := Lib.hid hsr
    clear hsr hf hq
    go_wp2
    clear C1 C2 C3
    go_loopg [22] w (Scroll1Rel W1 b cap n w y ⟨r, fg, bg', at'⟩ L1)
    case atStart => exact ⟨0, rfl, by omega, by rw [fillRow_self, setRow_self (by rw [HL1.out]; exact HYW.out)]; exact HB.out, Mods.refl _ _, by omega⟩
    case round =>
      obtain ⟨x, rfl, hx2, hBx, hMx, hkk⟩ := hrel
      have HBX := Lib.hid hBx
      have HKK := Lib.hid hkk
      clear hBx hkk
      by_cases hlt : x < w
      · have hk2 := HKK.out
        have C4 := fun i => blk_cell (hMx.at H4.out (by simpa using n4)) i
        have x0 : (0 : Int) ≤ (x : Int) := by omega
        have x1 : (x : Int) < (w : Int) := by omega
        go_wp2_with (refine store_cell HBX.out rfl (.tmp 28) (.tmp 27) 27 rfl (by kernel_rfl) (y * w + x) _ (idx4 y w x) ⟨r, fg, bg', at'⟩ rfl rfl (by have := HYW.out; omega) ?_; intro w5 hB5 hM5; have HB5 := Lib.hid hB5; clear hB5)
        go_roundg (gk - 1)
        case measure => omega
        case rel =>
          refine ⟨x + 1, by go_num, by omega, ?_, hMx.trans hM5, by omega⟩
          have := HB5.out
          rwa [setRow_set (fillRow_len HRL.out (by omega) (by omega)) (by rw [HL1.out]; exact HYW.out) (by omega), fillRow_set HRL.out (by omega) (by omega)] at this
      · have hxr : x = w := by omega
        subst hxr
        have C5 := fun i => blk_cell (hMx.at H5.out (by simpa using n5)) i
        go_wp2_with fail
        refine (grid_row _ x h n c0 a f hw1 hw2 hh1 hh2 HN.out hcc (by omega)).mono ?_
        rintro e w2 ⟨rfl, hm2⟩
        have hB2 := HBX.out.keeps hm2 (by simp)
        have HB2 := Lib.hid hB2
        have hrr := (HLB.out _ (hMx.trans (hm2.mono (by simp)))).row_of HN.out (y := f) (by omega)
        have HRR := Lib.hid hrr
        clear hB2 hrr C5
        go_wp2_with (refine copy_own HB2.out rfl (.tmp 31) (.tmp 34) 28 27 rfl Tryd.underlying28 (by kernel_rfl) (y * x) x x x x _ _ rfl rfl (rowC x f L) HRR.out (by have := HYW.out; omega) (fun _ => rfl) ?_; intro w6 hB6 hM6; have HB6 := Lib.hid hB6; clear hB6)
        refine bodyPost_end (results_none rfl _ _ _) rfl ⟨⟨_, rfl⟩, ?_, (hMx.trans (hm2.mono (by simp))).trans hM6⟩
        have := HB6.out
        rw [setRow_copy (fillRow_len HRL.out (by omega) (by omega)) (rowC_len HLL.out HN.out (by omega)) (by rw [HL1.out]; exact HYW.out)] at this
        rw [HSR.out]
        exact this
  · rw [decide_eq_false HQ.out]
    have hsr : scrollRow w tp en k ⟨r, fg, bg', at'⟩ L y = List.replicate w ⟨r, fg, bg', at'⟩ := if_neg HQ.out
    have HSR := Lib.hid hsr
    clear hsr hq
    go_wp2
    clear C1 C2 C3
    go_loopg [22] w (Scroll1Rel W1 b cap n w y ⟨r, fg, bg', at'⟩ L1)
    case atStart => exact ⟨0, rfl, by omega, by rw [fillRow_self, setRow_self (by rw [HL1.out]; exact HYW.out)]; exact HB.out, Mods.refl _ _, by omega⟩
    case round =>
      obtain ⟨x, rfl, hx2, hBx, hMx, hkk⟩ := hrel
      have HBX := Lib.hid hBx
      have HKK := Lib.hid hkk
      clear hBx hkk
      by_cases hlt : x < w
      · have hk2 := HKK.out
        have C4 := fun i => blk_cell (hMx.at H4.out (by simpa using n4)) i
        have x0 : (0 : Int) ≤ (x : Int) := by omega
        have x1 : (x : Int) < (w : Int) := by omega
        go_wp2_with (refine store_cell HBX.out rfl (.tmp 28) (.tmp 27) 27 rfl (by kernel_rfl) (y * w + x) _ (idx4 y w x) ⟨r, fg, bg', at'⟩ rfl rfl (by have := HYW.out; omega) ?_; intro w5 hB5 hM5; have HB5 := Lib.hid hB5; clear hB5)
        go_roundg (gk - 1)
        case measure => omega
        case rel =>
          refine ⟨x + 1, by go_num, by omega, ?_, hMx.trans hM5, by omega⟩
          have := HB5.out
          rwa [setRow_set (fillRow_len HRL.out (by omega) (by omega)) (by rw [HL1.out]; exact HYW.out) (by omega), fillRow_set HRL.out (by omega) (by omega)] at this
      · have hxr : x = w := by omega
        subst hxr
        go_wp2
        refine bodyPost_end (results_none rfl _ _ _) rfl ⟨⟨_, rfl⟩, ?_, hMx⟩
        rw [HSR.out, ← fillRow_all HRL.out]
        exact HBX.out
/-- What Scroll makes of a right grid. -/
def scrollG (w h : Nat) (L : List Cell) (top en k : Int) (c : Cell) : List Cell :=
  changedC w (mn (mx top 0) h).toNat (mn (mx en 0) h).toNat (fun y _ => scrollRow w (mn (mx top 0) h).toNat (mn (mx en 0) h).toNat k c L y) L
theorem clampG (x : Int) (h : Nat) : ∃ k : Nat, mn (mx x 0) (h : Int) = k ∧ k ≤ h := by
  have h1 : 0 ≤ mn (mx x 0) (h : Int) := by unfold mn mx; split <;> split <;> omega
  obtain ⟨k, hk⟩ := Int.eq_ofNat_of_zero_le h1
  refine ⟨k, hk, ?_⟩
  have : mn (mx x 0) (h : Int) ≤ h := by unfold mn; split <;> omega
  omega
theorem scrollRow_len {w h n tp en : Nat} {k : Int} {c : Cell} {L : List Cell} {y : Nat} (hl : L.length = n) (hn : n = w * h) (he : en ≤ h) : (scrollRow w tp en k c L y).length = w := by
  unfold scrollRow
  split
  · exact rowC_len hl hn (by omega)
  · simp
attribute [local go_sem] max2_mx min2_mn max_two min_two
set_option maxRecDepth 4000 in
set_option maxHeartbeats 2000000 in
theorem grid_Scroll (W : World) (w h n c0 : Nat) (a : Addr) (L : List Cell) (top en k : Int) (c : Cell) (hg : GridOk w h n c0) (hL : ReadsRows W (some a) n 4 Cell.vals L) (hr : rightG w h L = true)
    (hk : -9223372036854775808 ≤ k ∧ k ≤ 9223372036854775807) (hc : (c.ok && decide (c.attr.val < 64)) = true) :
    Calls Tryd.prog 27 #[gridV w h (some a) n c0, .int .i64 top, .int .i64 en, .int .i64 k, c.val] W fun e W' => GridOut W W' w h n a (scrollG w h L top en k c) e := by
  obtain ⟨hw1, hw2, hh1, hh2, hn, hcc⟩ := id hg
  have HG := Lib.hid hg
  have HL := Lib.hid hL
  have HLL := Lib.hid hL.1
  have HR := Lib.hid hr
  have HN := Lib.hid hn
  have HC := Lib.hid hc
  obtain ⟨tp, htp, htp2⟩ := clampG top h
  obtain ⟨e', hen, hen2⟩ := clampG en h
  have hsc : scrollG w h L top en k c = changedC w tp e' (fun y _ => scrollRow w tp e' k c L y) L := by
    unfold scrollG
    rw [htp, hen]
    simp only [Int.toNat_natCast]
  have HSC := Lib.hid hsc
  have HTP := Lib.hid htp
  have HEN := Lib.hid hen
  obtain ⟨r, fg, bg, at'⟩ := c
  clear hg hL hr hn hsc htp hen hc
  go_enter Tryd.func27, Tryd.ntmps27
  go_wp2_with fail
  refine Calls.named fun W0 hW0 => ?_
  obtain ⟨hM0, hb5, hb6, hb7, hb8, hb9, hb10, hsz⟩ := boxes6 hW0
  have B5 := Lib.hid hb5
  have B6 := Lib.hid hb6
  have B7 := Lib.hid hb7
  have B8 := Lib.hid hb8
  have B9 := Lib.hid hb9
  have B10 := Lib.hid hb10
  have HSZ := Lib.hid hsz
  have HM0 := Lib.hid hM0
  clear hb5 hb6 hb7 hb8 hb9 hb10 hsz hW0
  refine (grid_Check W0 w h n c0 a L HG.out (HL.out.keepsM (fun _ => rfl) hM0 (by simp))).mono ?_
  rw [HR.out]
  rintro e w1 ⟨rfl, hm1⟩
  have C9 := fun i => blk_cell (hm1.at B9.out (by simp)) i
  go_wp2_with fail
  clear C9
  refine (grid_plain w1 ⟨r, fg, bg, at'⟩).mono ?_
  rw [HC.out]
  rintro e w2 ⟨rfl, hm2⟩
  have hM2 := hm1.trans hm2
  have C5 := fun i => blk_cell (hM2.at B5.out (by simp)) i
  have C6 := fun i => blk_cell (hM2.at B6.out (by simp)) i
  have C7 := fun i => blk_cell (hM2.at B7.out (by simp)) i
  go_wp2_with fail
  have hb6 := hM2.at B6.out (by simp)
  have hb7 := hM2.at B7.out (by simp)
  have hx1 := blk_set hb6 0 (.int .i64 (mn (mx top 0) (h : Int)))
  have hm6 := (Mods.refl [W.heap.size + 1, W.heap.size + 1 + 1] w2).setCell ⟨W.heap.size + 1, 0, none⟩ (.int .i64 (mn (mx top 0) (h : Int))) (.inl (by simp))
  have hb7' := (((Mods.refl [W.heap.size + 1] w2).setCell ⟨W.heap.size + 1, 0, none⟩ (.int .i64 (mn (mx top 0) (h : Int))) (.inl (by simp))).at hb7 (by simp))
  have hx2 := blk_set hb7' 0 (.int .i64 (mn (mx en 0) (h : Int)))
  have hx1' := ((Mods.refl [W.heap.size + 1 + 1] (w2.setCell ⟨W.heap.size + 1, 0, none⟩ (.int .i64 (mn (mx top 0) (h : Int))))).setCell ⟨W.heap.size + 1 + 1, 0, none⟩ (.int .i64 (mn (mx en 0) (h : Int))) (.inl (by simp))).at hx1 (by simp)
  have hm7 := hm6.setCell ⟨W.heap.size + 1 + 1, 0, none⟩ (.int .i64 (mn (mx en 0) (h : Int))) (.inl (by simp))
  have HX1 := Lib.hid hx1'
  have HX2 := Lib.hid hx2
  have HM7 := Lib.hid hm7
  clear hx1 hx1' hx2 hm6 hm7 hb7'
  have hs2 := hM2.size
  have hsz := HSZ.out
  go_cut [] from 20 (fun wx => wx.heap[W.heap.size + 1]? = some (.cells #[.int .i64 (mn (mx top 0) (h : Int))] 3 (0, 0)) ∧ wx.heap[W.heap.size + 1 + 1]? = some (.cells #[.int .i64 (mn (mx en 0) (h : Int))] 3 (0, 0)) ∧ Mods [W.heap.size + 1, W.heap.size + 1 + 1] w2 wx)
  case first =>
    have D6 : w2.drew.cell? ⟨W.heap.size + 1, 0, none⟩ = some (.int .i64 top) := C6 0
    have D7 : w2.drew.cell? ⟨W.heap.size + 1 + 1, 0, none⟩ = some (.int .i64 en) := C7 0
    have D5 : w2.drew.cell? ⟨W.heap.size, 1, none⟩ = some (.int .i64 (h : Int)) := C5 1
    have F6 : w2.frozen? ⟨W.heap.size + 1, 0, none⟩ = false := blk_frozen hb6 0
    have F7 : w2.frozen? ⟨W.heap.size + 1 + 1, 0, none⟩ = false := blk_frozen hb7 0
    have E7 : w2.cell? ⟨W.heap.size + 1 + 1, 0, none⟩ = some (.int .i64 en) := C7 0
    have E5 : w2.cell? ⟨W.heap.size, 1, none⟩ = some (.int .i64 (h : Int)) := C5 1
    clear C5 C6 C7 hb6 hb7
    go_region
    go_wp2_with fail
    go_meet
    exact ⟨HX1.out, HX2.out, HM7.out.drew⟩
  case rest =>
    obtain ⟨hx1, hx2, hm7⟩ := hcut
    rw [HTP.out] at hx1
    rw [HEN.out] at hx2
    have HX1' := Lib.hid hx1
    have HX2' := Lib.hid hx2
    have hM3 : Mods [W.heap.size + 1, W.heap.size + 1 + 1] W0 wc := (hM2.mono (by simp)).trans hm7
    have C5' := fun i => blk_cell (hM3.at B5.out (by simp; omega)) i
    have C6' := fun i => blk_cell hx1 i
    have C7' := fun i => blk_cell hx2 i
    have hs3 := hM3.size
    have hMW : Mods [] W wc := HM0.out.then hM3 (fun k hk => .inr (by simp at hk; omega))
    clear C5 C6 C7 hb6 hb7
    go_wp2_with fail
    refine (grid_changed wc w h n c0 a L tp e' tp e' 56 _ (fun y _ => scrollRow w tp e' k ⟨r, fg, bg, at'⟩ L y) HG.out (HL.out.keepsM (fun _ => rfl) hMW (by simp)) (by unfold mx; split <;> omega) (fun y _ => by unfold mn; split <;> omega) hen2 (fun y r' hr' => scrollRow_len HLL.out HN.out hen2) (enters_of Tryd.func56 (by kernel_rfl) rfl)
      (scroll1_how wc w h n c0 _ _ _ _ _ tp e' a L HG.out (HL.out.keepsM (fun _ => rfl) hMW (by simp)) hen2 k hk ⟨r, fg, bg, at'⟩ (hM3.at B8.out (by simp; omega)) HX1'.out HX2'.out (hM3.at B9.out (by simp; omega)) (hM3.at B5.out (by simp; omega)))).mono ?_
    rintro e w5 ⟨b, cap, rfl, hB, hge, hm5⟩
    have hM5 := hM3.trans (hm5.mono (by simp))
    have HB10 := Lib.hid (hM5.at B10.out (by simp; omega))
    clear C5' C6' C7'
    go_wp2_with (refine store_blk HB10.out rfl (.tmp 10) (.tmp 34) 38 rfl (c' := #[.int .i64 (w : Int), .int .i64 (h : Int), .slice (some ⟨b, 0, none⟩) n cap]) (by kernel_rfl) rfl rfl rfl (by simp [Value.oneCell']) ?_; intro w6 hb6 hm6; have HB7 := Lib.hid hb6; clear hb6)
    have CF := fun i => blk_cell HB7.out i
    have hM6 := (hMW.trans hm5).then hm6 (fun k hk => .inr (by simp at hk; omega))
    have hB6 := hB.keeps hm6 (by simp; omega)
    have hnc := hB6.cap
    exact bodyPost_ret (v := gridV w h (some ⟨b, 0, none⟩) n cap) (by simp [results, Tryd.results27, go_sem, CF]) rfl (by rw [HSC.out]; exact ⟨⟨b, 0, none⟩, cap, rfl, hnc, hB6.reads, .inr ⟨rfl, by show W.heap.size ≤ b; omega, hB6⟩, hM6⟩)
end Go.Proofs.YtldjmacnokkjdaaDoor
/- grid.Blit. -/
namespace Go.Proofs.YtldjmacnokkjdaaDoor
open Go.RowKit Go.Shelf
set_option linter.unusedVariables false
set_option linter.unusedSimpArgs false

def blitRow (w2 : Nat) (l rt : Nat) (x yy : Int) (L2 : List Cell) (y : Nat) (r : List Cell) : List Cell := layRow l rt ((rowC w2 ((y : Int) - yy).toNat L2).drop ((l : Int) - x).toNat) r
set_option maxRecDepth 4000 in
set_option maxHeartbeats 1000000 in
theorem blit1_how (W : World) (w h n lo hi bl br bg byy bx l rt : Nat) (hn : n = w * h) (hih : hi ≤ h) (hh : h ≤ 60) (hw : w ≤ 200) (hl : l < rt) (hr : rt ≤ w) (x yy : Int) (w2 h2 n2 c2 : Nat) (a2 : Addr) (L2 : List Cell) (hg2 : GridOk w2 h2 n2 c2) (hs : ReadsRows W (some a2) n2 4 Cell.vals L2)
    (hx : x ≤ l ∧ rt - x ≤ w2) (hx0 : -1000000 ≤ x) (hyy : -1000000 ≤ yy ∧ yy ≤ 1000000) (hy : ∀ y : Nat, lo ≤ y → y < hi → yy ≤ y ∧ y - yy < h2)
    (h1 : W.heap[bl]? = some (.cells #[.int .i64 (l : Int)] 3 (0, 0))) (h2' : W.heap[br]? = some (.cells #[.int .i64 (rt : Int)] 3 (0, 0))) (h3 : W.heap[bg]? = some (.cells #[.int .i64 (w2 : Int), .int .i64 (h2 : Int), .slice (some a2) n2 c2] 38 (0, 0)))
    (h4 : W.heap[byy]? = some (.cells #[.int .i64 yy] 3 (0, 0))) (h5 : W.heap[bx]? = some (.cells #[.int .i64 x] 3 (0, 0))) :
    HowDoes W w h n lo hi 58 #[.pointer (some ⟨bl, 0, none⟩), .pointer (some ⟨br, 0, none⟩), .pointer (some ⟨bg, 0, none⟩), .pointer (some ⟨byy, 0, none⟩), .pointer (some ⟨bx, 0, none⟩)] (fun y r => blitRow w2 l rt x yy L2 y r) := by
  intro W1 b cap L1 y hM hb hB hy1 hy2
  obtain ⟨q1, q2, q3, q4, hn2, hc2⟩ := id hg2
  obtain ⟨p1, p2⟩ := hy y hy1 hy2
  obtain ⟨x1, x2⟩ := hx
  have hyw := row_le (y := y) hn (by omega)
  have hL1 := hB.len
  obtain ⟨d, hd⟩ := Int.eq_ofNat_of_zero_le (show 0 ≤ (l : Int) - x by omega)
  obtain ⟨j, hj⟩ := Int.eq_ofNat_of_zero_le (show 0 ≤ (y : Int) - yy by omega)
  have hjh : j < h2 := by omega
  have hdw : d < w2 := by omega
  have hdk2 : rt - l ≤ w2 - d := by omega
  have hdk : d ≤ w2 := by omega
  have H1 := Lib.hid (hM.at h1 (by simp))
  have H2 := Lib.hid (hM.at h2' (by simp))
  have H3 := Lib.hid (hM.at h3 (by simp))
  have H4 := Lib.hid (hM.at h4 (by simp))
  have H5 := Lib.hid (hM.at h5 (by simp))
  have m1 : bl ≠ b := by have := heap_lt h1; omega
  have m2 : br ≠ b := by have := heap_lt h2'; omega
  have m3 : bg ≠ b := by have := heap_lt h3; omega
  have m4 : byy ≠ b := by have := heap_lt h4; omega
  have m5 : bx ≠ b := by have := heap_lt h5; omega
  have HB := Lib.hid hB
  have C1 : W1.cell? ⟨bl, 0, none⟩ = some (.int .i64 (l : Int)) := blk_cell H1.out 0
  have C2 : W1.cell? ⟨br, 0, none⟩ = some (.int .i64 (rt : Int)) := blk_cell H2.out 0
  have C30 : W1.cell? ⟨bg, 0, none⟩ = some (.int .i64 (w2 : Int)) := blk_cell H3.out 0
  have C31 : W1.cell? ⟨bg, 1, none⟩ = some (.int .i64 (h2 : Int)) := blk_cell H3.out 1
  have C32 : W1.cell? ⟨bg, 2, none⟩ = some (.slice (some a2) n2 c2) := blk_cell H3.out 2
  have C4 : W1.cell? ⟨byy, 0, none⟩ = some (.int .i64 yy) := blk_cell H4.out 0
  have C5 : W1.cell? ⟨bx, 0, none⟩ = some (.int .i64 x) := blk_cell H5.out 0
  have KA : ∀ X, Mods [b] W1 X → (X.cell? ⟨bl, 0, none⟩ = some (.int .i64 (l : Int)) ∧ X.cell? ⟨br, 0, none⟩ = some (.int .i64 (rt : Int)) ∧ X.cell? ⟨bg, 0, none⟩ = some (.int .i64 (w2 : Int)) ∧ X.cell? ⟨bg, 1, none⟩ = some (.int .i64 (h2 : Int)) ∧ X.cell? ⟨bg, 2, none⟩ = some (.slice (some a2) n2 c2) ∧ X.cell? ⟨byy, 0, none⟩ = some (.int .i64 yy) ∧ X.cell? ⟨bx, 0, none⟩ = some (.int .i64 x)) :=
    fun X hX => ⟨hX.cell C1 (by simpa using m1), hX.cell C2 (by simpa using m2), hX.cell C30 (by simpa using m3), hX.cell C31 (by simpa using m3), hX.cell C32 (by simpa using m3), hX.cell C4 (by simpa using m4), hX.cell C5 (by simpa using m5)⟩
  have hrow2 := (hs.keepsM (fun _ => rfl) hM (by simp)).row_of hn2 hjh
  have HROW2 := Lib.hid hrow2
  have HRL2 := Lib.hid hrow2.1
  have hbl : blitRow w2 l rt x yy L2 y = fun r => layRow l rt ((rowC w2 j L2).drop d) r := by unfold blitRow; rw [hd, hj]; rfl
  have HBL := Lib.hid hbl
  have hwr : IntKind.i64.wrap ((l : Int) - x) = (d : Int) := by rw [IntWalk.i64_in _ (by omega)]; exact hd
  have hwr2 : IntKind.i64.wrap ((y : Int) - yy) = (j : Int) := by rw [IntWalk.i64_in _ (by omega)]; exact hj
  have HL1 := Lib.hid hL1
  have HYW := Lib.hid hyw
  have HN2 := Lib.hid hn2
  have HWR := Lib.hid hwr
  have HWR2 := Lib.hid hwr2
  clear h1 h2' h3 h4 h5 hn hB hM hs hL1 hyw hn2 hrow2 hbl hd hj hy hwr hwr2
  show Calls _ _ #[.int .i64 (y : Int), .slice (some ⟨b, y * w * 4, none⟩) w w, .pointer (some ⟨bl, 0, none⟩), .pointer (some ⟨br, 0, none⟩), .pointer (some ⟨bg, 0, none⟩), .pointer (some ⟨byy, 0, none⟩), .pointer (some ⟨bx, 0, none⟩)] _ _
  have l0 : (0 : Int) ≤ (l : Int) := by omega
  have l1 : (l : Int) ≤ (rt : Int) := by omega
  have l2 : (rt : Int) ≤ (w : Int) := by omega
  have d0 : (0 : Int) ≤ (d : Int) := by omega
  have d1 : (d : Int) ≤ (w2 : Int) := by omega
  have hwr := HWR.out
  have hwr2 := HWR2.out
  go_enter Tryd.func58, Tryd.ntmps58
  have KA0 := KA _ (Mods.refl [b] W1)
  have hmin : min (w2 - d) (rt - l) = rt - l := Nat.min_eq_right hdk2
  have hfit : y * w + l + (rt - l) ≤ n := by have := HYW.out; omega
  have hsl2 : rt - l ≤ ((rowC w2 j L2).drop d).length := by simp [HRL2.out]; omega
  have HMIN := Lib.hid hmin
  have HFIT := Lib.hid hfit
  have HSL2 := Lib.hid hsl2
  clear hmin hfit hsl2 C1 C2 C30 C31 C32 C4 C5
  go_region_held3 (fun X => X.cell? ⟨bl, 0, none⟩ = some (.int .i64 (l : Int)) ∧ X.cell? ⟨br, 0, none⟩ = some (.int .i64 (rt : Int)) ∧ X.cell? ⟨bg, 0, none⟩ = some (.int .i64 (w2 : Int)) ∧ X.cell? ⟨bg, 1, none⟩ = some (.int .i64 (h2 : Int)) ∧ X.cell? ⟨bg, 2, none⟩ = some (.slice (some a2) n2 c2) ∧ X.cell? ⟨byy, 0, none⟩ = some (.int .i64 yy) ∧ X.cell? ⟨bx, 0, none⟩ = some (.int .i64 x))
    (first
      | exact KA0
      | with_reducible exact KA _ hmW
      | with_reducible exact KA _ hmW2)
    (first
      | (go_at_call 48; refine (grid_row _ w2 h2 n2 c2 a2 j q1 q2 q3 q4 HN2.out hc2 hjh).mono ?_; rintro r w1 ⟨rfl, hm⟩; have hmW : Mods [b] W1 w1 := (Mods.refl [b] W1).drew.trans (hm.mono (by simp)))
      | (refine step_copy_own (HB.out.keeps ((Mods.refl [] W1).drew.trans hm) (by simp)) rfl (.tmp 12) (.tmp 21) 28 27 rfl Tryd.underlying28 (by kernel_rfl) (y * w + l) (rt - l) (w - l) (w2 - d) (w2 - d) (if w = l then some ⟨b, y * w * 4, none⟩ else some ⟨b, y * w * 4 + l * 4, none⟩) (if w2 = d then some (a2.add (j * w2 * 4)) else some ((a2.add (j * w2 * 4)).add (d * 4))) (by go_simp) (by go_simp) ((rowC w2 j L2).drop d) (by rw [if_neg (by omega)]; have := (HROW2.out.keepsM (fun _ => rfl) ((Mods.refl [] W1).drew.trans hm) (by simp)).cut d (w2 - d) (by omega); rwa [List.take_of_length_le (by simp [HRL2.out])] at this) (by rw [HMIN.out]; exact HFIT.out) (fun _ => by rw [if_neg (by omega), Nat.add_mul]) ?_; intro w4 hB4 hM4; have hmW2 := hmW.trans hM4; have HB4 := Lib.hid hB4; clear hB4))
  have hB4 := HB4.out
  rw [HMIN.out] at hB4
  refine bodyPost_end (results_none rfl _ _ _) rfl ⟨⟨_, rfl⟩, ?_, hmW2⟩
  rw [HBL.out]
  show CellB w4 b n cap (setRow w y (layRow l rt ((rowC w2 j L2).drop d) (rowC w y L1)) L1)
  rw [← setRow_lay0 (by omega) hr HSL2.out (by rw [HL1.out]; exact HYW.out)]
  exact hB4
theorem changedC_congr {w lo hi : Nat} {F G : Nat → List Cell → List Cell} {L : List Cell} (hlh : lo ≤ hi) (h : ∀ y r, lo ≤ y → y < hi → F y r = G y r) : changedC w lo hi F L = changedC w lo hi G L := by
  unfold changedC
  have key : ∀ (l : List Nat), (∀ y ∈ l, lo ≤ y ∧ y < hi) → ∀ L, l.foldl (chg1 w F) L = l.foldl (chg1 w G) L := by
    intro l
    induction l with
    | nil => intro _ _; rfl
    | cons y l ih =>
      intro hl L
      obtain ⟨h1, h2⟩ := hl y (by simp)
      rw [List.foldl_cons, List.foldl_cons, ih (fun z hz => hl z (by simp [hz]))]
      congr 1
      unfold chg1
      rw [h y _ h1 h2]
  exact key _ (fun y hy => by rw [List.mem_range'] at hy; obtain ⟨i, h1, h2⟩ := hy; omega) L
theorem HowDoes.congr {W : World} {w h n lo hi fh : Nat} {lb : Array Value} {F G : Nat → List Cell → List Cell} (hF : HowDoes W w h n lo hi fh lb F) (he : ∀ y r, lo ≤ y → y < hi → G y r = F y r) : HowDoes W w h n lo hi fh lb G := by
  intro W1 b cap L1 y hM hb hB hy1 hy2
  rw [he y _ hy1 hy2]
  exact hF W1 b cap L1 y hM hb hB hy1 hy2
/-- What Blit makes of two right grids. -/
def blitG (w h : Nat) (L : List Cell) (w2 h2 : Nat) (L2 : List Cell) (x y : Int) : List Cell :=
  if (spanF x w2 w).1 = (spanF x w2 w).2 then L else changedC w (spanF y h2 h).1.toNat (spanF y h2 h).2.toNat (fun y' r => blitRow w2 (spanF x w2 w).1.toNat (spanF x w2 w).2.toNat x y L2 y' r) L
theorem blitRow_len {w w2 h2 n2 l rt y : Nat} {x yy : Int} {L2 r : List Cell} (hr : r.length = w) (hl : l ≤ rt) (hrt : rt ≤ w) (hx : x ≤ l ∧ rt - x ≤ w2) (h2l : L2.length = n2) (hn2 : n2 = w2 * h2) (hy : yy ≤ y ∧ y - yy < h2) : (blitRow w2 l rt x yy L2 y r).length = w := by
  unfold blitRow
  refine layRow_len hr hl hrt ?_
  rw [List.length_drop, rowC_len h2l hn2 (by omega)]
  omega
set_option maxRecDepth 4000 in
set_option maxHeartbeats 2000000 in
theorem grid_Blit (W : World) (w h n c0 : Nat) (a : Addr) (L : List Cell) (w2 h2 n2 c2 : Nat) (a2 : Addr) (L2 : List Cell) (x y : Int) (hg : GridOk w h n c0) (hL : ReadsRows W (some a) n 4 Cell.vals L) (hr : rightG w h L = true)
    (hg2 : GridOk w2 h2 n2 c2) (hL2 : ReadsRows W (some a2) n2 4 Cell.vals L2) (hr2 : rightG w2 h2 L2 = true)
    (hx : -1000000 ≤ x ∧ x ≤ 1000000) (hy : -1000000 ≤ y ∧ y ≤ 1000000) :
    Calls Tryd.prog 28 #[gridV w h (some a) n c0, gridV w2 h2 (some a2) n2 c2, .int .i64 x, .int .i64 y] W fun e W' => GridOut W W' w h n a (blitG w h L w2 h2 L2 x y) e := by
  obtain ⟨hw1, hw2, hh1, hh2, hn, hcc⟩ := id hg
  obtain ⟨kw1, kw2, kh1, kh2, kn, kcc⟩ := id hg2
  have HG := Lib.hid hg
  have HG2 := Lib.hid hg2
  have HL := Lib.hid hL
  have HLL2 := Lib.hid hL2.1
  have HL2 := Lib.hid hL2
  have HR := Lib.hid hr
  have HR2 := Lib.hid hr2
  have HN := Lib.hid hn
  have HN2 := Lib.hid kn
  obtain ⟨s1, s2, s3⟩ := span_le x w2 w (by omega)
  obtain ⟨t1, t2, t3⟩ := span_le y h2 h (by omega)
  obtain ⟨l, hl⟩ := Int.eq_ofNat_of_zero_le s1
  obtain ⟨rt, hrt⟩ := Int.eq_ofNat_of_zero_le (Int.le_trans s1 s2)
  obtain ⟨tp, htp⟩ := Int.eq_ofNat_of_zero_le t1
  obtain ⟨en, hen⟩ := Int.eq_ofNat_of_zero_le (Int.le_trans t1 t2)
  have hmx := span_many x w2 w
  have hmy := span_many y h2 h
  rw [hl, hrt] at hmx
  rw [htp, hen] at hmy
  have hblit : blitG w h L w2 h2 L2 x y = if l = rt then L else changedC w tp en (fun y' r => blitRow w2 l rt x y L2 y' r) L := by
    unfold blitG
    rw [hl, hrt, htp, hen]
    simp only [Int.toNat_natCast, Int.natCast_inj]
  have HBLIT := Lib.hid hblit
  have hlr : l ≤ rt := by omega
  have hrw2 : rt ≤ w := by omega
  have hte : tp ≤ en := by omega
  have heh : en ≤ h := by omega
  have HS1 := Lib.hid hl
  have HS2 := Lib.hid hrt
  have HS3 := Lib.hid htp
  have HS4 := Lib.hid hen
  have HMX := Lib.hid hmx
  have HMY := Lib.hid hmy
  clear hg hL hr hn hg2 hL2 hr2 kn hl hrt htp hen hblit s1 s2 s3 t1 t2 t3 hmx hmy
  go_enter Tryd.func28, Tryd.ntmps28
  go_wp2_with fail
  refine Calls.named fun W0 hW0 => ?_
  obtain ⟨hM0, hb4, hb5, hb6, hb7, hb8, hsz⟩ := boxes5 hW0
  have B4 := Lib.hid hb4
  have B5 := Lib.hid hb5
  have B6 := Lib.hid hb6
  have B7 := Lib.hid hb7
  have B8 := Lib.hid hb8
  have HSZ := Lib.hid hsz
  have HM0 := Lib.hid hM0
  clear hb4 hb5 hb6 hb7 hb8 hsz hW0
  refine (grid_Check W0 w h n c0 a L HG.out (HL.out.keepsM (fun _ => rfl) hM0 (by simp))).mono ?_
  rw [HR.out]
  rintro e w1 ⟨rfl, hm1⟩
  have C5 := fun i => blk_cell (hm1.at B5.out (by simp)) i
  go_wp2_with fail
  clear C5
  refine (grid_Check w1 w2 h2 n2 c2 a2 L2 HG2.out (HL2.out.keepsM (fun _ => rfl) (hM0.trans hm1) (by simp))).mono ?_
  rw [HR2.out]
  rintro e w2' ⟨rfl, hm2⟩
  have hM2 := hm1.trans hm2
  have C4 := fun i => blk_cell (hM2.at B4.out (by simp)) i
  have C5 := fun i => blk_cell (hM2.at B5.out (by simp)) i
  have C6 := fun i => blk_cell (hM2.at B6.out (by simp)) i
  go_wp2_with fail
  refine (grid_span w2' x w2 w hx (by omega) (by omega)).mono ?_
  rw [HS1.out, HS2.out]
  rintro e w3 ⟨rfl, rfl⟩
  have hb9 := blk_alloc (blk_new w2' (.cells #[.int .i64 (l : Int)] 3)) (.cells #[.int .i64 (rt : Int)] 3)
  have hb10 := blk_new' (w2'.alloc (.cells #[.int .i64 (l : Int)] 3)) (.cells #[.int .i64 (rt : Int)] 3) (k := w2'.heap.size + 1) (by simp)
  have hM3 : Mods [] W0 ((w2'.alloc (.cells #[.int .i64 (l : Int)] 3)).alloc (.cells #[.int .i64 (rt : Int)] 3)) := (hM2.alloc _).alloc _
  have D4 := fun i => blk_cell (hM3.at B4.out (by simp)) i
  have D5 := fun i => blk_cell (hM3.at B5.out (by simp)) i
  have D7 := fun i => blk_cell (hM3.at B7.out (by simp)) i
  have D9 := fun i => blk_cell hb9 i
  have D10 := fun i => blk_cell hb10 i
  go_wp2_with fail
  clear C4 C5 C6
  generalize (w2'.alloc (.cells #[.int .i64 (l : Int)] 3)).alloc (.cells #[.int .i64 (rt : Int)] 3) = W3 at *
  have B9 := Lib.hid hb9
  have B10 := Lib.hid hb10
  have hs2 := hM2.size
  clear hb9 hb10
  refine (grid_span W3 y h2 h hy (by omega) (by omega)).mono ?_
  rw [HS3.out, HS4.out]
  rintro e w4 ⟨rfl, rfl⟩
  by_cases hlt : l = rt
  · subst hlt
    have hb8 := hM3.at B8.out (by simp)
    have HB8 := Lib.hid hb8
    clear hb8
    go_wp2_with (refine store_blk HB8.out rfl (.tmp 8) (.tmp 43) 38 rfl (c' := #[.int .i64 (w : Int), .int .i64 (h : Int), .slice (some a) n c0]) (by kernel_rfl) rfl rfl rfl (by simp [Value.oneCell']) ?_; intro w5 hb5 hm5; have HB5 := Lib.hid hb5; clear hb5)
    have CF := fun i => blk_cell HB5.out i
    have hM5 := (HM0.out.trans hM3).then hm5 (fun k hk => .inr (by simp at hk; omega))
    clear D4 D5 D7 D9 D10
    exact bodyPost_ret (v := gridV w h (some a) n c0) (by simp [results, Tryd.results28, go_sem, CF]) rfl (by rw [HBLIT.out]; simp only [if_true]; exact ⟨a, c0, rfl, hcc, HL.out.keepsM (fun _ => rfl) hM5 (by simp), .inl rfl, hM5⟩)
  · have hlt2 : l < rt := by omega
    have hb : ((l : Int) == (rt : Int)) = false := by simp; omega
    have HLT := Lib.hid hlt
    clear hlt
    go_wp2_with fail
    have hMW := HM0.out.trans hM3
    have hmx := HMX.out (by omega)
    have hyr : ∀ y' : Nat, tp ≤ y' → y' < en → y ≤ y' ∧ y' - y < h2 := by
      intro y' h1 h2'
      have := HMY.out (by omega)
      omega
    refine (grid_changed W3 w h n c0 a L tp en tp en 58 _ (fun y' r' => if tp ≤ y' ∧ y' < en then blitRow w2 l rt x y L2 y' r' else r') HG.out (HL.out.keepsM (fun _ => rfl) hMW (by simp)) (by unfold mx; split <;> omega) (fun y _ => by unfold mn; split <;> omega) heh
      (fun y' r' hr' => by
        split
        · rename_i hq
          exact blitRow_len hr' hlr hrw2 hmx HLL2.out HN2.out (hyr y' hq.1 hq.2)
        · exact hr') (enters_of Tryd.func58 (by kernel_rfl) rfl)
      ((blit1_how W3 w h n tp en _ _ _ _ _ l rt HN.out heh hh2 hw2 hlt2 hrw2 x y w2 h2 n2 c2 a2 L2 HG2.out (HL2.out.keepsM (fun _ => rfl) hMW (by simp)) hmx hx.1 hy hyr B9.out B10.out (hM3.at B5.out (by simp)) (hM3.at B7.out (by simp)) (hM3.at B6.out (by simp))).congr (fun y' r' h1 h2 => if_pos ⟨h1, h2⟩))).mono ?_
    rintro e w5 ⟨b, cap, rfl, hB, hge, hm5⟩
    have hM5 := hM3.trans hm5
    have HB8 := Lib.hid (hM5.at B8.out (by simp))
    have hs3 := hM3.size
    clear D4 D5 D7 D9 D10 hb
    go_wp2_with (refine store_blk HB8.out rfl (.tmp 8) (.tmp 48) 38 rfl (c' := #[.int .i64 (w : Int), .int .i64 (h : Int), .slice (some ⟨b, 0, none⟩) n cap]) (by kernel_rfl) rfl rfl rfl (by simp [Value.oneCell']) ?_; intro w6 hb6 hm6; have HB7 := Lib.hid hb6; clear hb6)
    have CF := fun i => blk_cell HB7.out i
    have hM6 := (HM0.out.trans hM5).then hm6 (fun k hk => .inr (by simp at hk; omega))
    have hsz := HSZ.out
    have hB6 := hB.keeps hm6 (by simp; omega)
    have hnc := hB6.cap
    have hcg : changedC w tp en (fun y' r' => if tp ≤ y' ∧ y' < en then blitRow w2 l rt x y L2 y' r' else r') L = changedC w tp en (fun y' r' => blitRow w2 l rt x y L2 y' r') L := changedC_congr hte (fun y' r' h1 h2 => if_pos ⟨h1, h2⟩)
    rw [hcg] at hB6
    exact bodyPost_ret (v := gridV w h (some ⟨b, 0, none⟩) n cap) (by simp [results, Tryd.results28, go_sem, CF]) rfl (by rw [HBLIT.out, if_neg HLT.out]; exact ⟨⟨b, 0, none⟩, cap, rfl, hnc, hB6.reads, .inr ⟨rfl, by show W.heap.size ≤ b; omega, hB6⟩, hM6⟩)
end Go.Proofs.YtldjmacnokkjdaaDoor
/- grid.Resize. -/
namespace Go.Proofs.YtldjmacnokkjdaaDoor
open Go.RowKit Go.Shelf
set_option linter.unusedVariables false
set_option linter.unusedSimpArgs false

theorem right_blanks (n : Nat) : rightC (List.replicate n blankC) = true := by
  induction n with
  | zero => rfl
  | succ n ih =>
    rw [List.replicate_succ, rightC_1, ih]
    exact blank_size blankC _
theorem rightG_blanks (w h : Nat) : rightG w h (List.replicate (w * h) blankC) = true := by
  unfold rightG
  rw [List.all_eq_true]
  intro y hy
  unfold rowC
  rw [List.drop_replicate, List.take_replicate]
  exact right_blanks _
theorem fillC_len {w h n : Nat} {L : List Cell} {x y rw' rh : Int} {c : Cell} (hl : L.length = n) (hn : n = w * h) : (fillC w h L x y rw' rh c).length = n := by
  obtain ⟨s1, s2, s3⟩ := span_le x rw' w (by omega)
  obtain ⟨t1, t2, t3⟩ := span_le y rh h (by omega)
  unfold fillC
  split
  · exact hl
  · exact changed_len (fun _ r hr => fillRow_len hr (by omega) (by omega)) L hl hn (by omega)
theorem right_fillC {w h n : Nat} {L : List Cell} {x y rw' rh : Int} {c : Cell} (hl : L.length = n) (hn : n = w * h) (hr : rightG w h L = true) : rightG w h (fillC w h L x y rw' rh c) = true := by
  obtain ⟨s1, s2, s3⟩ := span_le x rw' w (by omega)
  obtain ⟨t1, t2, t3⟩ := span_le y rh h (by omega)
  unfold fillC
  split
  · exact hr
  · exact right_changed (fun _ r hr => fillRow_len hr (by omega) (by omega)) L hl hn (by omega) hr
/-- What Resize makes of a right grid. -/
def resizeG (w h : Nat) (L : List Cell) (w' h' : Nat) (c : Cell) : List Cell := blitG w' h' (fillC w' h' (List.replicate (w' * h') blankC) 0 0 w' h' c) w h L 0 0
def GridNew (W W' : World) (w h n : Nat) (L : List Cell) (e : Ending) : Prop :=
  ∃ a c, e = .returned (gridV w h (some a) n c) ∧ n ≤ c ∧ ReadsRows W' (some a) n 4 Cell.vals L ∧ W.heap.size ≤ a.block ∧ Mods [] W W'
set_option maxRecDepth 4000 in
set_option maxHeartbeats 2000000 in
theorem grid_Resize (W : World) (w h n c0 : Nat) (a : Addr) (L : List Cell) (w' h' : Nat) (c : Cell) (hg : GridOk w h n c0) (hL : ReadsRows W (some a) n 4 Cell.vals L) (hr : rightG w h L = true)
    (gw1 : 1 ≤ w') (gw2 : w' ≤ 200) (gh1 : 1 ≤ h') (gh2 : h' ≤ 60) (hc : (c.ok && decide (c.attr.val < 64)) = true) :
    Calls Tryd.prog 29 #[gridV w h (some a) n c0, .int .i64 (w' : Int), .int .i64 (h' : Int), c.val] W fun e W' => GridNew W W' w' h' (w' * h') (resizeG w h L w' h' c) e := by
  have HG := Lib.hid hg
  have HL := Lib.hid hL
  have HR := Lib.hid hr
  have HC := Lib.hid hc
  obtain ⟨r, fg, bg, at'⟩ := c
  clear hg hL hr hc
  go_enter Tryd.func29, Tryd.ntmps29
  go_wp2_with fail
  refine Calls.named fun W0 hW0 => ?_
  obtain ⟨hM0, hb4, hb7, hb8, hsz⟩ := boxes3 hW0
  have B4 := Lib.hid hb4
  have B7 := Lib.hid hb7
  have B8 := Lib.hid hb8
  have HSZ := Lib.hid hsz
  have HM0 := Lib.hid hM0
  clear hb4 hb7 hb8 hsz hW0
  refine (grid_Check W0 w h n c0 a L HG.out (HL.out.keepsM (fun _ => rfl) hM0 (by simp))).mono ?_
  rw [HR.out]
  rintro e w1 ⟨rfl, hm1⟩
  have C7 := fun i => blk_cell (hm1.at B7.out (by simp)) i
  go_wp2_with fail
  refine (grid_may _ _ _).mono ?_
  have hd : decide (1 ≤ (w' : Int) ∧ (w' : Int) ≤ 200 ∧ 1 ≤ (h' : Int) ∧ (h' : Int) ≤ 60) = true := by simp; omega
  rw [hd]
  clear hd
  rintro e w1' ⟨rfl, rfl⟩
  go_wp2_with fail
  clear C7
  refine (grid_plain w1 ⟨r, fg, bg, at'⟩).mono ?_
  rw [HC.out]
  rintro e w2 ⟨rfl, hm2⟩
  have hM2 := hm1.trans hm2
  have K40 : w2.cell? ⟨W.heap.size, 0, none⟩ = some (.int .i64 (w : Int)) := blk_cell (hM2.at B4.out (by simp)) 0
  have K41 : w2.cell? ⟨W.heap.size, 1, none⟩ = some (.int .i64 (h : Int)) := blk_cell (hM2.at B4.out (by simp)) 1
  have K42 : w2.cell? ⟨W.heap.size, 2, none⟩ = some (.slice (some a) n c0) := blk_cell (hM2.at B4.out (by simp)) 2
  have K70 : w2.cell? ⟨W.heap.size + 1, 0, none⟩ = some (.int .i32 r) := blk_cell (hM2.at B7.out (by simp)) 0
  have K71 : w2.cell? ⟨W.heap.size + 1, 1, none⟩ = some (.int .u8 fg) := blk_cell (hM2.at B7.out (by simp)) 1
  have K72 : w2.cell? ⟨W.heap.size + 1, 2, none⟩ = some (.int .u8 bg) := blk_cell (hM2.at B7.out (by simp)) 2
  have K73 : w2.cell? ⟨W.heap.size + 1, 3, none⟩ = some (.int .u8 (at'.val : Int)) := blk_cell (hM2.at B7.out (by simp)) 3
  have hs2 := hM2.size
  have hsz := HSZ.out
  have hlt8 := heap_lt B8.out
  have KA : ∀ X, Mods [W.heap.size + 1 + 1] w2 X → (X.cell? ⟨W.heap.size, 0, none⟩ = some (.int .i64 (w : Int)) ∧ X.cell? ⟨W.heap.size, 1, none⟩ = some (.int .i64 (h : Int)) ∧ X.cell? ⟨W.heap.size, 2, none⟩ = some (.slice (some a) n c0) ∧ X.cell? ⟨W.heap.size + 1, 0, none⟩ = some (.int .i32 r) ∧ X.cell? ⟨W.heap.size + 1, 1, none⟩ = some (.int .u8 fg) ∧ X.cell? ⟨W.heap.size + 1, 2, none⟩ = some (.int .u8 bg) ∧ X.cell? ⟨W.heap.size + 1, 3, none⟩ = some (.int .u8 (at'.val : Int))) :=
    fun X hX => ⟨hX.cell K40 (by simp; omega), hX.cell K41 (by simp; omega), hX.cell K42 (by simp; omega), hX.cell K70 (by simp), hX.cell K71 (by simp), hX.cell K72 (by simp), hX.cell K73 (by simp)⟩
  have KA0 := KA _ (Mods.refl _ w2)
  have hn' : w' * h' = w' * h' := rfl
  have GOK : Hid (GridOk w' h' (w' * h') (w' * h')) := Lib.hid ⟨gw1, gw2, gh1, gh2, rfl, Nat.le_refl _⟩
  have CS : Hid ((-1000000 : Int) ≤ (w' : Int) ∧ (w' : Int) ≤ 1000000) := Lib.hid ⟨by omega, by omega⟩
  have CS2 : Hid ((-1000000 : Int) ≤ (h' : Int) ∧ (h' : Int) ≤ 1000000) := Lib.hid ⟨by omega, by omega⟩
  clear K40 K41 K42 K70 K71 K72 K73
  go_wp2_with fail
  go_region_held3 (fun X => X.cell? ⟨W.heap.size, 0, none⟩ = some (.int .i64 (w : Int)) ∧ X.cell? ⟨W.heap.size, 1, none⟩ = some (.int .i64 (h : Int)) ∧ X.cell? ⟨W.heap.size, 2, none⟩ = some (.slice (some a) n c0) ∧ X.cell? ⟨W.heap.size + 1, 0, none⟩ = some (.int .i32 r) ∧ X.cell? ⟨W.heap.size + 1, 1, none⟩ = some (.int .u8 fg) ∧ X.cell? ⟨W.heap.size + 1, 2, none⟩ = some (.int .u8 bg) ∧ X.cell? ⟨W.heap.size + 1, 3, none⟩ = some (.int .u8 (at'.val : Int)))
    (first
      | exact KA0
      | with_reducible exact KA _ (hmA.mono (by simp))
      | with_reducible exact KA _ (hmB.mono (by simp))
      | with_reducible exact KA _ (hmC.mono (by simp))
      | with_reducible exact KA _ ((((hmC.mono (by simp)).setCell _ _ (.inl (by simp))).setCell _ _ (.inl (by simp))).setCell _ _ (.inl (by simp))))
    (first
      | (go_at_call 49; refine (grid_New _ w' h' gw1 gw2 gh1 gh2).mono ?_; rintro e wA ⟨g, rfl, hB, hge, hm⟩; have hmA : Mods [] w2 wA := (Mods.refl [] w2).drew.trans hm; have hRA := hB.reads)
      | (go_at_call 25; refine (grid_Fill _ w' h' (w' * h') (w' * h') ⟨g, 0, none⟩ _ 0 0 w' h' ⟨r, fg, bg, at'⟩ GOK.out hRA (rightG_blanks w' h') (by decide) (by decide) CS.out CS2.out HC.out).mono ?_; rintro e wB ⟨a1, c1, rfl, hc1, hRB, hor, hm'⟩; have hmB : Mods [] w2 wB := hmA.trans hm')
      | (go_at_call 28; refine (grid_Blit _ w' h' (w' * h') c1 a1 _ w h n c0 a L 0 0 ⟨gw1, gw2, gh1, gh2, rfl, hc1⟩ hRB (right_fillC (by simp) rfl (rightG_blanks w' h')) HG.out (HL.out.keepsM (fun _ => rfl) (HM0.out.trans (hM2.trans hmB)) (by simp)) HR.out (by decide) (by decide)).mono ?_; rintro e wC ⟨a3, c3, rfl, hc3, hRC, hor3, hm3⟩; have hmC : Mods [] w2 wC := hmB.trans hm3; have hb8C := hmC.at (hM2.at B8.out (by simp)) (by simp); have CC := fun i => blk_cell hb8C i; have FC := fun i => blk_frozen hb8C i; have HB8C := Lib.hid hb8C; clear hb8C))
  rename_i hHeld
  clear hHeld
  have e8 := blk_set (blk_set (blk_set HB8C.out 0 (.int .i64 (w' : Int))) 1 (.int .i64 (h' : Int))) 2 (.slice (some a3) (w' * h') c3)
  simp at e8
  have hm9 := (((Mods.refl [W.heap.size + 1 + 1] wC).setCell ⟨W.heap.size + 1 + 1, 0, none⟩ (.int .i64 (w' : Int)) (.inl (by simp))).setCell ⟨W.heap.size + 1 + 1, 1, none⟩ (.int .i64 (h' : Int)) (.inl (by simp))).setCell ⟨W.heap.size + 1 + 1, 2, none⟩ (.slice (some a3) (w' * h') c3) (.inl (by simp))
  clear CC FC
  generalize ((wC.setCell ⟨W.heap.size + 1 + 1, 0, none⟩ (.int .i64 (w' : Int))).setCell ⟨W.heap.size + 1 + 1, 1, none⟩ (.int .i64 (h' : Int))).setCell ⟨W.heap.size + 1 + 1, 2, none⟩ (.slice (some a3) (w' * h') c3) = W9 at *
  have hsA := hmA.size
  have hsB := hmB.size
  have hge' : w2.heap.size ≤ g := hge
  have hb1 : W0.heap.size ≤ a1.block := by
    rcases hor with h1 | ⟨_, h1, _⟩
    · rw [h1]; show W0.heap.size ≤ g; omega
    · omega
  have hb3 : W0.heap.size ≤ a3.block := by
    rcases hor3 with h1 | ⟨_, h1, _⟩
    · rw [h1]; exact hb1
    · omega
  have hRD := hRC.keepsM (fun _ => rfl) hm9 (by intro a' ha'; cases ha'; simp; omega)
  have hM9 := (HM0.out.trans (hM2.trans hmC)).then hm9 (fun k hk => .inr (by simp at hk; omega))
  have CF := fun i => blk_cell e8 i
  go_wp2_with fail
  exact bodyPost_ret (v := gridV w' h' (some a3) (w' * h') c3) (by simp [results, Tryd.results29, go_sem, CF]) rfl ⟨a3, c3, rfl, hc3, hRD, by omega, hM9⟩
end Go.Proofs.YtldjmacnokkjdaaDoor
/- grid.Shift. -/
namespace Go.Proofs.YtldjmacnokkjdaaDoor
open Go.RowKit Go.Shelf
set_option linter.unusedVariables false
set_option linter.unusedSimpArgs false

/-- The cell that a place of a shifted row has. -/
def shiftAt (w x : Nat) (k : Int) (c : Cell) (old : List Cell) (i : Nat) : Cell :=
  if (x : Int) ≤ movedF i (-k) x w ∧ movedF i (-k) x w < w then (old[(movedF i (-k) x w).toNat]?).getD c else c
/-- Cells of a function of the place in the places x to i. -/
def mapRow (x i : Nat) (f : Nat → Cell) (r : List Cell) : List Cell := r.take x ++ (List.range' x (i - x)).map f ++ r.drop i
theorem mapRow_len {x i w : Nat} {f : Nat → Cell} {r : List Cell} (hr : r.length = w) (hl : x ≤ i) (hx : i ≤ w) : (mapRow x i f r).length = w := by unfold mapRow; simp [hr]; omega
theorem mapRow_get {x j w : Nat} {f : Nat → Cell} {r : List Cell} (hr : r.length = w) (hl : x ≤ j) (hx : j ≤ w) (i : Nat) : (mapRow x j f r)[i]? = if x ≤ i ∧ i < j then some (f i) else r[i]? := by
  unfold mapRow
  have e1 : (r.take x).length = x := by simp; omega
  by_cases h1 : i < x
  · rw [if_neg (by omega), List.append_assoc, List.getElem?_append_left (by omega), List.getElem?_take, if_pos h1]
  · by_cases h2 : i < j
    · rw [if_pos (by omega), List.append_assoc, List.getElem?_append_right (by omega), List.getElem?_append_left (by simp; omega), e1, List.getElem?_map, List.getElem?_range' (by omega)]
      simp
      congr 1; omega
    · rw [if_neg (by omega), List.getElem?_append_right (by simp; omega), List.getElem?_drop]
      congr 1
      simp; omega
theorem mapRow_self {x : Nat} {f : Nat → Cell} {r : List Cell} : mapRow x x f r = r := by unfold mapRow; simp
theorem mapRow_set {x j w : Nat} {f : Nat → Cell} {r : List Cell} (hr : r.length = w) (hl : x ≤ j) (hx : j < w) : (mapRow x j f r).set j (f j) = mapRow x (j + 1) f r := by
  apply List.ext_getElem?
  intro i
  rw [List.getElem?_set, mapRow_get hr hl (by omega), mapRow_get hr (by omega) (by omega), mapRow_len hr hl (by omega)]
  by_cases h : j = i
  · subst h; rw [if_pos rfl, if_pos hx, if_pos (by omega)]
  · rw [if_neg h]
    by_cases h2 : x ≤ i ∧ i < j
    · rw [if_pos h2, if_pos (by omega)]
    · rw [if_neg h2, if_neg (by omega)]
def Shift1Rel (W1 : World) (b cap n w y x : Nat) (f : Nat → Cell) (L1 : List Cell) (kk : Nat) (idx : Value) (wr : World) : Prop :=
  ∃ i : Nat, idx = .int .i64 (i : Int) ∧ x ≤ i ∧ i ≤ w ∧ CellB wr b n cap (setRow w y (mapRow x i f (rowC w y L1)) L1) ∧ Mods [b] W1 wr ∧ kk + i = w + x
set_option maxRecDepth 4000 in
set_option maxHeartbeats 2000000 in
theorem shift1_how (W : World) (w h n c0 lo hi bx bg bn bc bo x yo : Nat) (a : Addr) (L : List Cell) (hg : GridOk w h n c0) (hL : ReadsRows W (some a) n 4 Cell.vals L) (hyo : yo < h) (hih : hi ≤ h) (hx : x ≤ w) (k : Int) (hk : -1000000 ≤ k ∧ k ≤ 1000000) (c : Cell)
    (h1 : W.heap[bx]? = some (.cells #[.int .i64 (x : Int)] 3 (0, 0))) (h2 : W.heap[bg]? = some (.cells #[.int .i64 (w : Int), .int .i64 (h : Int), .slice (some a) n c0] 38 (0, 0))) (h3 : W.heap[bn]? = some (.cells #[.int .i64 k] 3 (0, 0)))
    (h4 : W.heap[bc]? = some (.cells #[.int .i32 c.r, .int .u8 c.fg, .int .u8 c.bg, .int .u8 (c.attr.val : Int)] 27 (0, 0))) (h5 : W.heap[bo]? = some (.cells #[.slice (some (a.add (yo * w * 4))) w w] 28 (0, 0))) :
    HowDoes W w h n lo hi 73 #[.pointer (some ⟨bx, 0, none⟩), .pointer (some ⟨bg, 0, none⟩), .pointer (some ⟨bn, 0, none⟩), .pointer (some ⟨bc, 0, none⟩), .pointer (some ⟨bo, 0, none⟩)] (fun _ r => mapRow x w (shiftAt w x k c (rowC w yo L)) r) := by
  intro W1 b cap L1 y hM hb hB hy1 hy2
  obtain ⟨hw1, hw2, hh1, hh2, hn, hcc⟩ := id hg
  have hyw := row_le (y := y) hn (by omega)
  have hL1 := hB.len
  have hrl := rowC_len (y := y) hL1 hn (by omega)
  have m1 : bx ≠ b := by have := heap_lt h1; omega
  have m2 : bg ≠ b := by have := heap_lt h2; omega
  have m3 : bn ≠ b := by have := heap_lt h3; omega
  have m4 : bc ≠ b := by have := heap_lt h4; omega
  have m5 : bo ≠ b := by have := heap_lt h5; omega
  have H1 := Lib.hid (hM.at h1 (by simp))
  have H2 := Lib.hid (hM.at h2 (by simp))
  have H3 := Lib.hid (hM.at h3 (by simp))
  have H4 := Lib.hid (hM.at h4 (by simp))
  have H5 := Lib.hid (hM.at h5 (by simp))
  have hLl := hL.1
  have HOb : ∀ X, Mods [b] W1 X → ReadsRows X (some (a.add (yo * w * 4))) w 4 Cell.vals (rowC w yo L) := fun X hX => (hL.keepsM (fun _ => rfl) (hM.then hX (fun k hk => .inr (by simp at hk; omega))) (by simp)).row_of hn hyo
  have HOB := Lib.hid HOb
  have hol := rowC_len (y := yo) hLl hn hyo
  have HOL := Lib.hid hol
  have HN := Lib.hid hn
  have HB := Lib.hid hB
  have HL1 := Lib.hid hL1
  have HRL := Lib.hid hrl
  have HYW := Lib.hid hyw
  have C1 := blk_cell H1.out 0
  generalize hold : rowC w yo L = old at *
  generalize a.add (yo * w * 4) = ao at *
  obtain ⟨r, fg, bg', at'⟩ := c
  clear h1 h2 h3 h4 h5 hn hB hL1 hrl hM hL hol hLl hyw hold HOb
  have nk : IntKind.i64.wrap (-k) = -k := IntWalk.i64_in _ (by omega)
  have NK := Lib.hid nk
  show Calls _ _ #[.int .i64 (y : Int), .slice (some ⟨b, y * w * 4, none⟩) w w, .pointer (some ⟨bx, 0, none⟩), .pointer (some ⟨bg, 0, none⟩), .pointer (some ⟨bn, 0, none⟩), .pointer (some ⟨bc, 0, none⟩), .pointer (some ⟨bo, 0, none⟩)] _ _
  go_enter Tryd.func73, Tryd.ntmps73
  go_wp2
  clear C1
  go_loopg [9] w (Shift1Rel W1 b cap n w y x (shiftAt w x k ⟨r, fg, bg', at'⟩ old) L1)
  case atStart => exact ⟨x, rfl, Nat.le_refl _, hx, by rw [mapRow_self, setRow_self (by rw [HL1.out]; exact HYW.out)]; exact HB.out, Mods.refl _ _, by omega⟩
  case round =>
    obtain ⟨i, rfl, hx1, hx2, hBx, hMx, hkk⟩ := hrel
    have HBX := Lib.hid hBx
    have HKK := Lib.hid hkk
    clear hBx hkk
    have C2 := fun i => blk_cell (hMx.at H2.out (by simpa using m2)) i
    by_cases hlt : i < w
    · have hk2 := HKK.out
      have C1 := fun i => blk_cell (hMx.at H1.out (by simpa using m1)) i
      have C3 := fun i => blk_cell (hMx.at H3.out (by simpa using m3)) i
      have C4 := fun i => blk_cell (hMx.at H4.out (by simpa using m4)) i
      have i0 : (0 : Int) ≤ (i : Int) := by omega
      have i1 : (i : Int) < (w : Int) := by omega
      go_wp2_with fail
      refine (grid_moved wr i (-k) x w (by omega) (by omega) (by omega) (by omega)).mono ?_
      rintro e w2 ⟨rfl, rfl⟩
      by_cases hq : (x : Int) ≤ movedF i (-k) x w ∧ movedF i (-k) x w < w
      · rw [decide_eq_true hq]
        obtain ⟨f, hf⟩ := Int.eq_ofNat_of_zero_le (show 0 ≤ movedF i (-k) x w by omega)
        obtain ⟨d, hd⟩ : ∃ d, old[f]? = some d := ⟨_, List.getElem?_eq_getElem (by rw [HOL.out]; omega)⟩
        have hsa : shiftAt w x k ⟨r, fg, bg', at'⟩ old i = d := by unfold shiftAt; rw [if_pos hq, hf]; simp [hd]
        have HSA := Lib.hid hsa
        have HD := Lib.hid hd
        have hfw : f < w := by omega
        have f0 : (0 : Int) ≤ (f : Int) := by omega
        have f1 : (f : Int) < (w : Int) := by omega
        rw [hf]
        clear hf hsa hd hq
        obtain ⟨d1, d2, d3, d4⟩ := d
        clear C1 C2 C3
        go_wp2_with
          (first
            | (refine store_cell HBX.out rfl (.tmp 32) (.tmp 31) 27 rfl (by kernel_rfl) (y * w + i) _ (idx4 y w i) ⟨r, fg, bg', at'⟩ rfl rfl (by have := HYW.out; omega) ?_; intro w5 hB5 hM5; have HB5 := Lib.hid hB5; clear hB5; clear C4; have C5 := blk_cell ((hMx.trans hM5).at H5.out (by simpa using m5)) 0; obtain ⟨a2, ha2, c0', hcs⟩ := (HOB.out _ (hMx.trans hM5)).row HD.out; cases ha2; have c1' := hcs 0 (by omega); have c2' := hcs 1 (by omega); have c3' := hcs 2 (by omega); clear hcs; simp only [Cell.vals, List.getElem?_cons_zero, List.getElem?_cons_succ] at c0' c1' c2' c3')
            | (refine store_cell HB5.out rfl (.tmp 40) (.tmp 39) 27 rfl (by kernel_rfl) (y * w + i) _ (idx4 y w i) ⟨d1, d2, d3, d4⟩ rfl rfl (by have := HYW.out; omega) ?_; intro w6 hB6 hM6; have HB6 := Lib.hid hB6; clear hB6; clear C5 c0' c1' c2' c3'))
        go_roundg (gk - 1)
        case measure => omega
        case rel =>
          refine ⟨i + 1, by go_num, by omega, by omega, ?_, (hMx.trans hM5).trans hM6, by omega⟩
          have := HB6.out
          rw [List.set_set, setRow_set (mapRow_len HRL.out hx1 (by omega)) (by rw [HL1.out]; exact HYW.out) (by omega)] at this
          have e := mapRow_set (f := shiftAt w x k ⟨r, fg, bg', at'⟩ old) HRL.out hx1 hlt
          rw [HSA.out] at e
          rw [e] at this
          exact this
      · rw [decide_eq_false hq]
        have hsa : shiftAt w x k ⟨r, fg, bg', at'⟩ old i = ⟨r, fg, bg', at'⟩ := if_neg hq
        have HSA := Lib.hid hsa
        clear hsa hq C1 C2 C3
        go_wp2_with (refine store_cell HBX.out rfl (.tmp 32) (.tmp 31) 27 rfl (by kernel_rfl) (y * w + i) _ (idx4 y w i) ⟨r, fg, bg', at'⟩ rfl rfl (by have := HYW.out; omega) ?_; intro w5 hB5 hM5; have HB5 := Lib.hid hB5; clear hB5)
        go_roundg (gk - 1)
        case measure => omega
        case rel =>
          refine ⟨i + 1, by go_num, by omega, by omega, ?_, hMx.trans hM5, by omega⟩
          have := HB5.out
          rw [setRow_set (mapRow_len HRL.out hx1 (by omega)) (by rw [HL1.out]; exact HYW.out) (by omega)] at this
          have e := mapRow_set (f := shiftAt w x k ⟨r, fg, bg', at'⟩ old) HRL.out hx1 hlt
          rw [HSA.out] at e
          rw [e] at this
          exact this
    · have hxr : i = w := by omega
      subst hxr
      go_wp2
      exact bodyPost_end (results_none rfl _ _ _) rfl ⟨⟨_, rfl⟩, HBX.out, hMx⟩
/-- What Shift makes of a right grid, at a row that is there. -/
def shiftG (w h : Nat) (L : List Cell) (x : Int) (y : Nat) (k : Int) (c : Cell) : List Cell :=
  changedC w y (y + 1) (fun _ r => mapRow (mn (mx x 0) w).toNat w (shiftAt w (mn (mx x 0) w).toNat (mn (mx k (-(w : Int))) w) c (rowC w y L)) r) L
attribute [local go_sem] max2_mx min2_mn max_two min_two
set_option maxRecDepth 4000 in
set_option maxHeartbeats 2000000 in
theorem grid_Shift (W : World) (w h n c0 : Nat) (a : Addr) (L : List Cell) (x : Int) (y : Nat) (k : Int) (c : Cell) (hg : GridOk w h n c0) (hL : ReadsRows W (some a) n 4 Cell.vals L) (hr : rightG w h L = true)
    (hy : y < h) (hc : (c.ok && decide (c.attr.val < 64)) = true) :
    Calls Tryd.prog 52 #[gridV w h (some a) n c0, .int .i64 x, .int .i64 (y : Int), .int .i64 k, c.val] W fun e W' => GridOut W W' w h n a (shiftG w h L x y k c) e := by
  obtain ⟨hw1, hw2, hh1, hh2, hn, hcc⟩ := id hg
  have HG := Lib.hid hg
  have HL := Lib.hid hL
  have HLL := Lib.hid hL.1
  have HR := Lib.hid hr
  have HN := Lib.hid hn
  have HC := Lib.hid hc
  obtain ⟨x', hx', hx2⟩ := clampG x w
  have hk1 : -(w : Int) ≤ mn (mx k (-(w : Int))) w ∧ mn (mx k (-(w : Int))) w ≤ w := by unfold mn mx; split <;> split <;> omega
  have hsc : shiftG w h L x y k c = changedC w y (y + 1) (fun _ r => mapRow x' w (shiftAt w x' (mn (mx k (-(w : Int))) w) c (rowC w y L)) r) L := by
    unfold shiftG
    rw [hx']
    simp only [Int.toNat_natCast]
  have HSC := Lib.hid hsc
  have HX := Lib.hid hx'
  obtain ⟨r, fg, bg, at'⟩ := c
  clear hg hL hr hn hsc hx' hc
  have nw : IntKind.i64.wrap (-(w : Int)) = -(w : Int) := IntWalk.i64_in _ (by omega)
  have d3 : decide ((y : Int) ≥ (h : Int)) = false := by simp; omega
  have d4 : decide (h ≤ y) = false := by simp; omega
  go_enter Tryd.func52, Tryd.ntmps52
  go_wp2_with fail
  refine Calls.named fun W0 hW0 => ?_
  obtain ⟨hM0, hb5, hb6, hb8, hb9, hb10, hsz⟩ := boxes5 hW0
  have B5 := Lib.hid hb5
  have B6 := Lib.hid hb6
  have B8 := Lib.hid hb8
  have B9 := Lib.hid hb9
  have B10 := Lib.hid hb10
  have HSZ := Lib.hid hsz
  have HM0 := Lib.hid hM0
  clear hb5 hb6 hb8 hb9 hb10 hsz hW0
  refine (grid_Check W0 w h n c0 a L HG.out (HL.out.keepsM (fun _ => rfl) hM0 (by simp))).mono ?_
  rw [HR.out]
  rintro e w1 ⟨rfl, hm1⟩
  have C9 := fun i => blk_cell (hm1.at B9.out (by simp)) i
  go_wp2_with fail
  clear C9
  refine (grid_plain w1 ⟨r, fg, bg, at'⟩).mono ?_
  rw [HC.out]
  rintro e w2 ⟨rfl, hm2⟩
  have hM2 := hm1.trans hm2
  have C5 := fun i => blk_cell (hM2.at B5.out (by simp)) i
  have C6 := fun i => blk_cell (hM2.at B6.out (by simp)) i
  have C8 := fun i => blk_cell (hM2.at B8.out (by simp)) i
  have F6 := blk_frozen (hM2.at B6.out (by simp)) 0
  have F8 := blk_frozen (hM2.at B8.out (by simp)) 0
  go_wp2_with fail
  have hb6 := hM2.at B6.out (by simp)
  have hb8 := hM2.at B8.out (by simp)
  have hs2 := hM2.size
  have hsz := HSZ.out
  have hx1 := blk_set hb6 0 (.int .i64 (mn (mx x 0) (w : Int)))
  have hm6 := (Mods.refl [W.heap.size + 1, W.heap.size + 1 + 1] w2).setCell ⟨W.heap.size + 1, 0, none⟩ (.int .i64 (mn (mx x 0) (w : Int))) (.inl (by simp))
  have hb8' := (((Mods.refl [W.heap.size + 1] w2).setCell ⟨W.heap.size + 1, 0, none⟩ (.int .i64 (mn (mx x 0) (w : Int))) (.inl (by simp))).at hb8 (by simp))
  have hx8 := blk_set hb8' 0 (.int .i64 (mn (mx k (-(w : Int))) w))
  have hx6 := ((Mods.refl [W.heap.size + 1 + 1] (w2.setCell ⟨W.heap.size + 1, 0, none⟩ (.int .i64 (mn (mx x 0) (w : Int))))).setCell ⟨W.heap.size + 1 + 1, 0, none⟩ (.int .i64 (mn (mx k (-(w : Int))) w)) (.inl (by simp))).at hx1 (by simp)
  have hm7 := hm6.setCell ⟨W.heap.size + 1 + 1, 0, none⟩ (.int .i64 (mn (mx k (-(w : Int))) w)) (.inl (by simp))
  simp at hx6 hx8
  clear C5 C6 C8 F6 F8 hx1 hb8' hb6 hb8 hm6 nw
  generalize (w2.setCell ⟨W.heap.size + 1, 0, none⟩ (.int .i64 (mn (mx x 0) (w : Int)))).setCell ⟨W.heap.size + 1 + 1, 0, none⟩ (.int .i64 (mn (mx k (-(w : Int))) w)) = W2 at *
  have hM3 : Mods [W.heap.size + 1, W.heap.size + 1 + 1] W0 W2 := (hM2.mono (by simp)).trans hm7
  rw [HX.out] at hx6
  rw [HX.out]
  generalize mn (mx k (-(w : Int))) w = k' at *
  refine (grid_row W2 w h n c0 a y hw1 hw2 hh1 hh2 HN.out hcc hy).mono ?_
  rintro e w3 ⟨rfl, hm3⟩
  have hM4 : Mods [W.heap.size + 1, W.heap.size + 1 + 1] W0 (w3.alloc (.cells #[.slice (some (a.add (y * w * 4))) w w] 28)) := (hM3.trans (hm3.mono (by simp))).alloc _
  have hm4 : Mods [] W2 (w3.alloc (.cells #[.slice (some (a.add (y * w * 4))) w w] 28)) := hm3.alloc _
  have hb11 := blk_new w3 (.cells #[.slice (some (a.add (y * w * 4))) w w] 28)
  have hb6 := hm4.at hx6 (by simp)
  have hb8 := hm4.at hx8 (by simp)
  have C5 := fun i => blk_cell (hM4.at B5.out (by simp; omega)) i
  clear hx6 hx8 hm4
  go_wp2_with fail
  clear C5
  generalize w3.alloc (.cells #[.slice (some (a.add (y * w * 4))) w w] 28) = W4 at *
  have hMW : Mods [] W W4 := HM0.out.then hM4 (fun k hk => .inr (by simp at hk; omega))
  have hs4 := hM4.size
  refine (grid_changed W4 w h n c0 a L y _ y (y + 1) 73 _ (fun _ r' => mapRow x' w (shiftAt w x' k' ⟨r, fg, bg, at'⟩ (rowC w y L)) r') HG.out (HL.out.keepsM (fun _ => rfl) hMW (by simp)) (by unfold mx; split <;> omega) (fun y' _ => by unfold mn; split <;> omega) (by omega) (fun _ r' hr' => mapRow_len hr' hx2 (Nat.le_refl _)) (enters_of Tryd.func73 (by kernel_rfl) rfl)
    (shift1_how W4 w h n c0 y (y + 1) _ _ _ _ _ x' y a L HG.out (HL.out.keepsM (fun _ => rfl) hMW (by simp)) hy (by omega) hx2 k' (by omega) ⟨r, fg, bg, at'⟩ hb6 (hM4.at B5.out (by simp; omega)) hb8 (hM4.at B9.out (by simp; omega)) hb11)).mono ?_
  rintro e w5 ⟨b, cap, rfl, hB, hge, hm5⟩
  have HB10 := Lib.hid ((hM4.trans (hm5.mono (by simp))).at B10.out (by simp; omega))
  go_wp2_with (refine store_blk HB10.out rfl (.tmp 10) (.tmp 52) 38 rfl (c' := #[.int .i64 (w : Int), .int .i64 (h : Int), .slice (some ⟨b, 0, none⟩) n cap]) (by kernel_rfl) rfl rfl rfl (by simp [Value.oneCell']) ?_; intro w6 hb6 hm6; have HB7 := Lib.hid hb6; clear hb6)
  have CF := fun i => blk_cell HB7.out i
  have hM6 := (hMW.trans hm5).then hm6 (fun k hk => .inr (by simp at hk; omega))
  have hB6 := hB.keeps hm6 (by simp; omega)
  have hnc := hB6.cap
  exact bodyPost_ret (v := gridV w h (some ⟨b, 0, none⟩) n cap) (by simp [results, Tryd.results52, go_sem, CF]) rfl (by rw [HSC.out]; exact ⟨⟨b, 0, none⟩, cap, rfl, hnc, hB6.reads, .inr ⟨rfl, by show W.heap.size ≤ b; omega, hB6⟩, hM6⟩)
end Go.Proofs.YtldjmacnokkjdaaDoor
/- history.fit: a row of another length; an append of a row of the call's own, as one step. -/
namespace Go.Proofs.YtldjmacnokkjdaaDoor
open Go.RowKit Go.Shelf
attribute [local go_sem] max2_mx min2_mn max_two min_two
set_option linter.unusedVariables false
set_option linter.unusedSimpArgs false

def fitC (w : Nat) (row : List Cell) : List Cell := mend (row.take w ++ List.replicate (w - min row.length w) blankC)
theorem fitC_len (w : Nat) (row : List Cell) : (fitC w row).length = w := by
  unfold fitC; rw [mend_len]; simp; omega
theorem own_news {W : World} {base : Nat} {e : TypeId} {size n g cap : Nat} {xs : List Value} (h : W.ownsRow base e size (.slice (some ⟨g, 0, none⟩) n cap) n xs) : ∀ j u, xs[j]? = some u → W.cell? ((Addr.mk g 0 none).add j) = some u := by
  intro j u hu
  rw [addr_at, Nat.zero_add]
  exact own_cells h j hu
/-- append_src, as one step of a region that draws its order. -/
theorem step_append_src {P : Program} {ops : Array Oper} {o : Oper} {a : Act} {K : Act → World → Prop} {Q : Exit → Act → World → Prop} {E : Prop} {w W : World} {S : List Nat} (base : Nat) (hgd : o.guard = none) (s x : Operand) (t e : TypeId) (z : Value) (size bytes : Nat)
    (ho : o.op = .call { callee := .builtin .append, args := #[s, x], argTypes := #[t, t] })
    (ht : P.underlying t = some (.slice e)) (hinfo : (P.info? e).map (fun i => (i.zero, i.size, i.bytes)) = some (some z, size, bytes)) (hz : z.cells.size = size) (hs0 : 0 < size) (hb0 : 0 < bytes)
    (v : Value) (n : Nat) (xs : List Value) (ad : Addr) (m c : Nat) (ys : List Value) (hs : a.eval s = v) (hx : a.eval x = .slice (some ad) m c) (hys : ys.length = m * size) (hnews : ∀ j u, ys[j]? = some u → W.cell? (ad.add j) = some u) (h1 : ∀ u ∈ ys, u.oneCell' = true)
    (HO : W.ownsRow base e size v n xs) (HB : Mods S w W) (hbase : base ≤ W.heap.size) (hwb : w.heap.size ≤ base) (hl : (n + m) * bytes ≤ 140737488355328)
    (h : ∀ v1 w1, w1.ownsRow base e size v1 (n + m) (xs ++ ys) → Mods S w w1 → W.grownBy w1 v.ownBlock → (v1.ownBlock = v.ownBlock ∨ ∃ b, v1.ownBlock = some b ∧ W.heap.size ≤ b) → K (a.put o.dst v1) w1) :
    if Region.wanted o (yielded ops a.tmps) = true then Oper.wp P o a W K Q else E := by
  have hw : Region.wanted o (yielded ops a.tmps) = true := by simp [Region.wanted, hgd]
  rw [if_pos hw]
  obtain ⟨i0, hi, hzz⟩ := Option.map_eq_some_iff.1 hinfo
  simp only [Prod.mk.injEq] at hzz
  obtain ⟨hz0, hz1, hz2⟩ := hzz
  have hlen : n + m ≤ 140737488355328 := Nat.le_trans (Nat.le_mul_of_pos_right _ hb0) hl
  obtain ⟨v', w', hr, h2, h3, h4, h5⟩ := run_append_own_at (P := P) W base t o.type e i0 z size bytes ht hi hz0 hz1 hz2 hz hs0 v n xs HO ad m c ys hys hnews h1 (by simp only [maxLen]; omega) hl hbase
  unfold Oper.wp execOp
  simp only [ho, resolve, invoke, builtin, Sem.run_bind, Sem.run_pure, Result.andThen_ok, List.map_toArray, List.map_cons, List.map_nil, hs, hx, hr]
  refine h v' w' h2 (HB.grown h3 (fun k hk => .inr (Nat.le_trans hwb (own_base HO k hk)))) h3 ?_
  rcases h5 with hat | hat
  · exact .inl hat
  · exact .inr ⟨_, hat, Nat.le_refl _⟩
set_option maxRecDepth 4000 in
set_option maxHeartbeats 1000000 in
theorem history_fit (W : World) (A : Option Addr) (n cap : Nat) (row : List Cell) (w : Nat) (h : ReadsRows W A n 4 Cell.vals row) (hcap : n ≤ cap) (hA : A = none → cap = 0) (hsm : n ≤ 1000000) (hw : w ≤ 1000) :
    Calls Tryd.prog 46 #[.slice A n cap, .int .i64 (w : Int)] W fun e W' => ∃ v, e = .returned v ∧ W'.ownsRow W.heap.size 27 4 v w ((fitC w row).flatMap Cell.vals) ∧ Mods [] W W' := by
  have HH := Lib.hid h
  have HL := Lib.hid h.1
  have HA := Lib.hid hA
  obtain ⟨k, hk⟩ : ∃ k, min n w = k := ⟨_, rfl⟩
  have hk1 : k ≤ n := by omega
  have hk2 : k ≤ w := by omega
  have hmn : mn (n : Int) (w : Int) = (k : Int) := by rw [← hk]; unfold mn; split <;> omega
  have HK := Lib.hid hk
  clear h hA hk
  go_enter Tryd.func46, Tryd.ntmps46
  go_wp2_with fail
  refine (clone_cells W A k cap (row.take k) (HH.out.first k hk1) (by omega) (fun e => by have := HA.out e; omega) (by omega)).mono ?_
  rintro e w1 ⟨v1, rfl, hown1, _, hm1⟩
  obtain ⟨A1, c1, rfl, p1, p2, p3⟩ := own_slice' hown1
  have hs1 := hm1.size
  have e1 : IntKind.i64.wrap ((w : Int) - (k : Int)) = ((w - k : Nat) : Int) := by rw [IntWalk.i64_in _ (by omega)]; omega
  have HO1 := Lib.hid hown1
  clear hown1 hmn
  go_wp2_with fail
  refine (cell_Blank w1).mono ?_
  rintro e w2 ⟨rfl, hm2⟩
  have hs2 := hm2.size
  go_wp2_with fail
  refine (slices_Repeat _ ⟨w2.heap.size, 0, none⟩ (w - k) (by omega) blankC (blank_reads w2)).mono ?_
  rintro e w3 ⟨g, rfl, hB, hg, hm3⟩
  have hs3 := hm3.size
  simp only [World.size_alloc] at hg hs3
  have hM3 := hm1.trans (hm2.trans (((Mods.refl [] w2).alloc _).trans hm3))
  have hown3 := own_mods HO1.out (hm2.trans (((Mods.refl [] w2).alloc _).trans hm3)) (by simp)
  have hnews := own_news (hB.own (base := 0) (Nat.zero_le _))
  have HB := Lib.hid hB
  clear hB
  go_wp2_with (at_builtin; go_must (refine append_src (w := W) (S := []) W.heap.size rfl (.tmp 13) (.tmp 20) 28 27 (.agg #[.int .i32 0, .int .u8 0, .int .u8 0, .int .u8 0]) 4 8 rfl Tryd.underlying28 (by kernel_rfl) rfl (by decide) (by decide) (.slice A1 k c1) k ((row.take k).flatMap Cell.vals) ⟨g, 0, none⟩ (w - k) (w - k) ((List.replicate (w - k) blankC).flatMap Cell.vals) rfl rfl (by rw [vals_len]; simp) hnews (vals_one _) hown3 hM3 (by omega) (Nat.le_refl _) (by omega) ?_); intro v4 w4 hown4 hM4 hgr hblk; clear hgr hblk)
  have hkw : k + (w - k) = w := by omega
  rw [hkw, ← List.flatMap_append] at hown4
  have hlen : (row.take k ++ List.replicate (w - k) blankC).length = w := by rw [List.length_append, List.length_take, List.length_replicate, HL.out]; omega
  obtain ⟨A4, c4, rfl, s1, s2, s3⟩ := own_slice' hown4
  obtain ⟨hR4, _, _, _⟩ := own_reads hown4 hlen (by omega)
  have HR4 := Lib.hid hR4
  have hs4 := hM4.size
  clear hown4 hR4 hkw
  refine (cell_Mend w4 A4 w c4 _ HR4.out s1 (by omega)).mono ?_
  rintro e w5 ⟨v5, rfl, hown5, _, hm5⟩
  have HO5 := Lib.hid (own_lower hown5 hs4)
  clear hown5
  go_wp2
  go_ret
  refine ⟨v5, rfl, ?_, hM4.trans hm5⟩
  have hf : fitC w row = mend (row.take k ++ List.replicate (w - k) blankC) := by
    have h1 := HL.out
    have h2 := HK.out
    unfold fitC
    have e1 : row.take w = row.take k := by
      by_cases hc : n ≤ w
      · rw [List.take_of_length_le (by omega), List.take_of_length_le (by omega)]
      · rw [show w = k by omega]
    rw [e1, h1, show w - min n w = w - k by omega]
  rw [hf]
  exact HO5.out
theorem grid_Row_none (W : World) (w h n c : Nat) (A : Option Addr) (y : Int) (hy : y < 0 ∨ (h : Int) ≤ y) :
    Calls Tryd.prog 45 #[gridV w h A n c, .int .i64 y] W fun e W' => e = .returned (.slice none 0 0) ∧ Mods [] W W' := by
  have hM0 := (Mods.refl [] W).alloc (.cells #[.int .i64 (w : Int), .int .i64 (h : Int), .slice A n c] 38)
  go_enter Tryd.func45, Tryd.ntmps45
  go_wp2_with fail
  with_reducible refine (grid_row_none _ w h n c A y hy).mono ?_
  rintro e w2 ⟨rfl, hm2⟩
  go_wp2_with fail
  refine (clone_cells _ none 0 0 [] ⟨rfl, by unfold maxLen; omega, fun i o h => by simp at h⟩ (Nat.le_refl _) (fun _ => ⟨rfl, rfl⟩) (by omega)).mono ?_
  rintro e w3 ⟨v, rfl, hown, hv, hm3⟩
  obtain rfl := hv rfl
  clear hown hv
  go_wp2
  go_ret
  exact ⟨rfl, hM0.trans (hm2.trans hm3)⟩
end Go.Proofs.YtldjmacnokkjdaaDoor
