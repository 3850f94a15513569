/- The document's answer of layer 6: all. -/
import Derived.Test.YtldjmacnokkjdaaDoorR6
namespace Go.Proofs.YtldjmacnokkjdaaDoor
open Go.RowKit
set_option linter.unusedVariables false
set_option linter.unusedSimpArgs false

def bolV (b : Bool) : List Value := [.bool b]
def rowA (w : Nat) (rows : List Bool) (C : List Cell) (y : Nat) : List Cell := if rows.getD y false then mend (rowC w y C) else rowC w y C
def allC (w : Nat) (rows : List Bool) (C : List Cell) (k : Nat) : List Cell := (List.range k).flatMap (rowA w rows C)
theorem rowA_len {w h n y : Nat} {rows : List Bool} {C : List Cell} (hl : C.length = n) (hn : n = w * h) (hy : y < h) : (rowA w rows C y).length = w := by
  unfold rowA
  split
  · rw [mend_len, rowC_len hl hn hy]
  · exact rowC_len hl hn hy
theorem allC_succ (w : Nat) (rows : List Bool) (C : List Cell) (k : Nat) : allC w rows C (k + 1) = allC w rows C k ++ rowA w rows C k := by unfold allC; rw [List.range_succ]; simp
theorem allC_len {w h n : Nat} {rows : List Bool} {C : List Cell} (hl : C.length = n) (hn : n = w * h) (k : Nat) (hk : k ≤ h) : (allC w rows C k).length = k * w := by
  induction k with
  | zero => simp [allC]
  | succ k ih => rw [allC_succ, List.length_append, ih (by omega), rowA_len hl hn (by omega), Nat.add_mul]; omega
theorem rowC_all {w h n : Nat} {rows : List Bool} {C : List Cell} (hl : C.length = n) (hn : n = w * h) (k : Nat) (hk : k ≤ h) (y : Nat) (hy : y < k) : rowC w y (allC w rows C k) = rowA w rows C y := by
  induction k with
  | zero => omega
  | succ k ih =>
    have h1 := allC_len (rows := rows) hl hn k (by omega)
    have h2 := rowA_len (rows := rows) hl hn (y := k) (by omega)
    rw [allC_succ]
    by_cases hyk : y = k
    · subst hyk
      unfold rowC
      rw [List.drop_left' h1, List.take_of_length_le (by omega)]
    · have hle : (y + 1) * w ≤ k * w := Nat.mul_le_mul_right _ (by omega)
      rw [Nat.add_mul] at hle
      rw [← ih (by omega) (by omega)]
      unfold rowC
      rw [List.drop_append_of_le_length (by omega), List.take_append_of_le_length (by simp; omega)]
def AllRel (W : World) (w h o : Nat) (rows : List Bool) (C : List Cell) (kk : Nat) (idx r11 : Value) (wr : World) : Prop :=
  ∃ (y : Nat) (v : Value), idx = .int .i64 (y : Int) ∧ y ≤ h ∧ wr.heap[o]? = some (.cells #[.int .i64 (w : Int), .int .i64 (h : Int), v] 38 (0, 0)) ∧ wr.ownsRow (W.heap.size + 2) 27 4 v (y * w) ((allC w rows C y).flatMap Cell.vals) ∧ W.heap.size + 2 ≤ wr.heap.size ∧ Mods [] W wr ∧ kk + y = h
set_option maxRecDepth 4000 in
set_option maxHeartbeats 2000000 in
theorem ref6_all (W : World) (w h n rc cc : Nat) (RA : Option Addr) (a : Addr) (rows : List Bool) (C : List Cell) (hw1 : 1 ≤ w) (hw2 : w ≤ 200) (hh1 : 1 ≤ h) (hh2 : h ≤ 60) (hn : n = w * h) (hcc : n ≤ cc)
    (hR : ReadsRows W RA h 1 bolV rows) (hC : ReadsRows W (some a) n 4 Cell.vals C) (hb : Small C) :
    Calls Tryd.prog 75 #[.int .i64 (w : Int), .int .i64 (h : Int), .slice RA h rc, .slice (some a) n cc] W fun e W' => GridNew W W' w h n (allC w rows C h) e := by
  have hn2 : n ≤ 12000 := by rw [hn]; exact Nat.mul_le_mul hw2 hh2
  have HR := Lib.hid hR
  have HRL := Lib.hid hR.1
  have HC := Lib.hid hC
  have HCL := Lib.hid hC.1
  have HB := Lib.hid hb
  have HN := Lib.hid hn
  clear hR hC hb hn
  go_enter Tryd.func75, Tryd.ntmps75
  go_wp2
  have hb9 := blk_new' (W.alloc (.cells #[.int .i64 0, .int .i64 0, .slice none 0 0] 38)) (.cells #[.int .i64 (w : Int), .int .i64 (h : Int), .slice none 0 0] 38) (k := W.heap.size + 1) (by simp)
  have hb8 := blk_alloc (blk_new W (.cells #[.int .i64 0, .int .i64 0, .slice none 0 0] 38)) (.cells #[.int .i64 (w : Int), .int .i64 (h : Int), .slice none 0 0] 38)
  have hM0 : Mods [] W ((W.alloc (.cells #[.int .i64 0, .int .i64 0, .slice none 0 0] 38)).alloc (.cells #[.int .i64 (w : Int), .int .i64 (h : Int), .slice none 0 0] 38)) := ((Mods.refl [] W).alloc _).alloc _
  generalize hW0 : (W.alloc (.cells #[.int .i64 0, .int .i64 0, .slice none 0 0] 38)).alloc (.cells #[.int .i64 (w : Int), .int .i64 (h : Int), .slice none 0 0] 38) = W0 at *
  have hsz0 : W0.heap.size = W.heap.size + 2 := by rw [← hW0]; simp
  have HM0 := Lib.hid hM0
  have B8 := Lib.hid hb8
  have B9 := Lib.hid hb9
  have HSZ := Lib.hid hsz0
  clear hb8 hb9 hM0 hsz0 hW0
  go_loopg [10, 11] h (fun kk i r wr => AllRel W w h (W.heap.size + 1) rows C kk i r wr ∧ wr.heap[W.heap.size]? = some (.cells #[.int .i64 0, .int .i64 0, .slice none 0 0] 38 (0, 0)))
  case atStart => exact ⟨⟨0, _, rfl, by omega, B9.out, by have := own_nil W0 (W.heap.size + 2) 27 4; rw [Nat.zero_mul]; exact this, by have := HSZ.out; omega, HM0.out, by omega⟩, B8.out⟩
  case round =>
    obtain ⟨⟨y, v, rfl, hy, hbx, hown, hsz, hM, hkk⟩, hb8⟩ := hrel
    have HKK := Lib.hid hkk
    have BX := Lib.hid hbx
    have HOWN := Lib.hid hown
    have H8 := Lib.hid hb8
    have CX := fun i => blk_cell hbx i
    have FX := fun i => blk_frozen hbx i
    obtain ⟨OA, oc, rfl, hoc1, hoc2, hoc3⟩ := own_slice' hown
    clear hkk hbx hown hb8
    by_cases hlt : y < h
    · have hle := row_le HN.out hlt
      have hk2 := HKK.out
      obtain ⟨b, hbv⟩ : ∃ b, rows[y]? = some b := ⟨_, List.getElem?_eq_getElem (by rw [HRL.out]; exact hlt)⟩
      have hra : rowA w rows C y = if b then mend (rowC w y C) else rowC w y C := by unfold rowA; rw [List.getD_eq_getElem?_getD, hbv]; rfl
      have HRA := Lib.hid hra
      obtain ⟨ra, rfl, r0, hr0⟩ := (HR.out.keepsM (fun _ => rfl) hM (by simp)).row hbv
      simp only [bolV, List.getElem?_cons_zero, Nat.zero_add, Nat.mul_one] at r0
      have hrow := Lib.hid ((HC.out.keepsM (fun _ => rfl) hM (by simp)).row_of HN.out hlt)
      have hrl := Lib.hid (rowC_len HCL.out HN.out hlt)
      have hm : IntKind.i64.wrap ((y : Int) * (w : Int)) = ((y * w : Nat) : Int) := by rw [← Int.natCast_mul]; exact IntWalk.i64_in _ (by omega)
      clear hra hbv hr0
      generalize hKK : y * w = K at *
      have HKY := Lib.hid hKK
      have hk : IntKind.i64.wrap ((K : Int) + (w : Int)) = (K : Int) + (w : Int) := IntWalk.i64_in _ (by omega)
      have hcK : ¬ cc = K := by omega
      have y0 : (0 : Int) ≤ (y : Int) := by omega
      have y1 : (y : Int) < (h : Int) := by omega
      clear hKK
      cases b
      · simp only [Bool.false_eq_true, if_false] at HRA
        have HRA2 := HRA
        clear HRA
        go_wp2_with (at_builtin; go_must (refine append_src (w := W) (S := []) (W.heap.size + 2) rfl (.tmp 37) (.tmp 38) 28 27 (.agg #[.int .i32 0, .int .u8 0, .int .u8 0, .int .u8 0]) 4 8 rfl Tryd.underlying28 (by kernel_rfl) rfl (by decide) (by decide) _ K _ (a.add (K * 4)) (K + w - K) (cc - K) ((rowC w y C).flatMap Cell.vals) rfl rfl (by rw [vals_len, hrl.out, Nat.add_sub_cancel_left]) (fun j u hj => by have := rows_news hrow.out 0 (rowC w y C) [] (by simp) j u hj; rwa [Nat.zero_mul, add_zero_addr] at this) (vals_one _) HOWN.out hM (by omega) (by omega) (by omega) ?_); intro v1 w6 hown6 hM6 hgr hblk; rw [Nat.add_sub_cancel_left] at hown6; clear CX FX; have hbx6 := (hgr.block (W.heap.size + 1) (heap_lt BX.out) (fun e => by have := own_base HOWN.out _ e.symm; omega)).trans BX.out; have hb86 := (hgr.block W.heap.size (heap_lt H8.out) (fun e => by have := own_base HOWN.out _ e.symm; omega)).trans H8.out; have C6 := fun i => blk_cell hbx6 i; have F6 := fun i => blk_frozen hbx6 i; have hs6 := hgr.size; clear hgr hblk; obtain ⟨A6, c6, rfl, t1, t2, t3⟩ := own_slice' hown6; clear t1 t2 t3; have HOWN6 := Lib.hid hown6; clear hown6)
        · clear C6 F6 hm hk hcK r0
          go_roundg (gk - 1)
          case measure => omega
          case rel =>
            have e9 := blk_set hbx6 2 (.slice A6 (K + w) c6)
            simp at e9
            have hm9 := (Mods.refl [W.heap.size + 1] w6).setCell ⟨W.heap.size + 1, 2, none⟩ (.slice A6 (K + w) c6) (.inl (by simp))
            have hown9 := own_mods HOWN6.out hm9 (fun k hk => by have := own_base HOWN6.out k hk; simp; omega)
            have hs9 := hm9.size
            refine ⟨⟨y + 1, _, by go_num, by omega, e9, ?_, by omega, hM6.then hm9 (fun k hk => .inr (by simp at hk; omega)), by omega⟩, hm9.at hb86 (by simp)⟩
            rw [allC_succ, HRA2.out, List.flatMap_append, Nat.add_mul, Nat.one_mul, HKY.out]
            exact hown9
      · simp only [if_true] at HRA
        have HRA2 := HRA
        clear HRA
        go_wp2_with fail
        clear CX FX
        refine (ref5_Mend wr (some (a.add (K * 4))) w (cc - K) (rowC w y C) hrow.out (HB.out.row w y) (by omega)).mono ?_
        rintro e w5 ⟨v5, rfl, hown5, hm5⟩
        rw [mendR_mend] at hown5
        obtain ⟨A5, c5, rfl, g1, g2, g3⟩ := own_slice' hown5
        obtain ⟨g5, rfl⟩ := g3 (by omega)
        have hml : (mend (rowC w y C)).length = w := by rw [mend_len, hrl.out]
        have HML := Lib.hid hml
        have hR5 := Lib.hid (own_reads hown5 hml (by omega)).1
        have hownB := own_mods HOWN.out hm5 (by simp)
        have HOWNB := Lib.hid hownB
        have BX5 := Lib.hid (hm5.at BX.out (by simp))
        have H85 := Lib.hid (hm5.at H8.out (by simp))
        have CX := fun i => blk_cell BX5.out i
        have FX := fun i => blk_frozen BX5.out i
        have hM5 := hM.trans hm5
        have hs5 := hm5.size
        clear hown5 hml hownB g1 g2 g3
        go_wp2_with (at_builtin; go_must (refine append_src (w := W) (S := []) (W.heap.size + 2) rfl (.tmp 37) (.tmp 38) 28 27 (.agg #[.int .i32 0, .int .u8 0, .int .u8 0, .int .u8 0]) 4 8 rfl Tryd.underlying28 (by kernel_rfl) rfl (by decide) (by decide) _ K _ ⟨g5, 0, none⟩ w c5 ((mend (rowC w y C)).flatMap Cell.vals) rfl rfl (by rw [vals_len, HML.out]) (fun j u hj => by have := rows_news hR5.out 0 (mend (rowC w y C)) [] (by simp) j u hj; rwa [Nat.zero_mul, add_zero_addr] at this) (vals_one _) HOWNB.out hM5 (by omega) (by omega) (by omega) ?_); intro v1 w6 hown6 hM6 hgr hblk; clear CX FX; have hbx6 := (hgr.block (W.heap.size + 1) (heap_lt BX5.out) (fun e => by have := own_base HOWN.out _ e.symm; omega)).trans BX5.out; have hb86 := (hgr.block W.heap.size (heap_lt H85.out) (fun e => by have := own_base HOWN.out _ e.symm; omega)).trans H85.out; have C6 := fun i => blk_cell hbx6 i; have F6 := fun i => blk_frozen hbx6 i; have hs6 := hgr.size; clear hgr hblk; obtain ⟨A6, c6, rfl, t1, t2, t3⟩ := own_slice' hown6; clear t1 t2 t3; have HOWN6 := Lib.hid hown6; clear hown6)
        · clear C6 F6 hm hk hcK r0
          go_roundg (gk - 1)
          case measure => omega
          case rel =>
            have e9 := blk_set hbx6 2 (.slice A6 (K + w) c6)
            simp at e9
            have hm9 := (Mods.refl [W.heap.size + 1] w6).setCell ⟨W.heap.size + 1, 2, none⟩ (.slice A6 (K + w) c6) (.inl (by simp))
            have hown9 := own_mods HOWN6.out hm9 (fun k hk => by have := own_base HOWN6.out k hk; simp; omega)
            have hs9 := hm9.size
            refine ⟨⟨y + 1, _, by go_num, by omega, e9, ?_, by omega, hM6.then hm9 (fun k hk => .inr (by simp at hk; omega)), by omega⟩, hm9.at hb86 (by simp)⟩
            rw [allC_succ, HRA2.out, List.flatMap_append, Nat.add_mul, Nat.one_mul, HKY.out]
            exact hown9
    · have hin : y = h := by omega
      subst hin
      have hyn : y * w = n := by rw [HN.out, Nat.mul_comm]
      rw [hyn] at HOWN BX CX hoc1 hoc3
      have hsz1 := HSZ.out
      go_wp2_with (refine store_blk H8.out rfl (.tmp 8) (.tmp 41) 38 rfl (c' := #[.int .i64 (w : Int), .int .i64 (y : Int), .slice OA n oc]) (by kernel_rfl) rfl rfl rfl (by simp [Value.oneCell']) ?_; intro w6 hb6 hm6; have HB7 := Lib.hid hb6; clear hb6)
      obtain ⟨g, rfl⟩ := hoc3 (by rw [HN.out]; exact Nat.mul_pos (by omega) (by omega))
      have CF := fun i => blk_cell HB7.out i
      have hown6 := own_mods HOWN.out hm6 (fun k hk => by have := own_base HOWN.out k hk; simp; omega)
      have hR6 := own_reads hown6 (by rw [allC_len HCL.out HN.out y (Nat.le_refl _), hyn]) (by omega)
      have hM6 := hM.then hm6 (fun k hk => .inr (by simp at hk; omega))
      clear CX FX
      exact bodyPost_ret (v := gridV w y (some ⟨g, 0, none⟩) n oc) (by simp [results, Tryd.results75, go_sem, CF]) rfl ⟨⟨g, 0, none⟩, oc, rfl, hoc1, hR6.1, by have := (hR6.2.2.2 ⟨g, 0, none⟩ rfl).1; show W.heap.size ≤ g; simp at this; omega, hM6⟩
end Go.Proofs.YtldjmacnokkjdaaDoor
