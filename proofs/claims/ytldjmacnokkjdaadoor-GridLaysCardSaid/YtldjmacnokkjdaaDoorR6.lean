/- The document's answers of layer 6: Row, Check. -/
import Derived.Test.YtldjmacnokkjdaaDoorR5R
namespace Go.Proofs.YtldjmacnokkjdaaDoor
open Go.RowKit
set_option linter.unusedVariables false
set_option linter.unusedSimpArgs false

set_option maxHeartbeats 1000000 in
theorem ref6_Row (W : World) (w h n c : Nat) (a : Addr) (L : List Cell) (y : Nat) (hg : GridOk w h n c) (hL : ReadsRows W (some a) n 4 Cell.vals L) (hy : y < h) :
    Calls Tryd.prog 47 #[gridV w h (some a) n c, .int .i64 (y : Int)] W fun e W' => ∃ v, e = .returned v ∧ W'.ownsRow W.heap.size 27 4 v w ((rowC w y L).flatMap Cell.vals) ∧ Mods [] W W' := by
  obtain ⟨hw1, hw2, hh1, hh2, hn, hc⟩ := hg
  have hle := row_le hn hy
  have hn2 : n ≤ 12000 := by rw [hn]; exact Nat.mul_le_mul hw2 hh2
  have hdiv : n / w = h := by rw [hn]; exact Nat.mul_div_cancel_left h (by omega)
  have hdivI : (n : Int) / (w : Int) = (h : Int) := by rw [← hdiv]; simp
  have hM0 := (Mods.refl [] W).alloc (.cells #[.int .i64 (w : Int), .int .i64 (h : Int), .slice (some a) n c] 38)
  have HR := Lib.hid ((hL.row_of hn hy).keepsM (fun _ => rfl) hM0 (by simp))
  have HN := Lib.hid hn
  have d1 : decide (h ≤ y) = false := by simp; omega
  have d2 : decide ((w : Int) < 1) = false := by simp; omega
  have d2' : decide (w < 1) = false := by simp; omega
  have d2'' : decide (w = 0) = false := by simp; omega
  have d3 : decide ((y : Int) < 0) = false := by simp
  have d4 : decide ((y : Int) ≥ (h : Int)) = false := by simp; omega
  have d5 : decide ((h : Int) > (n : Int) / (w : Int)) = false := by rw [hdivI]; simp
  have hw0 : ¬ w = 0 := by omega
  clear hL hn
  go_enter Tryd.func47, Tryd.ntmps47
  go_upto_region 1 with fail
  go_quiet (fail)
  generalize hW1 : (W.alloc (.cells #[.int .i64 (w : Int), .int .i64 (h : Int), .slice (some a) n c] 38)).drewN nq = W1
  have hm1 : Mods [] W W1 := hW1 ▸ hM0.drewN nq
  have hb := (by rw [← hW1]; exact blk_new W (.cells #[.int .i64 (w : Int), .int .i64 (h : Int), .slice (some a) n c] 38) : W1.heap[W.heap.size]? = some (.cells #[.int .i64 (w : Int), .int .i64 (h : Int), .slice (some a) n c] 38 (0, 0)))
  have hR1 : ReadsRows W1 (some (a.add (y * w * 4))) w 4 Cell.vals (rowC w y L) := by rw [← hW1]; exact HR.out
  have HR1 := Lib.hid hR1
  have hm : IntKind.i64.wrap ((y : Int) * (w : Int)) = ((y * w : Nat) : Int) := by rw [← Int.natCast_mul]; exact IntWalk.i64_in _ (by omega)
  clear hR1 HR hW1 d1 d2 d2' d2'' d3 d4 d5
  generalize y * w = K at *
  have hk : IntKind.i64.wrap ((K : Int) + (w : Int)) = (K : Int) + (w : Int) := IntWalk.i64_in _ (by omega)
  have hcK : ¬ c = K := by omega
  have hm2 : Mods [] W1 (W1.alloc (.cells #[] 27)) := (Mods.refl [] W1).alloc _
  have C := fun i => blk_cell (hm2.at hb (by simp)) i
  have hown0 : (W1.alloc (.cells #[] 27)).ownsRow W1.heap.size 27 4 (.slice (some ⟨W1.heap.size, 0, none⟩) 0 0) 0 [] := own_block (cs := #[]) (blk_new W1 _) (Nat.le_refl _) rfl (by unfold maxLen; omega)
  have HOWN0 := Lib.hid hown0
  have hsz1 := hm1.size
  have HRL := Lib.hid HR1.out.1
  have hrr := HR1.out.keepsM (fun _ => rfl) hm2 (by simp)
  have hmm := hm1.trans hm2
  have HRR := Lib.hid hrr
  clear hown0 hm2 hrr
  go_wp2_with (at_builtin; go_must (refine append_src (w := W) (S := []) W1.heap.size rfl (.tmp 29) (.tmp 43) 28 27 (.agg #[.int .i32 0, .int .u8 0, .int .u8 0, .int .u8 0]) 4 8 rfl Tryd.underlying28 (by kernel_rfl) rfl (by decide) (by decide) _ 0 [] (a.add (K * 4)) (K + w - K) (c - K) ((rowC w y L).flatMap Cell.vals) rfl rfl (by rw [vals_len, HRL.out, Nat.add_sub_cancel_left]) (fun j u hj => by have := rows_news HRR.out 0 (rowC w y L) [] (by simp) j u hj; rwa [Nat.zero_mul, add_zero_addr] at this) (vals_one _) HOWN0.out hmm (by simp) hsz1 (by omega) ?_); intro v1 w6 hown6 hM6 hgr hblk; clear hgr hblk; have HOWN6 := Lib.hid hown6; clear hown6)
  go_ret
  refine ⟨v1, rfl, ?_, hM6⟩
  have := own_lower HOWN6.out hsz1
  rw [Nat.zero_add, Nat.add_sub_cancel_left, List.nil_append] at this
  exact this
theorem Small.row {L : List Cell} (h : Small L) (w y : Nat) : Small (rowC w y L) := fun c hc => h c (List.mem_of_mem_drop (List.mem_of_mem_take hc))
def Check6Rel (W : World) (n : Nat) (kk : Nat) (idx r5 : Value) (wr : World) : Prop := ∃ i : Nat, idx = .int .i64 (i : Int) ∧ i ≤ n ∧ Mods [] W wr ∧ kk + i = n
set_option maxHeartbeats 1000000 in
theorem ref6_Check (W : World) (w h n c : Nat) (a : Addr) (L : List Cell) (hg : GridOk w h n c) (hL : ReadsRows W (some a) n 4 Cell.vals L) (hb : Small L) :
    Calls Tryd.prog 74 #[gridV w h (some a) n c] W fun e W' => ∃ b, e = .returned (.bool b) ∧ Mods [] W W' := by
  obtain ⟨hw1, hw2, hh1, hh2, hn, hc⟩ := id hg
  have HG := Lib.hid hg
  have hn2 : n ≤ 12000 := by rw [hn]; exact Nat.mul_le_mul hw2 hh2
  have HN := Lib.hid hn
  have HL := Lib.hid hL
  have HB := Lib.hid hb
  have hm : IntKind.i64.wrap ((w : Int) * (h : Int)) = (n : Int) := by rw [hn, ← Int.natCast_mul]; exact IntWalk.i64_in _ (by have := hn2; rw [hn] at this; omega)
  have hM0 := (Mods.refl [] W).alloc (.cells #[.int .i64 (w : Int), .int .i64 (h : Int), .slice (some a) n c] 38)
  have hG := Lib.hid (blk_new W (.cells #[.int .i64 (w : Int), .int .i64 (h : Int), .slice (some a) n c] 38))
  clear hn hL hg hb
  go_enter Tryd.func74, Tryd.ntmps74
  go_wp2_with fail
  refine (ref6_size _ _ _).mono ?_
  have hd : decide (1 ≤ (w : Int) ∧ (w : Int) ≤ 200 ∧ 1 ≤ (h : Int) ∧ (h : Int) ≤ 60) = true := by simp; omega
  rw [hd]
  clear hd
  rintro e w1 ⟨rfl, rfl⟩
  go_wp2
  generalize W.alloc (.cells #[.int .i64 (w : Int), .int .i64 (h : Int), .slice (some a) n c] 38) = W0 at *
  clear hm
  go_loopg [4, 5] h (Check6Rel W0 h)
  case atStart => exact ⟨0, rfl, by omega, Mods.refl _ _, by omega⟩
  case round =>
    obtain ⟨i, rfl, hi, hM, hkk⟩ := hrel
    have HKK := Lib.hid hkk
    clear hkk
    have hb := hM.at hG.out (by simp)
    have C := fun j => blk_cell hb j
    clear hb
    by_cases hlt : i < h
    · have hMW := hM0.trans hM
      have hk2 := HKK.out
      go_wp2_with fail
      refine (ref6_Row _ w h n c a L i HG.out (HL.out.keepsM (fun _ => rfl) hMW (by simp)) hlt).mono ?_
      rintro e w2 ⟨v, rfl, hown, hm2⟩
      obtain ⟨A2, c2, rfl, q1, q2, q3⟩ := own_slice' hown
      have hR2 := Lib.hid (own_reads hown (rowC_len HL.out.1 HN.out hlt) (by omega)).1
      clear hown q1 q2 q3 C
      go_wp2_with fail
      refine (ref5_Right w2 A2 w c2 (rowC w i L) hR2.out (HB.out.row w i) (by omega)).mono ?_
      rintro e w3 ⟨b, rfl, hm3⟩
      cases b
      · go_wp2
        go_ret
        exact ⟨false, rfl, hMW.trans (hm2.trans hm3)⟩
      · go_wp2
        go_roundg (gk - 1)
        case measure => omega
        case rel => exact ⟨i + 1, by go_num, by omega, hM.trans (hm2.trans hm3), by omega⟩
    · have hin : i = h := by omega
      subst hin
      go_wp2
      go_ret
      exact ⟨true, rfl, hM0.trans hM⟩
end Go.Proofs.YtldjmacnokkjdaaDoor
