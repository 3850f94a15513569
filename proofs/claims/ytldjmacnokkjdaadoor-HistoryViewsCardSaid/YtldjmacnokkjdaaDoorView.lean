/- history.View: what a grid shows, so many rows back. -/
import Derived.Test.YtldjmacnokkjdaaDoorGd
import Derived.Test.YtldjmacnokkjdaaDoorGb
namespace Go.Proofs.YtldjmacnokkjdaaDoor
open Go.RowKit Go.Shelf
attribute [local go_sem] max2_mx min2_mn max_two min_two
set_option linter.unusedVariables false
set_option linter.unusedSimpArgs false

def rowV (w m : Nat) (R : List (List Cell)) (L : List Cell) (i : Nat) : List Cell := fitC w (if i < m then R[i]?.getD [] else rowC w (i - m) L)
def viewL (w gh m : Nat) (R : List (List Cell)) (L : List Cell) (fr : Nat) : List Cell := (List.range gh).flatMap fun j => rowV w m R L (fr + j)
theorem rowV_len (w m : Nat) (R : List (List Cell)) (L : List Cell) (i : Nat) : (rowV w m R L i).length = w := fitC_len _ _
theorem viewL_len (w gh m : Nat) (R : List (List Cell)) (L : List Cell) (fr : Nat) : (viewL w gh m R L fr).length = gh * w := by
  unfold viewL
  induction gh with
  | zero => simp
  | succ n ih => rw [List.range_succ, List.flatMap_append, List.length_append, ih]; simp [rowV_len, Nat.succ_mul]
def ViewRel (W2 : World) (b9 w gh m fr : Nat) (R : List (List Cell)) (L : List Cell) (kk : Nat) (idx s11 : Value) (wr : World) : Prop :=
  ∃ (j : Nat) (v : Value), idx = .int .i64 ((fr + j : Nat) : Int) ∧ j ≤ gh ∧ wr.heap[b9]? = some (.cells #[.int .i64 (w : Int), .int .i64 (gh : Int), v] 38 (0, 0)) ∧
    wr.ownsRow W2.heap.size 27 4 v (j * w) (((List.range j).flatMap fun j => rowV w m R L (fr + j)).flatMap Cell.vals) ∧ v.ownBlock ≠ some b9 ∧ Mods [b9] W2 wr ∧ kk + j = gh
theorem own_still {v v' : Value} {b n : Nat} (hne : v.ownBlock ≠ some b) (h : v'.ownBlock = v.ownBlock ∨ ∃ k, v'.ownBlock = some k ∧ n ≤ k) (hb : b < n) : v'.ownBlock ≠ some b := by
  rcases h with h1 | ⟨k, h1, h2⟩
  · rw [h1]; exact hne
  · rw [h1]; simp; omega
set_option maxRecDepth 100000 in
set_option maxHeartbeats 2000000 in
theorem history_View (W : World) (h lo : Nat) (lv : Value) (room first : Nat) (rows : List (List Cell)) (vs : List Value) (hh : HAt W h lo lv room first rows vs) (hsm : ∀ r ∈ rows, r.length ≤ 1000000)
    (w gh n c : Nat) (a : Addr) (L : List Cell) (back : Int) (hg : GridOk w gh n c) (hL : ReadsRows W (some a) n 4 Cell.vals L) (hr : rightG w gh L = true) :
    Calls Tryd.prog 20 #[.pointer (some ⟨h, 0, none⟩), gridV w gh (some a) n c, .int .i64 back] W fun e W' =>
      GridNew W W' w gh n (viewL w gh rows.length (hview first rows) L (rows.length - (mn (mx back 0) rows.length).toNat)) e := by
  obtain ⟨hw1, hw2, hh1, hh2, hn, hcc⟩ := id hg
  have HG := Lib.hid hg
  have HL := Lib.hid hL
  have HH := Lib.hid hh
  have HR := Lib.hid hr
  have HSM := Lib.hid hsm
  have HN := Lib.hid hn
  have hr5 := hh.room5
  have hle := hh.le
  have hfst : first = 0 ∨ first < rows.length := by have := hh.fst; omega
  obtain ⟨m, hm⟩ : ∃ m, rows.length = m := ⟨_, rfl⟩
  have HM := Lib.hid hm
  rw [hm] at hle hfst ⊢
  obtain ⟨k, hk⟩ : ∃ k : Nat, mn (mx back 0) (m : Int) = (k : Int) := Int.eq_ofNat_of_zero_le (by unfold mn mx; split <;> split <;> omega)
  have hkm : k ≤ m := by have : mn (mx back 0) (m : Int) ≤ m := by unfold mn; split <;> omega
                         omega
  have HK := Lib.hid hk
  rw [hk, Int.toNat_natCast]
  obtain ⟨fr, hfr⟩ : ∃ fr, m - k = fr := ⟨_, rfl⟩
  rw [hfr]
  obtain ⟨R, hRR⟩ : ∃ R, hview first rows = R := ⟨_, rfl⟩
  rw [hRR]
  have HRR := Lib.hid hRR
  have e1 : IntKind.i64.wrap ((m : Int) - (k : Int)) = (fr : Int) := by rw [IntWalk.i64_in _ (by omega)]; omega
  have E1 := Lib.hid e1
  have hfm : fr ≤ m := by omega
  clear hg hL hh hr hsm hn hm hk hfr hRR e1
  go_enter Tryd.func20, Tryd.ntmps20
  go_wp2_with fail
  refine Calls.named fun W0 hW0 => ?_
  obtain ⟨hM0, hb4, hb6, hsz⟩ := boxes2 hW0
  have B4 := Lib.hid hb4
  have B6 := Lib.hid hb6
  have HSZ := Lib.hid hsz
  clear hb4 hb6 hsz hW0
  refine (grid_Check W0 w gh n c a L HG.out (HL.out.keepsM (fun _ => rfl) hM0 (by simp))).mono ?_
  rw [HR.out]
  rintro e w1 ⟨rfl, hm1⟩
  go_wp2_with fail
  have hM1 := hM0.trans hm1
  refine (history_Len _ h lo lv room first rows vs (HH.out.keeps hM1)).mono ?_
  rw [HM.out]
  rintro e w2 ⟨rfl, rfl⟩
  have hk := HK.out
  have e1 := E1.out
  have C4 := fun i => blk_cell (hm1.at B4.out (by simp)) i
  go_upto_region 6 with fail
  obtain ⟨b9, hb9⟩ : ∃ b, w1.heap.size = b := ⟨_, rfl⟩
  have hbb := blk_new w1 (.cells #[.int .i64 (w : Int), .int .i64 (gh : Int), .slice none 0 0] 38)
  have hmb : Mods [] w1 (w1.alloc (.cells #[.int .i64 (w : Int), .int .i64 (gh : Int), .slice none 0 0] 38)) := (Mods.refl [] w1).alloc _
  rw [hb9] at hbb ⊢
  have hsz1 := hM1.size
  have hlt9 : b9 < (w1.alloc (.cells #[.int .i64 (w : Int), .int .i64 (gh : Int), .slice none 0 0] 38)).heap.size := by simp; omega
  have hge9 : W.heap.size ≤ b9 := by omega
  clear C4 hk e1 hb9
  generalize w1.alloc (.cells #[.int .i64 (w : Int), .int .i64 (gh : Int), .slice none 0 0] 38) = W2 at *
  have hM2 := hM1.trans hmb
  have BG := Lib.hid ((hm1.trans hmb).at B4.out (by simp))
  have BR := Lib.hid ((hm1.trans hmb).at B6.out (by simp))
  have HM2 := Lib.hid hM2
  have HB9 := Lib.hid hbb
  have hs9 := hM0.size
  have hs9' := hm1.size
  have hsz := HSZ.out
  have hne9 : b9 ≠ W.heap.size + 1 := ne_of_heap hbb BR.out (by simp; omega)
  have hne9' : b9 ≠ W.heap.size := ne_of_heap hbb BG.out (by simp)
  go_wp2
  go_loopg [10, 11] gh (ViewRel W2 b9 w gh m fr R L)
  case atStart => exact ⟨0, .slice none 0 0, rfl, by omega, HB9.out, by rw [Nat.zero_mul]; exact own_nil _ _ _ _, by simp [Value.ownBlock], Mods.refl _ _, by omega⟩
  case round =>
    obtain ⟨j, v, rfl, hj, hbv, hown, hne, hMW, hkk⟩ := hrel
    have HKK := Lib.hid hkk
    have HOWN := Lib.hid hown
    have HO9 := Lib.hid hbv
    have HMW := Lib.hid hMW
    have hMwr : Mods [] W wr := HM2.out.then hMW (fun k hk => .inr (by simp at hk; omega))
    have C4 := fun i => blk_cell (hMW.at BG.out (by simp; omega)) i
    have hjw : j * w ≤ 12000 := Nat.le_trans (Nat.mul_le_mul hj hw2) (by omega)
    have e1 : IntKind.i64.wrap ((fr : Int) + (gh : Int)) = (fr : Int) + (gh : Int) := IntWalk.i64_in _ (by omega)
    clear hkk hown hbv
    by_cases hlt : j < gh
    · have hk2 := HKK.out
      by_cases him : fr + j < m
      · have e2 : IntKind.i64.wrap (((fr + j : Nat) : Int) - (m : Int)) = ((fr + j : Nat) : Int) - (m : Int) := IntWalk.i64_in _ (by omega)
        go_wp2_with fail
        refine (grid_Row_none wr w gh n c (some a) _ (.inl (by omega))).mono ?_
        rintro e wq ⟨rfl, hmq⟩
        go_wp2_with fail
        refine (history_row wq h lo lv room first rows vs (HH.out.keeps (hMwr.trans hmq)) (fr + j) (by rw [HM.out]; exact him)).mono ?_
        rw [HM.out]
        rintro e wX ⟨v0, rr, rfl, ⟨nd, rfl⟩, hrr, _, A', c', rfl, ⟨q1, q2⟩, hRq, _⟩
        have q3 : rr.length ≤ 1000000 := HSM.out rr (List.mem_of_getElem? hrr)
        have HRR' : Hid ((if fr + j < m then R[fr + j]?.getD [] else rowC w (fr + j - m) L) = rr) := Lib.hid (by
          have h1 := HM.out
          have h2 := hview_get (k := fr + j) (first := first) (rows := rows) (by omega) (by omega)
          rw [h1, HRR.out, hrr] at h2
          rw [if_pos him, ← h2]; rfl)
        obtain ⟨n', hn'⟩ : ∃ n', rr.length = n' := ⟨_, rfl⟩
        rw [hn'] at q1 q3 hRq ⊢
        have HN' := Lib.hid hn'
        have hMX : Mods [] wr (wq.drewN nd) := hmq.drewN nd
        have hRX := hRq.keepsM (fun _ => rfl) ((Mods.refl [] wq).drewN nd) (by simp)
        clear hn' hrr hRq e1 e2 C4
        generalize wq.drewN nd = wX at *
        have D4 : wX.drew.cell? ⟨W.heap.size, 0, none⟩ = some (.int .i64 (w : Int)) := blk_cell ((hMW.trans (hMX.mono (by simp))).at BG.out (by simp; omega)) 0
        have D9 : wX.drew.cell? ⟨b9, 2, none⟩ = some v := blk_cell (hMX.at HO9.out (by simp)) 2
        have HMX := Lib.hid hMX
        have HRX := Lib.hid hRX
        have hMX2 := (HMW.out.trans (hMX.mono (by simp)))
        clear hRX
        go_upto_region 12 with fail
        go_region_law (first
            | (go_simp; go_at_call 46; refine (history_fit _ A' n' c' rr w (HRX.out.keepsM (fun _ => rfl) (Mods.refl [] wX).drew (by simp)) q1 q2 q3 (by omega)).mono ?_; rintro e w5 ⟨v5, rfl, hown5, hm5⟩; have hm5' : Mods [] wX w5 := (Mods.refl [] wX).drew.trans hm5; have C5 := fun i => blk_cell ((HMX.out.trans hm5').at HO9.out (by simp)) i; have C5' := fun i => blk_cell ((hMW.trans ((HMX.out.trans hm5').mono (by simp))).at BG.out (by simp; omega)) i; obtain ⟨A5, c5, rfl, s1, s2, s3⟩ := own_slice' hown5; obtain ⟨g5, rfl⟩ := s3 (by omega))
            | (refine step_append_src (w := W2) (S := [b9]) W2.heap.size rfl (.tmp 50) (.tmp 54) 28 27 (.agg #[.int .i32 0, .int .u8 0, .int .u8 0, .int .u8 0]) 4 8 rfl Tryd.underlying28 (by kernel_rfl) rfl (by decide) (by decide) v (j * w) _ ⟨g5, 0, none⟩ w c5 ((fitC w rr).flatMap Cell.vals) rfl rfl (by rw [vals_len, fitC_len]) (own_news hown5) (vals_one _) (own_mods HOWN.out (HMX.out.trans hm5') (by simp)) (hMX2.trans (hm5'.mono (by simp))) (hMX2.trans (hm5'.mono (by simp))).size (Nat.le_refl _) (by omega) ?_; intro v6 w6 hown6 hM6 hgr hblk; have h59 := (HMX.out.trans hm5').at HO9.out (by simp); have g9 := (hgr.block b9 (heap_lt h59) (fun e => hne e.symm)).trans h59; have F6 := fun i => blk_frozen g9 i; have C6 := fun i => blk_cell g9 i; have hne6 : v6.ownBlock ≠ some b9 := own_still hne hblk (heap_lt h59); have HO6 := Lib.hid hown6; obtain ⟨A6, c6, rfl, s4, s5, _⟩ := own_slice' hown6; clear hblk hgr hown6))
        all_goals
          have e3 : IntKind.i64.wrap (((fr + j : Nat) : Int) + 1) = ((fr + (j + 1) : Nat) : Int) := by rw [IntWalk.i64_in _ (by omega)]; omega
          have hrow : rowV w m R L (fr + j) = fitC w rr := by unfold rowV; rw [HRR'.out]
          have h9 := blk_set g9 2 (.slice A6 (j * w + w) c6)
          simp at h9
          have hmS := (Mods.refl [b9] w6).setCell ⟨b9, 2, none⟩ (.slice A6 (j * w + w) c6) (.inl (by simp))
          have hown9 := own_mods HO6.out hmS (by intro k hk e; simp at e; subst e; exact hne6 hk)
          clear C6 F6 C5 C5' D4 D9 g9 h59
          go_wp2
          go_roundg (gk - 1)
          case measure => omega
          case rel => exact ⟨j + 1, _, by go_num, by omega, h9, by rw [Nat.succ_mul, List.range_succ, List.flatMap_append, List.flatMap_append]; simpa [hrow] using hown9, hne6, hM6.trans hmS, by omega⟩
      · have e2 : IntKind.i64.wrap (((fr + j : Nat) : Int) - (m : Int)) = ((fr + j - m : Nat) : Int) := by rw [IntWalk.i64_in _ (by omega)]; omega
        have e5 : ((fr : Int) + (j : Int)) - (m : Int) = ((fr + j - m : Nat) : Int) := by omega
        have E5 := Lib.hid e5
        clear e5
        go_wp2_with fail
        try rw [E5.out]
        refine (grid_Row wr w gh n c a L (fr + j - m) HG.out (HL.out.keepsM (fun _ => rfl) hMwr (by simp)) (by omega)).mono ?_
        obtain ⟨rr, hrr⟩ : ∃ rr, rowC w (fr + j - m) L = rr := ⟨_, rfl⟩
        have hrl : rr.length = w := by rw [← hrr]; exact rowC_len HL.out.1 HN.out (by omega)
        rw [hrr]
        rintro e wX ⟨v0, rfl, hown0, hMX⟩
        obtain ⟨A', c', rfl, r1, r2, r3⟩ := own_slice' hown0
        obtain ⟨hRX, q1, q2, _⟩ := own_reads hown0 hrl (by omega)
        have HRR' : Hid ((if fr + j < m then R[fr + j]?.getD [] else rowC w (fr + j - m) L) = rr) := Lib.hid (by rw [if_neg him, hrr])
        obtain ⟨n', hn'⟩ : ∃ n', w = n' := ⟨_, rfl⟩
        have q3 : w ≤ 1000000 := by omega
        clear hrr hrl hown0 e2 C4 hn' n'
        go_upto_region 12 with fail
        have D4 : wX.drew.cell? ⟨W.heap.size, 0, none⟩ = some (.int .i64 (w : Int)) := blk_cell ((hMW.trans (hMX.mono (by simp))).at BG.out (by simp; omega)) 0
        have D9 : wX.drew.cell? ⟨b9, 2, none⟩ = some v := blk_cell (hMX.at HO9.out (by simp)) 2
        have HMX := Lib.hid hMX
        have HRX := Lib.hid hRX
        have hMX2 := (HMW.out.trans (hMX.mono (by simp)))
        clear hRX
        go_region_law (first
            | (go_simp; go_at_call 46; refine (history_fit _ A' w c' rr w (HRX.out.keepsM (fun _ => rfl) (Mods.refl [] wX).drew (by simp)) q1 q2 q3 (by omega)).mono ?_; rintro e w5 ⟨v5, rfl, hown5, hm5⟩; have hm5' : Mods [] wX w5 := (Mods.refl [] wX).drew.trans hm5; have C5 := fun i => blk_cell ((HMX.out.trans hm5').at HO9.out (by simp)) i; have C5' := fun i => blk_cell ((hMW.trans ((HMX.out.trans hm5').mono (by simp))).at BG.out (by simp; omega)) i; obtain ⟨A5, c5, rfl, s1, s2, s3⟩ := own_slice' hown5; obtain ⟨g5, rfl⟩ := s3 (by omega))
            | (refine step_append_src (w := W2) (S := [b9]) W2.heap.size rfl (.tmp 50) (.tmp 54) 28 27 (.agg #[.int .i32 0, .int .u8 0, .int .u8 0, .int .u8 0]) 4 8 rfl Tryd.underlying28 (by kernel_rfl) rfl (by decide) (by decide) v (j * w) _ ⟨g5, 0, none⟩ w c5 ((fitC w rr).flatMap Cell.vals) rfl rfl (by rw [vals_len, fitC_len]) (own_news hown5) (vals_one _) (own_mods HOWN.out (HMX.out.trans hm5') (by simp)) (hMX2.trans (hm5'.mono (by simp))) (hMX2.trans (hm5'.mono (by simp))).size (Nat.le_refl _) (by omega) ?_; intro v6 w6 hown6 hM6 hgr hblk; have h59 := (HMX.out.trans hm5').at HO9.out (by simp); have g9 := (hgr.block b9 (heap_lt h59) (fun e => hne e.symm)).trans h59; have F6 := fun i => blk_frozen g9 i; have C6 := fun i => blk_cell g9 i; have hne6 : v6.ownBlock ≠ some b9 := own_still hne hblk (heap_lt h59); have HO6 := Lib.hid hown6; obtain ⟨A6, c6, rfl, s4, s5, _⟩ := own_slice' hown6; clear hblk hgr hown6))
        all_goals
          have e3 : IntKind.i64.wrap (((fr + j : Nat) : Int) + 1) = ((fr + (j + 1) : Nat) : Int) := by rw [IntWalk.i64_in _ (by omega)]; omega
          have hrow : rowV w m R L (fr + j) = fitC w rr := by unfold rowV; rw [HRR'.out]
          have h9 := blk_set g9 2 (.slice A6 (j * w + w) c6)
          simp at h9
          have hmS := (Mods.refl [b9] w6).setCell ⟨b9, 2, none⟩ (.slice A6 (j * w + w) c6) (.inl (by simp))
          have hown9 := own_mods HO6.out hmS (by intro k hk e; simp at e; subst e; exact hne6 hk)
          clear C6 F6 C5 C5' D4 D9 g9 h59
          go_wp2
          go_roundg (gk - 1)
          case measure => omega
          case rel => exact ⟨j + 1, _, by go_num, by omega, h9, by rw [Nat.succ_mul, List.range_succ, List.flatMap_append, List.flatMap_append]; simpa [hrow] using hown9, hne6, hM6.trans hmS, by omega⟩
    · have hin : j = gh := by omega
      subst hin
      have hpos : 0 < j * w := Nat.mul_pos hh1 hw1
      obtain ⟨A3, c3, rfl, r1, r2, r3⟩ := own_slice' HOWN.out
      obtain ⟨g3, rfl⟩ := r3 hpos
      have hvl : (viewL w j m R L fr).length = j * w := viewL_len _ _ _ _ _ _
      have hB := (CellB.of_own HOWN.out hvl)
      have C9 := fun i => blk_cell HO9.out i
      have hb6 := hMW.at BR.out (by simp; omega)
      have hnw : n = j * w := by rw [HN.out, Nat.mul_comm]
      go_wp2_with (refine store_blk hb6 rfl (.tmp 6) (.tmp 57) 38 rfl (c' := #[.int .i64 (w : Int), .int .i64 (j : Int), .slice (some ⟨g3, 0, none⟩) (j * w) c3]) (by kernel_rfl) rfl rfl rfl (by simp [Value.oneCell']) ?_; intro w7 hb7 hm7; have HB7 := Lib.hid hb7; clear hb7)
      have CF := fun i => blk_cell HB7.out i
      have hg3 : W2.heap.size ≤ g3 := hB.2
      have hs2 := HM2.out.size
      have hB7 := hB.1.keeps hm7 (by simp; omega)
      exact bodyPost_ret (v := gridV w j (some ⟨g3, 0, none⟩) (j * w) c3) (by simp [results, Tryd.results20, go_sem, CF]) rfl (by rw [hnw]; exact ⟨⟨g3, 0, none⟩, c3, rfl, r1, hB7.reads, by show W.heap.size ≤ g3; omega, hMwr.then hm7 (fun k hk => .inr (by simp at hk; omega))⟩)
end Go.Proofs.YtldjmacnokkjdaaDoor
