/- GridBeside's walk. -/
import Derived.Test.YtldjmacnokkjdaaDoorGBes
import Derived.Test.YtldjmacnokkjdaaDoorHs
import Derived.Test.YtldjmacnokkjdaaDoorNeqC
namespace Go.Proofs.YtldjmacnokkjdaaDoor
open Go.RowKit
theorem gb_and31 (n : Int) : bits .and .i64 n 31 = n % 32 := i64_and_mask n 5 31 (by omega) (by decide)
attribute [local go_sem] gb_and31
set_option linter.unusedVariables false
set_option linter.unusedSimpArgs false

def BesRel (wc : World) (h : Nat) (kk : Nat) (idx s12 s13 s14 s15 s16 : Value) (wr : World) : Prop := ∃ i : Nat, idx = .int .i64 (i : Int) ∧ i ≤ h ∧ Mods [] wc wr ∧ kk + i = h
def BesRel2 (wc : World) (h : Nat) (kk : Nat) (idx s13 s14 s15 s16 : Value) (wr : World) : Prop := ∃ i : Nat, idx = .int .i64 (i : Int) ∧ i ≤ h ∧ Mods [] wc wr ∧ kk + i = h
theorem reads_lt {w : World} {a : Addr} {n : Nat} {L : List Cell} (h : ReadsRows w (some a) n 4 Cell.vals L) (hn : 0 < n) : a.block < w.heap.size := by
  obtain ⟨c0, hc0⟩ : ∃ c, L[0]? = some c := ⟨_, List.getElem?_eq_getElem (by rw [h.1]; exact hn)⟩
  obtain ⟨a', ha', hcc, _⟩ := h.row hc0
  cases ha'
  have := World.block_lt_of_cell? w _ hcc
  have hb0 : (a.add (0 * 4)).block = a.block := by unfold Addr.add; split <;> rfl
  rw [hb0] at this
  exact this
set_option maxRecDepth 100000 in
set_option maxHeartbeats 4000000 in
theorem gridBeside_walk (W : World) (nx ny : Int) (A : Option Addr) (k kc : Nat) (l : List Int) (hl : ReadsRows W A k 1 intV l) (hnx : -9223372036854775808 ≤ nx ∧ nx ≤ 9223372036854775807) (hny : -9223372036854775808 ≤ ny ∧ ny ≤ 9223372036854775807) (q0 q1 q2 q3 c : Int) :
    Calls Tryd.prog 6 #[.agg #[.int .i64 nx, .int .i64 ny, .slice A k kc], .agg #[.int .i64 q0, .int .i64 q1, .int .i64 q2, .int .i64 q3], .int .i64 c] W fun e W' => e = .returned (.bool true) ∧ Mods [] W W' := by
  have HH := Lib.hid hl
  obtain ⟨w, hw⟩ := Int.eq_ofNat_of_zero_le (show 0 ≤ 1 + nx % 12 by have := Int.emod_nonneg nx (b := 12) (by omega); omega)
  obtain ⟨h, hh⟩ := Int.eq_ofNat_of_zero_le (show 0 ≤ 1 + ny % 6 by have := Int.emod_nonneg ny (b := 6) (by omega); omega)
  have hwb : 1 ≤ w ∧ w ≤ 12 := by
    have h1 := Int.emod_nonneg nx (b := 12) (by omega)
    have h2 := Int.emod_lt_of_pos nx (b := 12) (by omega)
    omega
  have hhb : 1 ≤ h ∧ h ≤ 6 := by
    have h1 := Int.emod_nonneg ny (b := 6) (by omega)
    have h2 := Int.emod_lt_of_pos ny (b := 6) (by omega)
    omega
  obtain ⟨hw1, hw2⟩ := hwb
  obtain ⟨hh1, hh2⟩ := hhb
  have HW := Lib.hid hw.symm
  have HHH := Lib.hid hh.symm
  obtain ⟨x, hx⟩ : ∃ x, q0 % 32 - 8 = x := ⟨_, rfl⟩
  obtain ⟨y, hy⟩ : ∃ y, q1 % 32 - 8 = y := ⟨_, rfl⟩
  obtain ⟨rw', hrw⟩ : ∃ x, q2 % 32 - 8 = x := ⟨_, rfl⟩
  obtain ⟨rh, hrh⟩ : ∃ x, q3 % 32 - 8 = x := ⟨_, rfl⟩
  have hxb : -8 ≤ x ∧ x ≤ 23 := by have h1 := Int.emod_nonneg q0 (b := 32) (by omega); have h2 := Int.emod_lt_of_pos q0 (b := 32) (by omega); omega
  have hyb : -8 ≤ y ∧ y ≤ 23 := by have h1 := Int.emod_nonneg q1 (b := 32) (by omega); have h2 := Int.emod_lt_of_pos q1 (b := 32) (by omega); omega
  have hrwb : -8 ≤ rw' ∧ rw' ≤ 23 := by have h1 := Int.emod_nonneg q2 (b := 32) (by omega); have h2 := Int.emod_lt_of_pos q2 (b := 32) (by omega); omega
  have hrhb : -8 ≤ rh ∧ rh ≤ 23 := by have h1 := Int.emod_nonneg q3 (b := 32) (by omega); have h2 := Int.emod_lt_of_pos q3 (b := 32) (by omega); omega
  have w0 : IntKind.i64.wrap (q0 % 32 - 8) = x := by rw [hx]; exact IntWalk.i64_in _ (by omega)
  have w1' : IntKind.i64.wrap (q1 % 32 - 8) = y := by rw [hy]; exact IntWalk.i64_in _ (by omega)
  have w2' : IntKind.i64.wrap (q2 % 32 - 8) = rw' := by rw [hrw]; exact IntWalk.i64_in _ (by omega)
  have w3' : IntKind.i64.wrap (q3 % 32 - 8) = rh := by rw [hrh]; exact IntWalk.i64_in _ (by omega)
  have F0 := Lib.hid w0
  have F1 := Lib.hid w1'
  have F2 := Lib.hid w2'
  have F3 := Lib.hid w3'
  clear hl hw hh hx hy hrw hrh w0 w1' w2' w3'
  go_enter Tryd.func6, Tryd.ntmps6
  go_wp2_with fail
  refine Calls.named fun W0 hW0 => ?_
  obtain ⟨hM0, hb3, hb4, hsz⟩ := boxes2 hW0
  have B3 := Lib.hid hb3
  have B4 := Lib.hid hb4
  have HSZ := Lib.hid hsz
  clear hb3 hb4 hsz hW0
  refine (law06_awake W0).mono ?_
  rintro e w1 ⟨rfl, hm1⟩
  have C3 := fun i => blk_cell (hm1.at B3.out (by simp)) i
  go_wp2_with fail
  refine (num_grid w1 nx ny w h A k kc l (HH.out.keepsM (fun _ => rfl) (hM0.trans hm1) (by simp)) hnx hny HW.out HHH.out).mono ?_
  obtain ⟨n, hn⟩ : ∃ n, w * h = n := ⟨_, rfl⟩
  rw [hn]
  have HN := Lib.hid hn.symm
  clear hn C3
  rintro e w2 ⟨a, c0, L, rfl, hc0, hR, hr, hge, hm2⟩
  have hm12 := hm1.trans hm2
  have f0 := F0.out
  have f1 := F1.out
  have f2 := F2.out
  have f3 := F3.out
  have C4 := fun i => blk_cell ((hm12.alloc (.cells #[.int .i64 (w : Int), .int .i64 (h : Int), .slice (some a) n c0] 38)).at B4.out (by simp)) i
  go_upto_region 4 with fail
  have hn1 : 0 < n := by rw [HN.out]; exact Nat.mul_pos (by omega) (by omega)
  have halt := reads_lt hR hn1
  have hm3 : Mods [] w2 ((w2.alloc (.cells #[.int .i64 (w : Int), .int .i64 (h : Int), .slice (some a) n c0] 38)).alloc (.cells #[.int .i64 x, .int .i64 y, .int .i64 rw', .int .i64 rh] 50)) := ((Mods.refl [] w2).alloc _).alloc _
  have hb8 := blk_alloc (blk_new w2 (.cells #[.int .i64 (w : Int), .int .i64 (h : Int), .slice (some a) n c0] 38)) (.cells #[.int .i64 x, .int .i64 y, .int .i64 rw', .int .i64 rh] 50)
  have hb9 := blk_new' (w2.alloc (.cells #[.int .i64 (w : Int), .int .i64 (h : Int), .slice (some a) n c0] 38)) (.cells #[.int .i64 x, .int .i64 y, .int .i64 rw', .int .i64 rh] 50) (k := w2.heap.size + 1) (by simp)
  have hs3 : ((w2.alloc (.cells #[.int .i64 (w : Int), .int .i64 (h : Int), .slice (some a) n c0] 38)).alloc (.cells #[.int .i64 x, .int .i64 y, .int .i64 rw', .int .i64 rh] 50)).heap.size = w2.heap.size + 1 + 1 := by simp
  clear C4 f0 f1 f2 f3
  generalize (w2.alloc (.cells #[.int .i64 (w : Int), .int .i64 (h : Int), .slice (some a) n c0] 38)).alloc (.cells #[.int .i64 x, .int .i64 y, .int .i64 rw', .int .i64 rh] 50) = W3 at *
  have B8 := Lib.hid hb8
  have B9 := Lib.hid hb9
  have HR3 := Lib.hid (hR.keepsM (fun _ => rfl) hm3 (by simp))
  have HRT := Lib.hid hr
  have HS3 := Lib.hid hs3
  have K0 : W3.cell? ⟨w2.heap.size, 0, none⟩ = some (.int .i64 (w : Int)) := blk_cell hb8 0
  have K1 : W3.cell? ⟨w2.heap.size, 1, none⟩ = some (.int .i64 (h : Int)) := blk_cell hb8 1
  have K2 : W3.cell? ⟨w2.heap.size, 2, none⟩ = some (.slice (some a) n c0) := blk_cell hb8 2
  have K3 : W3.cell? ⟨w2.heap.size + 1, 0, none⟩ = some (.int .i64 x) := blk_cell hb9 0
  have K4 : W3.cell? ⟨w2.heap.size + 1, 1, none⟩ = some (.int .i64 y) := blk_cell hb9 1
  have K5 : W3.cell? ⟨w2.heap.size + 1, 2, none⟩ = some (.int .i64 rw') := blk_cell hb9 2
  have K6 : W3.cell? ⟨w2.heap.size + 1, 3, none⟩ = some (.int .i64 rh) := blk_cell hb9 3
  clear hb8 hb9 hR hr hs3
  have GOK : Hid (GridOk w h n c0) := Lib.hid ⟨hw1, by omega, hh1, by omega, HN.out, hc0⟩
  have KA : ∀ X, Mods [] W3 X → (X.cell? ⟨w2.heap.size, 0, none⟩ = some (.int .i64 (w : Int)) ∧ X.cell? ⟨w2.heap.size, 1, none⟩ = some (.int .i64 (h : Int)) ∧ X.cell? ⟨w2.heap.size, 2, none⟩ = some (.slice (some a) n c0) ∧ X.cell? ⟨w2.heap.size + 1, 0, none⟩ = some (.int .i64 x) ∧ X.cell? ⟨w2.heap.size + 1, 1, none⟩ = some (.int .i64 y) ∧ X.cell? ⟨w2.heap.size + 1, 2, none⟩ = some (.int .i64 rw') ∧ X.cell? ⟨w2.heap.size + 1, 3, none⟩ = some (.int .i64 rh)) :=
    fun X hX => ⟨hX.cell K0 (by simp), hX.cell K1 (by simp), hX.cell K2 (by simp), hX.cell K3 (by simp), hX.cell K4 (by simp), hX.cell K5 (by simp), hX.cell K6 (by simp)⟩
  have KA0 := KA _ (Mods.refl [] W3)
  clear K0 K1 K2 K3 K4 K5 K6
  go_cut [10] from 37 (fun s10 wx => ∃ ob a' c', s10 = .pointer (some ⟨ob, 0, none⟩) ∧ wx.heap[ob]? = some (.cells #[.int .i64 (w : Int), .int .i64 (h : Int), .slice (some a') n c'] 38 (0, 0)) ∧ W3.heap.size ≤ ob ∧ n ≤ c' ∧ ReadsRows wx (some a') n 4 Cell.vals (fillC w h L x y rw' rh (plainC c)) ∧ Mods [] W3 wx)
  case first =>
    go_region_held3 (fun X => X.cell? ⟨w2.heap.size, 0, none⟩ = some (.int .i64 (w : Int)) ∧ X.cell? ⟨w2.heap.size, 1, none⟩ = some (.int .i64 (h : Int)) ∧ X.cell? ⟨w2.heap.size, 2, none⟩ = some (.slice (some a) n c0) ∧ X.cell? ⟨w2.heap.size + 1, 0, none⟩ = some (.int .i64 x) ∧ X.cell? ⟨w2.heap.size + 1, 1, none⟩ = some (.int .i64 y) ∧ X.cell? ⟨w2.heap.size + 1, 2, none⟩ = some (.int .i64 rw') ∧ X.cell? ⟨w2.heap.size + 1, 3, none⟩ = some (.int .i64 rh))
      (first
        | exact KA0
        | with_reducible exact KA _ ((Mods.refl [] W3).alloc _)
        | with_reducible exact KA _ ((Mods.refl [] W3).drew.alloc _)
        | with_reducible exact KA _ ((Mods.refl [] W3).alloc _).drew
        | with_reducible exact KA _ hmF
        | with_reducible exact KA _ (hmF.alloc _)
        | with_reducible exact KA _ (((hmF.setCell _ _ (.inr hobF)).setCell _ _ (.inr hobF)).setCell _ _ (.inr hobF))
        | with_reducible exact KA _ hmP
        | with_reducible exact KA _ (hmP.alloc _))
      (first
        | (go_at_call 26; refine (law06_plain _ c).mono ?_; rintro e wp ⟨rfl, hmp⟩; have hmP : Mods [] W3 wp := (by first | exact (Mods.refl [] W3).drew.trans hmp | exact ((Mods.refl [] W3).alloc _).drew.trans hmp); try (have hbA : wp.heap[W3.heap.size]? = some (.cells #[.int .i64 0, .int .i64 0, .slice none 0 0] 38 (0, 0)) := hmp.at (blk_new W3 _) (by simp)))
        | (go_at_call 25; refine (grid_Fill _ w h n c0 a L x y rw' rh (plainC c) GOK.out (HR3.out.keepsM (fun _ => rfl) (by first | exact hmP | exact hmP.alloc _) (by simp)) HRT.out (by omega) (by omega) (by omega) (by omega) (plainC_ok c)).mono ?_; rintro e wf ⟨a', c', rfl, hc', hR', hor, hmf⟩; have hmF : Mods [] W3 wf := (by first | exact hmP.trans hmf | exact (hmP.alloc _).trans hmf); (first | (have hbT := hmf.at hbA (by simp); have hobF : W3.heap.size ≤ W3.heap.size := Nat.le_refl _; have CT := fun i => blk_cell hbT i; have FT := fun i => blk_frozen hbT i) | (have hbT := hmf.at (blk_new wp (.cells #[.int .i64 0, .int .i64 0, .slice none 0 0] 38)) (by simp); have hobF : W3.heap.size ≤ wp.heap.size := hmP.size; have CT := fun i => blk_cell hbT i; have FT := fun i => blk_frozen hbT i) | skip)))
    all_goals
      first
        | (go_wp2_with fail
           go_meet
           exact ⟨wf.heap.size, a', c', rfl, blk_new wf _, hmF.size, hc', hR'.keepsM (fun _ => rfl) ((Mods.refl [] wf).alloc _) (by simp), hmF.alloc _⟩)
        | (have e9 := blk_set (blk_set (blk_set hbT 0 (.int .i64 (w : Int))) 1 (.int .i64 (h : Int))) 2 (.slice (some a') n c')
           simp at e9
           have hm9 := (((Mods.refl [wp.heap.size] wf).setCell ⟨wp.heap.size, 0, none⟩ (.int .i64 (w : Int)) (.inl (by simp))).setCell ⟨wp.heap.size, 1, none⟩ (.int .i64 (h : Int)) (.inl (by simp))).setCell ⟨wp.heap.size, 2, none⟩ (.slice (some a') n c') (.inl (by simp))
           have hsp := hmP.size
           have hs3' := HS3.out
           have hblk : a'.block ≠ wp.heap.size := by
             rcases hor with rfl | ⟨_, hq, _⟩
             · omega
             · try simp only [World.size_alloc] at hq
               have hq2 := heap_lt hbT
               first
                 | omega
                 | (have hq3 := heap_lt hbA; omega)
           have hR9 := hR'.keepsM (fun _ => rfl) hm9 (by intro a2 ha2; cases ha2; simpa using hblk)
           have hM9 := hmF.then hm9 (fun k hk => .inr (by simp at hk; omega))
           clear CT FT
           go_wp2_with fail
           go_meet
           exact ⟨wp.heap.size, a', c', rfl, e9, by omega, hc', hR9, hM9⟩)
        | (have e9 := blk_set (blk_set (blk_set hbT 0 (.int .i64 (w : Int))) 1 (.int .i64 (h : Int))) 2 (.slice (some a') n c')
           simp at e9
           have hm9 := (((Mods.refl [W3.heap.size] wf).setCell ⟨W3.heap.size, 0, none⟩ (.int .i64 (w : Int)) (.inl (by simp))).setCell ⟨W3.heap.size, 1, none⟩ (.int .i64 (h : Int)) (.inl (by simp))).setCell ⟨W3.heap.size, 2, none⟩ (.slice (some a') n c') (.inl (by simp))
           have hsp := hmP.size
           have hs3' := HS3.out
           have hblk : a'.block ≠ W3.heap.size := by
             rcases hor with rfl | ⟨_, hq, _⟩
             · omega
             · try simp only [World.size_alloc] at hq
               have hq2 := heap_lt hbT
               first
                 | omega
                 | (have hq3 := heap_lt hbA; omega)
           have hR9 := hR'.keepsM (fun _ => rfl) hm9 (by intro a2 ha2; cases ha2; simpa using hblk)
           have hM9 := hmF.then hm9 (fun k hk => .inr (by simp at hk; omega))
           clear CT FT
           go_wp2_with fail
           go_meet
           exact ⟨W3.heap.size, a', c', rfl, e9, by omega, hc', hR9, hM9⟩)
  case rest =>
    obtain ⟨ob, a', c', rfl, hbo, hob, hc', hR', hM4⟩ := hcut
    have C8 := fun i => blk_cell (hM4.at B8.out (by simp)) i
    have CO := fun i => blk_cell hbo i
    have BO := Lib.hid hbo
    have HRH := Lib.hid hR'
    have HM4 := Lib.hid hM4
    have HRG := Lib.hid (HR3.out.keepsM (fun _ => rfl) hM4 (by simp))
    have B8c := Lib.hid (hM4.at B8.out (by simp))
    have B9c := Lib.hid (hM4.at B9.out (by simp))
    clear hbo hR' KA KA0
    go_wp2
    clear C8 CO
    go_loopg [11, 12, 13, 14, 15, 16] h (BesRel wc h)
    case atStart => exact ⟨0, rfl, by omega, Mods.refl _ _, by omega⟩
    case round =>
      obtain ⟨y0, rfl, hy0, hMo, hkk⟩ := hrel
      have HKK := Lib.hid hkk
      have C8 := fun i => blk_cell (hMo.at B8c.out (by simp)) i
      clear hkk
      by_cases hlt : y0 < h
      · have hk2 := HKK.out
        generalize gk = gout at *
        go_wp2
        clear C8
        go_loopg [12, 13, 14, 15, 16] w (BesRel2 wr w)
        case atStart => exact ⟨0, rfl, by omega, Mods.refl _ _, by omega⟩
        case round =>
          obtain ⟨x0, rfl, hx0, hMi, hkk⟩ := hrel
          have HKK2 := Lib.hid hkk
          have hMw := hMo.trans hMi
          have hb8 := hMw.at B8c.out (by simp)
          have hb9 := hMw.at B9c.out (by simp)
          have C8 := fun i => blk_cell hb8 i
          have C9 := fun i => blk_cell hb9 i
          have P8 := Lib.hid hb8
          have P9 := Lib.hid hb9
          have PO := Lib.hid (hMw.at BO.out (by simp))
          clear hkk hb8 hb9
          by_cases hltx : x0 < w
          · have hk3 := HKK2.out
            obtain ⟨ca, cb, hca, hcb, hin, hout⟩ := beside_law (c := plainC c) (x := x) (y := y) (rw' := rw') (rh := rh) HRG.out.1 HN.out HRT.out (plainC_ok c) y0 x0 hlt hltx
            have HIN := Lib.hid hin
            have HOUT := Lib.hid hout
            have RA : Hid (∀ X, Mods [] wr X → ReadsRows X (some a) n 4 Cell.vals L) := Lib.hid (fun X hX => HRG.out.keepsM (fun _ => rfl) (hMw.trans hX) (by simp))
            have RB : Hid (∀ X, Mods [] wr X → ReadsRows X (some a') n 4 Cell.vals (fillC w h L x y rw' rh (plainC c))) := Lib.hid (fun X hX => HRH.out.keepsM (fun _ => rfl) (hMw.trans hX) (by simp))
            have HCA := Lib.hid hca
            have HCB := Lib.hid hcb
            have hle := row_le HN.out hlt
            have s1 : IntKind.i64.wrap (x + rw') = x + rw' := IntWalk.i64_in _ (by omega)
            have s2 : IntKind.i64.wrap (y + rh) = y + rh := IntWalk.i64_in _ (by omega)
            have s3 : IntKind.i64.wrap (x - 1) = x - 1 := IntWalk.i64_in _ (by omega)
            have S1 := Lib.hid s1
            have S2 := Lib.hid s2
            have S3 := Lib.hid s3
            clear hin hout hca hcb
            obtain ⟨inB, hinB⟩ : ∃ b : Bool, b = decide (x ≤ x0 ∧ (x0 : Int) < x + rw' ∧ y ≤ y0 ∧ (y0 : Int) < y + rh) := ⟨_, rfl⟩
            have HINB := Lib.hid hinB
            clear hinB s3
            have x00 : (x0 : Int) < (w : Int) := by omega
            go_upto_region 13 with fail
            go_cut [13] from 75 to 176 (fun s13 wx => s13 = .bool inB ∧ wx = wr)
            case first =>
              have hcs : (¬ x ≤ (x0 : Int)) ∨ (x ≤ (x0 : Int) ∧ ¬ (x0 : Int) < x + rw') ∨ (x ≤ (x0 : Int) ∧ (x0 : Int) < x + rw' ∧ ¬ y ≤ (y0 : Int)) ∨ (x ≤ (x0 : Int) ∧ (x0 : Int) < x + rw' ∧ y ≤ (y0 : Int) ∧ ¬ (y0 : Int) < y + rh) ∨ (x ≤ (x0 : Int) ∧ (x0 : Int) < x + rw' ∧ y ≤ (y0 : Int) ∧ (y0 : Int) < y + rh) := by omega
              rcases hcs with c1 | ⟨c1, c2⟩ | ⟨c1, c2, c3⟩ | ⟨c1, c2, c3, c4⟩ | ⟨c1, c2, c3, c4⟩
              all_goals
                go_wp2_with fail
                go_meet
                exact ⟨by rw [HINB.out]; (simp [*] <;> omega), rfl⟩
            case rest =>
              obtain ⟨rfl, rfl⟩ := hcut
              have hn72 : n ≤ 72 := by rw [HN.out]; exact Nat.mul_le_mul hw2 hh2
              have hK : IntKind.i64.wrap ((y0 : Int) * (w : Int)) = ((y0 * w : Nat) : Int) := by rw [← Int.natCast_mul]; exact IntWalk.i64_in _ (by omega)
              obtain ⟨aa, haa, ca0, hcas⟩ := (RA.out _ (Mods.refl _ _)).row HCA.out
              cases haa
              have ca1 := hcas 0 (by omega)
              have ca2 := hcas 1 (by omega)
              have ca3 := hcas 2 (by omega)
              clear hcas
              obtain ⟨ar, af, ab, at1⟩ := ca
              simp only [Cell.vals, List.getElem?_cons_zero, List.getElem?_cons_succ] at ca0 ca1 ca2 ca3
              generalize hKe : y0 * w = K at *
              have z0 : (0 : Int) ≤ (K : Int) + (x0 : Int) := by omega
              have z1 : (K : Int) + (x0 : Int) < (n : Int) := by omega
              have z2 : ((K : Int) + (x0 : Int)).toNat = K + x0 := by omega
              have z3 : IntKind.i64.wrap ((K : Int) + (x0 : Int)) = (K : Int) + (x0 : Int) := IntWalk.i64_in _ (by omega)
              have HKe := Lib.hid hKe
              clear hKe s1 s2
              go_upto_region 15 with fail
              have hmA : Mods [] wc (wc.alloc (.cells #[.int .i32 ar, .int .u8 af, .int .u8 ab, .int .u8 (at1.val : Int)] 27)) := (Mods.refl [] wc).alloc _
              have hbA := blk_new wc (.cells #[.int .i32 ar, .int .u8 af, .int .u8 ab, .int .u8 (at1.val : Int)] 27)
              obtain ⟨bb, hbb, cb0, hcbs⟩ := (RB.out _ hmA).row HCB.out
              cases hbb
              have cb1 := hcbs 0 (by omega)
              have cb2 := hcbs 1 (by omega)
              have cb3 := hcbs 2 (by omega)
              clear hcbs ca0 ca1 ca2 ca3 C8 C9
              obtain ⟨br, bf, bg, at2⟩ := cb
              simp only [Cell.vals, List.getElem?_cons_zero, List.getElem?_cons_succ] at cb0 cb1 cb2 cb3
              have C8 := fun i => blk_cell (hmA.at P8.out (by simp)) i
              have CO := fun i => blk_cell (hmA.at PO.out (by simp)) i
              generalize hWA : wc.alloc (.cells #[.int .i32 ar, .int .u8 af, .int .u8 ab, .int .u8 (at1.val : Int)] 27) = WA at *
              go_upto_region 16 with fail
              clear C8 CO cb0 cb1 cb2 cb3
              have hmB : Mods [] WA (WA.alloc (.cells #[.int .i32 br, .int .u8 bf, .int .u8 bg, .int .u8 (at2.val : Int)] 27)) := (Mods.refl [] WA).alloc _
              have hbA2 := hmB.at hbA (by simp)
              have hbB := blk_new WA (.cells #[.int .i32 br, .int .u8 bf, .int .u8 bg, .int .u8 (at2.val : Int)] 27)
              have hbP := hmB.at (hmA.at P9.out (by simp)) (by simp)
              have hmAB := hmA.trans hmB
              generalize hWB : WA.alloc (.cells #[.int .i32 br, .int .u8 bf, .int .u8 bg, .int .u8 (at2.val : Int)] 27) = WB at *
              have PA := Lib.hid hbA2
              have PB := Lib.hid hbB
              have PR := Lib.hid hbP
              clear hbA hbA2 hbB hbP hmB hmA z0 z1 z2 z3 hK hWA hWB
              generalize wc.heap.size = ga at *
              generalize WA.heap.size = gb at *
              obtain ⟨b6, h6⟩ : ∃ b, ((x0 : Int) == x - 1) = b := ⟨_, rfl⟩
              obtain ⟨b7, h7⟩ : ∃ b, ((x0 : Int) == x + rw') = b := ⟨_, rfl⟩
              have H6 := Lib.hid h6
              have H7 := Lib.hid h7
              clear h6 h7
              obtain ⟨hfB, hhfB⟩ : ∃ b : Bool, b = (decide (y ≤ y0) && decide ((y0 : Int) < y + rh) && decide (64 ≤ at1.val) && (b6 || b7)) := ⟨_, rfl⟩
              have HHF := Lib.hid hhfB
              clear hhfB
              go_cut [16] from 123 to 176 (fun s16 wx => s16 = .bool hfB ∧ wx = WB)
              case first =>
                have s1 := S1.out
                have s2 := S2.out
                have s3 := S3.out
                have CP := fun i => blk_cell PR.out i
                have CA' := fun i => blk_cell PA.out i
                have hat : ((at1.val : Int) ≥ 64) ↔ 64 ≤ at1.val := by omega
                have h6 := H6.out
                have h7 := H7.out
                have hcs : (¬ y ≤ (y0 : Int)) ∨ (y ≤ (y0 : Int) ∧ ¬ (y0 : Int) < y + rh) ∨ (y ≤ (y0 : Int) ∧ (y0 : Int) < y + rh ∧ ¬ 64 ≤ at1.val) ∨ (y ≤ (y0 : Int) ∧ (y0 : Int) < y + rh ∧ 64 ≤ at1.val) := by omega
                rcases hcs with c3 | ⟨c3, c4⟩ | ⟨c3, c4, c5⟩ | ⟨c3, c4, c5⟩
                · go_wp2_with fail
                  go_meet
                  exact ⟨by rw [HHF.out, decide_eq_false (show ¬ y ≤ (y0 : Int) by omega)]; rfl, rfl⟩
                · go_wp2_with fail
                  go_meet
                  exact ⟨by rw [HHF.out, decide_eq_true (show y ≤ (y0 : Int) by omega), decide_eq_false (show ¬ (y0 : Int) < y + rh by omega)]; rfl, rfl⟩
                · go_wp2_with fail
                  go_meet
                  exact ⟨by rw [HHF.out, decide_eq_true (show y ≤ (y0 : Int) by omega), decide_eq_true (show (y0 : Int) < y + rh by omega), decide_eq_false (show ¬ 64 ≤ at1.val by omega)]; rfl, rfl⟩
                · cases b6
                  all_goals
                    go_wp2_with fail
                    go_meet
                    exact ⟨by rw [HHF.out]; simp [c3, c4, c5], rfl⟩
              case rest =>
                obtain ⟨rfl, hwx⟩ := hcut
                subst hwx
                have KA : ∀ X, Mods [] wc X → ((X.cell? ⟨ga, 0, none⟩ = some (.int .i32 ar) ∧ X.cell? ⟨ga, 1, none⟩ = some (.int .u8 af) ∧ X.cell? ⟨ga, 2, none⟩ = some (.int .u8 ab) ∧ X.cell? ⟨ga, 3, none⟩ = some (.int .u8 (at1.val : Int))) ∧ X.cell? ⟨gb, 0, none⟩ = some (.int .i32 br) ∧ X.cell? ⟨gb, 1, none⟩ = some (.int .u8 bf) ∧ X.cell? ⟨gb, 2, none⟩ = some (.int .u8 bg) ∧ X.cell? ⟨gb, 3, none⟩ = some (.int .u8 (at2.val : Int))) := fun X hX => ⟨⟨blk_cell (hX.at PA.out (by simp)) 0, blk_cell (hX.at PA.out (by simp)) 1, blk_cell (hX.at PA.out (by simp)) 2, blk_cell (hX.at PA.out (by simp)) 3⟩, blk_cell (hX.at PB.out (by simp)) 0, blk_cell (hX.at PB.out (by simp)) 1, blk_cell (hX.at PB.out (by simp)) 2, blk_cell (hX.at PB.out (by simp)) 3⟩
                have hMR : Hid (Mods [] wc wc) := Lib.hid (Mods.refl [] wc)
                cases inB
                case true =>
                  have hinp : x ≤ x0 ∧ (x0 : Int) < x + rw' ∧ y ≤ y0 ∧ (y0 : Int) < y + rh := of_decide_eq_true HINB.out.symm
                  have hcp := HIN.out hinp
                  have KP : ∀ X, Calls Tryd.prog 26 #[.int .i64 c] X fun e X' => e = .returned (.agg #[.int .i32 br, .int .u8 bf, .int .u8 bg, .int .u8 (at2.val : Int)]) ∧ Mods [] X X' := fun X => by
                    have := law06_plain X c
                    rw [← hcp] at this
                    exact this
                  have HKP := Lib.hid KP
                  have hne : ∀ X, (binOp .neq 27 (.agg #[.int .i32 br, .int .u8 bf, .int .u8 bg, .int .u8 (at2.val : Int)]) (.agg #[.int .i32 br, .int .u8 bf, .int .u8 bg, .int .u8 (at2.val : Int)])).run Tryd.prog X = .ok (.bool false) X := fun X => by
                    have := run_neq_cell X ⟨br, bf, bg, at2⟩ ⟨br, bf, bg, at2⟩
                    simpa using this
                  clear KP hcp hinp
                  go_upto_region 17 with fail
                  refine wp_region_held_drew (S := (fun X => (X.cell? ⟨ga, 0, none⟩ = some (.int .i32 ar) ∧ X.cell? ⟨ga, 1, none⟩ = some (.int .u8 af) ∧ X.cell? ⟨ga, 2, none⟩ = some (.int .u8 ab) ∧ X.cell? ⟨ga, 3, none⟩ = some (.int .u8 (at1.val : Int))) ∧ X.cell? ⟨gb, 0, none⟩ = some (.int .i32 br) ∧ X.cell? ⟨gb, 1, none⟩ = some (.int .u8 bf) ∧ X.cell? ⟨gb, 2, none⟩ = some (.int .u8 bg) ∧ X.cell? ⟨gb, 3, none⟩ = some (.int .u8 (at2.val : Int)))) (by kernel_rfl) ?_ (fun hHeld => ?_)
                  focus ((try dsimp only); with_reducible exact KA _ hMR.out.drew)
                  refine wpAnyH_take (i := 0) (v := ?_) op_at0 (by kernel_rfl) (by kernel_rfl) (by kernel_rfl) (fun _ _ _ h => h) (Or.inl ⟨by rfl, ?_⟩) (by assumption) ?_
                  rotate_left
                  focus ((intro w hSw; (try dsimp only at hSw); go_simp) <;> with_reducible rfl)
                  all_goals skip
                  try simp only [Act.put, List.setIfInBounds_toArray, List.set_cons_zero, List.set_cons_succ]
                  refine wpAnyH_take (i := 1) (v := ?_) (op_atS op_at0) (by kernel_rfl) (by kernel_rfl) (by kernel_rfl) (fun _ _ _ h => h) (Or.inl ⟨by rfl, ?_⟩) (by assumption) ?_
                  rotate_left
                  focus ((intro w hSw; (try dsimp only at hSw); go_simp) <;> with_reducible rfl)
                  all_goals skip
                  try simp only [Act.put, List.setIfInBounds_toArray, List.set_cons_zero, List.set_cons_succ]
                  refine wpAnyH_take (i := 2) (v := ?_) (op_atS (op_atS op_at0)) (by kernel_rfl) (by kernel_rfl) (by kernel_rfl) (fun _ _ _ h => h) (Or.inl ⟨by rfl, ?_⟩) (by assumption) ?_
                  rotate_left
                  focus ((intro w hSw; (try dsimp only at hSw); go_simp) <;> with_reducible rfl)
                  all_goals skip
                  try simp only [Act.put, List.setIfInBounds_toArray, List.set_cons_zero, List.set_cons_succ]
                  refine wpAnyH_take (i := 3) (v := ?_) (op_atS (op_atS (op_atS op_at0))) (by kernel_rfl) (by kernel_rfl) (by kernel_rfl) (fun _ _ _ h => h) (Or.inl ⟨by rfl, ?_⟩) (by assumption) ?_
                  rotate_left
                  focus ((intro w hSw; (try dsimp only at hSw); go_simp) <;> with_reducible rfl)
                  all_goals skip
                  try simp only [Act.put, List.setIfInBounds_toArray, List.set_cons_zero, List.set_cons_succ]
                  refine wpAnyH_ready (rs := [4]) (by kernel_rfl) (by simp) ?_
                  refine AllReadyH.cons (op_atS (op_atS (op_atS (op_atS op_at0)))) (fun K hK => ?_) AllReadyH.nil
                  go_simp
                  ((go_at_call 26; refine (HKP.out _).mono ?_; rintro e w9 ⟨rfl, hm9⟩; have hmK : Mods [] wc w9 := hMR.out.drew.trans hm9))
                  try go_wp2_with fail
                  refine hK.out _ _ ?_ (fun hHeld2 => ?_)
                  focus ((try dsimp only); with_reducible exact KA _ hmK)
                  clear hK K hHeld
                  have hHeld := hHeld2
                  clear hHeld2
                  try simp only [Act.put, List.setIfInBounds_toArray, List.set_cons_zero, List.set_cons_succ]
                  refine wpAnyH_take (i := 5) (v := ?_) (op_atS (op_atS (op_atS (op_atS (op_atS op_at0))))) (by kernel_rfl) (by kernel_rfl) (by kernel_rfl) (fun _ _ _ h => h) (Or.inl ⟨by rfl, ?_⟩) (by assumption) ?_
                  rotate_left
                  focus ((intro w hSw; (try dsimp only at hSw); go_simp) <;> with_reducible rfl)
                  all_goals skip
                  try simp only [Act.put, List.setIfInBounds_toArray, List.set_cons_zero, List.set_cons_succ]
                  refine wpAnyH_take (i := 6) (v := ?_) (op_atS (op_atS (op_atS (op_atS (op_atS (op_atS op_at0)))))) (by kernel_rfl) (by kernel_rfl) (by kernel_rfl) (fun _ _ _ h => h) (Or.inl ⟨by rfl, ?_⟩) (by assumption) ?_
                  rotate_left
                  focus ((intro w hSw; (try dsimp only at hSw); go_simp) <;> with_reducible rfl)
                  all_goals skip
                  try simp only [Act.put, List.setIfInBounds_toArray, List.set_cons_zero, List.set_cons_succ]
                  refine wpAnyH_take (i := 7) (v := ?_) (op_atS (op_atS (op_atS (op_atS (op_atS (op_atS (op_atS op_at0))))))) (by kernel_rfl) (by kernel_rfl) (by kernel_rfl) (fun _ _ _ h => h) (Or.inl ⟨by rfl, ?_⟩) (by assumption) ?_
                  rotate_left
                  focus ((intro w hSw; (try dsimp only at hSw); go_simp) <;> with_reducible rfl)
                  all_goals skip
                  try simp only [Act.put, List.setIfInBounds_toArray, List.set_cons_zero, List.set_cons_succ]
                  refine wpAnyH_take (i := 8) (v := ?_) (op_atS (op_atS (op_atS (op_atS (op_atS (op_atS (op_atS (op_atS op_at0)))))))) (by kernel_rfl) (by kernel_rfl) (by kernel_rfl) (fun _ _ _ h => h) (Or.inl ⟨by rfl, ?_⟩) (by assumption) ?_
                  rotate_left
                  focus ((intro w hSw; (try dsimp only at hSw); go_simp) <;> with_reducible rfl)
                  all_goals skip
                  try simp only [Act.put, List.setIfInBounds_toArray, List.set_cons_zero, List.set_cons_succ]
                  refine wpAnyH_take (i := 9) (v := ?_) (op_atS (op_atS (op_atS (op_atS (op_atS (op_atS (op_atS (op_atS (op_atS op_at0))))))))) (by kernel_rfl) (by kernel_rfl) (by kernel_rfl) (fun _ _ _ h => h) (Or.inl ⟨by rfl, ?_⟩) (by assumption) ?_
                  rotate_left
                  focus ((intro w hSw; (try dsimp only at hSw); go_simp) <;> with_reducible rfl)
                  all_goals skip
                  try simp only [Act.put, List.setIfInBounds_toArray, List.set_cons_zero, List.set_cons_succ]
                  refine wpAnyH_take (i := 10) (v := ?_) (op_atS (op_atS (op_atS (op_atS (op_atS (op_atS (op_atS (op_atS (op_atS (op_atS op_at0)))))))))) (by kernel_rfl) (by kernel_rfl) (by kernel_rfl) (fun _ _ _ h => h) (Or.inl ⟨by rfl, ?_⟩) (by assumption) ?_
                  rotate_left
                  focus ((intro w hSw; (try dsimp only at hSw); go_simp) <;> with_reducible rfl)
                  all_goals skip
                  try simp only [Act.put, List.setIfInBounds_toArray, List.set_cons_zero, List.set_cons_succ]
                  refine wpAnyH_take (i := 11) (v := undef) (op_atS (op_atS (op_atS (op_atS (op_atS (op_atS (op_atS (op_atS (op_atS (op_atS (op_atS op_at0))))))))))) (by kernel_rfl) (by kernel_rfl) (by kernel_rfl) (fun _ _ _ h => h) (Or.inr ⟨by rfl, rfl⟩) (by assumption) ?_
                  try simp only [Act.put, List.setIfInBounds_toArray, List.set_cons_zero, List.set_cons_succ]
                  refine wpAnyH_take (i := 12) (v := undef) (op_atS (op_atS (op_atS (op_atS (op_atS (op_atS (op_atS (op_atS (op_atS (op_atS (op_atS (op_atS op_at0)))))))))))) (by kernel_rfl) (by kernel_rfl) (by kernel_rfl) (fun _ _ _ h => h) (Or.inr ⟨by rfl, rfl⟩) (by assumption) ?_
                  try simp only [Act.put, List.setIfInBounds_toArray, List.set_cons_zero, List.set_cons_succ]
                  refine wpAnyH_take (i := 13) (v := undef) (op_atS (op_atS (op_atS (op_atS (op_atS (op_atS (op_atS (op_atS (op_atS (op_atS (op_atS (op_atS (op_atS op_at0))))))))))))) (by kernel_rfl) (by kernel_rfl) (by kernel_rfl) (fun _ _ _ h => h) (Or.inr ⟨by rfl, rfl⟩) (by assumption) ?_
                  try simp only [Act.put, List.setIfInBounds_toArray, List.set_cons_zero, List.set_cons_succ]
                  refine wpAnyH_take (i := 14) (v := ?_) (op_atS (op_atS (op_atS (op_atS (op_atS (op_atS (op_atS (op_atS (op_atS (op_atS (op_atS (op_atS (op_atS (op_atS op_at0)))))))))))))) (by kernel_rfl) (by kernel_rfl) (by kernel_rfl) (fun _ _ _ h => h) (Or.inl ⟨by rfl, ?_⟩) (by assumption) ?_
                  rotate_left
                  focus ((intro w hSw; (try dsimp only at hSw); go_simp) <;> with_reducible rfl)
                  all_goals skip
                  try simp only [Act.put, List.setIfInBounds_toArray, List.set_cons_zero, List.set_cons_succ]
                  refine wpAnyH_take (i := 15) (v := ?_) (op_atS (op_atS (op_atS (op_atS (op_atS (op_atS (op_atS (op_atS (op_atS (op_atS (op_atS (op_atS (op_atS (op_atS (op_atS op_at0))))))))))))))) (by kernel_rfl) (by kernel_rfl) (by kernel_rfl) (fun _ _ _ h => h) (Or.inl ⟨by rfl, ?_⟩) (by assumption) ?_
                  rotate_left
                  focus ((intro w hSw; (try dsimp only at hSw); go_simp) <;> with_reducible rfl)
                  all_goals skip
                  try simp only [Act.put, List.setIfInBounds_toArray, List.set_cons_zero, List.set_cons_succ]
                  refine wpAnyH_take (i := 16) (v := undef) (op_atS (op_atS (op_atS (op_atS (op_atS (op_atS (op_atS (op_atS (op_atS (op_atS (op_atS (op_atS (op_atS (op_atS (op_atS (op_atS op_at0)))))))))))))))) (by kernel_rfl) (by kernel_rfl) (by kernel_rfl) (fun _ _ _ h => h) (Or.inr ⟨by rfl, rfl⟩) (by assumption) ?_
                  try simp only [Act.put, List.setIfInBounds_toArray, List.set_cons_zero, List.set_cons_succ]
                  refine wpAnyH_take (i := 17) (v := undef) (op_atS (op_atS (op_atS (op_atS (op_atS (op_atS (op_atS (op_atS (op_atS (op_atS (op_atS (op_atS (op_atS (op_atS (op_atS (op_atS (op_atS op_at0))))))))))))))))) (by kernel_rfl) (by kernel_rfl) (by kernel_rfl) (fun _ _ _ h => h) (Or.inr ⟨by rfl, rfl⟩) (by assumption) ?_
                  try simp only [Act.put, List.setIfInBounds_toArray, List.set_cons_zero, List.set_cons_succ]
                  refine wpAnyH_take (i := 18) (v := ?_) (op_atS (op_atS (op_atS (op_atS (op_atS (op_atS (op_atS (op_atS (op_atS (op_atS (op_atS (op_atS (op_atS (op_atS (op_atS (op_atS (op_atS (op_atS op_at0)))))))))))))))))) (by kernel_rfl) (by kernel_rfl) (by kernel_rfl) (fun _ _ _ h => h) (Or.inl ⟨by rfl, ?_⟩) (by assumption) ?_
                  rotate_left
                  focus ((intro w hSw; (try dsimp only at hSw); go_simp) <;> with_reducible rfl)
                  all_goals skip
                  try simp only [Act.put, List.setIfInBounds_toArray, List.set_cons_zero, List.set_cons_succ]
                  refine wpAnyH_take (i := 19) (v := ?_) (op_atS (op_atS (op_atS (op_atS (op_atS (op_atS (op_atS (op_atS (op_atS (op_atS (op_atS (op_atS (op_atS (op_atS (op_atS (op_atS (op_atS (op_atS (op_atS op_at0))))))))))))))))))) (by kernel_rfl) (by kernel_rfl) (by kernel_rfl) (fun _ _ _ h => h) (Or.inl ⟨by rfl, ?_⟩) (by assumption) ?_
                  rotate_left
                  focus ((intro w hSw; (try dsimp only at hSw); go_simp) <;> with_reducible rfl)
                  all_goals skip
                  try simp only [Act.put, List.setIfInBounds_toArray, List.set_cons_zero, List.set_cons_succ]
                  refine wpAnyH_done (by kernel_rfl) ?_ _
                  go_wp2
                  go_roundg (gk - 1)
                  case measure => omega
                  case rel => exact ⟨x0 + 1, by go_num, by omega, hMi.trans (hmAB.trans hmK), by omega⟩
                case false =>
                  have hinp : ¬ (x ≤ x0 ∧ (x0 : Int) < x + rw' ∧ y ≤ y0 ∧ (y0 : Int) < y + rh) := of_decide_eq_false HINB.out.symm
                  have hho := HOUT.out hinp
                  by_cases hab : (⟨ar, af, ab, at1⟩ : Cell) = ⟨br, bf, bg, at2⟩
                  · have hne : ∀ X, (binOp .neq 27 (.agg #[.int .i32 ar, .int .u8 af, .int .u8 ab, .int .u8 (at1.val : Int)]) (.agg #[.int .i32 br, .int .u8 bf, .int .u8 bg, .int .u8 (at2.val : Int)])).run Tryd.prog X = .ok (.bool false) X := fun X => by
                      have := run_neq_cell X ⟨ar, af, ab, at1⟩ ⟨br, bf, bg, at2⟩
                      rw [decide_eq_true hab] at this
                      exact this
                    clear hinp hho hab
                    go_upto_region 17 with fail
                    refine wp_region_held_drew (S := (fun X => (X.cell? ⟨ga, 0, none⟩ = some (.int .i32 ar) ∧ X.cell? ⟨ga, 1, none⟩ = some (.int .u8 af) ∧ X.cell? ⟨ga, 2, none⟩ = some (.int .u8 ab) ∧ X.cell? ⟨ga, 3, none⟩ = some (.int .u8 (at1.val : Int))) ∧ X.cell? ⟨gb, 0, none⟩ = some (.int .i32 br) ∧ X.cell? ⟨gb, 1, none⟩ = some (.int .u8 bf) ∧ X.cell? ⟨gb, 2, none⟩ = some (.int .u8 bg) ∧ X.cell? ⟨gb, 3, none⟩ = some (.int .u8 (at2.val : Int)))) (by kernel_rfl) ?_ (fun hHeld => ?_)
                    focus ((try dsimp only); with_reducible exact KA _ hMR.out.drew)
                    refine wpAnyH_take (i := 0) (v := ?_) op_at0 (by kernel_rfl) (by kernel_rfl) (by kernel_rfl) (fun _ _ _ h => h) (Or.inl ⟨by rfl, ?_⟩) (by assumption) ?_
                    rotate_left
                    focus ((intro w hSw; (try dsimp only at hSw); go_simp) <;> with_reducible rfl)
                    all_goals skip
                    try simp only [Act.put, List.setIfInBounds_toArray, List.set_cons_zero, List.set_cons_succ]
                    refine wpAnyH_take (i := 1) (v := ?_) (op_atS op_at0) (by kernel_rfl) (by kernel_rfl) (by kernel_rfl) (fun _ _ _ h => h) (Or.inl ⟨by rfl, ?_⟩) (by assumption) ?_
                    rotate_left
                    focus ((intro w hSw; (try dsimp only at hSw); go_simp) <;> with_reducible rfl)
                    all_goals skip
                    try simp only [Act.put, List.setIfInBounds_toArray, List.set_cons_zero, List.set_cons_succ]
                    refine wpAnyH_take (i := 2) (v := undef) (op_atS (op_atS op_at0)) (by kernel_rfl) (by kernel_rfl) (by kernel_rfl) (fun _ _ _ h => h) (Or.inr ⟨by rfl, rfl⟩) (by assumption) ?_
                    try simp only [Act.put, List.setIfInBounds_toArray, List.set_cons_zero, List.set_cons_succ]
                    refine wpAnyH_take (i := 3) (v := undef) (op_atS (op_atS (op_atS op_at0))) (by kernel_rfl) (by kernel_rfl) (by kernel_rfl) (fun _ _ _ h => h) (Or.inr ⟨by rfl, rfl⟩) (by assumption) ?_
                    try simp only [Act.put, List.setIfInBounds_toArray, List.set_cons_zero, List.set_cons_succ]
                    refine wpAnyH_take (i := 4) (v := undef) (op_atS (op_atS (op_atS (op_atS op_at0)))) (by kernel_rfl) (by kernel_rfl) (by kernel_rfl) (fun _ _ _ h => h) (Or.inr ⟨by rfl, rfl⟩) (by assumption) ?_
                    try simp only [Act.put, List.setIfInBounds_toArray, List.set_cons_zero, List.set_cons_succ]
                    refine wpAnyH_take (i := 5) (v := undef) (op_atS (op_atS (op_atS (op_atS (op_atS op_at0))))) (by kernel_rfl) (by kernel_rfl) (by kernel_rfl) (fun _ _ _ h => h) (Or.inr ⟨by rfl, rfl⟩) (by assumption) ?_
                    try simp only [Act.put, List.setIfInBounds_toArray, List.set_cons_zero, List.set_cons_succ]
                    refine wpAnyH_take (i := 6) (v := ?_) (op_atS (op_atS (op_atS (op_atS (op_atS (op_atS op_at0)))))) (by kernel_rfl) (by kernel_rfl) (by kernel_rfl) (fun _ _ _ h => h) (Or.inl ⟨by rfl, ?_⟩) (by assumption) ?_
                    rotate_left
                    focus ((intro w hSw; (try dsimp only at hSw); go_simp) <;> with_reducible rfl)
                    all_goals skip
                    try simp only [Act.put, List.setIfInBounds_toArray, List.set_cons_zero, List.set_cons_succ]
                    refine wpAnyH_take (i := 7) (v := ?_) (op_atS (op_atS (op_atS (op_atS (op_atS (op_atS (op_atS op_at0))))))) (by kernel_rfl) (by kernel_rfl) (by kernel_rfl) (fun _ _ _ h => h) (Or.inl ⟨by rfl, ?_⟩) (by assumption) ?_
                    rotate_left
                    focus ((intro w hSw; (try dsimp only at hSw); go_simp) <;> with_reducible rfl)
                    all_goals skip
                    try simp only [Act.put, List.setIfInBounds_toArray, List.set_cons_zero, List.set_cons_succ]
                    refine wpAnyH_take (i := 8) (v := ?_) (op_atS (op_atS (op_atS (op_atS (op_atS (op_atS (op_atS (op_atS op_at0)))))))) (by kernel_rfl) (by kernel_rfl) (by kernel_rfl) (fun _ _ _ h => h) (Or.inl ⟨by rfl, ?_⟩) (by assumption) ?_
                    rotate_left
                    focus ((intro w hSw; (try dsimp only at hSw); go_simp) <;> with_reducible rfl)
                    all_goals skip
                    try simp only [Act.put, List.setIfInBounds_toArray, List.set_cons_zero, List.set_cons_succ]
                    refine wpAnyH_take (i := 9) (v := ?_) (op_atS (op_atS (op_atS (op_atS (op_atS (op_atS (op_atS (op_atS (op_atS op_at0))))))))) (by kernel_rfl) (by kernel_rfl) (by kernel_rfl) (fun _ _ _ h => h) (Or.inl ⟨by rfl, ?_⟩) (by assumption) ?_
                    rotate_left
                    focus ((intro w hSw; (try dsimp only at hSw); go_simp) <;> with_reducible rfl)
                    all_goals skip
                    try simp only [Act.put, List.setIfInBounds_toArray, List.set_cons_zero, List.set_cons_succ]
                    refine wpAnyH_take (i := 10) (v := ?_) (op_atS (op_atS (op_atS (op_atS (op_atS (op_atS (op_atS (op_atS (op_atS (op_atS op_at0)))))))))) (by kernel_rfl) (by kernel_rfl) (by kernel_rfl) (fun _ _ _ h => h) (Or.inl ⟨by rfl, ?_⟩) (by assumption) ?_
                    rotate_left
                    focus ((intro w hSw; (try dsimp only at hSw); go_simp) <;> with_reducible rfl)
                    all_goals skip
                    try simp only [Act.put, List.setIfInBounds_toArray, List.set_cons_zero, List.set_cons_succ]
                    refine wpAnyH_take (i := 11) (v := ?_) (op_atS (op_atS (op_atS (op_atS (op_atS (op_atS (op_atS (op_atS (op_atS (op_atS (op_atS op_at0))))))))))) (by kernel_rfl) (by kernel_rfl) (by kernel_rfl) (fun _ _ _ h => h) (Or.inl ⟨by rfl, ?_⟩) (by assumption) ?_
                    rotate_left
                    focus ((intro w hSw; (try dsimp only at hSw); go_simp) <;> with_reducible rfl)
                    all_goals skip
                    try simp only [Act.put, List.setIfInBounds_toArray, List.set_cons_zero, List.set_cons_succ]
                    refine wpAnyH_take (i := 12) (v := ?_) (op_atS (op_atS (op_atS (op_atS (op_atS (op_atS (op_atS (op_atS (op_atS (op_atS (op_atS (op_atS op_at0)))))))))))) (by kernel_rfl) (by kernel_rfl) (by kernel_rfl) (fun _ _ _ h => h) (Or.inl ⟨by rfl, ?_⟩) (by assumption) ?_
                    rotate_left
                    focus ((intro w hSw; (try dsimp only at hSw); go_simp) <;> with_reducible rfl)
                    all_goals skip
                    try simp only [Act.put, List.setIfInBounds_toArray, List.set_cons_zero, List.set_cons_succ]
                    refine wpAnyH_take (i := 13) (v := ?_) (op_atS (op_atS (op_atS (op_atS (op_atS (op_atS (op_atS (op_atS (op_atS (op_atS (op_atS (op_atS (op_atS op_at0))))))))))))) (by kernel_rfl) (by kernel_rfl) (by kernel_rfl) (fun _ _ _ h => h) (Or.inl ⟨by rfl, ?_⟩) (by assumption) ?_
                    rotate_left
                    focus ((intro w hSw; (try dsimp only at hSw); go_simp) <;> with_reducible rfl)
                    all_goals skip
                    try simp only [Act.put, List.setIfInBounds_toArray, List.set_cons_zero, List.set_cons_succ]
                    refine wpAnyH_take (i := 14) (v := ?_) (op_atS (op_atS (op_atS (op_atS (op_atS (op_atS (op_atS (op_atS (op_atS (op_atS (op_atS (op_atS (op_atS (op_atS op_at0)))))))))))))) (by kernel_rfl) (by kernel_rfl) (by kernel_rfl) (fun _ _ _ h => h) (Or.inl ⟨by rfl, ?_⟩) (by assumption) ?_
                    rotate_left
                    focus ((intro w hSw; (try dsimp only at hSw); go_simp) <;> with_reducible rfl)
                    all_goals skip
                    try simp only [Act.put, List.setIfInBounds_toArray, List.set_cons_zero, List.set_cons_succ]
                    refine wpAnyH_take (i := 15) (v := ?_) (op_atS (op_atS (op_atS (op_atS (op_atS (op_atS (op_atS (op_atS (op_atS (op_atS (op_atS (op_atS (op_atS (op_atS (op_atS op_at0))))))))))))))) (by kernel_rfl) (by kernel_rfl) (by kernel_rfl) (fun _ _ _ h => h) (Or.inl ⟨by rfl, ?_⟩) (by assumption) ?_
                    rotate_left
                    focus ((intro w hSw; (try dsimp only at hSw); go_simp) <;> with_reducible rfl)
                    all_goals skip
                    try simp only [Act.put, List.setIfInBounds_toArray, List.set_cons_zero, List.set_cons_succ]
                    refine wpAnyH_take (i := 16) (v := undef) (op_atS (op_atS (op_atS (op_atS (op_atS (op_atS (op_atS (op_atS (op_atS (op_atS (op_atS (op_atS (op_atS (op_atS (op_atS (op_atS op_at0)))))))))))))))) (by kernel_rfl) (by kernel_rfl) (by kernel_rfl) (fun _ _ _ h => h) (Or.inr ⟨by rfl, rfl⟩) (by assumption) ?_
                    try simp only [Act.put, List.setIfInBounds_toArray, List.set_cons_zero, List.set_cons_succ]
                    refine wpAnyH_take (i := 17) (v := undef) (op_atS (op_atS (op_atS (op_atS (op_atS (op_atS (op_atS (op_atS (op_atS (op_atS (op_atS (op_atS (op_atS (op_atS (op_atS (op_atS (op_atS op_at0))))))))))))))))) (by kernel_rfl) (by kernel_rfl) (by kernel_rfl) (fun _ _ _ h => h) (Or.inr ⟨by rfl, rfl⟩) (by assumption) ?_
                    try simp only [Act.put, List.setIfInBounds_toArray, List.set_cons_zero, List.set_cons_succ]
                    refine wpAnyH_take (i := 18) (v := ?_) (op_atS (op_atS (op_atS (op_atS (op_atS (op_atS (op_atS (op_atS (op_atS (op_atS (op_atS (op_atS (op_atS (op_atS (op_atS (op_atS (op_atS (op_atS op_at0)))))))))))))))))) (by kernel_rfl) (by kernel_rfl) (by kernel_rfl) (fun _ _ _ h => h) (Or.inl ⟨by rfl, ?_⟩) (by assumption) ?_
                    rotate_left
                    focus ((intro w hSw; (try dsimp only at hSw); go_simp) <;> with_reducible rfl)
                    all_goals skip
                    try simp only [Act.put, List.setIfInBounds_toArray, List.set_cons_zero, List.set_cons_succ]
                    refine wpAnyH_take (i := 19) (v := ?_) (op_atS (op_atS (op_atS (op_atS (op_atS (op_atS (op_atS (op_atS (op_atS (op_atS (op_atS (op_atS (op_atS (op_atS (op_atS (op_atS (op_atS (op_atS (op_atS op_at0))))))))))))))))))) (by kernel_rfl) (by kernel_rfl) (by kernel_rfl) (fun _ _ _ h => h) (Or.inl ⟨by rfl, ?_⟩) (by assumption) ?_
                    rotate_left
                    focus ((intro w hSw; (try dsimp only at hSw); go_simp) <;> with_reducible rfl)
                    all_goals skip
                    try simp only [Act.put, List.setIfInBounds_toArray, List.set_cons_zero, List.set_cons_succ]
                    refine wpAnyH_done (by kernel_rfl) ?_ _
                    go_wp2
                    go_roundg (gk - 1)
                    case measure => omega
                    case rel => exact ⟨x0 + 1, by go_num, by omega, hMi.trans (hmAB.trans (Mods.refl _ _).drew), by omega⟩
                  · have hhalf : hfB = true := by
                      rcases hho with h1 | ⟨h1, h2, h3, h4⟩
                      · exact absurd h1 hab
                      · have q6 := H6.out
                        have q7 := H7.out
                        rw [HHF.out, decide_eq_true h1, decide_eq_true h2, decide_eq_true h3]
                        rcases h4 with h4 | h4
                        · have : b6 = true := by rw [← q6]; simpa using h4
                          simp [this]
                        · have : b7 = true := by rw [← q7]; simpa using h4
                          simp [this]
                    have hne : ∀ X, (binOp .neq 27 (.agg #[.int .i32 ar, .int .u8 af, .int .u8 ab, .int .u8 (at1.val : Int)]) (.agg #[.int .i32 br, .int .u8 bf, .int .u8 bg, .int .u8 (at2.val : Int)])).run Tryd.prog X = .ok (.bool true) X := fun X => by
                      have := run_neq_cell X ⟨ar, af, ab, at1⟩ ⟨br, bf, bg, at2⟩
                      rw [decide_eq_false hab] at this
                      exact this
                    subst hhalf
                    clear hinp hho hab
                    go_upto_region 17 with fail
                    refine wp_region_held_drew (S := (fun X => (X.cell? ⟨ga, 0, none⟩ = some (.int .i32 ar) ∧ X.cell? ⟨ga, 1, none⟩ = some (.int .u8 af) ∧ X.cell? ⟨ga, 2, none⟩ = some (.int .u8 ab) ∧ X.cell? ⟨ga, 3, none⟩ = some (.int .u8 (at1.val : Int))) ∧ X.cell? ⟨gb, 0, none⟩ = some (.int .i32 br) ∧ X.cell? ⟨gb, 1, none⟩ = some (.int .u8 bf) ∧ X.cell? ⟨gb, 2, none⟩ = some (.int .u8 bg) ∧ X.cell? ⟨gb, 3, none⟩ = some (.int .u8 (at2.val : Int)))) (by kernel_rfl) ?_ (fun hHeld => ?_)
                    focus ((try dsimp only); with_reducible exact KA _ hMR.out.drew)
                    refine wpAnyH_take (i := 0) (v := ?_) op_at0 (by kernel_rfl) (by kernel_rfl) (by kernel_rfl) (fun _ _ _ h => h) (Or.inl ⟨by rfl, ?_⟩) (by assumption) ?_
                    rotate_left
                    focus ((intro w hSw; (try dsimp only at hSw); go_simp) <;> with_reducible rfl)
                    all_goals skip
                    try simp only [Act.put, List.setIfInBounds_toArray, List.set_cons_zero, List.set_cons_succ]
                    refine wpAnyH_take (i := 1) (v := ?_) (op_atS op_at0) (by kernel_rfl) (by kernel_rfl) (by kernel_rfl) (fun _ _ _ h => h) (Or.inl ⟨by rfl, ?_⟩) (by assumption) ?_
                    rotate_left
                    focus ((intro w hSw; (try dsimp only at hSw); go_simp) <;> with_reducible rfl)
                    all_goals skip
                    try simp only [Act.put, List.setIfInBounds_toArray, List.set_cons_zero, List.set_cons_succ]
                    refine wpAnyH_take (i := 2) (v := undef) (op_atS (op_atS op_at0)) (by kernel_rfl) (by kernel_rfl) (by kernel_rfl) (fun _ _ _ h => h) (Or.inr ⟨by rfl, rfl⟩) (by assumption) ?_
                    try simp only [Act.put, List.setIfInBounds_toArray, List.set_cons_zero, List.set_cons_succ]
                    refine wpAnyH_take (i := 3) (v := undef) (op_atS (op_atS (op_atS op_at0))) (by kernel_rfl) (by kernel_rfl) (by kernel_rfl) (fun _ _ _ h => h) (Or.inr ⟨by rfl, rfl⟩) (by assumption) ?_
                    try simp only [Act.put, List.setIfInBounds_toArray, List.set_cons_zero, List.set_cons_succ]
                    refine wpAnyH_take (i := 4) (v := undef) (op_atS (op_atS (op_atS (op_atS op_at0)))) (by kernel_rfl) (by kernel_rfl) (by kernel_rfl) (fun _ _ _ h => h) (Or.inr ⟨by rfl, rfl⟩) (by assumption) ?_
                    try simp only [Act.put, List.setIfInBounds_toArray, List.set_cons_zero, List.set_cons_succ]
                    refine wpAnyH_take (i := 5) (v := undef) (op_atS (op_atS (op_atS (op_atS (op_atS op_at0))))) (by kernel_rfl) (by kernel_rfl) (by kernel_rfl) (fun _ _ _ h => h) (Or.inr ⟨by rfl, rfl⟩) (by assumption) ?_
                    try simp only [Act.put, List.setIfInBounds_toArray, List.set_cons_zero, List.set_cons_succ]
                    refine wpAnyH_take (i := 6) (v := ?_) (op_atS (op_atS (op_atS (op_atS (op_atS (op_atS op_at0)))))) (by kernel_rfl) (by kernel_rfl) (by kernel_rfl) (fun _ _ _ h => h) (Or.inl ⟨by rfl, ?_⟩) (by assumption) ?_
                    rotate_left
                    focus ((intro w hSw; (try dsimp only at hSw); go_simp) <;> with_reducible rfl)
                    all_goals skip
                    try simp only [Act.put, List.setIfInBounds_toArray, List.set_cons_zero, List.set_cons_succ]
                    refine wpAnyH_take (i := 7) (v := ?_) (op_atS (op_atS (op_atS (op_atS (op_atS (op_atS (op_atS op_at0))))))) (by kernel_rfl) (by kernel_rfl) (by kernel_rfl) (fun _ _ _ h => h) (Or.inl ⟨by rfl, ?_⟩) (by assumption) ?_
                    rotate_left
                    focus ((intro w hSw; (try dsimp only at hSw); go_simp) <;> with_reducible rfl)
                    all_goals skip
                    try simp only [Act.put, List.setIfInBounds_toArray, List.set_cons_zero, List.set_cons_succ]
                    refine wpAnyH_take (i := 8) (v := ?_) (op_atS (op_atS (op_atS (op_atS (op_atS (op_atS (op_atS (op_atS op_at0)))))))) (by kernel_rfl) (by kernel_rfl) (by kernel_rfl) (fun _ _ _ h => h) (Or.inl ⟨by rfl, ?_⟩) (by assumption) ?_
                    rotate_left
                    focus ((intro w hSw; (try dsimp only at hSw); go_simp) <;> with_reducible rfl)
                    all_goals skip
                    try simp only [Act.put, List.setIfInBounds_toArray, List.set_cons_zero, List.set_cons_succ]
                    refine wpAnyH_take (i := 9) (v := ?_) (op_atS (op_atS (op_atS (op_atS (op_atS (op_atS (op_atS (op_atS (op_atS op_at0))))))))) (by kernel_rfl) (by kernel_rfl) (by kernel_rfl) (fun _ _ _ h => h) (Or.inl ⟨by rfl, ?_⟩) (by assumption) ?_
                    rotate_left
                    focus ((intro w hSw; (try dsimp only at hSw); go_simp) <;> with_reducible rfl)
                    all_goals skip
                    try simp only [Act.put, List.setIfInBounds_toArray, List.set_cons_zero, List.set_cons_succ]
                    refine wpAnyH_take (i := 10) (v := ?_) (op_atS (op_atS (op_atS (op_atS (op_atS (op_atS (op_atS (op_atS (op_atS (op_atS op_at0)))))))))) (by kernel_rfl) (by kernel_rfl) (by kernel_rfl) (fun _ _ _ h => h) (Or.inl ⟨by rfl, ?_⟩) (by assumption) ?_
                    rotate_left
                    focus ((intro w hSw; (try dsimp only at hSw); go_simp) <;> with_reducible rfl)
                    all_goals skip
                    try simp only [Act.put, List.setIfInBounds_toArray, List.set_cons_zero, List.set_cons_succ]
                    refine wpAnyH_take (i := 11) (v := ?_) (op_atS (op_atS (op_atS (op_atS (op_atS (op_atS (op_atS (op_atS (op_atS (op_atS (op_atS op_at0))))))))))) (by kernel_rfl) (by kernel_rfl) (by kernel_rfl) (fun _ _ _ h => h) (Or.inl ⟨by rfl, ?_⟩) (by assumption) ?_
                    rotate_left
                    focus ((intro w hSw; (try dsimp only at hSw); go_simp) <;> with_reducible rfl)
                    all_goals skip
                    try simp only [Act.put, List.setIfInBounds_toArray, List.set_cons_zero, List.set_cons_succ]
                    refine wpAnyH_take (i := 12) (v := ?_) (op_atS (op_atS (op_atS (op_atS (op_atS (op_atS (op_atS (op_atS (op_atS (op_atS (op_atS (op_atS op_at0)))))))))))) (by kernel_rfl) (by kernel_rfl) (by kernel_rfl) (fun _ _ _ h => h) (Or.inl ⟨by rfl, ?_⟩) (by assumption) ?_
                    rotate_left
                    focus ((intro w hSw; (try dsimp only at hSw); go_simp) <;> with_reducible rfl)
                    all_goals skip
                    try simp only [Act.put, List.setIfInBounds_toArray, List.set_cons_zero, List.set_cons_succ]
                    refine wpAnyH_take (i := 13) (v := ?_) (op_atS (op_atS (op_atS (op_atS (op_atS (op_atS (op_atS (op_atS (op_atS (op_atS (op_atS (op_atS (op_atS op_at0))))))))))))) (by kernel_rfl) (by kernel_rfl) (by kernel_rfl) (fun _ _ _ h => h) (Or.inl ⟨by rfl, ?_⟩) (by assumption) ?_
                    rotate_left
                    focus ((intro w hSw; (try dsimp only at hSw); go_simp) <;> with_reducible rfl)
                    all_goals skip
                    try simp only [Act.put, List.setIfInBounds_toArray, List.set_cons_zero, List.set_cons_succ]
                    refine wpAnyH_take (i := 14) (v := ?_) (op_atS (op_atS (op_atS (op_atS (op_atS (op_atS (op_atS (op_atS (op_atS (op_atS (op_atS (op_atS (op_atS (op_atS op_at0)))))))))))))) (by kernel_rfl) (by kernel_rfl) (by kernel_rfl) (fun _ _ _ h => h) (Or.inl ⟨by rfl, ?_⟩) (by assumption) ?_
                    rotate_left
                    focus ((intro w hSw; (try dsimp only at hSw); go_simp) <;> with_reducible rfl)
                    all_goals skip
                    try simp only [Act.put, List.setIfInBounds_toArray, List.set_cons_zero, List.set_cons_succ]
                    refine wpAnyH_take (i := 15) (v := ?_) (op_atS (op_atS (op_atS (op_atS (op_atS (op_atS (op_atS (op_atS (op_atS (op_atS (op_atS (op_atS (op_atS (op_atS (op_atS op_at0))))))))))))))) (by kernel_rfl) (by kernel_rfl) (by kernel_rfl) (fun _ _ _ h => h) (Or.inl ⟨by rfl, ?_⟩) (by assumption) ?_
                    rotate_left
                    focus ((intro w hSw; (try dsimp only at hSw); go_simp) <;> with_reducible rfl)
                    all_goals skip
                    try simp only [Act.put, List.setIfInBounds_toArray, List.set_cons_zero, List.set_cons_succ]
                    refine wpAnyH_take (i := 16) (v := ?_) (op_atS (op_atS (op_atS (op_atS (op_atS (op_atS (op_atS (op_atS (op_atS (op_atS (op_atS (op_atS (op_atS (op_atS (op_atS (op_atS op_at0)))))))))))))))) (by kernel_rfl) (by kernel_rfl) (by kernel_rfl) (fun _ _ _ h => h) (Or.inl ⟨by rfl, ?_⟩) (by assumption) ?_
                    rotate_left
                    focus ((intro w hSw; (try dsimp only at hSw); go_simp) <;> with_reducible rfl)
                    all_goals skip
                    try simp only [Act.put, List.setIfInBounds_toArray, List.set_cons_zero, List.set_cons_succ]
                    refine wpAnyH_take (i := 17) (v := ?_) (op_atS (op_atS (op_atS (op_atS (op_atS (op_atS (op_atS (op_atS (op_atS (op_atS (op_atS (op_atS (op_atS (op_atS (op_atS (op_atS (op_atS op_at0))))))))))))))))) (by kernel_rfl) (by kernel_rfl) (by kernel_rfl) (fun _ _ _ h => h) (Or.inl ⟨by rfl, ?_⟩) (by assumption) ?_
                    rotate_left
                    focus ((intro w hSw; (try dsimp only at hSw); go_simp) <;> with_reducible rfl)
                    all_goals skip
                    try simp only [Act.put, List.setIfInBounds_toArray, List.set_cons_zero, List.set_cons_succ]
                    refine wpAnyH_take (i := 18) (v := ?_) (op_atS (op_atS (op_atS (op_atS (op_atS (op_atS (op_atS (op_atS (op_atS (op_atS (op_atS (op_atS (op_atS (op_atS (op_atS (op_atS (op_atS (op_atS op_at0)))))))))))))))))) (by kernel_rfl) (by kernel_rfl) (by kernel_rfl) (fun _ _ _ h => h) (Or.inl ⟨by rfl, ?_⟩) (by assumption) ?_
                    rotate_left
                    focus ((intro w hSw; (try dsimp only at hSw); go_simp) <;> with_reducible rfl)
                    all_goals skip
                    try simp only [Act.put, List.setIfInBounds_toArray, List.set_cons_zero, List.set_cons_succ]
                    refine wpAnyH_take (i := 19) (v := ?_) (op_atS (op_atS (op_atS (op_atS (op_atS (op_atS (op_atS (op_atS (op_atS (op_atS (op_atS (op_atS (op_atS (op_atS (op_atS (op_atS (op_atS (op_atS (op_atS op_at0))))))))))))))))))) (by kernel_rfl) (by kernel_rfl) (by kernel_rfl) (fun _ _ _ h => h) (Or.inl ⟨by rfl, ?_⟩) (by assumption) ?_
                    rotate_left
                    focus ((intro w hSw; (try dsimp only at hSw); go_simp) <;> with_reducible rfl)
                    all_goals skip
                    try simp only [Act.put, List.setIfInBounds_toArray, List.set_cons_zero, List.set_cons_succ]
                    refine wpAnyH_done (by kernel_rfl) ?_ _
                    go_wp2
                    go_roundg (gk - 1)
                    case measure => omega
                    case rel => exact ⟨x0 + 1, by go_num, by omega, hMi.trans (hmAB.trans (Mods.refl _ _).drew), by omega⟩
          · have hinx : x0 = w := by omega
            subst hinx
            go_wp2
            go_roundg (gout - 1)
            case measure => omega
            case rel => exact ⟨y0 + 1, by go_num, by omega, hMo.trans hMi, by omega⟩
      · have hin : y0 = h := by omega
        subst hin
        go_wp2
        go_ret
        exact ⟨rfl, hM0.trans (hm12.trans (hm3.trans (HM4.out.trans hMo)))⟩
end Go.Proofs.YtldjmacnokkjdaaDoor
