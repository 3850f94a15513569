/- GridScrolls's walk. -/
import Derived.Test.YtldjmacnokkjdaaDoorGScr
import Derived.Test.YtldjmacnokkjdaaDoorHs
import Derived.Test.YtldjmacnokkjdaaDoorNeqC
namespace Go.Proofs.YtldjmacnokkjdaaDoor
open Go.RowKit
attribute [local go_sem] i64_and7 min2_mn min_two
set_option linter.unusedVariables false
set_option linter.unusedSimpArgs false

def ScrRel (wc : World) (h : Nat) (kk : Nat) (idx s15 s16 s17 s18 : Value) (wr : World) : Prop := ∃ i : Nat, idx = .int .i64 (i : Int) ∧ i ≤ h ∧ Mods [] wc wr ∧ kk + i = h
def ScrRel2 (wc : World) (h : Nat) (kk : Nat) (idx s18 : Value) (wr : World) : Prop := ∃ i : Nat, idx = .int .i64 (i : Int) ∧ i ≤ h ∧ Mods [] wc wr ∧ kk + i = h
def markC : Cell := ⟨95, 0, 0, 0⟩
theorem markC_ok : (markC.ok && decide (markC.attr.val < 64)) = true := by decide +kernel
set_option maxRecDepth 100000 in
set_option maxHeartbeats 4000000 in
theorem gridScrolls_walk (W : World) (nx ny : Int) (A : Option Addr) (k kc : Nat) (l : List Int) (hl : ReadsRows W A k 1 intV l) (hnx : -9223372036854775808 ≤ nx ∧ nx ≤ 9223372036854775807) (hny : -9223372036854775808 ≤ ny ∧ ny ≤ 9223372036854775807) (q0 q1 q2 : Int) :
    Calls Tryd.prog 7 #[.agg #[.int .i64 nx, .int .i64 ny, .slice A k kc], .agg #[.int .i64 q0, .int .i64 q1, .int .i64 q2]] W fun e W' => e = .returned (.bool true) ∧ Mods [] W W' := by
  have HH := Lib.hid hl
  obtain ⟨w, hw⟩ := Int.eq_ofNat_of_zero_le (show 0 ≤ 1 + nx % 12 by have := Int.emod_nonneg nx (b := 12) (by omega); omega)
  obtain ⟨h, hh⟩ := Int.eq_ofNat_of_zero_le (show 0 ≤ 1 + ny % 6 by have := Int.emod_nonneg ny (b := 6) (by omega); omega)
  have hwb : 1 ≤ w ∧ w ≤ 12 := by
    have h1 := Int.emod_nonneg nx (b := 12) (by omega)
    have h2 := Int.emod_lt_of_pos nx (b := 12) (by omega)
    omega
  have hhb : 1 ≤ h ∧ h ≤ 6 := by
    have h1 := Int.emod_nonneg ny (b := 6) (by omega)
    have h2 := Int.emod_lt_of_pos ny (b := 6) (by omega)
    omega
  obtain ⟨hw1, hw2⟩ := hwb
  obtain ⟨hh1, hh2⟩ := hhb
  have HW := Lib.hid hw.symm
  have HHH := Lib.hid hh.symm
  obtain ⟨top, htop⟩ := Int.eq_ofNat_of_zero_le (show 0 ≤ q0 % 8 from Int.emod_nonneg _ (by omega))
  obtain ⟨en, hen⟩ := Int.eq_ofNat_of_zero_le (show 0 ≤ q1 % 8 from Int.emod_nonneg _ (by omega))
  obtain ⟨kq, hkq⟩ := Int.eq_ofNat_of_zero_le (show 0 ≤ q2 % 8 from Int.emod_nonneg _ (by omega))
  have hb0 : top < 8 := by omega
  have hb1 : en < 8 := by omega
  have hb2 : kq < 8 := by omega
  have F0 := Lib.hid htop
  have F1 := Lib.hid hen
  have F2 := Lib.hid hkq
  clear hl hw hh htop hen hkq
  go_enter Tryd.func7, Tryd.ntmps7
  go_wp2_with fail
  refine Calls.named fun W0 hW0 => ?_
  obtain ⟨hM0, hb3, hb4, hsz⟩ := boxes2 hW0
  have B3 := Lib.hid hb3
  have B4 := Lib.hid hb4
  have HSZ := Lib.hid hsz
  clear hb3 hb4 hsz hW0
  refine (law06_awake W0).mono ?_
  rintro e w1 ⟨rfl, hm1⟩
  have C3 := fun i => blk_cell (hm1.at B3.out (by simp)) i
  go_wp2_with fail
  refine (num_grid w1 nx ny w h A k kc l (HH.out.keepsM (fun _ => rfl) (hM0.trans hm1) (by simp)) hnx hny HW.out HHH.out).mono ?_
  obtain ⟨n, hn⟩ : ∃ n, w * h = n := ⟨_, rfl⟩
  rw [hn]
  have HN := Lib.hid hn.symm
  clear hn C3
  rintro e w2 ⟨a, c0, L, rfl, hc0, hR, hr, hge, hm2⟩
  have hm12 := hm1.trans hm2
  have f0 := F0.out
  have f1 := F1.out
  have f2 := F2.out
  have C4 := fun i => blk_cell ((hm12.alloc (.cells #[.int .i64 (w : Int), .int .i64 (h : Int), .slice (some a) n c0] 38)).at B4.out (by simp)) i
  go_upto_region 7 with fail
  have hm3 : Mods [] w2 ((w2.alloc (.cells #[.int .i64 (w : Int), .int .i64 (h : Int), .slice (some a) n c0] 38)).alloc (.cells #[.int .i32 95, .int .u8 0, .int .u8 0, .int .u8 0] 27)) := ((Mods.refl [] w2).alloc _).alloc _
  have hb8 := blk_alloc (blk_new w2 (.cells #[.int .i64 (w : Int), .int .i64 (h : Int), .slice (some a) n c0] 38)) (.cells #[.int .i32 95, .int .u8 0, .int .u8 0, .int .u8 0] 27)
  have hb9 := blk_new' (w2.alloc (.cells #[.int .i64 (w : Int), .int .i64 (h : Int), .slice (some a) n c0] 38)) (.cells #[.int .i32 95, .int .u8 0, .int .u8 0, .int .u8 0] 27) (k := w2.heap.size + 1) (by simp)
  have hs3 : ((w2.alloc (.cells #[.int .i64 (w : Int), .int .i64 (h : Int), .slice (some a) n c0] 38)).alloc (.cells #[.int .i32 95, .int .u8 0, .int .u8 0, .int .u8 0] 27)).heap.size = w2.heap.size + 1 + 1 := by simp
  clear C4 f0 f1 f2
  generalize (w2.alloc (.cells #[.int .i64 (w : Int), .int .i64 (h : Int), .slice (some a) n c0] 38)).alloc (.cells #[.int .i32 95, .int .u8 0, .int .u8 0, .int .u8 0] 27) = W3 at *
  have B8 := Lib.hid hb8
  have B9 := Lib.hid hb9
  have hRW3 := hR.keepsM (fun _ => rfl) hm3 (by simp)
  have GOK : Hid (GridOk w h n c0) := Lib.hid ⟨hw1, by omega, hh1, by omega, HN.out, hc0⟩
  have HRT := Lib.hid hr
  have C8 := fun i => blk_cell hb8 i
  have C9 := fun i => blk_cell hb9 i
  clear hb8 hb9 hs3
  go_wp2_with fail
  refine (grid_Scroll W3 w h n c0 a L (top : Int) (en : Int) (kq : Int) markC GOK.out hRW3 HRT.out (by omega) markC_ok).mono ?_
  rintro e w4 ⟨a4, c4, rfl, hc4, hR4, _, hm4⟩
  clear C8 C9
  have hM4 := hm4
  have C9 := fun i => blk_cell (hM4.at B9.out (by simp)) i
  have C8 := fun i => blk_cell (hM4.at B8.out (by simp)) i
  have hbu := blk_new w4 (.cells #[.int .i64 (w : Int), .int .i64 (h : Int), .slice (some a4) n c4] 38)
  have hmu : Mods [] w4 (w4.alloc (.cells #[.int .i64 (w : Int), .int .i64 (h : Int), .slice (some a4) n c4] 38)) := (Mods.refl [] w4).alloc _
  go_upto_region 8 with fail
  clear C8 C9
  generalize w4.alloc (.cells #[.int .i64 (w : Int), .int .i64 (h : Int), .slice (some a4) n c4] 38) = W5 at *
  have hM5 := hM4.trans hmu
  have BU := Lib.hid hbu
  have C9 := fun i => blk_cell (hM5.at B9.out (by simp)) i
  have CU := fun i => blk_cell hbu i
  clear hbu
  have hneg : IntKind.i64.wrap (-(kq : Int)) = -(kq : Int) := IntWalk.i64_in _ (by omega)
  have hlU := scrollG_len (top := (top : Int)) (en := en) (k := kq) (c := markC) hRW3.1 HN.out
  have hrU := right_scrollG (top := (top : Int)) (en := en) (k := kq) (c := markC) hRW3.1 HN.out HRT.out
  go_wp2_with fail
  refine (grid_Scroll W5 w h n c4 a4 (scrollG w h L top en kq markC) (top : Int) (en : Int) (-(kq : Int)) markC ⟨hw1, by omega, hh1, by omega, HN.out, hc4⟩ (hR4.keepsM (fun _ => rfl) hmu (by simp)) hrU (by omega) markC_ok).mono ?_
  rintro e w6 ⟨a6, c6, rfl, hc6, hR6, _, hm6⟩
  clear C9 CU
  have hM6 := hM5.trans hm6
  have hbv := blk_new w6 (.cells #[.int .i64 (w : Int), .int .i64 (h : Int), .slice (some a6) n c6] 38)
  have hmv : Mods [] w6 (w6.alloc (.cells #[.int .i64 (w : Int), .int .i64 (h : Int), .slice (some a6) n c6] 38)) := (Mods.refl [] w6).alloc _
  go_upto_region 9 with fail
  generalize w6.alloc (.cells #[.int .i64 (w : Int), .int .i64 (h : Int), .slice (some a6) n c6] 38) = W7 at *
  have hM7 := hM6.trans hmv
  have hmu7 := hm6.trans hmv
  have G6 := Lib.hid (hM7.at B8.out (by simp))
  have G9 := Lib.hid (hM7.at B9.out (by simp))
  have GU := Lib.hid (hmu7.at BU.out (by simp))
  have GV := Lib.hid hbv
  have RL := Lib.hid (hRW3.keepsM (fun _ => rfl) hM7 (by simp))
  have RU := Lib.hid (hR4.keepsM (fun _ => rfl) (hmu.trans hmu7) (by simp))
  have RV := Lib.hid (hR6.keepsM (fun _ => rfl) hmv (by simp))
  have LAW := Lib.hid (fun (y x : Nat) hy hx => scroll_law (c := markC) top en kq hRW3.1 HN.out HRT.out markC_ok y x hy hx)
  have HM7 := Lib.hid hM7
  clear hbv hmv hmu hmu7 hRW3 hR4 hR6 hM6 hm6 hM5 hM4 hm4 hlU hrU hM7
  have CU := fun i => blk_cell GU.out i
  have CV := fun i => blk_cell GV.out i
  have C6 := fun i => blk_cell G6.out i
  obtain ⟨last, hlast⟩ : ∃ last, min en h = last := ⟨_, rfl⟩
  have hmn : mn (en : Int) (h : Int) = (last : Int) := by rw [← hlast]; unfold mn; split <;> omega
  have hlb : last ≤ h := by omega
  simp only [hlast] at LAW
  clear hlast
  go_upto_region 12 with fail
  clear C6 CU CV hmn
  go_wp2
  go_loopg [14, 15, 16, 17, 18] h (ScrRel W7 h)
  case atStart => exact ⟨0, rfl, by omega, Mods.refl _ _, by omega⟩
  case round =>
    obtain ⟨y0, rfl, hy0, hMo, hkk⟩ := hrel
    have HKK := Lib.hid hkk
    have C6 := fun i => blk_cell (hMo.at G6.out (by simp)) i
    clear hkk
    by_cases hlt : y0 < h
    · have hk2 := HKK.out
      generalize gk = gout at *
      have s1 : IntKind.i64.wrap ((top : Int) + (kq : Int)) = (top : Int) + (kq : Int) := IntWalk.i64_in _ (by omega)
      obtain ⟨inB, hinB⟩ : ∃ b : Bool, b = (decide (top ≤ y0) && decide (y0 < last)) := ⟨_, rfl⟩
      obtain ⟨frB, hfrB⟩ : ∃ b : Bool, b = (inB && decide (y0 < top + kq)) := ⟨_, rfl⟩
      have HIN := Lib.hid hinB
      have HFR := Lib.hid hfrB
      clear hinB hfrB
      go_upto_region 15 with fail
      go_cut [15] from 85 to 187 (fun s15 wx => s15 = .bool inB ∧ wr = wx)
      case first =>
        have hcs : (¬ top ≤ y0) ∨ (top ≤ y0 ∧ ¬ y0 < last) ∨ (top ≤ y0 ∧ y0 < last) := by omega
        rcases hcs with c1 | ⟨c1, c2⟩ | ⟨c1, c2⟩
        all_goals
          go_wp2_with fail
          go_meet
          exact ⟨by rw [HIN.out]; simp [*], rfl⟩
      case rest =>
        obtain ⟨rfl, rfl⟩ := hcut
        go_upto_region 16 with fail
        go_cut [16] from 93 to 187 (fun s16 wx => s16 = .bool frB ∧ wr = wx)
        case first =>
          cases inB
          · go_wp2_with fail
            go_meet
            exact ⟨by rw [HFR.out]; rfl, rfl⟩
          · have hcs : y0 < top + kq ∨ ¬ y0 < top + kq := by omega
            rcases hcs with c1 | c1
            all_goals
              go_wp2_with fail
              go_meet
              exact ⟨by rw [HFR.out]; (simp [*] <;> omega), rfl⟩
        case rest =>
          obtain ⟨rfl, rfl⟩ := hcut
          go_wp2
          clear C6
          go_loopg [17, 18] w (ScrRel2 wr w)
          case atStart => exact ⟨0, rfl, by omega, Mods.refl _ _, by omega⟩
          case round =>
            obtain ⟨x0, rfl, hx0, hMi, hkk⟩ := hrel
            have HKK2 := Lib.hid hkk
            have hMw := hMo.trans hMi
            have g6 := hMw.at G6.out (by simp)
            have g9 := hMw.at G9.out (by simp)
            have C6 := fun i => blk_cell g6 i
            have P6 := Lib.hid g6
            have P9 := Lib.hid g9
            have PU := Lib.hid (hMw.at GU.out (by simp))
            have PV := Lib.hid (hMw.at GV.out (by simp))
            clear hkk g6 g9
            by_cases hltx : x0 < w
            · have hk3 := HKK2.out
              obtain ⟨ca, cb, cd, hca, hcb, hcd, hd1, hd2, hu1, hu2⟩ := LAW.out y0 x0 hlt hltx
              have HD1 := Lib.hid hd1
              have HD2 := Lib.hid hd2
              have HU1 := Lib.hid hu1
              have HU2 := Lib.hid hu2
              have HCB := Lib.hid hcb
              have HCD := Lib.hid hcd
              have hle := row_le HN.out hlt
              have x00 : (x0 : Int) < (w : Int) := by omega
              have hn72 : n ≤ 72 := by rw [HN.out]; exact Nat.mul_le_mul hw2 hh2
              have hK : IntKind.i64.wrap ((y0 : Int) * (w : Int)) = ((y0 * w : Nat) : Int) := by rw [← Int.natCast_mul]; exact IntWalk.i64_in _ (by omega)
              obtain ⟨aa, haa, ca0, hcas⟩ := (RL.out.keepsM (fun _ => rfl) hMw (by simp)).row hca
              cases haa
              have ca1 := hcas 0 (by omega)
              have ca2 := hcas 1 (by omega)
              have ca3 := hcas 2 (by omega)
              clear hcas hca hcb hcd hd1 hd2 hu1 hu2
              obtain ⟨ar, af, ab, at1⟩ := ca
              simp only [Cell.vals, List.getElem?_cons_zero, List.getElem?_cons_succ] at ca0 ca1 ca2 ca3
              obtain ⟨K, hKe⟩ : ∃ K, y0 * w = K := ⟨_, rfl⟩
              rw [hKe] at hK ca0 ca1 ca2 ca3 hle
              have z0 : (0 : Int) ≤ (K : Int) + (x0 : Int) := by omega
              have z1 : (K : Int) + (x0 : Int) < (n : Int) := by omega
              have z2 : ((K : Int) + (x0 : Int)).toNat = K + x0 := by omega
              have z3 : IntKind.i64.wrap ((K : Int) + (x0 : Int)) = (K : Int) + (x0 : Int) := IntWalk.i64_in _ (by omega)
              have HKe := Lib.hid hKe
              clear hKe
              go_upto_if 117 with fail
              have hmA : Mods [] wr (wr.alloc (.cells #[.int .i32 ar, .int .u8 af, .int .u8 ab, .int .u8 (at1.val : Int)] 27)) := (Mods.refl [] wr).alloc _
              have hbA := blk_new wr (.cells #[.int .i32 ar, .int .u8 af, .int .u8 ab, .int .u8 (at1.val : Int)] 27)
              clear ca0 ca1 ca2 ca3 C6
              generalize hWA : wr.alloc (.cells #[.int .i32 ar, .int .u8 af, .int .u8 ab, .int .u8 (at1.val : Int)] 27) = WA at *
              clear hWA
              obtain ⟨dr, df, db, dt⟩ := cd
              obtain ⟨ga, hga⟩ : ∃ ga, wr.heap.size = ga := ⟨_, rfl⟩
              rw [hga] at hbA ⊢
              have HGA := Lib.hid hga
              have BA := Lib.hid hbA
              have HMA := Lib.hid hmA
              clear hga hbA hmA z0 z1 z2 z3 hK
              go_cut [] from 118 to 187 (fun wx => wx.heap[ga]? = some (.cells #[.int .i32 dr, .int .u8 df, .int .u8 db, .int .u8 (dt.val : Int)] 27 (0, 0)) ∧ Mods [] wr wx)
              case first =>
                cases frB
                · have hno : ¬ (top ≤ y0 ∧ y0 < last ∧ y0 < top + kq) := by
                    intro hh
                    have h1 := HFR.out
                    rw [HIN.out, decide_eq_true hh.1, decide_eq_true hh.2.1, decide_eq_true hh.2.2] at h1
                    cases h1
                  have e := HD2.out hno
                  clear hno
                  cases e
                  go_wp2_with fail
                  go_meet
                  exact ⟨BA.out, HMA.out⟩
                · have hyes : top ≤ y0 ∧ y0 < last ∧ y0 < top + kq := by
                    have h1 := HFR.out
                    rw [HIN.out] at h1
                    simpa [and_assoc] using h1.symm
                  have e := HD1.out hyes
                  clear hyes
                  cases e
                  have C9 := fun i => blk_cell (HMA.out.at P9.out (by simp)) i
                  have CA := fun i => blk_cell BA.out i
                  have FA := fun i => blk_frozen BA.out i
                  go_wp2_with fail
                  have e9 := blk_set (blk_set (blk_set (blk_set BA.out 0 (.int .i32 95)) 1 (.int .u8 0)) 2 (.int .u8 0)) 3 (.int .u8 0)
                  simp at e9
                  have hgz := Nat.le_of_eq HGA.out
                  go_meet
                  exact ⟨e9, (((HMA.out.setCell _ _ (.inr hgz)).setCell _ _ (.inr hgz)).setCell _ _ (.inr hgz)).setCell _ _ (.inr hgz)⟩
              case rest =>
                obtain ⟨hbW, hmW⟩ := hcut
                have KV : wc.cell? ⟨w6.heap.size, 2, none⟩ = some (.slice (some a6) n c6) := blk_cell (hmW.at PV.out (by simp)) 2
                have KG : wc.cell? ⟨w2.heap.size, 0, none⟩ = some (.int .i64 (w : Int)) := blk_cell (hmW.at P6.out (by simp)) 0
                obtain ⟨bb, hbb, cb0, hcbs⟩ := (RV.out.keepsM (fun _ => rfl) (hMw.trans hmW) (by simp)).row HCD.out
                cases hbb
                have cb1 := hcbs 0 (by omega)
                have cb2 := hcbs 1 (by omega)
                have cb3 := hcbs 2 (by omega)
                simp only [Cell.vals, List.getElem?_cons_zero, List.getElem?_cons_succ] at cb0 cb1 cb2 cb3
                have hne : ∀ X, (binOp .neq 27 (.agg #[.int .i32 dr, .int .u8 df, .int .u8 db, .int .u8 (dt.val : Int)]) (.agg #[.int .i32 dr, .int .u8 df, .int .u8 db, .int .u8 (dt.val : Int)])).run Tryd.prog X = .ok (.bool false) X := fun X => by
                  have := run_neq_cell X ⟨dr, df, db, dt⟩ ⟨dr, df, db, dt⟩
                  simpa using this
                have hK : IntKind.i64.wrap ((y0 : Int) * (w : Int)) = ((y0 * w : Nat) : Int) := by
                  have := HKe.out
                  rw [← Int.natCast_mul]; exact IntWalk.i64_in _ (by omega)
                rw [HKe.out] at hK cb0 cb1 cb2 cb3
                have z0 : (0 : Int) ≤ (K : Int) + (x0 : Int) := by omega
                have z1 : (K : Int) + (x0 : Int) < (n : Int) := by omega
                have z2 : ((K : Int) + (x0 : Int)).toNat = K + x0 := by omega
                have z3 : IntKind.i64.wrap ((K : Int) + (x0 : Int)) = (K : Int) + (x0 : Int) := IntWalk.i64_in _ (by omega)
                go_upto_region 23 with fail
                clear hcbs
                refine wp_region_held_drew (S := (fun X => X.cell? ⟨w6.heap.size, 2, none⟩ = some (.slice (some a6) n c6) ∧ X.cell? ⟨w2.heap.size, 0, none⟩ = some (.int .i64 (w : Int)) ∧ (X.cell? (a6.add ((K + x0) * (3 + 1))) = some (.int .i32 dr) ∧ X.cell? ⟨(a6.add ((K + x0) * (3 + 1))).block, (a6.add ((K + x0) * (3 + 1))).off + (0 + 1), none⟩ = some (.int .u8 df) ∧ X.cell? ⟨(a6.add ((K + x0) * (3 + 1))).block, (a6.add ((K + x0) * (3 + 1))).off + (1 + 1), none⟩ = some (.int .u8 db) ∧ X.cell? ⟨(a6.add ((K + x0) * (3 + 1))).block, (a6.add ((K + x0) * (3 + 1))).off + (2 + 1), none⟩ = some (.int .u8 (dt.val : Int))) ∧ X.cell? ⟨ga, 0, none⟩ = some (.int .i32 dr) ∧ X.cell? ⟨ga, 1, none⟩ = some (.int .u8 df) ∧ X.cell? ⟨ga, 2, none⟩ = some (.int .u8 db) ∧ X.cell? ⟨ga, 3, none⟩ = some (.int .u8 (dt.val : Int)))) (by kernel_rfl) ?_ (fun hHeld => ?_)
                focus ((try dsimp only); exact ⟨KV, KG, ⟨cb0, cb1, cb2, cb3⟩, blk_cell hbW 0, blk_cell hbW 1, blk_cell hbW 2, blk_cell hbW 3⟩)
                refine wpAnyH_take (i := 0) (v := ?_) op_at0 (by kernel_rfl) (by kernel_rfl) (by kernel_rfl) (fun _ _ _ h => h) (Or.inl ⟨by rfl, ?_⟩) (by assumption) ?_
                rotate_left
                focus ((intro w hSw; (try dsimp only at hSw); go_simp) <;> with_reducible rfl)
                all_goals skip
                try simp only [Act.put, List.setIfInBounds_toArray, List.set_cons_zero, List.set_cons_succ]
                refine wpAnyH_take (i := 1) (v := ?_) (op_atS op_at0) (by kernel_rfl) (by kernel_rfl) (by kernel_rfl) (fun _ _ _ h => h) (Or.inl ⟨by rfl, ?_⟩) (by assumption) ?_
                rotate_left
                focus ((intro w hSw; (try dsimp only at hSw); go_simp) <;> with_reducible rfl)
                all_goals skip
                try simp only [Act.put, List.setIfInBounds_toArray, List.set_cons_zero, List.set_cons_succ]
                refine wpAnyH_take (i := 2) (v := ?_) (op_atS (op_atS op_at0)) (by kernel_rfl) (by kernel_rfl) (by kernel_rfl) (fun _ _ _ h => h) (Or.inl ⟨by rfl, ?_⟩) (by assumption) ?_
                rotate_left
                focus ((intro w hSw; (try dsimp only at hSw); go_simp) <;> with_reducible rfl)
                all_goals skip
                try simp only [Act.put, List.setIfInBounds_toArray, List.set_cons_zero, List.set_cons_succ]
                refine wpAnyH_take (i := 3) (v := ?_) (op_atS (op_atS (op_atS op_at0))) (by kernel_rfl) (by kernel_rfl) (by kernel_rfl) (fun _ _ _ h => h) (Or.inl ⟨by rfl, ?_⟩) (by assumption) ?_
                rotate_left
                focus ((intro w hSw; (try dsimp only at hSw); go_simp) <;> with_reducible rfl)
                all_goals skip
                try simp only [Act.put, List.setIfInBounds_toArray, List.set_cons_zero, List.set_cons_succ]
                refine wpAnyH_take (i := 4) (v := ?_) (op_atS (op_atS (op_atS (op_atS op_at0)))) (by kernel_rfl) (by kernel_rfl) (by kernel_rfl) (fun _ _ _ h => h) (Or.inl ⟨by rfl, ?_⟩) (by assumption) ?_
                rotate_left
                focus ((intro w hSw; (try dsimp only at hSw); go_simp) <;> with_reducible rfl)
                all_goals skip
                try simp only [Act.put, List.setIfInBounds_toArray, List.set_cons_zero, List.set_cons_succ]
                refine wpAnyH_take (i := 5) (v := ?_) (op_atS (op_atS (op_atS (op_atS (op_atS op_at0))))) (by kernel_rfl) (by kernel_rfl) (by kernel_rfl) (fun _ _ _ h => h) (Or.inl ⟨by rfl, ?_⟩) (by assumption) ?_
                rotate_left
                focus ((intro w hSw; (try dsimp only at hSw); go_simp) <;> with_reducible rfl)
                all_goals skip
                try simp only [Act.put, List.setIfInBounds_toArray, List.set_cons_zero, List.set_cons_succ]
                refine wpAnyH_take (i := 6) (v := ?_) (op_atS (op_atS (op_atS (op_atS (op_atS (op_atS op_at0)))))) (by kernel_rfl) (by kernel_rfl) (by kernel_rfl) (fun _ _ _ h => h) (Or.inl ⟨by rfl, ?_⟩) (by assumption) ?_
                rotate_left
                focus ((intro w hSw; (try dsimp only at hSw); go_simp) <;> with_reducible rfl)
                all_goals skip
                try simp only [Act.put, List.setIfInBounds_toArray, List.set_cons_zero, List.set_cons_succ]
                refine wpAnyH_take (i := 7) (v := ?_) (op_atS (op_atS (op_atS (op_atS (op_atS (op_atS (op_atS op_at0))))))) (by kernel_rfl) (by kernel_rfl) (by kernel_rfl) (fun _ _ _ h => h) (Or.inl ⟨by rfl, ?_⟩) (by assumption) ?_
                rotate_left
                focus ((intro w hSw; (try dsimp only at hSw); go_simp) <;> with_reducible rfl)
                all_goals skip
                try simp only [Act.put, List.setIfInBounds_toArray, List.set_cons_zero, List.set_cons_succ]
                refine wpAnyH_take (i := 8) (v := ?_) (op_atS (op_atS (op_atS (op_atS (op_atS (op_atS (op_atS (op_atS op_at0)))))))) (by kernel_rfl) (by kernel_rfl) (by kernel_rfl) (fun _ _ _ h => h) (Or.inl ⟨by rfl, ?_⟩) (by assumption) ?_
                rotate_left
                focus ((intro w hSw; (try dsimp only at hSw); go_simp) <;> with_reducible rfl)
                all_goals skip
                try simp only [Act.put, List.setIfInBounds_toArray, List.set_cons_zero, List.set_cons_succ]
                refine wpAnyH_take (i := 9) (v := ?_) (op_atS (op_atS (op_atS (op_atS (op_atS (op_atS (op_atS (op_atS (op_atS op_at0))))))))) (by kernel_rfl) (by kernel_rfl) (by kernel_rfl) (fun _ _ _ h => h) (Or.inl ⟨by rfl, ?_⟩) (by assumption) ?_
                rotate_left
                focus ((intro w hSw; (try dsimp only at hSw); go_simp) <;> with_reducible rfl)
                all_goals skip
                try simp only [Act.put, List.setIfInBounds_toArray, List.set_cons_zero, List.set_cons_succ]
                refine wpAnyH_take (i := 10) (v := ?_) (op_atS (op_atS (op_atS (op_atS (op_atS (op_atS (op_atS (op_atS (op_atS (op_atS op_at0)))))))))) (by kernel_rfl) (by kernel_rfl) (by kernel_rfl) (fun _ _ _ h => h) (Or.inl ⟨by rfl, ?_⟩) (by assumption) ?_
                rotate_left
                focus ((intro w hSw; (try dsimp only at hSw); go_simp) <;> with_reducible rfl)
                all_goals skip
                try simp only [Act.put, List.setIfInBounds_toArray, List.set_cons_zero, List.set_cons_succ]
                refine wpAnyH_take (i := 11) (v := ?_) (op_atS (op_atS (op_atS (op_atS (op_atS (op_atS (op_atS (op_atS (op_atS (op_atS (op_atS op_at0))))))))))) (by kernel_rfl) (by kernel_rfl) (by kernel_rfl) (fun _ _ _ h => h) (Or.inl ⟨by rfl, ?_⟩) (by assumption) ?_
                rotate_left
                focus ((intro w hSw; (try dsimp only at hSw); go_simp) <;> with_reducible rfl)
                all_goals skip
                try simp only [Act.put, List.setIfInBounds_toArray, List.set_cons_zero, List.set_cons_succ]
                refine wpAnyH_done (by kernel_rfl) ?_ _
                clear hHeld hne KV KG cb0 cb1 cb2 cb3 hbW
                have HMW := Lib.hid hmW.drew
                clear hmW
                generalize wc.drew = wd at *
                go_upto_region 25 with fail
                cases inB
                case false =>
                  clear hK z0 z1 z2 z3
                  refine wp_region_held_drew (S := (fun _ => True)) (by kernel_rfl) ?_ (fun hHeld => ?_)
                  focus ((try dsimp only); all_goals trivial)
                  refine wpAnyH_take (i := 0) (v := ?_) op_at0 (by kernel_rfl) (by kernel_rfl) (by kernel_rfl) (fun _ _ _ h => h) (Or.inl ⟨by rfl, ?_⟩) (by assumption) ?_
                  rotate_left
                  focus ((intro w hSw; (try dsimp only at hSw); go_simp) <;> with_reducible rfl)
                  all_goals skip
                  try simp only [Act.put, List.setIfInBounds_toArray, List.set_cons_zero, List.set_cons_succ]
                  refine wpAnyH_take (i := 1) (v := ?_) (op_atS op_at0) (by kernel_rfl) (by kernel_rfl) (by kernel_rfl) (fun _ _ _ h => h) (Or.inl ⟨by rfl, ?_⟩) (by assumption) ?_
                  rotate_left
                  focus ((intro w hSw; (try dsimp only at hSw); go_simp) <;> with_reducible rfl)
                  all_goals skip
                  try simp only [Act.put, List.setIfInBounds_toArray, List.set_cons_zero, List.set_cons_succ]
                  refine wpAnyH_take (i := 2) (v := undef) (op_atS (op_atS op_at0)) (by kernel_rfl) (by kernel_rfl) (by kernel_rfl) (fun _ _ _ h => h) (Or.inr ⟨by rfl, rfl⟩) (by assumption) ?_
                  try simp only [Act.put, List.setIfInBounds_toArray, List.set_cons_zero, List.set_cons_succ]
                  refine wpAnyH_take (i := 3) (v := undef) (op_atS (op_atS (op_atS op_at0))) (by kernel_rfl) (by kernel_rfl) (by kernel_rfl) (fun _ _ _ h => h) (Or.inr ⟨by rfl, rfl⟩) (by assumption) ?_
                  try simp only [Act.put, List.setIfInBounds_toArray, List.set_cons_zero, List.set_cons_succ]
                  refine wpAnyH_take (i := 4) (v := undef) (op_atS (op_atS (op_atS (op_atS op_at0)))) (by kernel_rfl) (by kernel_rfl) (by kernel_rfl) (fun _ _ _ h => h) (Or.inr ⟨by rfl, rfl⟩) (by assumption) ?_
                  try simp only [Act.put, List.setIfInBounds_toArray, List.set_cons_zero, List.set_cons_succ]
                  refine wpAnyH_take (i := 5) (v := undef) (op_atS (op_atS (op_atS (op_atS (op_atS op_at0))))) (by kernel_rfl) (by kernel_rfl) (by kernel_rfl) (fun _ _ _ h => h) (Or.inr ⟨by rfl, rfl⟩) (by assumption) ?_
                  try simp only [Act.put, List.setIfInBounds_toArray, List.set_cons_zero, List.set_cons_succ]
                  refine wpAnyH_take (i := 6) (v := undef) (op_atS (op_atS (op_atS (op_atS (op_atS (op_atS op_at0)))))) (by kernel_rfl) (by kernel_rfl) (by kernel_rfl) (fun _ _ _ h => h) (Or.inr ⟨by rfl, rfl⟩) (by assumption) ?_
                  try simp only [Act.put, List.setIfInBounds_toArray, List.set_cons_zero, List.set_cons_succ]
                  refine wpAnyH_take (i := 7) (v := ?_) (op_atS (op_atS (op_atS (op_atS (op_atS (op_atS (op_atS op_at0))))))) (by kernel_rfl) (by kernel_rfl) (by kernel_rfl) (fun _ _ _ h => h) (Or.inl ⟨by rfl, ?_⟩) (by assumption) ?_
                  rotate_left
                  focus ((intro w hSw; (try dsimp only at hSw); go_simp) <;> with_reducible rfl)
                  all_goals skip
                  try simp only [Act.put, List.setIfInBounds_toArray, List.set_cons_zero, List.set_cons_succ]
                  refine wpAnyH_take (i := 8) (v := ?_) (op_atS (op_atS (op_atS (op_atS (op_atS (op_atS (op_atS (op_atS op_at0)))))))) (by kernel_rfl) (by kernel_rfl) (by kernel_rfl) (fun _ _ _ h => h) (Or.inl ⟨by rfl, ?_⟩) (by assumption) ?_
                  rotate_left
                  focus ((intro w hSw; (try dsimp only at hSw); go_simp) <;> with_reducible rfl)
                  all_goals skip
                  try simp only [Act.put, List.setIfInBounds_toArray, List.set_cons_zero, List.set_cons_succ]
                  refine wpAnyH_take (i := 9) (v := undef) (op_atS (op_atS (op_atS (op_atS (op_atS (op_atS (op_atS (op_atS (op_atS op_at0))))))))) (by kernel_rfl) (by kernel_rfl) (by kernel_rfl) (fun _ _ _ h => h) (Or.inr ⟨by rfl, rfl⟩) (by assumption) ?_
                  try simp only [Act.put, List.setIfInBounds_toArray, List.set_cons_zero, List.set_cons_succ]
                  refine wpAnyH_take (i := 10) (v := undef) (op_atS (op_atS (op_atS (op_atS (op_atS (op_atS (op_atS (op_atS (op_atS (op_atS op_at0)))))))))) (by kernel_rfl) (by kernel_rfl) (by kernel_rfl) (fun _ _ _ h => h) (Or.inr ⟨by rfl, rfl⟩) (by assumption) ?_
                  try simp only [Act.put, List.setIfInBounds_toArray, List.set_cons_zero, List.set_cons_succ]
                  refine wpAnyH_take (i := 11) (v := undef) (op_atS (op_atS (op_atS (op_atS (op_atS (op_atS (op_atS (op_atS (op_atS (op_atS (op_atS op_at0))))))))))) (by kernel_rfl) (by kernel_rfl) (by kernel_rfl) (fun _ _ _ h => h) (Or.inr ⟨by rfl, rfl⟩) (by assumption) ?_
                  try simp only [Act.put, List.setIfInBounds_toArray, List.set_cons_zero, List.set_cons_succ]
                  refine wpAnyH_take (i := 12) (v := undef) (op_atS (op_atS (op_atS (op_atS (op_atS (op_atS (op_atS (op_atS (op_atS (op_atS (op_atS (op_atS op_at0)))))))))))) (by kernel_rfl) (by kernel_rfl) (by kernel_rfl) (fun _ _ _ h => h) (Or.inr ⟨by rfl, rfl⟩) (by assumption) ?_
                  try simp only [Act.put, List.setIfInBounds_toArray, List.set_cons_zero, List.set_cons_succ]
                  refine wpAnyH_take (i := 13) (v := undef) (op_atS (op_atS (op_atS (op_atS (op_atS (op_atS (op_atS (op_atS (op_atS (op_atS (op_atS (op_atS (op_atS op_at0))))))))))))) (by kernel_rfl) (by kernel_rfl) (by kernel_rfl) (fun _ _ _ h => h) (Or.inr ⟨by rfl, rfl⟩) (by assumption) ?_
                  try simp only [Act.put, List.setIfInBounds_toArray, List.set_cons_zero, List.set_cons_succ]
                  refine wpAnyH_take (i := 14) (v := undef) (op_atS (op_atS (op_atS (op_atS (op_atS (op_atS (op_atS (op_atS (op_atS (op_atS (op_atS (op_atS (op_atS (op_atS op_at0)))))))))))))) (by kernel_rfl) (by kernel_rfl) (by kernel_rfl) (fun _ _ _ h => h) (Or.inr ⟨by rfl, rfl⟩) (by assumption) ?_
                  try simp only [Act.put, List.setIfInBounds_toArray, List.set_cons_zero, List.set_cons_succ]
                  refine wpAnyH_take (i := 15) (v := undef) (op_atS (op_atS (op_atS (op_atS (op_atS (op_atS (op_atS (op_atS (op_atS (op_atS (op_atS (op_atS (op_atS (op_atS (op_atS op_at0))))))))))))))) (by kernel_rfl) (by kernel_rfl) (by kernel_rfl) (fun _ _ _ h => h) (Or.inr ⟨by rfl, rfl⟩) (by assumption) ?_
                  try simp only [Act.put, List.setIfInBounds_toArray, List.set_cons_zero, List.set_cons_succ]
                  refine wpAnyH_take (i := 16) (v := undef) (op_atS (op_atS (op_atS (op_atS (op_atS (op_atS (op_atS (op_atS (op_atS (op_atS (op_atS (op_atS (op_atS (op_atS (op_atS (op_atS op_at0)))))))))))))))) (by kernel_rfl) (by kernel_rfl) (by kernel_rfl) (fun _ _ _ h => h) (Or.inr ⟨by rfl, rfl⟩) (by assumption) ?_
                  try simp only [Act.put, List.setIfInBounds_toArray, List.set_cons_zero, List.set_cons_succ]
                  refine wpAnyH_take (i := 17) (v := undef) (op_atS (op_atS (op_atS (op_atS (op_atS (op_atS (op_atS (op_atS (op_atS (op_atS (op_atS (op_atS (op_atS (op_atS (op_atS (op_atS (op_atS op_at0))))))))))))))))) (by kernel_rfl) (by kernel_rfl) (by kernel_rfl) (fun _ _ _ h => h) (Or.inr ⟨by rfl, rfl⟩) (by assumption) ?_
                  try simp only [Act.put, List.setIfInBounds_toArray, List.set_cons_zero, List.set_cons_succ]
                  refine wpAnyH_take (i := 18) (v := undef) (op_atS (op_atS (op_atS (op_atS (op_atS (op_atS (op_atS (op_atS (op_atS (op_atS (op_atS (op_atS (op_atS (op_atS (op_atS (op_atS (op_atS (op_atS op_at0)))))))))))))))))) (by kernel_rfl) (by kernel_rfl) (by kernel_rfl) (fun _ _ _ h => h) (Or.inr ⟨by rfl, rfl⟩) (by assumption) ?_
                  try simp only [Act.put, List.setIfInBounds_toArray, List.set_cons_zero, List.set_cons_succ]
                  refine wpAnyH_take (i := 19) (v := undef) (op_atS (op_atS (op_atS (op_atS (op_atS (op_atS (op_atS (op_atS (op_atS (op_atS (op_atS (op_atS (op_atS (op_atS (op_atS (op_atS (op_atS (op_atS (op_atS op_at0))))))))))))))))))) (by kernel_rfl) (by kernel_rfl) (by kernel_rfl) (fun _ _ _ h => h) (Or.inr ⟨by rfl, rfl⟩) (by assumption) ?_
                  try simp only [Act.put, List.setIfInBounds_toArray, List.set_cons_zero, List.set_cons_succ]
                  refine wpAnyH_take (i := 20) (v := undef) (op_atS (op_atS (op_atS (op_atS (op_atS (op_atS (op_atS (op_atS (op_atS (op_atS (op_atS (op_atS (op_atS (op_atS (op_atS (op_atS (op_atS (op_atS (op_atS (op_atS op_at0)))))))))))))))))))) (by kernel_rfl) (by kernel_rfl) (by kernel_rfl) (fun _ _ _ h => h) (Or.inr ⟨by rfl, rfl⟩) (by assumption) ?_
                  try simp only [Act.put, List.setIfInBounds_toArray, List.set_cons_zero, List.set_cons_succ]
                  refine wpAnyH_take (i := 21) (v := undef) (op_atS (op_atS (op_atS (op_atS (op_atS (op_atS (op_atS (op_atS (op_atS (op_atS (op_atS (op_atS (op_atS (op_atS (op_atS (op_atS (op_atS (op_atS (op_atS (op_atS (op_atS op_at0))))))))))))))))))))) (by kernel_rfl) (by kernel_rfl) (by kernel_rfl) (fun _ _ _ h => h) (Or.inr ⟨by rfl, rfl⟩) (by assumption) ?_
                  try simp only [Act.put, List.setIfInBounds_toArray, List.set_cons_zero, List.set_cons_succ]
                  refine wpAnyH_take (i := 22) (v := undef) (op_atS (op_atS (op_atS (op_atS (op_atS (op_atS (op_atS (op_atS (op_atS (op_atS (op_atS (op_atS (op_atS (op_atS (op_atS (op_atS (op_atS (op_atS (op_atS (op_atS (op_atS (op_atS op_at0)))))))))))))))))))))) (by kernel_rfl) (by kernel_rfl) (by kernel_rfl) (fun _ _ _ h => h) (Or.inr ⟨by rfl, rfl⟩) (by assumption) ?_
                  try simp only [Act.put, List.setIfInBounds_toArray, List.set_cons_zero, List.set_cons_succ]
                  refine wpAnyH_take (i := 23) (v := undef) (op_atS (op_atS (op_atS (op_atS (op_atS (op_atS (op_atS (op_atS (op_atS (op_atS (op_atS (op_atS (op_atS (op_atS (op_atS (op_atS (op_atS (op_atS (op_atS (op_atS (op_atS (op_atS (op_atS op_at0))))))))))))))))))))))) (by kernel_rfl) (by kernel_rfl) (by kernel_rfl) (fun _ _ _ h => h) (Or.inr ⟨by rfl, rfl⟩) (by assumption) ?_
                  try simp only [Act.put, List.setIfInBounds_toArray, List.set_cons_zero, List.set_cons_succ]
                  refine wpAnyH_take (i := 24) (v := undef) (op_atS (op_atS (op_atS (op_atS (op_atS (op_atS (op_atS (op_atS (op_atS (op_atS (op_atS (op_atS (op_atS (op_atS (op_atS (op_atS (op_atS (op_atS (op_atS (op_atS (op_atS (op_atS (op_atS (op_atS op_at0)))))))))))))))))))))))) (by kernel_rfl) (by kernel_rfl) (by kernel_rfl) (fun _ _ _ h => h) (Or.inr ⟨by rfl, rfl⟩) (by assumption) ?_
                  try simp only [Act.put, List.setIfInBounds_toArray, List.set_cons_zero, List.set_cons_succ]
                  refine wpAnyH_take (i := 25) (v := undef) (op_atS (op_atS (op_atS (op_atS (op_atS (op_atS (op_atS (op_atS (op_atS (op_atS (op_atS (op_atS (op_atS (op_atS (op_atS (op_atS (op_atS (op_atS (op_atS (op_atS (op_atS (op_atS (op_atS (op_atS (op_atS op_at0))))))))))))))))))))))))) (by kernel_rfl) (by kernel_rfl) (by kernel_rfl) (fun _ _ _ h => h) (Or.inr ⟨by rfl, rfl⟩) (by assumption) ?_
                  try simp only [Act.put, List.setIfInBounds_toArray, List.set_cons_zero, List.set_cons_succ]
                  refine wpAnyH_take (i := 26) (v := undef) (op_atS (op_atS (op_atS (op_atS (op_atS (op_atS (op_atS (op_atS (op_atS (op_atS (op_atS (op_atS (op_atS (op_atS (op_atS (op_atS (op_atS (op_atS (op_atS (op_atS (op_atS (op_atS (op_atS (op_atS (op_atS (op_atS op_at0)))))))))))))))))))))))))) (by kernel_rfl) (by kernel_rfl) (by kernel_rfl) (fun _ _ _ h => h) (Or.inr ⟨by rfl, rfl⟩) (by assumption) ?_
                  try simp only [Act.put, List.setIfInBounds_toArray, List.set_cons_zero, List.set_cons_succ]
                  refine wpAnyH_take (i := 27) (v := undef) (op_atS (op_atS (op_atS (op_atS (op_atS (op_atS (op_atS (op_atS (op_atS (op_atS (op_atS (op_atS (op_atS (op_atS (op_atS (op_atS (op_atS (op_atS (op_atS (op_atS (op_atS (op_atS (op_atS (op_atS (op_atS (op_atS (op_atS op_at0))))))))))))))))))))))))))) (by kernel_rfl) (by kernel_rfl) (by kernel_rfl) (fun _ _ _ h => h) (Or.inr ⟨by rfl, rfl⟩) (by assumption) ?_
                  try simp only [Act.put, List.setIfInBounds_toArray, List.set_cons_zero, List.set_cons_succ]
                  refine wpAnyH_take (i := 28) (v := undef) (op_atS (op_atS (op_atS (op_atS (op_atS (op_atS (op_atS (op_atS (op_atS (op_atS (op_atS (op_atS (op_atS (op_atS (op_atS (op_atS (op_atS (op_atS (op_atS (op_atS (op_atS (op_atS (op_atS (op_atS (op_atS (op_atS (op_atS (op_atS op_at0)))))))))))))))))))))))))))) (by kernel_rfl) (by kernel_rfl) (by kernel_rfl) (fun _ _ _ h => h) (Or.inr ⟨by rfl, rfl⟩) (by assumption) ?_
                  try simp only [Act.put, List.setIfInBounds_toArray, List.set_cons_zero, List.set_cons_succ]
                  refine wpAnyH_take (i := 29) (v := undef) (op_atS (op_atS (op_atS (op_atS (op_atS (op_atS (op_atS (op_atS (op_atS (op_atS (op_atS (op_atS (op_atS (op_atS (op_atS (op_atS (op_atS (op_atS (op_atS (op_atS (op_atS (op_atS (op_atS (op_atS (op_atS (op_atS (op_atS (op_atS (op_atS op_at0))))))))))))))))))))))))))))) (by kernel_rfl) (by kernel_rfl) (by kernel_rfl) (fun _ _ _ h => h) (Or.inr ⟨by rfl, rfl⟩) (by assumption) ?_
                  try simp only [Act.put, List.setIfInBounds_toArray, List.set_cons_zero, List.set_cons_succ]
                  refine wpAnyH_take (i := 30) (v := undef) (op_atS (op_atS (op_atS (op_atS (op_atS (op_atS (op_atS (op_atS (op_atS (op_atS (op_atS (op_atS (op_atS (op_atS (op_atS (op_atS (op_atS (op_atS (op_atS (op_atS (op_atS (op_atS (op_atS (op_atS (op_atS (op_atS (op_atS (op_atS (op_atS (op_atS op_at0)))))))))))))))))))))))))))))) (by kernel_rfl) (by kernel_rfl) (by kernel_rfl) (fun _ _ _ h => h) (Or.inr ⟨by rfl, rfl⟩) (by assumption) ?_
                  try simp only [Act.put, List.setIfInBounds_toArray, List.set_cons_zero, List.set_cons_succ]
                  refine wpAnyH_take (i := 31) (v := undef) (op_atS (op_atS (op_atS (op_atS (op_atS (op_atS (op_atS (op_atS (op_atS (op_atS (op_atS (op_atS (op_atS (op_atS (op_atS (op_atS (op_atS (op_atS (op_atS (op_atS (op_atS (op_atS (op_atS (op_atS (op_atS (op_atS (op_atS (op_atS (op_atS (op_atS (op_atS op_at0))))))))))))))))))))))))))))))) (by kernel_rfl) (by kernel_rfl) (by kernel_rfl) (fun _ _ _ h => h) (Or.inr ⟨by rfl, rfl⟩) (by assumption) ?_
                  try simp only [Act.put, List.setIfInBounds_toArray, List.set_cons_zero, List.set_cons_succ]
                  refine wpAnyH_take (i := 32) (v := ?_) (op_atS (op_atS (op_atS (op_atS (op_atS (op_atS (op_atS (op_atS (op_atS (op_atS (op_atS (op_atS (op_atS (op_atS (op_atS (op_atS (op_atS (op_atS (op_atS (op_atS (op_atS (op_atS (op_atS (op_atS (op_atS (op_atS (op_atS (op_atS (op_atS (op_atS (op_atS (op_atS op_at0)))))))))))))))))))))))))))))))) (by kernel_rfl) (by kernel_rfl) (by kernel_rfl) (fun _ _ _ h => h) (Or.inl ⟨by rfl, ?_⟩) (by assumption) ?_
                  rotate_left
                  focus ((intro w hSw; (try dsimp only at hSw); go_simp) <;> with_reducible rfl)
                  all_goals skip
                  try simp only [Act.put, List.setIfInBounds_toArray, List.set_cons_zero, List.set_cons_succ]
                  refine wpAnyH_take (i := 33) (v := ?_) (op_atS (op_atS (op_atS (op_atS (op_atS (op_atS (op_atS (op_atS (op_atS (op_atS (op_atS (op_atS (op_atS (op_atS (op_atS (op_atS (op_atS (op_atS (op_atS (op_atS (op_atS (op_atS (op_atS (op_atS (op_atS (op_atS (op_atS (op_atS (op_atS (op_atS (op_atS (op_atS (op_atS op_at0))))))))))))))))))))))))))))))))) (by kernel_rfl) (by kernel_rfl) (by kernel_rfl) (fun _ _ _ h => h) (Or.inl ⟨by rfl, ?_⟩) (by assumption) ?_
                  rotate_left
                  focus ((intro w hSw; (try dsimp only at hSw); go_simp) <;> with_reducible rfl)
                  all_goals skip
                  try simp only [Act.put, List.setIfInBounds_toArray, List.set_cons_zero, List.set_cons_succ]
                  refine wpAnyH_take (i := 34) (v := ?_) (op_atS (op_atS (op_atS (op_atS (op_atS (op_atS (op_atS (op_atS (op_atS (op_atS (op_atS (op_atS (op_atS (op_atS (op_atS (op_atS (op_atS (op_atS (op_atS (op_atS (op_atS (op_atS (op_atS (op_atS (op_atS (op_atS (op_atS (op_atS (op_atS (op_atS (op_atS (op_atS (op_atS (op_atS op_at0)))))))))))))))))))))))))))))))))) (by kernel_rfl) (by kernel_rfl) (by kernel_rfl) (fun _ _ _ h => h) (Or.inl ⟨by rfl, ?_⟩) (by assumption) ?_
                  rotate_left
                  focus ((intro w hSw; (try dsimp only at hSw); go_simp) <;> with_reducible rfl)
                  all_goals skip
                  try simp only [Act.put, List.setIfInBounds_toArray, List.set_cons_zero, List.set_cons_succ]
                  refine wpAnyH_take (i := 35) (v := ?_) (op_atS (op_atS (op_atS (op_atS (op_atS (op_atS (op_atS (op_atS (op_atS (op_atS (op_atS (op_atS (op_atS (op_atS (op_atS (op_atS (op_atS (op_atS (op_atS (op_atS (op_atS (op_atS (op_atS (op_atS (op_atS (op_atS (op_atS (op_atS (op_atS (op_atS (op_atS (op_atS (op_atS (op_atS (op_atS op_at0))))))))))))))))))))))))))))))))))) (by kernel_rfl) (by kernel_rfl) (by kernel_rfl) (fun _ _ _ h => h) (Or.inl ⟨by rfl, ?_⟩) (by assumption) ?_
                  rotate_left
                  focus ((intro w hSw; (try dsimp only at hSw); go_simp) <;> with_reducible rfl)
                  all_goals skip
                  try simp only [Act.put, List.setIfInBounds_toArray, List.set_cons_zero, List.set_cons_succ]
                  refine wpAnyH_take (i := 36) (v := undef) (op_atS (op_atS (op_atS (op_atS (op_atS (op_atS (op_atS (op_atS (op_atS (op_atS (op_atS (op_atS (op_atS (op_atS (op_atS (op_atS (op_atS (op_atS (op_atS (op_atS (op_atS (op_atS (op_atS (op_atS (op_atS (op_atS (op_atS (op_atS (op_atS (op_atS (op_atS (op_atS (op_atS (op_atS (op_atS (op_atS op_at0)))))))))))))))))))))))))))))))))))) (by kernel_rfl) (by kernel_rfl) (by kernel_rfl) (fun _ _ _ h => h) (Or.inr ⟨by rfl, rfl⟩) (by assumption) ?_
                  try simp only [Act.put, List.setIfInBounds_toArray, List.set_cons_zero, List.set_cons_succ]
                  refine wpAnyH_take (i := 37) (v := undef) (op_atS (op_atS (op_atS (op_atS (op_atS (op_atS (op_atS (op_atS (op_atS (op_atS (op_atS (op_atS (op_atS (op_atS (op_atS (op_atS (op_atS (op_atS (op_atS (op_atS (op_atS (op_atS (op_atS (op_atS (op_atS (op_atS (op_atS (op_atS (op_atS (op_atS (op_atS (op_atS (op_atS (op_atS (op_atS (op_atS (op_atS op_at0))))))))))))))))))))))))))))))))))))) (by kernel_rfl) (by kernel_rfl) (by kernel_rfl) (fun _ _ _ h => h) (Or.inr ⟨by rfl, rfl⟩) (by assumption) ?_
                  try simp only [Act.put, List.setIfInBounds_toArray, List.set_cons_zero, List.set_cons_succ]
                  refine wpAnyH_take (i := 38) (v := undef) (op_atS (op_atS (op_atS (op_atS (op_atS (op_atS (op_atS (op_atS (op_atS (op_atS (op_atS (op_atS (op_atS (op_atS (op_atS (op_atS (op_atS (op_atS (op_atS (op_atS (op_atS (op_atS (op_atS (op_atS (op_atS (op_atS (op_atS (op_atS (op_atS (op_atS (op_atS (op_atS (op_atS (op_atS (op_atS (op_atS (op_atS (op_atS op_at0)))))))))))))))))))))))))))))))))))))) (by kernel_rfl) (by kernel_rfl) (by kernel_rfl) (fun _ _ _ h => h) (Or.inr ⟨by rfl, rfl⟩) (by assumption) ?_
                  try simp only [Act.put, List.setIfInBounds_toArray, List.set_cons_zero, List.set_cons_succ]
                  refine wpAnyH_take (i := 39) (v := undef) (op_atS (op_atS (op_atS (op_atS (op_atS (op_atS (op_atS (op_atS (op_atS (op_atS (op_atS (op_atS (op_atS (op_atS (op_atS (op_atS (op_atS (op_atS (op_atS (op_atS (op_atS (op_atS (op_atS (op_atS (op_atS (op_atS (op_atS (op_atS (op_atS (op_atS (op_atS (op_atS (op_atS (op_atS (op_atS (op_atS (op_atS (op_atS (op_atS op_at0))))))))))))))))))))))))))))))))))))))) (by kernel_rfl) (by kernel_rfl) (by kernel_rfl) (fun _ _ _ h => h) (Or.inr ⟨by rfl, rfl⟩) (by assumption) ?_
                  try simp only [Act.put, List.setIfInBounds_toArray, List.set_cons_zero, List.set_cons_succ]
                  refine wpAnyH_take (i := 40) (v := undef) (op_atS (op_atS (op_atS (op_atS (op_atS (op_atS (op_atS (op_atS (op_atS (op_atS (op_atS (op_atS (op_atS (op_atS (op_atS (op_atS (op_atS (op_atS (op_atS (op_atS (op_atS (op_atS (op_atS (op_atS (op_atS (op_atS (op_atS (op_atS (op_atS (op_atS (op_atS (op_atS (op_atS (op_atS (op_atS (op_atS (op_atS (op_atS (op_atS (op_atS op_at0)))))))))))))))))))))))))))))))))))))))) (by kernel_rfl) (by kernel_rfl) (by kernel_rfl) (fun _ _ _ h => h) (Or.inr ⟨by rfl, rfl⟩) (by assumption) ?_
                  try simp only [Act.put, List.setIfInBounds_toArray, List.set_cons_zero, List.set_cons_succ]
                  refine wpAnyH_take (i := 41) (v := ?_) (op_atS (op_atS (op_atS (op_atS (op_atS (op_atS (op_atS (op_atS (op_atS (op_atS (op_atS (op_atS (op_atS (op_atS (op_atS (op_atS (op_atS (op_atS (op_atS (op_atS (op_atS (op_atS (op_atS (op_atS (op_atS (op_atS (op_atS (op_atS (op_atS (op_atS (op_atS (op_atS (op_atS (op_atS (op_atS (op_atS (op_atS (op_atS (op_atS (op_atS (op_atS op_at0))))))))))))))))))))))))))))))))))))))))) (by kernel_rfl) (by kernel_rfl) (by kernel_rfl) (fun _ _ _ h => h) (Or.inl ⟨by rfl, ?_⟩) (by assumption) ?_
                  rotate_left
                  focus ((intro w hSw; (try dsimp only at hSw); go_simp) <;> with_reducible rfl)
                  all_goals skip
                  try simp only [Act.put, List.setIfInBounds_toArray, List.set_cons_zero, List.set_cons_succ]
                  refine wpAnyH_take (i := 42) (v := ?_) (op_atS (op_atS (op_atS (op_atS (op_atS (op_atS (op_atS (op_atS (op_atS (op_atS (op_atS (op_atS (op_atS (op_atS (op_atS (op_atS (op_atS (op_atS (op_atS (op_atS (op_atS (op_atS (op_atS (op_atS (op_atS (op_atS (op_atS (op_atS (op_atS (op_atS (op_atS (op_atS (op_atS (op_atS (op_atS (op_atS (op_atS (op_atS (op_atS (op_atS (op_atS (op_atS op_at0)))))))))))))))))))))))))))))))))))))))))) (by kernel_rfl) (by kernel_rfl) (by kernel_rfl) (fun _ _ _ h => h) (Or.inl ⟨by rfl, ?_⟩) (by assumption) ?_
                  rotate_left
                  focus ((intro w hSw; (try dsimp only at hSw); go_simp) <;> with_reducible rfl)
                  all_goals skip
                  try simp only [Act.put, List.setIfInBounds_toArray, List.set_cons_zero, List.set_cons_succ]
                  refine wpAnyH_take (i := 43) (v := undef) (op_atS (op_atS (op_atS (op_atS (op_atS (op_atS (op_atS (op_atS (op_atS (op_atS (op_atS (op_atS (op_atS (op_atS (op_atS (op_atS (op_atS (op_atS (op_atS (op_atS (op_atS (op_atS (op_atS (op_atS (op_atS (op_atS (op_atS (op_atS (op_atS (op_atS (op_atS (op_atS (op_atS (op_atS (op_atS (op_atS (op_atS (op_atS (op_atS (op_atS (op_atS (op_atS (op_atS op_at0))))))))))))))))))))))))))))))))))))))))))) (by kernel_rfl) (by kernel_rfl) (by kernel_rfl) (fun _ _ _ h => h) (Or.inr ⟨by rfl, rfl⟩) (by assumption) ?_
                  try simp only [Act.put, List.setIfInBounds_toArray, List.set_cons_zero, List.set_cons_succ]
                  refine wpAnyH_take (i := 44) (v := undef) (op_atS (op_atS (op_atS (op_atS (op_atS (op_atS (op_atS (op_atS (op_atS (op_atS (op_atS (op_atS (op_atS (op_atS (op_atS (op_atS (op_atS (op_atS (op_atS (op_atS (op_atS (op_atS (op_atS (op_atS (op_atS (op_atS (op_atS (op_atS (op_atS (op_atS (op_atS (op_atS (op_atS (op_atS (op_atS (op_atS (op_atS (op_atS (op_atS (op_atS (op_atS (op_atS (op_atS (op_atS op_at0)))))))))))))))))))))))))))))))))))))))))))) (by kernel_rfl) (by kernel_rfl) (by kernel_rfl) (fun _ _ _ h => h) (Or.inr ⟨by rfl, rfl⟩) (by assumption) ?_
                  try simp only [Act.put, List.setIfInBounds_toArray, List.set_cons_zero, List.set_cons_succ]
                  refine wpAnyH_take (i := 45) (v := undef) (op_atS (op_atS (op_atS (op_atS (op_atS (op_atS (op_atS (op_atS (op_atS (op_atS (op_atS (op_atS (op_atS (op_atS (op_atS (op_atS (op_atS (op_atS (op_atS (op_atS (op_atS (op_atS (op_atS (op_atS (op_atS (op_atS (op_atS (op_atS (op_atS (op_atS (op_atS (op_atS (op_atS (op_atS (op_atS (op_atS (op_atS (op_atS (op_atS (op_atS (op_atS (op_atS (op_atS (op_atS (op_atS op_at0))))))))))))))))))))))))))))))))))))))))))))) (by kernel_rfl) (by kernel_rfl) (by kernel_rfl) (fun _ _ _ h => h) (Or.inr ⟨by rfl, rfl⟩) (by assumption) ?_
                  try simp only [Act.put, List.setIfInBounds_toArray, List.set_cons_zero, List.set_cons_succ]
                  refine wpAnyH_take (i := 46) (v := undef) (op_atS (op_atS (op_atS (op_atS (op_atS (op_atS (op_atS (op_atS (op_atS (op_atS (op_atS (op_atS (op_atS (op_atS (op_atS (op_atS (op_atS (op_atS (op_atS (op_atS (op_atS (op_atS (op_atS (op_atS (op_atS (op_atS (op_atS (op_atS (op_atS (op_atS (op_atS (op_atS (op_atS (op_atS (op_atS (op_atS (op_atS (op_atS (op_atS (op_atS (op_atS (op_atS (op_atS (op_atS (op_atS (op_atS op_at0)))))))))))))))))))))))))))))))))))))))))))))) (by kernel_rfl) (by kernel_rfl) (by kernel_rfl) (fun _ _ _ h => h) (Or.inr ⟨by rfl, rfl⟩) (by assumption) ?_
                  try simp only [Act.put, List.setIfInBounds_toArray, List.set_cons_zero, List.set_cons_succ]
                  refine wpAnyH_take (i := 47) (v := undef) (op_atS (op_atS (op_atS (op_atS (op_atS (op_atS (op_atS (op_atS (op_atS (op_atS (op_atS (op_atS (op_atS (op_atS (op_atS (op_atS (op_atS (op_atS (op_atS (op_atS (op_atS (op_atS (op_atS (op_atS (op_atS (op_atS (op_atS (op_atS (op_atS (op_atS (op_atS (op_atS (op_atS (op_atS (op_atS (op_atS (op_atS (op_atS (op_atS (op_atS (op_atS (op_atS (op_atS (op_atS (op_atS (op_atS (op_atS op_at0))))))))))))))))))))))))))))))))))))))))))))))) (by kernel_rfl) (by kernel_rfl) (by kernel_rfl) (fun _ _ _ h => h) (Or.inr ⟨by rfl, rfl⟩) (by assumption) ?_
                  try simp only [Act.put, List.setIfInBounds_toArray, List.set_cons_zero, List.set_cons_succ]
                  refine wpAnyH_take (i := 48) (v := undef) (op_atS (op_atS (op_atS (op_atS (op_atS (op_atS (op_atS (op_atS (op_atS (op_atS (op_atS (op_atS (op_atS (op_atS (op_atS (op_atS (op_atS (op_atS (op_atS (op_atS (op_atS (op_atS (op_atS (op_atS (op_atS (op_atS (op_atS (op_atS (op_atS (op_atS (op_atS (op_atS (op_atS (op_atS (op_atS (op_atS (op_atS (op_atS (op_atS (op_atS (op_atS (op_atS (op_atS (op_atS (op_atS (op_atS (op_atS (op_atS op_at0)))))))))))))))))))))))))))))))))))))))))))))))) (by kernel_rfl) (by kernel_rfl) (by kernel_rfl) (fun _ _ _ h => h) (Or.inr ⟨by rfl, rfl⟩) (by assumption) ?_
                  try simp only [Act.put, List.setIfInBounds_toArray, List.set_cons_zero, List.set_cons_succ]
                  refine wpAnyH_take (i := 49) (v := undef) (op_atS (op_atS (op_atS (op_atS (op_atS (op_atS (op_atS (op_atS (op_atS (op_atS (op_atS (op_atS (op_atS (op_atS (op_atS (op_atS (op_atS (op_atS (op_atS (op_atS (op_atS (op_atS (op_atS (op_atS (op_atS (op_atS (op_atS (op_atS (op_atS (op_atS (op_atS (op_atS (op_atS (op_atS (op_atS (op_atS (op_atS (op_atS (op_atS (op_atS (op_atS (op_atS (op_atS (op_atS (op_atS (op_atS (op_atS (op_atS (op_atS op_at0))))))))))))))))))))))))))))))))))))))))))))))))) (by kernel_rfl) (by kernel_rfl) (by kernel_rfl) (fun _ _ _ h => h) (Or.inr ⟨by rfl, rfl⟩) (by assumption) ?_
                  try simp only [Act.put, List.setIfInBounds_toArray, List.set_cons_zero, List.set_cons_succ]
                  refine wpAnyH_take (i := 50) (v := undef) (op_atS (op_atS (op_atS (op_atS (op_atS (op_atS (op_atS (op_atS (op_atS (op_atS (op_atS (op_atS (op_atS (op_atS (op_atS (op_atS (op_atS (op_atS (op_atS (op_atS (op_atS (op_atS (op_atS (op_atS (op_atS (op_atS (op_atS (op_atS (op_atS (op_atS (op_atS (op_atS (op_atS (op_atS (op_atS (op_atS (op_atS (op_atS (op_atS (op_atS (op_atS (op_atS (op_atS (op_atS (op_atS (op_atS (op_atS (op_atS (op_atS (op_atS op_at0)))))))))))))))))))))))))))))))))))))))))))))))))) (by kernel_rfl) (by kernel_rfl) (by kernel_rfl) (fun _ _ _ h => h) (Or.inr ⟨by rfl, rfl⟩) (by assumption) ?_
                  try simp only [Act.put, List.setIfInBounds_toArray, List.set_cons_zero, List.set_cons_succ]
                  refine wpAnyH_take (i := 51) (v := undef) (op_atS (op_atS (op_atS (op_atS (op_atS (op_atS (op_atS (op_atS (op_atS (op_atS (op_atS (op_atS (op_atS (op_atS (op_atS (op_atS (op_atS (op_atS (op_atS (op_atS (op_atS (op_atS (op_atS (op_atS (op_atS (op_atS (op_atS (op_atS (op_atS (op_atS (op_atS (op_atS (op_atS (op_atS (op_atS (op_atS (op_atS (op_atS (op_atS (op_atS (op_atS (op_atS (op_atS (op_atS (op_atS (op_atS (op_atS (op_atS (op_atS (op_atS (op_atS op_at0))))))))))))))))))))))))))))))))))))))))))))))))))) (by kernel_rfl) (by kernel_rfl) (by kernel_rfl) (fun _ _ _ h => h) (Or.inr ⟨by rfl, rfl⟩) (by assumption) ?_
                  try simp only [Act.put, List.setIfInBounds_toArray, List.set_cons_zero, List.set_cons_succ]
                  refine wpAnyH_take (i := 52) (v := undef) (op_atS (op_atS (op_atS (op_atS (op_atS (op_atS (op_atS (op_atS (op_atS (op_atS (op_atS (op_atS (op_atS (op_atS (op_atS (op_atS (op_atS (op_atS (op_atS (op_atS (op_atS (op_atS (op_atS (op_atS (op_atS (op_atS (op_atS (op_atS (op_atS (op_atS (op_atS (op_atS (op_atS (op_atS (op_atS (op_atS (op_atS (op_atS (op_atS (op_atS (op_atS (op_atS (op_atS (op_atS (op_atS (op_atS (op_atS (op_atS (op_atS (op_atS (op_atS (op_atS op_at0)))))))))))))))))))))))))))))))))))))))))))))))))))) (by kernel_rfl) (by kernel_rfl) (by kernel_rfl) (fun _ _ _ h => h) (Or.inr ⟨by rfl, rfl⟩) (by assumption) ?_
                  try simp only [Act.put, List.setIfInBounds_toArray, List.set_cons_zero, List.set_cons_succ]
                  refine wpAnyH_take (i := 53) (v := undef) (op_atS (op_atS (op_atS (op_atS (op_atS (op_atS (op_atS (op_atS (op_atS (op_atS (op_atS (op_atS (op_atS (op_atS (op_atS (op_atS (op_atS (op_atS (op_atS (op_atS (op_atS (op_atS (op_atS (op_atS (op_atS (op_atS (op_atS (op_atS (op_atS (op_atS (op_atS (op_atS (op_atS (op_atS (op_atS (op_atS (op_atS (op_atS (op_atS (op_atS (op_atS (op_atS (op_atS (op_atS (op_atS (op_atS (op_atS (op_atS (op_atS (op_atS (op_atS (op_atS (op_atS op_at0))))))))))))))))))))))))))))))))))))))))))))))))))))) (by kernel_rfl) (by kernel_rfl) (by kernel_rfl) (fun _ _ _ h => h) (Or.inr ⟨by rfl, rfl⟩) (by assumption) ?_
                  try simp only [Act.put, List.setIfInBounds_toArray, List.set_cons_zero, List.set_cons_succ]
                  refine wpAnyH_take (i := 54) (v := undef) (op_atS (op_atS (op_atS (op_atS (op_atS (op_atS (op_atS (op_atS (op_atS (op_atS (op_atS (op_atS (op_atS (op_atS (op_atS (op_atS (op_atS (op_atS (op_atS (op_atS (op_atS (op_atS (op_atS (op_atS (op_atS (op_atS (op_atS (op_atS (op_atS (op_atS (op_atS (op_atS (op_atS (op_atS (op_atS (op_atS (op_atS (op_atS (op_atS (op_atS (op_atS (op_atS (op_atS (op_atS (op_atS (op_atS (op_atS (op_atS (op_atS (op_atS (op_atS (op_atS (op_atS (op_atS op_at0)))))))))))))))))))))))))))))))))))))))))))))))))))))) (by kernel_rfl) (by kernel_rfl) (by kernel_rfl) (fun _ _ _ h => h) (Or.inr ⟨by rfl, rfl⟩) (by assumption) ?_
                  try simp only [Act.put, List.setIfInBounds_toArray, List.set_cons_zero, List.set_cons_succ]
                  refine wpAnyH_take (i := 55) (v := ?_) (op_atS (op_atS (op_atS (op_atS (op_atS (op_atS (op_atS (op_atS (op_atS (op_atS (op_atS (op_atS (op_atS (op_atS (op_atS (op_atS (op_atS (op_atS (op_atS (op_atS (op_atS (op_atS (op_atS (op_atS (op_atS (op_atS (op_atS (op_atS (op_atS (op_atS (op_atS (op_atS (op_atS (op_atS (op_atS (op_atS (op_atS (op_atS (op_atS (op_atS (op_atS (op_atS (op_atS (op_atS (op_atS (op_atS (op_atS (op_atS (op_atS (op_atS (op_atS (op_atS (op_atS (op_atS (op_atS op_at0))))))))))))))))))))))))))))))))))))))))))))))))))))))) (by kernel_rfl) (by kernel_rfl) (by kernel_rfl) (fun _ _ _ h => h) (Or.inl ⟨by rfl, ?_⟩) (by assumption) ?_
                  rotate_left
                  focus ((intro w hSw; (try dsimp only at hSw); go_simp) <;> with_reducible rfl)
                  all_goals skip
                  try simp only [Act.put, List.setIfInBounds_toArray, List.set_cons_zero, List.set_cons_succ]
                  refine wpAnyH_take (i := 56) (v := ?_) (op_atS (op_atS (op_atS (op_atS (op_atS (op_atS (op_atS (op_atS (op_atS (op_atS (op_atS (op_atS (op_atS (op_atS (op_atS (op_atS (op_atS (op_atS (op_atS (op_atS (op_atS (op_atS (op_atS (op_atS (op_atS (op_atS (op_atS (op_atS (op_atS (op_atS (op_atS (op_atS (op_atS (op_atS (op_atS (op_atS (op_atS (op_atS (op_atS (op_atS (op_atS (op_atS (op_atS (op_atS (op_atS (op_atS (op_atS (op_atS (op_atS (op_atS (op_atS (op_atS (op_atS (op_atS (op_atS (op_atS op_at0)))))))))))))))))))))))))))))))))))))))))))))))))))))))) (by kernel_rfl) (by kernel_rfl) (by kernel_rfl) (fun _ _ _ h => h) (Or.inl ⟨by rfl, ?_⟩) (by assumption) ?_
                  rotate_left
                  focus ((intro w hSw; (try dsimp only at hSw); go_simp) <;> with_reducible rfl)
                  all_goals skip
                  try simp only [Act.put, List.setIfInBounds_toArray, List.set_cons_zero, List.set_cons_succ]
                  refine wpAnyH_done (by kernel_rfl) ?_ _
                  clear hHeld
                  go_wp2
                  go_roundg (gk - 1)
                  case measure => omega
                  case rel => exact ⟨x0 + 1, by go_num, by omega, hMi.trans HMW.out.drew, by omega⟩
                case true =>
                  have hin : top ≤ y0 ∧ y0 < last := by
                    have h1 := HIN.out
                    simpa using h1.symm
                  obtain ⟨hin1, hin2⟩ := hin
                  obtain ⟨br, bf, bg, bt⟩ := cb
                  obtain ⟨uu, huu, cu0, hcus⟩ := (RU.out.keepsM (fun _ => rfl) (hMw.trans HMW.out) (by simp)).row HCB.out
                  cases huu
                  have cu1 := hcus 0 (by omega)
                  have cu2 := hcus 1 (by omega)
                  have cu3 := hcus 2 (by omega)
                  simp only [Cell.vals, List.getElem?_cons_zero, List.getElem?_cons_succ] at cu0 cu1 cu2 cu3
                  rw [HKe.out] at cu0 cu1 cu2 cu3
                  clear hcus
                  have KU : wd.cell? ⟨w4.heap.size, 2, none⟩ = some (.slice (some a4) n c4) := blk_cell (HMW.out.at PU.out (by simp)) 2
                  have KG : wd.cell? ⟨w2.heap.size, 0, none⟩ = some (.int .i64 (w : Int)) := blk_cell (HMW.out.at P6.out (by simp)) 0
                  have KL : wd.cell? ⟨w2.heap.size, 2, none⟩ = some (.slice (some a) n c0) := blk_cell (HMW.out.at P6.out (by simp)) 2
                  have s2 : IntKind.i64.wrap ((y0 : Int) + (kq : Int)) = (y0 : Int) + (kq : Int) := IntWalk.i64_in _ (by omega)
                  by_cases hlk : y0 + kq < last
                  · obtain ⟨hyk, hL2⟩ := HU1.out hin1 hin2 hlk
                    have hle2 := row_le HN.out hyk
                    obtain ⟨vv, hvv, cl0, hcls⟩ := (RL.out.keepsM (fun _ => rfl) (hMw.trans HMW.out) (by simp)).row hL2
                    cases hvv
                    have cl1 := hcls 0 (by omega)
                    have cl2 := hcls 1 (by omega)
                    have cl3 := hcls 2 (by omega)
                    simp only [Cell.vals, List.getElem?_cons_zero, List.getElem?_cons_succ] at cl0 cl1 cl2 cl3
                    obtain ⟨K2, hK2⟩ : ∃ K2, (y0 + kq) * w = K2 := ⟨_, rfl⟩
                    have hKK : IntKind.i64.wrap (((y0 : Int) + (kq : Int)) * (w : Int)) = (K2 : Int) := by
                      rw [← hK2, ← Int.natCast_add, ← Int.natCast_mul]; exact IntWalk.i64_in _ (by omega)
                    rw [hK2] at hle2 cl0 cl1 cl2 cl3
                    have y0' : (0 : Int) ≤ (K2 : Int) + (x0 : Int) := by omega
                    have y1 : (K2 : Int) + (x0 : Int) < (n : Int) := by omega
                    have y2 : ((K2 : Int) + (x0 : Int)).toNat = K2 + x0 := by omega
                    have y3 : IntKind.i64.wrap ((K2 : Int) + (x0 : Int)) = (K2 : Int) + (x0 : Int) := IntWalk.i64_in _ (by omega)
                    have d1 : decide ((y0 : Int) + (kq : Int) < (last : Int)) = true := decide_eq_true (by omega)
                    have d2 : decide ((last : Int) ≤ (y0 : Int) + (kq : Int)) = false := decide_eq_false (by omega)
                    have d3 : decide ((y0 : Int) + (kq : Int) ≥ (last : Int)) = false := decide_eq_false (by omega)
                    have hne : ∀ X, (binOp .neq 27 (.agg #[.int .i32 br, .int .u8 bf, .int .u8 bg, .int .u8 (bt.val : Int)]) (.agg #[.int .i32 br, .int .u8 bf, .int .u8 bg, .int .u8 (bt.val : Int)])).run Tryd.prog X = .ok (.bool false) X := fun X => by
                      have := run_neq_cell X ⟨br, bf, bg, bt⟩ ⟨br, bf, bg, bt⟩
                      simpa using this
                    clear hcls hK2 hL2
                    refine wp_region_held_drew (S := (fun X => X.cell? ⟨w4.heap.size, 2, none⟩ = some (.slice (some a4) n c4) ∧ X.cell? ⟨w2.heap.size, 0, none⟩ = some (.int .i64 (w : Int)) ∧ X.cell? ⟨w2.heap.size, 2, none⟩ = some (.slice (some a) n c0) ∧ (X.cell? (a4.add ((K + x0) * (3 + 1))) = some (.int .i32 br) ∧ X.cell? ⟨(a4.add ((K + x0) * (3 + 1))).block, (a4.add ((K + x0) * (3 + 1))).off + (0 + 1), none⟩ = some (.int .u8 bf) ∧ X.cell? ⟨(a4.add ((K + x0) * (3 + 1))).block, (a4.add ((K + x0) * (3 + 1))).off + (1 + 1), none⟩ = some (.int .u8 bg) ∧ X.cell? ⟨(a4.add ((K + x0) * (3 + 1))).block, (a4.add ((K + x0) * (3 + 1))).off + (2 + 1), none⟩ = some (.int .u8 (bt.val : Int))) ∧ (X.cell? (a.add ((K2 + x0) * (3 + 1))) = some (.int .i32 br) ∧ X.cell? ⟨(a.add ((K2 + x0) * (3 + 1))).block, (a.add ((K2 + x0) * (3 + 1))).off + (0 + 1), none⟩ = some (.int .u8 bf) ∧ X.cell? ⟨(a.add ((K2 + x0) * (3 + 1))).block, (a.add ((K2 + x0) * (3 + 1))).off + (1 + 1), none⟩ = some (.int .u8 bg) ∧ X.cell? ⟨(a.add ((K2 + x0) * (3 + 1))).block, (a.add ((K2 + x0) * (3 + 1))).off + (2 + 1), none⟩ = some (.int .u8 (bt.val : Int))))) (by kernel_rfl) ?_ (fun hHeld => ?_)
                    focus ((try dsimp only); exact ⟨KU, KG, KL, ⟨cu0, cu1, cu2, cu3⟩, ⟨cl0, cl1, cl2, cl3⟩⟩)
                    refine wpAnyH_take (i := 0) (v := ?_) op_at0 (by kernel_rfl) (by kernel_rfl) (by kernel_rfl) (fun _ _ _ h => h) (Or.inl ⟨by rfl, ?_⟩) (by assumption) ?_
                    rotate_left
                    focus ((intro w hSw; (try dsimp only at hSw); go_simp) <;> with_reducible rfl)
                    all_goals skip
                    try simp only [Act.put, List.setIfInBounds_toArray, List.set_cons_zero, List.set_cons_succ]
                    refine wpAnyH_take (i := 1) (v := ?_) (op_atS op_at0) (by kernel_rfl) (by kernel_rfl) (by kernel_rfl) (fun _ _ _ h => h) (Or.inl ⟨by rfl, ?_⟩) (by assumption) ?_
                    rotate_left
                    focus ((intro w hSw; (try dsimp only at hSw); go_simp) <;> with_reducible rfl)
                    all_goals skip
                    try simp only [Act.put, List.setIfInBounds_toArray, List.set_cons_zero, List.set_cons_succ]
                    refine wpAnyH_take (i := 2) (v := ?_) (op_atS (op_atS op_at0)) (by kernel_rfl) (by kernel_rfl) (by kernel_rfl) (fun _ _ _ h => h) (Or.inl ⟨by rfl, ?_⟩) (by assumption) ?_
                    rotate_left
                    focus ((intro w hSw; (try dsimp only at hSw); go_simp) <;> with_reducible rfl)
                    all_goals skip
                    try simp only [Act.put, List.setIfInBounds_toArray, List.set_cons_zero, List.set_cons_succ]
                    refine wpAnyH_take (i := 3) (v := ?_) (op_atS (op_atS (op_atS op_at0))) (by kernel_rfl) (by kernel_rfl) (by kernel_rfl) (fun _ _ _ h => h) (Or.inl ⟨by rfl, ?_⟩) (by assumption) ?_
                    rotate_left
                    focus ((intro w hSw; (try dsimp only at hSw); go_simp) <;> with_reducible rfl)
                    all_goals skip
                    try simp only [Act.put, List.setIfInBounds_toArray, List.set_cons_zero, List.set_cons_succ]
                    refine wpAnyH_take (i := 4) (v := ?_) (op_atS (op_atS (op_atS (op_atS op_at0)))) (by kernel_rfl) (by kernel_rfl) (by kernel_rfl) (fun _ _ _ h => h) (Or.inl ⟨by rfl, ?_⟩) (by assumption) ?_
                    rotate_left
                    focus ((intro w hSw; (try dsimp only at hSw); go_simp) <;> with_reducible rfl)
                    all_goals skip
                    try simp only [Act.put, List.setIfInBounds_toArray, List.set_cons_zero, List.set_cons_succ]
                    refine wpAnyH_take (i := 5) (v := ?_) (op_atS (op_atS (op_atS (op_atS (op_atS op_at0))))) (by kernel_rfl) (by kernel_rfl) (by kernel_rfl) (fun _ _ _ h => h) (Or.inl ⟨by rfl, ?_⟩) (by assumption) ?_
                    rotate_left
                    focus ((intro w hSw; (try dsimp only at hSw); go_simp) <;> with_reducible rfl)
                    all_goals skip
                    try simp only [Act.put, List.setIfInBounds_toArray, List.set_cons_zero, List.set_cons_succ]
                    refine wpAnyH_take (i := 6) (v := ?_) (op_atS (op_atS (op_atS (op_atS (op_atS (op_atS op_at0)))))) (by kernel_rfl) (by kernel_rfl) (by kernel_rfl) (fun _ _ _ h => h) (Or.inl ⟨by rfl, ?_⟩) (by assumption) ?_
                    rotate_left
                    focus ((intro w hSw; (try dsimp only at hSw); go_simp) <;> with_reducible rfl)
                    all_goals skip
                    try simp only [Act.put, List.setIfInBounds_toArray, List.set_cons_zero, List.set_cons_succ]
                    refine wpAnyH_take (i := 7) (v := ?_) (op_atS (op_atS (op_atS (op_atS (op_atS (op_atS (op_atS op_at0))))))) (by kernel_rfl) (by kernel_rfl) (by kernel_rfl) (fun _ _ _ h => h) (Or.inl ⟨by rfl, ?_⟩) (by assumption) ?_
                    rotate_left
                    focus ((intro w hSw; (try dsimp only at hSw); go_simp) <;> with_reducible rfl)
                    all_goals skip
                    try simp only [Act.put, List.setIfInBounds_toArray, List.set_cons_zero, List.set_cons_succ]
                    refine wpAnyH_take (i := 8) (v := ?_) (op_atS (op_atS (op_atS (op_atS (op_atS (op_atS (op_atS (op_atS op_at0)))))))) (by kernel_rfl) (by kernel_rfl) (by kernel_rfl) (fun _ _ _ h => h) (Or.inl ⟨by rfl, ?_⟩) (by assumption) ?_
                    rotate_left
                    focus ((intro w hSw; (try dsimp only at hSw); go_simp) <;> with_reducible rfl)
                    all_goals skip
                    try simp only [Act.put, List.setIfInBounds_toArray, List.set_cons_zero, List.set_cons_succ]
                    refine wpAnyH_take (i := 9) (v := ?_) (op_atS (op_atS (op_atS (op_atS (op_atS (op_atS (op_atS (op_atS (op_atS op_at0))))))))) (by kernel_rfl) (by kernel_rfl) (by kernel_rfl) (fun _ _ _ h => h) (Or.inl ⟨by rfl, ?_⟩) (by assumption) ?_
                    rotate_left
                    focus ((intro w hSw; (try dsimp only at hSw); go_simp) <;> with_reducible rfl)
                    all_goals skip
                    try simp only [Act.put, List.setIfInBounds_toArray, List.set_cons_zero, List.set_cons_succ]
                    refine wpAnyH_take (i := 10) (v := ?_) (op_atS (op_atS (op_atS (op_atS (op_atS (op_atS (op_atS (op_atS (op_atS (op_atS op_at0)))))))))) (by kernel_rfl) (by kernel_rfl) (by kernel_rfl) (fun _ _ _ h => h) (Or.inl ⟨by rfl, ?_⟩) (by assumption) ?_
                    rotate_left
                    focus ((intro w hSw; (try dsimp only at hSw); go_simp) <;> with_reducible rfl)
                    all_goals skip
                    try simp only [Act.put, List.setIfInBounds_toArray, List.set_cons_zero, List.set_cons_succ]
                    refine wpAnyH_take (i := 11) (v := ?_) (op_atS (op_atS (op_atS (op_atS (op_atS (op_atS (op_atS (op_atS (op_atS (op_atS (op_atS op_at0))))))))))) (by kernel_rfl) (by kernel_rfl) (by kernel_rfl) (fun _ _ _ h => h) (Or.inl ⟨by rfl, ?_⟩) (by assumption) ?_
                    rotate_left
                    focus ((intro w hSw; (try dsimp only at hSw); go_simp) <;> with_reducible rfl)
                    all_goals skip
                    try simp only [Act.put, List.setIfInBounds_toArray, List.set_cons_zero, List.set_cons_succ]
                    refine wpAnyH_take (i := 12) (v := ?_) (op_atS (op_atS (op_atS (op_atS (op_atS (op_atS (op_atS (op_atS (op_atS (op_atS (op_atS (op_atS op_at0)))))))))))) (by kernel_rfl) (by kernel_rfl) (by kernel_rfl) (fun _ _ _ h => h) (Or.inl ⟨by rfl, ?_⟩) (by assumption) ?_
                    rotate_left
                    focus ((intro w hSw; (try dsimp only at hSw); go_simp) <;> with_reducible rfl)
                    all_goals skip
                    try simp only [Act.put, List.setIfInBounds_toArray, List.set_cons_zero, List.set_cons_succ]
                    refine wpAnyH_take (i := 13) (v := ?_) (op_atS (op_atS (op_atS (op_atS (op_atS (op_atS (op_atS (op_atS (op_atS (op_atS (op_atS (op_atS (op_atS op_at0))))))))))))) (by kernel_rfl) (by kernel_rfl) (by kernel_rfl) (fun _ _ _ h => h) (Or.inl ⟨by rfl, ?_⟩) (by assumption) ?_
                    rotate_left
                    focus ((intro w hSw; (try dsimp only at hSw); go_simp) <;> with_reducible rfl)
                    all_goals skip
                    try simp only [Act.put, List.setIfInBounds_toArray, List.set_cons_zero, List.set_cons_succ]
                    refine wpAnyH_take (i := 14) (v := ?_) (op_atS (op_atS (op_atS (op_atS (op_atS (op_atS (op_atS (op_atS (op_atS (op_atS (op_atS (op_atS (op_atS (op_atS op_at0)))))))))))))) (by kernel_rfl) (by kernel_rfl) (by kernel_rfl) (fun _ _ _ h => h) (Or.inl ⟨by rfl, ?_⟩) (by assumption) ?_
                    rotate_left
                    focus ((intro w hSw; (try dsimp only at hSw); go_simp) <;> with_reducible rfl)
                    all_goals skip
                    try simp only [Act.put, List.setIfInBounds_toArray, List.set_cons_zero, List.set_cons_succ]
                    refine wpAnyH_take (i := 15) (v := ?_) (op_atS (op_atS (op_atS (op_atS (op_atS (op_atS (op_atS (op_atS (op_atS (op_atS (op_atS (op_atS (op_atS (op_atS (op_atS op_at0))))))))))))))) (by kernel_rfl) (by kernel_rfl) (by kernel_rfl) (fun _ _ _ h => h) (Or.inl ⟨by rfl, ?_⟩) (by assumption) ?_
                    rotate_left
                    focus ((intro w hSw; (try dsimp only at hSw); go_simp) <;> with_reducible rfl)
                    all_goals skip
                    try simp only [Act.put, List.setIfInBounds_toArray, List.set_cons_zero, List.set_cons_succ]
                    refine wpAnyH_take (i := 16) (v := ?_) (op_atS (op_atS (op_atS (op_atS (op_atS (op_atS (op_atS (op_atS (op_atS (op_atS (op_atS (op_atS (op_atS (op_atS (op_atS (op_atS op_at0)))))))))))))))) (by kernel_rfl) (by kernel_rfl) (by kernel_rfl) (fun _ _ _ h => h) (Or.inl ⟨by rfl, ?_⟩) (by assumption) ?_
                    rotate_left
                    focus ((intro w hSw; (try dsimp only at hSw); go_simp) <;> with_reducible rfl)
                    all_goals skip
                    try simp only [Act.put, List.setIfInBounds_toArray, List.set_cons_zero, List.set_cons_succ]
                    refine wpAnyH_take (i := 17) (v := ?_) (op_atS (op_atS (op_atS (op_atS (op_atS (op_atS (op_atS (op_atS (op_atS (op_atS (op_atS (op_atS (op_atS (op_atS (op_atS (op_atS (op_atS op_at0))))))))))))))))) (by kernel_rfl) (by kernel_rfl) (by kernel_rfl) (fun _ _ _ h => h) (Or.inl ⟨by rfl, ?_⟩) (by assumption) ?_
                    rotate_left
                    focus ((intro w hSw; (try dsimp only at hSw); go_simp) <;> with_reducible rfl)
                    all_goals skip
                    try simp only [Act.put, List.setIfInBounds_toArray, List.set_cons_zero, List.set_cons_succ]
                    refine wpAnyH_take (i := 18) (v := ?_) (op_atS (op_atS (op_atS (op_atS (op_atS (op_atS (op_atS (op_atS (op_atS (op_atS (op_atS (op_atS (op_atS (op_atS (op_atS (op_atS (op_atS (op_atS op_at0)))))))))))))))))) (by kernel_rfl) (by kernel_rfl) (by kernel_rfl) (fun _ _ _ h => h) (Or.inl ⟨by rfl, ?_⟩) (by assumption) ?_
                    rotate_left
                    focus ((intro w hSw; (try dsimp only at hSw); go_simp) <;> with_reducible rfl)
                    all_goals skip
                    try simp only [Act.put, List.setIfInBounds_toArray, List.set_cons_zero, List.set_cons_succ]
                    refine wpAnyH_take (i := 19) (v := ?_) (op_atS (op_atS (op_atS (op_atS (op_atS (op_atS (op_atS (op_atS (op_atS (op_atS (op_atS (op_atS (op_atS (op_atS (op_atS (op_atS (op_atS (op_atS (op_atS op_at0))))))))))))))))))) (by kernel_rfl) (by kernel_rfl) (by kernel_rfl) (fun _ _ _ h => h) (Or.inl ⟨by rfl, ?_⟩) (by assumption) ?_
                    rotate_left
                    focus ((intro w hSw; (try dsimp only at hSw); go_simp) <;> with_reducible rfl)
                    all_goals skip
                    try simp only [Act.put, List.setIfInBounds_toArray, List.set_cons_zero, List.set_cons_succ]
                    refine wpAnyH_take (i := 20) (v := ?_) (op_atS (op_atS (op_atS (op_atS (op_atS (op_atS (op_atS (op_atS (op_atS (op_atS (op_atS (op_atS (op_atS (op_atS (op_atS (op_atS (op_atS (op_atS (op_atS (op_atS op_at0)))))))))))))))))))) (by kernel_rfl) (by kernel_rfl) (by kernel_rfl) (fun _ _ _ h => h) (Or.inl ⟨by rfl, ?_⟩) (by assumption) ?_
                    rotate_left
                    focus ((intro w hSw; (try dsimp only at hSw); go_simp) <;> with_reducible rfl)
                    all_goals skip
                    try simp only [Act.put, List.setIfInBounds_toArray, List.set_cons_zero, List.set_cons_succ]
                    refine wpAnyH_take (i := 21) (v := ?_) (op_atS (op_atS (op_atS (op_atS (op_atS (op_atS (op_atS (op_atS (op_atS (op_atS (op_atS (op_atS (op_atS (op_atS (op_atS (op_atS (op_atS (op_atS (op_atS (op_atS (op_atS op_at0))))))))))))))))))))) (by kernel_rfl) (by kernel_rfl) (by kernel_rfl) (fun _ _ _ h => h) (Or.inl ⟨by rfl, ?_⟩) (by assumption) ?_
                    rotate_left
                    focus ((intro w hSw; (try dsimp only at hSw); go_simp) <;> with_reducible rfl)
                    all_goals skip
                    try simp only [Act.put, List.setIfInBounds_toArray, List.set_cons_zero, List.set_cons_succ]
                    refine wpAnyH_take (i := 22) (v := ?_) (op_atS (op_atS (op_atS (op_atS (op_atS (op_atS (op_atS (op_atS (op_atS (op_atS (op_atS (op_atS (op_atS (op_atS (op_atS (op_atS (op_atS (op_atS (op_atS (op_atS (op_atS (op_atS op_at0)))))))))))))))))))))) (by kernel_rfl) (by kernel_rfl) (by kernel_rfl) (fun _ _ _ h => h) (Or.inl ⟨by rfl, ?_⟩) (by assumption) ?_
                    rotate_left
                    focus ((intro w hSw; (try dsimp only at hSw); go_simp) <;> with_reducible rfl)
                    all_goals skip
                    try simp only [Act.put, List.setIfInBounds_toArray, List.set_cons_zero, List.set_cons_succ]
                    refine wpAnyH_take (i := 23) (v := ?_) (op_atS (op_atS (op_atS (op_atS (op_atS (op_atS (op_atS (op_atS (op_atS (op_atS (op_atS (op_atS (op_atS (op_atS (op_atS (op_atS (op_atS (op_atS (op_atS (op_atS (op_atS (op_atS (op_atS op_at0))))))))))))))))))))))) (by kernel_rfl) (by kernel_rfl) (by kernel_rfl) (fun _ _ _ h => h) (Or.inl ⟨by rfl, ?_⟩) (by assumption) ?_
                    rotate_left
                    focus ((intro w hSw; (try dsimp only at hSw); go_simp) <;> with_reducible rfl)
                    all_goals skip
                    try simp only [Act.put, List.setIfInBounds_toArray, List.set_cons_zero, List.set_cons_succ]
                    refine wpAnyH_take (i := 24) (v := ?_) (op_atS (op_atS (op_atS (op_atS (op_atS (op_atS (op_atS (op_atS (op_atS (op_atS (op_atS (op_atS (op_atS (op_atS (op_atS (op_atS (op_atS (op_atS (op_atS (op_atS (op_atS (op_atS (op_atS (op_atS op_at0)))))))))))))))))))))))) (by kernel_rfl) (by kernel_rfl) (by kernel_rfl) (fun _ _ _ h => h) (Or.inl ⟨by rfl, ?_⟩) (by assumption) ?_
                    rotate_left
                    focus ((intro w hSw; (try dsimp only at hSw); go_simp) <;> with_reducible rfl)
                    all_goals skip
                    try simp only [Act.put, List.setIfInBounds_toArray, List.set_cons_zero, List.set_cons_succ]
                    refine wpAnyH_take (i := 25) (v := ?_) (op_atS (op_atS (op_atS (op_atS (op_atS (op_atS (op_atS (op_atS (op_atS (op_atS (op_atS (op_atS (op_atS (op_atS (op_atS (op_atS (op_atS (op_atS (op_atS (op_atS (op_atS (op_atS (op_atS (op_atS (op_atS op_at0))))))))))))))))))))))))) (by kernel_rfl) (by kernel_rfl) (by kernel_rfl) (fun _ _ _ h => h) (Or.inl ⟨by rfl, ?_⟩) (by assumption) ?_
                    rotate_left
                    focus ((intro w hSw; (try dsimp only at hSw); go_simp) <;> with_reducible rfl)
                    all_goals skip
                    try simp only [Act.put, List.setIfInBounds_toArray, List.set_cons_zero, List.set_cons_succ]
                    refine wpAnyH_take (i := 26) (v := ?_) (op_atS (op_atS (op_atS (op_atS (op_atS (op_atS (op_atS (op_atS (op_atS (op_atS (op_atS (op_atS (op_atS (op_atS (op_atS (op_atS (op_atS (op_atS (op_atS (op_atS (op_atS (op_atS (op_atS (op_atS (op_atS (op_atS op_at0)))))))))))))))))))))))))) (by kernel_rfl) (by kernel_rfl) (by kernel_rfl) (fun _ _ _ h => h) (Or.inl ⟨by rfl, ?_⟩) (by assumption) ?_
                    rotate_left
                    focus ((intro w hSw; (try dsimp only at hSw); go_simp) <;> with_reducible rfl)
                    all_goals skip
                    try simp only [Act.put, List.setIfInBounds_toArray, List.set_cons_zero, List.set_cons_succ]
                    refine wpAnyH_take (i := 27) (v := ?_) (op_atS (op_atS (op_atS (op_atS (op_atS (op_atS (op_atS (op_atS (op_atS (op_atS (op_atS (op_atS (op_atS (op_atS (op_atS (op_atS (op_atS (op_atS (op_atS (op_atS (op_atS (op_atS (op_atS (op_atS (op_atS (op_atS (op_atS op_at0))))))))))))))))))))))))))) (by kernel_rfl) (by kernel_rfl) (by kernel_rfl) (fun _ _ _ h => h) (Or.inl ⟨by rfl, ?_⟩) (by assumption) ?_
                    rotate_left
                    focus ((intro w hSw; (try dsimp only at hSw); go_simp) <;> with_reducible rfl)
                    all_goals skip
                    try simp only [Act.put, List.setIfInBounds_toArray, List.set_cons_zero, List.set_cons_succ]
                    refine wpAnyH_take (i := 28) (v := ?_) (op_atS (op_atS (op_atS (op_atS (op_atS (op_atS (op_atS (op_atS (op_atS (op_atS (op_atS (op_atS (op_atS (op_atS (op_atS (op_atS (op_atS (op_atS (op_atS (op_atS (op_atS (op_atS (op_atS (op_atS (op_atS (op_atS (op_atS (op_atS op_at0)))))))))))))))))))))))))))) (by kernel_rfl) (by kernel_rfl) (by kernel_rfl) (fun _ _ _ h => h) (Or.inl ⟨by rfl, ?_⟩) (by assumption) ?_
                    rotate_left
                    focus ((intro w hSw; (try dsimp only at hSw); go_simp) <;> with_reducible rfl)
                    all_goals skip
                    try simp only [Act.put, List.setIfInBounds_toArray, List.set_cons_zero, List.set_cons_succ]
                    refine wpAnyH_take (i := 29) (v := ?_) (op_atS (op_atS (op_atS (op_atS (op_atS (op_atS (op_atS (op_atS (op_atS (op_atS (op_atS (op_atS (op_atS (op_atS (op_atS (op_atS (op_atS (op_atS (op_atS (op_atS (op_atS (op_atS (op_atS (op_atS (op_atS (op_atS (op_atS (op_atS (op_atS op_at0))))))))))))))))))))))))))))) (by kernel_rfl) (by kernel_rfl) (by kernel_rfl) (fun _ _ _ h => h) (Or.inl ⟨by rfl, ?_⟩) (by assumption) ?_
                    rotate_left
                    focus ((intro w hSw; (try dsimp only at hSw); go_simp) <;> with_reducible rfl)
                    all_goals skip
                    try simp only [Act.put, List.setIfInBounds_toArray, List.set_cons_zero, List.set_cons_succ]
                    refine wpAnyH_take (i := 30) (v := ?_) (op_atS (op_atS (op_atS (op_atS (op_atS (op_atS (op_atS (op_atS (op_atS (op_atS (op_atS (op_atS (op_atS (op_atS (op_atS (op_atS (op_atS (op_atS (op_atS (op_atS (op_atS (op_atS (op_atS (op_atS (op_atS (op_atS (op_atS (op_atS (op_atS (op_atS op_at0)))))))))))))))))))))))))))))) (by kernel_rfl) (by kernel_rfl) (by kernel_rfl) (fun _ _ _ h => h) (Or.inl ⟨by rfl, ?_⟩) (by assumption) ?_
                    rotate_left
                    focus ((intro w hSw; (try dsimp only at hSw); go_simp) <;> with_reducible rfl)
                    all_goals skip
                    try simp only [Act.put, List.setIfInBounds_toArray, List.set_cons_zero, List.set_cons_succ]
                    refine wpAnyH_take (i := 31) (v := ?_) (op_atS (op_atS (op_atS (op_atS (op_atS (op_atS (op_atS (op_atS (op_atS (op_atS (op_atS (op_atS (op_atS (op_atS (op_atS (op_atS (op_atS (op_atS (op_atS (op_atS (op_atS (op_atS (op_atS (op_atS (op_atS (op_atS (op_atS (op_atS (op_atS (op_atS (op_atS op_at0))))))))))))))))))))))))))))))) (by kernel_rfl) (by kernel_rfl) (by kernel_rfl) (fun _ _ _ h => h) (Or.inl ⟨by rfl, ?_⟩) (by assumption) ?_
                    rotate_left
                    focus ((intro w hSw; (try dsimp only at hSw); go_simp) <;> with_reducible rfl)
                    all_goals skip
                    try simp only [Act.put, List.setIfInBounds_toArray, List.set_cons_zero, List.set_cons_succ]
                    refine wpAnyH_take (i := 32) (v := ?_) (op_atS (op_atS (op_atS (op_atS (op_atS (op_atS (op_atS (op_atS (op_atS (op_atS (op_atS (op_atS (op_atS (op_atS (op_atS (op_atS (op_atS (op_atS (op_atS (op_atS (op_atS (op_atS (op_atS (op_atS (op_atS (op_atS (op_atS (op_atS (op_atS (op_atS (op_atS (op_atS op_at0)))))))))))))))))))))))))))))))) (by kernel_rfl) (by kernel_rfl) (by kernel_rfl) (fun _ _ _ h => h) (Or.inl ⟨by rfl, ?_⟩) (by assumption) ?_
                    rotate_left
                    focus ((intro w hSw; (try dsimp only at hSw); go_simp) <;> with_reducible rfl)
                    all_goals skip
                    try simp only [Act.put, List.setIfInBounds_toArray, List.set_cons_zero, List.set_cons_succ]
                    refine wpAnyH_take (i := 33) (v := ?_) (op_atS (op_atS (op_atS (op_atS (op_atS (op_atS (op_atS (op_atS (op_atS (op_atS (op_atS (op_atS (op_atS (op_atS (op_atS (op_atS (op_atS (op_atS (op_atS (op_atS (op_atS (op_atS (op_atS (op_atS (op_atS (op_atS (op_atS (op_atS (op_atS (op_atS (op_atS (op_atS (op_atS op_at0))))))))))))))))))))))))))))))))) (by kernel_rfl) (by kernel_rfl) (by kernel_rfl) (fun _ _ _ h => h) (Or.inl ⟨by rfl, ?_⟩) (by assumption) ?_
                    rotate_left
                    focus ((intro w hSw; (try dsimp only at hSw); go_simp) <;> with_reducible rfl)
                    all_goals skip
                    try simp only [Act.put, List.setIfInBounds_toArray, List.set_cons_zero, List.set_cons_succ]
                    refine wpAnyH_take (i := 34) (v := ?_) (op_atS (op_atS (op_atS (op_atS (op_atS (op_atS (op_atS (op_atS (op_atS (op_atS (op_atS (op_atS (op_atS (op_atS (op_atS (op_atS (op_atS (op_atS (op_atS (op_atS (op_atS (op_atS (op_atS (op_atS (op_atS (op_atS (op_atS (op_atS (op_atS (op_atS (op_atS (op_atS (op_atS (op_atS op_at0)))))))))))))))))))))))))))))))))) (by kernel_rfl) (by kernel_rfl) (by kernel_rfl) (fun _ _ _ h => h) (Or.inl ⟨by rfl, ?_⟩) (by assumption) ?_
                    rotate_left
                    focus ((intro w hSw; (try dsimp only at hSw); go_simp) <;> with_reducible rfl)
                    all_goals skip
                    try simp only [Act.put, List.setIfInBounds_toArray, List.set_cons_zero, List.set_cons_succ]
                    refine wpAnyH_take (i := 35) (v := ?_) (op_atS (op_atS (op_atS (op_atS (op_atS (op_atS (op_atS (op_atS (op_atS (op_atS (op_atS (op_atS (op_atS (op_atS (op_atS (op_atS (op_atS (op_atS (op_atS (op_atS (op_atS (op_atS (op_atS (op_atS (op_atS (op_atS (op_atS (op_atS (op_atS (op_atS (op_atS (op_atS (op_atS (op_atS (op_atS op_at0))))))))))))))))))))))))))))))))))) (by kernel_rfl) (by kernel_rfl) (by kernel_rfl) (fun _ _ _ h => h) (Or.inl ⟨by rfl, ?_⟩) (by assumption) ?_
                    rotate_left
                    focus ((intro w hSw; (try dsimp only at hSw); go_simp) <;> with_reducible rfl)
                    all_goals skip
                    try simp only [Act.put, List.setIfInBounds_toArray, List.set_cons_zero, List.set_cons_succ]
                    refine wpAnyH_take (i := 36) (v := ?_) (op_atS (op_atS (op_atS (op_atS (op_atS (op_atS (op_atS (op_atS (op_atS (op_atS (op_atS (op_atS (op_atS (op_atS (op_atS (op_atS (op_atS (op_atS (op_atS (op_atS (op_atS (op_atS (op_atS (op_atS (op_atS (op_atS (op_atS (op_atS (op_atS (op_atS (op_atS (op_atS (op_atS (op_atS (op_atS (op_atS op_at0)))))))))))))))))))))))))))))))))))) (by kernel_rfl) (by kernel_rfl) (by kernel_rfl) (fun _ _ _ h => h) (Or.inl ⟨by rfl, ?_⟩) (by assumption) ?_
                    rotate_left
                    focus ((intro w hSw; (try dsimp only at hSw); go_simp) <;> with_reducible rfl)
                    all_goals skip
                    try simp only [Act.put, List.setIfInBounds_toArray, List.set_cons_zero, List.set_cons_succ]
                    refine wpAnyH_take (i := 37) (v := ?_) (op_atS (op_atS (op_atS (op_atS (op_atS (op_atS (op_atS (op_atS (op_atS (op_atS (op_atS (op_atS (op_atS (op_atS (op_atS (op_atS (op_atS (op_atS (op_atS (op_atS (op_atS (op_atS (op_atS (op_atS (op_atS (op_atS (op_atS (op_atS (op_atS (op_atS (op_atS (op_atS (op_atS (op_atS (op_atS (op_atS (op_atS op_at0))))))))))))))))))))))))))))))))))))) (by kernel_rfl) (by kernel_rfl) (by kernel_rfl) (fun _ _ _ h => h) (Or.inl ⟨by rfl, ?_⟩) (by assumption) ?_
                    rotate_left
                    focus ((intro w hSw; (try dsimp only at hSw); go_simp) <;> with_reducible rfl)
                    all_goals skip
                    try simp only [Act.put, List.setIfInBounds_toArray, List.set_cons_zero, List.set_cons_succ]
                    refine wpAnyH_take (i := 38) (v := ?_) (op_atS (op_atS (op_atS (op_atS (op_atS (op_atS (op_atS (op_atS (op_atS (op_atS (op_atS (op_atS (op_atS (op_atS (op_atS (op_atS (op_atS (op_atS (op_atS (op_atS (op_atS (op_atS (op_atS (op_atS (op_atS (op_atS (op_atS (op_atS (op_atS (op_atS (op_atS (op_atS (op_atS (op_atS (op_atS (op_atS (op_atS (op_atS op_at0)))))))))))))))))))))))))))))))))))))) (by kernel_rfl) (by kernel_rfl) (by kernel_rfl) (fun _ _ _ h => h) (Or.inl ⟨by rfl, ?_⟩) (by assumption) ?_
                    rotate_left
                    focus ((intro w hSw; (try dsimp only at hSw); go_simp) <;> with_reducible rfl)
                    all_goals skip
                    try simp only [Act.put, List.setIfInBounds_toArray, List.set_cons_zero, List.set_cons_succ]
                    refine wpAnyH_take (i := 39) (v := ?_) (op_atS (op_atS (op_atS (op_atS (op_atS (op_atS (op_atS (op_atS (op_atS (op_atS (op_atS (op_atS (op_atS (op_atS (op_atS (op_atS (op_atS (op_atS (op_atS (op_atS (op_atS (op_atS (op_atS (op_atS (op_atS (op_atS (op_atS (op_atS (op_atS (op_atS (op_atS (op_atS (op_atS (op_atS (op_atS (op_atS (op_atS (op_atS (op_atS op_at0))))))))))))))))))))))))))))))))))))))) (by kernel_rfl) (by kernel_rfl) (by kernel_rfl) (fun _ _ _ h => h) (Or.inl ⟨by rfl, ?_⟩) (by assumption) ?_
                    rotate_left
                    focus ((intro w hSw; (try dsimp only at hSw); go_simp) <;> with_reducible rfl)
                    all_goals skip
                    try simp only [Act.put, List.setIfInBounds_toArray, List.set_cons_zero, List.set_cons_succ]
                    refine wpAnyH_take (i := 40) (v := ?_) (op_atS (op_atS (op_atS (op_atS (op_atS (op_atS (op_atS (op_atS (op_atS (op_atS (op_atS (op_atS (op_atS (op_atS (op_atS (op_atS (op_atS (op_atS (op_atS (op_atS (op_atS (op_atS (op_atS (op_atS (op_atS (op_atS (op_atS (op_atS (op_atS (op_atS (op_atS (op_atS (op_atS (op_atS (op_atS (op_atS (op_atS (op_atS (op_atS (op_atS op_at0)))))))))))))))))))))))))))))))))))))))) (by kernel_rfl) (by kernel_rfl) (by kernel_rfl) (fun _ _ _ h => h) (Or.inl ⟨by rfl, ?_⟩) (by assumption) ?_
                    rotate_left
                    focus ((intro w hSw; (try dsimp only at hSw); go_simp) <;> with_reducible rfl)
                    all_goals skip
                    try simp only [Act.put, List.setIfInBounds_toArray, List.set_cons_zero, List.set_cons_succ]
                    refine wpAnyH_take (i := 41) (v := ?_) (op_atS (op_atS (op_atS (op_atS (op_atS (op_atS (op_atS (op_atS (op_atS (op_atS (op_atS (op_atS (op_atS (op_atS (op_atS (op_atS (op_atS (op_atS (op_atS (op_atS (op_atS (op_atS (op_atS (op_atS (op_atS (op_atS (op_atS (op_atS (op_atS (op_atS (op_atS (op_atS (op_atS (op_atS (op_atS (op_atS (op_atS (op_atS (op_atS (op_atS (op_atS op_at0))))))))))))))))))))))))))))))))))))))))) (by kernel_rfl) (by kernel_rfl) (by kernel_rfl) (fun _ _ _ h => h) (Or.inl ⟨by rfl, ?_⟩) (by assumption) ?_
                    rotate_left
                    focus ((intro w hSw; (try dsimp only at hSw); go_simp) <;> with_reducible rfl)
                    all_goals skip
                    try simp only [Act.put, List.setIfInBounds_toArray, List.set_cons_zero, List.set_cons_succ]
                    refine wpAnyH_take (i := 42) (v := ?_) (op_atS (op_atS (op_atS (op_atS (op_atS (op_atS (op_atS (op_atS (op_atS (op_atS (op_atS (op_atS (op_atS (op_atS (op_atS (op_atS (op_atS (op_atS (op_atS (op_atS (op_atS (op_atS (op_atS (op_atS (op_atS (op_atS (op_atS (op_atS (op_atS (op_atS (op_atS (op_atS (op_atS (op_atS (op_atS (op_atS (op_atS (op_atS (op_atS (op_atS (op_atS (op_atS op_at0)))))))))))))))))))))))))))))))))))))))))) (by kernel_rfl) (by kernel_rfl) (by kernel_rfl) (fun _ _ _ h => h) (Or.inl ⟨by rfl, ?_⟩) (by assumption) ?_
                    rotate_left
                    focus ((intro w hSw; (try dsimp only at hSw); go_simp) <;> with_reducible rfl)
                    all_goals skip
                    try simp only [Act.put, List.setIfInBounds_toArray, List.set_cons_zero, List.set_cons_succ]
                    refine wpAnyH_take (i := 43) (v := undef) (op_atS (op_atS (op_atS (op_atS (op_atS (op_atS (op_atS (op_atS (op_atS (op_atS (op_atS (op_atS (op_atS (op_atS (op_atS (op_atS (op_atS (op_atS (op_atS (op_atS (op_atS (op_atS (op_atS (op_atS (op_atS (op_atS (op_atS (op_atS (op_atS (op_atS (op_atS (op_atS (op_atS (op_atS (op_atS (op_atS (op_atS (op_atS (op_atS (op_atS (op_atS (op_atS (op_atS op_at0))))))))))))))))))))))))))))))))))))))))))) (by kernel_rfl) (by kernel_rfl) (by kernel_rfl) (fun _ _ _ h => h) (Or.inr ⟨by rfl, rfl⟩) (by assumption) ?_
                    try simp only [Act.put, List.setIfInBounds_toArray, List.set_cons_zero, List.set_cons_succ]
                    refine wpAnyH_take (i := 44) (v := undef) (op_atS (op_atS (op_atS (op_atS (op_atS (op_atS (op_atS (op_atS (op_atS (op_atS (op_atS (op_atS (op_atS (op_atS (op_atS (op_atS (op_atS (op_atS (op_atS (op_atS (op_atS (op_atS (op_atS (op_atS (op_atS (op_atS (op_atS (op_atS (op_atS (op_atS (op_atS (op_atS (op_atS (op_atS (op_atS (op_atS (op_atS (op_atS (op_atS (op_atS (op_atS (op_atS (op_atS (op_atS op_at0)))))))))))))))))))))))))))))))))))))))))))) (by kernel_rfl) (by kernel_rfl) (by kernel_rfl) (fun _ _ _ h => h) (Or.inr ⟨by rfl, rfl⟩) (by assumption) ?_
                    try simp only [Act.put, List.setIfInBounds_toArray, List.set_cons_zero, List.set_cons_succ]
                    refine wpAnyH_take (i := 45) (v := undef) (op_atS (op_atS (op_atS (op_atS (op_atS (op_atS (op_atS (op_atS (op_atS (op_atS (op_atS (op_atS (op_atS (op_atS (op_atS (op_atS (op_atS (op_atS (op_atS (op_atS (op_atS (op_atS (op_atS (op_atS (op_atS (op_atS (op_atS (op_atS (op_atS (op_atS (op_atS (op_atS (op_atS (op_atS (op_atS (op_atS (op_atS (op_atS (op_atS (op_atS (op_atS (op_atS (op_atS (op_atS (op_atS op_at0))))))))))))))))))))))))))))))))))))))))))))) (by kernel_rfl) (by kernel_rfl) (by kernel_rfl) (fun _ _ _ h => h) (Or.inr ⟨by rfl, rfl⟩) (by assumption) ?_
                    try simp only [Act.put, List.setIfInBounds_toArray, List.set_cons_zero, List.set_cons_succ]
                    refine wpAnyH_take (i := 46) (v := undef) (op_atS (op_atS (op_atS (op_atS (op_atS (op_atS (op_atS (op_atS (op_atS (op_atS (op_atS (op_atS (op_atS (op_atS (op_atS (op_atS (op_atS (op_atS (op_atS (op_atS (op_atS (op_atS (op_atS (op_atS (op_atS (op_atS (op_atS (op_atS (op_atS (op_atS (op_atS (op_atS (op_atS (op_atS (op_atS (op_atS (op_atS (op_atS (op_atS (op_atS (op_atS (op_atS (op_atS (op_atS (op_atS (op_atS op_at0)))))))))))))))))))))))))))))))))))))))))))))) (by kernel_rfl) (by kernel_rfl) (by kernel_rfl) (fun _ _ _ h => h) (Or.inr ⟨by rfl, rfl⟩) (by assumption) ?_
                    try simp only [Act.put, List.setIfInBounds_toArray, List.set_cons_zero, List.set_cons_succ]
                    refine wpAnyH_take (i := 47) (v := undef) (op_atS (op_atS (op_atS (op_atS (op_atS (op_atS (op_atS (op_atS (op_atS (op_atS (op_atS (op_atS (op_atS (op_atS (op_atS (op_atS (op_atS (op_atS (op_atS (op_atS (op_atS (op_atS (op_atS (op_atS (op_atS (op_atS (op_atS (op_atS (op_atS (op_atS (op_atS (op_atS (op_atS (op_atS (op_atS (op_atS (op_atS (op_atS (op_atS (op_atS (op_atS (op_atS (op_atS (op_atS (op_atS (op_atS (op_atS op_at0))))))))))))))))))))))))))))))))))))))))))))))) (by kernel_rfl) (by kernel_rfl) (by kernel_rfl) (fun _ _ _ h => h) (Or.inr ⟨by rfl, rfl⟩) (by assumption) ?_
                    try simp only [Act.put, List.setIfInBounds_toArray, List.set_cons_zero, List.set_cons_succ]
                    refine wpAnyH_take (i := 48) (v := undef) (op_atS (op_atS (op_atS (op_atS (op_atS (op_atS (op_atS (op_atS (op_atS (op_atS (op_atS (op_atS (op_atS (op_atS (op_atS (op_atS (op_atS (op_atS (op_atS (op_atS (op_atS (op_atS (op_atS (op_atS (op_atS (op_atS (op_atS (op_atS (op_atS (op_atS (op_atS (op_atS (op_atS (op_atS (op_atS (op_atS (op_atS (op_atS (op_atS (op_atS (op_atS (op_atS (op_atS (op_atS (op_atS (op_atS (op_atS (op_atS op_at0)))))))))))))))))))))))))))))))))))))))))))))))) (by kernel_rfl) (by kernel_rfl) (by kernel_rfl) (fun _ _ _ h => h) (Or.inr ⟨by rfl, rfl⟩) (by assumption) ?_
                    try simp only [Act.put, List.setIfInBounds_toArray, List.set_cons_zero, List.set_cons_succ]
                    refine wpAnyH_take (i := 49) (v := undef) (op_atS (op_atS (op_atS (op_atS (op_atS (op_atS (op_atS (op_atS (op_atS (op_atS (op_atS (op_atS (op_atS (op_atS (op_atS (op_atS (op_atS (op_atS (op_atS (op_atS (op_atS (op_atS (op_atS (op_atS (op_atS (op_atS (op_atS (op_atS (op_atS (op_atS (op_atS (op_atS (op_atS (op_atS (op_atS (op_atS (op_atS (op_atS (op_atS (op_atS (op_atS (op_atS (op_atS (op_atS (op_atS (op_atS (op_atS (op_atS (op_atS op_at0))))))))))))))))))))))))))))))))))))))))))))))))) (by kernel_rfl) (by kernel_rfl) (by kernel_rfl) (fun _ _ _ h => h) (Or.inr ⟨by rfl, rfl⟩) (by assumption) ?_
                    try simp only [Act.put, List.setIfInBounds_toArray, List.set_cons_zero, List.set_cons_succ]
                    refine wpAnyH_take (i := 50) (v := undef) (op_atS (op_atS (op_atS (op_atS (op_atS (op_atS (op_atS (op_atS (op_atS (op_atS (op_atS (op_atS (op_atS (op_atS (op_atS (op_atS (op_atS (op_atS (op_atS (op_atS (op_atS (op_atS (op_atS (op_atS (op_atS (op_atS (op_atS (op_atS (op_atS (op_atS (op_atS (op_atS (op_atS (op_atS (op_atS (op_atS (op_atS (op_atS (op_atS (op_atS (op_atS (op_atS (op_atS (op_atS (op_atS (op_atS (op_atS (op_atS (op_atS (op_atS op_at0)))))))))))))))))))))))))))))))))))))))))))))))))) (by kernel_rfl) (by kernel_rfl) (by kernel_rfl) (fun _ _ _ h => h) (Or.inr ⟨by rfl, rfl⟩) (by assumption) ?_
                    try simp only [Act.put, List.setIfInBounds_toArray, List.set_cons_zero, List.set_cons_succ]
                    refine wpAnyH_take (i := 51) (v := undef) (op_atS (op_atS (op_atS (op_atS (op_atS (op_atS (op_atS (op_atS (op_atS (op_atS (op_atS (op_atS (op_atS (op_atS (op_atS (op_atS (op_atS (op_atS (op_atS (op_atS (op_atS (op_atS (op_atS (op_atS (op_atS (op_atS (op_atS (op_atS (op_atS (op_atS (op_atS (op_atS (op_atS (op_atS (op_atS (op_atS (op_atS (op_atS (op_atS (op_atS (op_atS (op_atS (op_atS (op_atS (op_atS (op_atS (op_atS (op_atS (op_atS (op_atS (op_atS op_at0))))))))))))))))))))))))))))))))))))))))))))))))))) (by kernel_rfl) (by kernel_rfl) (by kernel_rfl) (fun _ _ _ h => h) (Or.inr ⟨by rfl, rfl⟩) (by assumption) ?_
                    try simp only [Act.put, List.setIfInBounds_toArray, List.set_cons_zero, List.set_cons_succ]
                    refine wpAnyH_take (i := 52) (v := undef) (op_atS (op_atS (op_atS (op_atS (op_atS (op_atS (op_atS (op_atS (op_atS (op_atS (op_atS (op_atS (op_atS (op_atS (op_atS (op_atS (op_atS (op_atS (op_atS (op_atS (op_atS (op_atS (op_atS (op_atS (op_atS (op_atS (op_atS (op_atS (op_atS (op_atS (op_atS (op_atS (op_atS (op_atS (op_atS (op_atS (op_atS (op_atS (op_atS (op_atS (op_atS (op_atS (op_atS (op_atS (op_atS (op_atS (op_atS (op_atS (op_atS (op_atS (op_atS (op_atS op_at0)))))))))))))))))))))))))))))))))))))))))))))))))))) (by kernel_rfl) (by kernel_rfl) (by kernel_rfl) (fun _ _ _ h => h) (Or.inr ⟨by rfl, rfl⟩) (by assumption) ?_
                    try simp only [Act.put, List.setIfInBounds_toArray, List.set_cons_zero, List.set_cons_succ]
                    refine wpAnyH_take (i := 53) (v := undef) (op_atS (op_atS (op_atS (op_atS (op_atS (op_atS (op_atS (op_atS (op_atS (op_atS (op_atS (op_atS (op_atS (op_atS (op_atS (op_atS (op_atS (op_atS (op_atS (op_atS (op_atS (op_atS (op_atS (op_atS (op_atS (op_atS (op_atS (op_atS (op_atS (op_atS (op_atS (op_atS (op_atS (op_atS (op_atS (op_atS (op_atS (op_atS (op_atS (op_atS (op_atS (op_atS (op_atS (op_atS (op_atS (op_atS (op_atS (op_atS (op_atS (op_atS (op_atS (op_atS (op_atS op_at0))))))))))))))))))))))))))))))))))))))))))))))))))))) (by kernel_rfl) (by kernel_rfl) (by kernel_rfl) (fun _ _ _ h => h) (Or.inr ⟨by rfl, rfl⟩) (by assumption) ?_
                    try simp only [Act.put, List.setIfInBounds_toArray, List.set_cons_zero, List.set_cons_succ]
                    refine wpAnyH_take (i := 54) (v := undef) (op_atS (op_atS (op_atS (op_atS (op_atS (op_atS (op_atS (op_atS (op_atS (op_atS (op_atS (op_atS (op_atS (op_atS (op_atS (op_atS (op_atS (op_atS (op_atS (op_atS (op_atS (op_atS (op_atS (op_atS (op_atS (op_atS (op_atS (op_atS (op_atS (op_atS (op_atS (op_atS (op_atS (op_atS (op_atS (op_atS (op_atS (op_atS (op_atS (op_atS (op_atS (op_atS (op_atS (op_atS (op_atS (op_atS (op_atS (op_atS (op_atS (op_atS (op_atS (op_atS (op_atS (op_atS op_at0)))))))))))))))))))))))))))))))))))))))))))))))))))))) (by kernel_rfl) (by kernel_rfl) (by kernel_rfl) (fun _ _ _ h => h) (Or.inr ⟨by rfl, rfl⟩) (by assumption) ?_
                    try simp only [Act.put, List.setIfInBounds_toArray, List.set_cons_zero, List.set_cons_succ]
                    refine wpAnyH_take (i := 55) (v := ?_) (op_atS (op_atS (op_atS (op_atS (op_atS (op_atS (op_atS (op_atS (op_atS (op_atS (op_atS (op_atS (op_atS (op_atS (op_atS (op_atS (op_atS (op_atS (op_atS (op_atS (op_atS (op_atS (op_atS (op_atS (op_atS (op_atS (op_atS (op_atS (op_atS (op_atS (op_atS (op_atS (op_atS (op_atS (op_atS (op_atS (op_atS (op_atS (op_atS (op_atS (op_atS (op_atS (op_atS (op_atS (op_atS (op_atS (op_atS (op_atS (op_atS (op_atS (op_atS (op_atS (op_atS (op_atS (op_atS op_at0))))))))))))))))))))))))))))))))))))))))))))))))))))))) (by kernel_rfl) (by kernel_rfl) (by kernel_rfl) (fun _ _ _ h => h) (Or.inl ⟨by rfl, ?_⟩) (by assumption) ?_
                    rotate_left
                    focus ((intro w hSw; (try dsimp only at hSw); go_simp) <;> with_reducible rfl)
                    all_goals skip
                    try simp only [Act.put, List.setIfInBounds_toArray, List.set_cons_zero, List.set_cons_succ]
                    refine wpAnyH_take (i := 56) (v := ?_) (op_atS (op_atS (op_atS (op_atS (op_atS (op_atS (op_atS (op_atS (op_atS (op_atS (op_atS (op_atS (op_atS (op_atS (op_atS (op_atS (op_atS (op_atS (op_atS (op_atS (op_atS (op_atS (op_atS (op_atS (op_atS (op_atS (op_atS (op_atS (op_atS (op_atS (op_atS (op_atS (op_atS (op_atS (op_atS (op_atS (op_atS (op_atS (op_atS (op_atS (op_atS (op_atS (op_atS (op_atS (op_atS (op_atS (op_atS (op_atS (op_atS (op_atS (op_atS (op_atS (op_atS (op_atS (op_atS (op_atS op_at0)))))))))))))))))))))))))))))))))))))))))))))))))))))))) (by kernel_rfl) (by kernel_rfl) (by kernel_rfl) (fun _ _ _ h => h) (Or.inl ⟨by rfl, ?_⟩) (by assumption) ?_
                    rotate_left
                    focus ((intro w hSw; (try dsimp only at hSw); go_simp) <;> with_reducible rfl)
                    all_goals skip
                    try simp only [Act.put, List.setIfInBounds_toArray, List.set_cons_zero, List.set_cons_succ]
                    refine wpAnyH_done (by kernel_rfl) ?_ _
                    clear hHeld hne
                    go_wp2
                    go_roundg (gk - 1)
                    case measure => omega
                    case rel => exact ⟨x0 + 1, by go_num, by omega, hMi.trans HMW.out.drew, by omega⟩
                  · have e := HU2.out hin1 hin2 (by omega)
                    cases e
                    have d1 : decide ((y0 : Int) + (kq : Int) < (last : Int)) = false := decide_eq_false (by omega)
                    have d2 : decide ((last : Int) ≤ (y0 : Int) + (kq : Int)) = true := decide_eq_true (by omega)
                    have d3 : decide ((y0 : Int) + (kq : Int) ≥ (last : Int)) = true := decide_eq_true (by omega)
                    have hne : ∀ X, (binOp .neq 27 (.agg #[.int .i32 95, .int .u8 0, .int .u8 0, .int .u8 0]) (.agg #[.int .i32 95, .int .u8 0, .int .u8 0, .int .u8 0])).run Tryd.prog X = .ok (.bool false) X := fun X => by
                      have := run_neq_cell X markC markC
                      rw [decide_eq_true rfl] at this
                      exact this
                    have KM := fun i => blk_cell (HMW.out.at P9.out (by simp)) i
                    refine wp_region_held_drew (S := (fun X => X.cell? ⟨w4.heap.size, 2, none⟩ = some (.slice (some a4) n c4) ∧ X.cell? ⟨w2.heap.size, 0, none⟩ = some (.int .i64 (w : Int)) ∧ (X.cell? (a4.add ((K + x0) * (3 + 1))) = some (.int .i32 95) ∧ X.cell? ⟨(a4.add ((K + x0) * (3 + 1))).block, (a4.add ((K + x0) * (3 + 1))).off + (0 + 1), none⟩ = some (.int .u8 0) ∧ X.cell? ⟨(a4.add ((K + x0) * (3 + 1))).block, (a4.add ((K + x0) * (3 + 1))).off + (1 + 1), none⟩ = some (.int .u8 0) ∧ X.cell? ⟨(a4.add ((K + x0) * (3 + 1))).block, (a4.add ((K + x0) * (3 + 1))).off + (2 + 1), none⟩ = some (.int .u8 0)) ∧ X.cell? ⟨w2.heap.size + 1, 0, none⟩ = some (.int .i32 95) ∧ X.cell? ⟨w2.heap.size + 1, 1, none⟩ = some (.int .u8 0) ∧ X.cell? ⟨w2.heap.size + 1, 2, none⟩ = some (.int .u8 0) ∧ X.cell? ⟨w2.heap.size + 1, 3, none⟩ = some (.int .u8 0))) (by kernel_rfl) ?_ (fun hHeld => ?_)
                    focus ((try dsimp only); exact ⟨KU, KG, ⟨cu0, cu1, cu2, cu3⟩, KM 0, KM 1, KM 2, KM 3⟩)
                    clear KM
                    refine wpAnyH_take (i := 0) (v := ?_) op_at0 (by kernel_rfl) (by kernel_rfl) (by kernel_rfl) (fun _ _ _ h => h) (Or.inl ⟨by rfl, ?_⟩) (by assumption) ?_
                    rotate_left
                    focus ((intro w hSw; (try dsimp only at hSw); go_simp) <;> with_reducible rfl)
                    all_goals skip
                    try simp only [Act.put, List.setIfInBounds_toArray, List.set_cons_zero, List.set_cons_succ]
                    refine wpAnyH_take (i := 1) (v := ?_) (op_atS op_at0) (by kernel_rfl) (by kernel_rfl) (by kernel_rfl) (fun _ _ _ h => h) (Or.inl ⟨by rfl, ?_⟩) (by assumption) ?_
                    rotate_left
                    focus ((intro w hSw; (try dsimp only at hSw); go_simp) <;> with_reducible rfl)
                    all_goals skip
                    try simp only [Act.put, List.setIfInBounds_toArray, List.set_cons_zero, List.set_cons_succ]
                    refine wpAnyH_take (i := 2) (v := ?_) (op_atS (op_atS op_at0)) (by kernel_rfl) (by kernel_rfl) (by kernel_rfl) (fun _ _ _ h => h) (Or.inl ⟨by rfl, ?_⟩) (by assumption) ?_
                    rotate_left
                    focus ((intro w hSw; (try dsimp only at hSw); go_simp) <;> with_reducible rfl)
                    all_goals skip
                    try simp only [Act.put, List.setIfInBounds_toArray, List.set_cons_zero, List.set_cons_succ]
                    refine wpAnyH_take (i := 3) (v := ?_) (op_atS (op_atS (op_atS op_at0))) (by kernel_rfl) (by kernel_rfl) (by kernel_rfl) (fun _ _ _ h => h) (Or.inl ⟨by rfl, ?_⟩) (by assumption) ?_
                    rotate_left
                    focus ((intro w hSw; (try dsimp only at hSw); go_simp) <;> with_reducible rfl)
                    all_goals skip
                    try simp only [Act.put, List.setIfInBounds_toArray, List.set_cons_zero, List.set_cons_succ]
                    refine wpAnyH_take (i := 4) (v := ?_) (op_atS (op_atS (op_atS (op_atS op_at0)))) (by kernel_rfl) (by kernel_rfl) (by kernel_rfl) (fun _ _ _ h => h) (Or.inl ⟨by rfl, ?_⟩) (by assumption) ?_
                    rotate_left
                    focus ((intro w hSw; (try dsimp only at hSw); go_simp) <;> with_reducible rfl)
                    all_goals skip
                    try simp only [Act.put, List.setIfInBounds_toArray, List.set_cons_zero, List.set_cons_succ]
                    refine wpAnyH_take (i := 5) (v := ?_) (op_atS (op_atS (op_atS (op_atS (op_atS op_at0))))) (by kernel_rfl) (by kernel_rfl) (by kernel_rfl) (fun _ _ _ h => h) (Or.inl ⟨by rfl, ?_⟩) (by assumption) ?_
                    rotate_left
                    focus ((intro w hSw; (try dsimp only at hSw); go_simp) <;> with_reducible rfl)
                    all_goals skip
                    try simp only [Act.put, List.setIfInBounds_toArray, List.set_cons_zero, List.set_cons_succ]
                    refine wpAnyH_take (i := 6) (v := ?_) (op_atS (op_atS (op_atS (op_atS (op_atS (op_atS op_at0)))))) (by kernel_rfl) (by kernel_rfl) (by kernel_rfl) (fun _ _ _ h => h) (Or.inl ⟨by rfl, ?_⟩) (by assumption) ?_
                    rotate_left
                    focus ((intro w hSw; (try dsimp only at hSw); go_simp) <;> with_reducible rfl)
                    all_goals skip
                    try simp only [Act.put, List.setIfInBounds_toArray, List.set_cons_zero, List.set_cons_succ]
                    refine wpAnyH_take (i := 7) (v := ?_) (op_atS (op_atS (op_atS (op_atS (op_atS (op_atS (op_atS op_at0))))))) (by kernel_rfl) (by kernel_rfl) (by kernel_rfl) (fun _ _ _ h => h) (Or.inl ⟨by rfl, ?_⟩) (by assumption) ?_
                    rotate_left
                    focus ((intro w hSw; (try dsimp only at hSw); go_simp) <;> with_reducible rfl)
                    all_goals skip
                    try simp only [Act.put, List.setIfInBounds_toArray, List.set_cons_zero, List.set_cons_succ]
                    refine wpAnyH_take (i := 8) (v := ?_) (op_atS (op_atS (op_atS (op_atS (op_atS (op_atS (op_atS (op_atS op_at0)))))))) (by kernel_rfl) (by kernel_rfl) (by kernel_rfl) (fun _ _ _ h => h) (Or.inl ⟨by rfl, ?_⟩) (by assumption) ?_
                    rotate_left
                    focus ((intro w hSw; (try dsimp only at hSw); go_simp) <;> with_reducible rfl)
                    all_goals skip
                    try simp only [Act.put, List.setIfInBounds_toArray, List.set_cons_zero, List.set_cons_succ]
                    refine wpAnyH_take (i := 9) (v := undef) (op_atS (op_atS (op_atS (op_atS (op_atS (op_atS (op_atS (op_atS (op_atS op_at0))))))))) (by kernel_rfl) (by kernel_rfl) (by kernel_rfl) (fun _ _ _ h => h) (Or.inr ⟨by rfl, rfl⟩) (by assumption) ?_
                    try simp only [Act.put, List.setIfInBounds_toArray, List.set_cons_zero, List.set_cons_succ]
                    refine wpAnyH_take (i := 10) (v := undef) (op_atS (op_atS (op_atS (op_atS (op_atS (op_atS (op_atS (op_atS (op_atS (op_atS op_at0)))))))))) (by kernel_rfl) (by kernel_rfl) (by kernel_rfl) (fun _ _ _ h => h) (Or.inr ⟨by rfl, rfl⟩) (by assumption) ?_
                    try simp only [Act.put, List.setIfInBounds_toArray, List.set_cons_zero, List.set_cons_succ]
                    refine wpAnyH_take (i := 11) (v := undef) (op_atS (op_atS (op_atS (op_atS (op_atS (op_atS (op_atS (op_atS (op_atS (op_atS (op_atS op_at0))))))))))) (by kernel_rfl) (by kernel_rfl) (by kernel_rfl) (fun _ _ _ h => h) (Or.inr ⟨by rfl, rfl⟩) (by assumption) ?_
                    try simp only [Act.put, List.setIfInBounds_toArray, List.set_cons_zero, List.set_cons_succ]
                    refine wpAnyH_take (i := 12) (v := undef) (op_atS (op_atS (op_atS (op_atS (op_atS (op_atS (op_atS (op_atS (op_atS (op_atS (op_atS (op_atS op_at0)))))))))))) (by kernel_rfl) (by kernel_rfl) (by kernel_rfl) (fun _ _ _ h => h) (Or.inr ⟨by rfl, rfl⟩) (by assumption) ?_
                    try simp only [Act.put, List.setIfInBounds_toArray, List.set_cons_zero, List.set_cons_succ]
                    refine wpAnyH_take (i := 13) (v := undef) (op_atS (op_atS (op_atS (op_atS (op_atS (op_atS (op_atS (op_atS (op_atS (op_atS (op_atS (op_atS (op_atS op_at0))))))))))))) (by kernel_rfl) (by kernel_rfl) (by kernel_rfl) (fun _ _ _ h => h) (Or.inr ⟨by rfl, rfl⟩) (by assumption) ?_
                    try simp only [Act.put, List.setIfInBounds_toArray, List.set_cons_zero, List.set_cons_succ]
                    refine wpAnyH_take (i := 14) (v := undef) (op_atS (op_atS (op_atS (op_atS (op_atS (op_atS (op_atS (op_atS (op_atS (op_atS (op_atS (op_atS (op_atS (op_atS op_at0)))))))))))))) (by kernel_rfl) (by kernel_rfl) (by kernel_rfl) (fun _ _ _ h => h) (Or.inr ⟨by rfl, rfl⟩) (by assumption) ?_
                    try simp only [Act.put, List.setIfInBounds_toArray, List.set_cons_zero, List.set_cons_succ]
                    refine wpAnyH_take (i := 15) (v := undef) (op_atS (op_atS (op_atS (op_atS (op_atS (op_atS (op_atS (op_atS (op_atS (op_atS (op_atS (op_atS (op_atS (op_atS (op_atS op_at0))))))))))))))) (by kernel_rfl) (by kernel_rfl) (by kernel_rfl) (fun _ _ _ h => h) (Or.inr ⟨by rfl, rfl⟩) (by assumption) ?_
                    try simp only [Act.put, List.setIfInBounds_toArray, List.set_cons_zero, List.set_cons_succ]
                    refine wpAnyH_take (i := 16) (v := undef) (op_atS (op_atS (op_atS (op_atS (op_atS (op_atS (op_atS (op_atS (op_atS (op_atS (op_atS (op_atS (op_atS (op_atS (op_atS (op_atS op_at0)))))))))))))))) (by kernel_rfl) (by kernel_rfl) (by kernel_rfl) (fun _ _ _ h => h) (Or.inr ⟨by rfl, rfl⟩) (by assumption) ?_
                    try simp only [Act.put, List.setIfInBounds_toArray, List.set_cons_zero, List.set_cons_succ]
                    refine wpAnyH_take (i := 17) (v := undef) (op_atS (op_atS (op_atS (op_atS (op_atS (op_atS (op_atS (op_atS (op_atS (op_atS (op_atS (op_atS (op_atS (op_atS (op_atS (op_atS (op_atS op_at0))))))))))))))))) (by kernel_rfl) (by kernel_rfl) (by kernel_rfl) (fun _ _ _ h => h) (Or.inr ⟨by rfl, rfl⟩) (by assumption) ?_
                    try simp only [Act.put, List.setIfInBounds_toArray, List.set_cons_zero, List.set_cons_succ]
                    refine wpAnyH_take (i := 18) (v := undef) (op_atS (op_atS (op_atS (op_atS (op_atS (op_atS (op_atS (op_atS (op_atS (op_atS (op_atS (op_atS (op_atS (op_atS (op_atS (op_atS (op_atS (op_atS op_at0)))))))))))))))))) (by kernel_rfl) (by kernel_rfl) (by kernel_rfl) (fun _ _ _ h => h) (Or.inr ⟨by rfl, rfl⟩) (by assumption) ?_
                    try simp only [Act.put, List.setIfInBounds_toArray, List.set_cons_zero, List.set_cons_succ]
                    refine wpAnyH_take (i := 19) (v := undef) (op_atS (op_atS (op_atS (op_atS (op_atS (op_atS (op_atS (op_atS (op_atS (op_atS (op_atS (op_atS (op_atS (op_atS (op_atS (op_atS (op_atS (op_atS (op_atS op_at0))))))))))))))))))) (by kernel_rfl) (by kernel_rfl) (by kernel_rfl) (fun _ _ _ h => h) (Or.inr ⟨by rfl, rfl⟩) (by assumption) ?_
                    try simp only [Act.put, List.setIfInBounds_toArray, List.set_cons_zero, List.set_cons_succ]
                    refine wpAnyH_take (i := 20) (v := undef) (op_atS (op_atS (op_atS (op_atS (op_atS (op_atS (op_atS (op_atS (op_atS (op_atS (op_atS (op_atS (op_atS (op_atS (op_atS (op_atS (op_atS (op_atS (op_atS (op_atS op_at0)))))))))))))))))))) (by kernel_rfl) (by kernel_rfl) (by kernel_rfl) (fun _ _ _ h => h) (Or.inr ⟨by rfl, rfl⟩) (by assumption) ?_
                    try simp only [Act.put, List.setIfInBounds_toArray, List.set_cons_zero, List.set_cons_succ]
                    refine wpAnyH_take (i := 21) (v := undef) (op_atS (op_atS (op_atS (op_atS (op_atS (op_atS (op_atS (op_atS (op_atS (op_atS (op_atS (op_atS (op_atS (op_atS (op_atS (op_atS (op_atS (op_atS (op_atS (op_atS (op_atS op_at0))))))))))))))))))))) (by kernel_rfl) (by kernel_rfl) (by kernel_rfl) (fun _ _ _ h => h) (Or.inr ⟨by rfl, rfl⟩) (by assumption) ?_
                    try simp only [Act.put, List.setIfInBounds_toArray, List.set_cons_zero, List.set_cons_succ]
                    refine wpAnyH_take (i := 22) (v := undef) (op_atS (op_atS (op_atS (op_atS (op_atS (op_atS (op_atS (op_atS (op_atS (op_atS (op_atS (op_atS (op_atS (op_atS (op_atS (op_atS (op_atS (op_atS (op_atS (op_atS (op_atS (op_atS op_at0)))))))))))))))))))))) (by kernel_rfl) (by kernel_rfl) (by kernel_rfl) (fun _ _ _ h => h) (Or.inr ⟨by rfl, rfl⟩) (by assumption) ?_
                    try simp only [Act.put, List.setIfInBounds_toArray, List.set_cons_zero, List.set_cons_succ]
                    refine wpAnyH_take (i := 23) (v := undef) (op_atS (op_atS (op_atS (op_atS (op_atS (op_atS (op_atS (op_atS (op_atS (op_atS (op_atS (op_atS (op_atS (op_atS (op_atS (op_atS (op_atS (op_atS (op_atS (op_atS (op_atS (op_atS (op_atS op_at0))))))))))))))))))))))) (by kernel_rfl) (by kernel_rfl) (by kernel_rfl) (fun _ _ _ h => h) (Or.inr ⟨by rfl, rfl⟩) (by assumption) ?_
                    try simp only [Act.put, List.setIfInBounds_toArray, List.set_cons_zero, List.set_cons_succ]
                    refine wpAnyH_take (i := 24) (v := undef) (op_atS (op_atS (op_atS (op_atS (op_atS (op_atS (op_atS (op_atS (op_atS (op_atS (op_atS (op_atS (op_atS (op_atS (op_atS (op_atS (op_atS (op_atS (op_atS (op_atS (op_atS (op_atS (op_atS (op_atS op_at0)))))))))))))))))))))))) (by kernel_rfl) (by kernel_rfl) (by kernel_rfl) (fun _ _ _ h => h) (Or.inr ⟨by rfl, rfl⟩) (by assumption) ?_
                    try simp only [Act.put, List.setIfInBounds_toArray, List.set_cons_zero, List.set_cons_succ]
                    refine wpAnyH_take (i := 25) (v := undef) (op_atS (op_atS (op_atS (op_atS (op_atS (op_atS (op_atS (op_atS (op_atS (op_atS (op_atS (op_atS (op_atS (op_atS (op_atS (op_atS (op_atS (op_atS (op_atS (op_atS (op_atS (op_atS (op_atS (op_atS (op_atS op_at0))))))))))))))))))))))))) (by kernel_rfl) (by kernel_rfl) (by kernel_rfl) (fun _ _ _ h => h) (Or.inr ⟨by rfl, rfl⟩) (by assumption) ?_
                    try simp only [Act.put, List.setIfInBounds_toArray, List.set_cons_zero, List.set_cons_succ]
                    refine wpAnyH_take (i := 26) (v := undef) (op_atS (op_atS (op_atS (op_atS (op_atS (op_atS (op_atS (op_atS (op_atS (op_atS (op_atS (op_atS (op_atS (op_atS (op_atS (op_atS (op_atS (op_atS (op_atS (op_atS (op_atS (op_atS (op_atS (op_atS (op_atS (op_atS op_at0)))))))))))))))))))))))))) (by kernel_rfl) (by kernel_rfl) (by kernel_rfl) (fun _ _ _ h => h) (Or.inr ⟨by rfl, rfl⟩) (by assumption) ?_
                    try simp only [Act.put, List.setIfInBounds_toArray, List.set_cons_zero, List.set_cons_succ]
                    refine wpAnyH_take (i := 27) (v := undef) (op_atS (op_atS (op_atS (op_atS (op_atS (op_atS (op_atS (op_atS (op_atS (op_atS (op_atS (op_atS (op_atS (op_atS (op_atS (op_atS (op_atS (op_atS (op_atS (op_atS (op_atS (op_atS (op_atS (op_atS (op_atS (op_atS (op_atS op_at0))))))))))))))))))))))))))) (by kernel_rfl) (by kernel_rfl) (by kernel_rfl) (fun _ _ _ h => h) (Or.inr ⟨by rfl, rfl⟩) (by assumption) ?_
                    try simp only [Act.put, List.setIfInBounds_toArray, List.set_cons_zero, List.set_cons_succ]
                    refine wpAnyH_take (i := 28) (v := undef) (op_atS (op_atS (op_atS (op_atS (op_atS (op_atS (op_atS (op_atS (op_atS (op_atS (op_atS (op_atS (op_atS (op_atS (op_atS (op_atS (op_atS (op_atS (op_atS (op_atS (op_atS (op_atS (op_atS (op_atS (op_atS (op_atS (op_atS (op_atS op_at0)))))))))))))))))))))))))))) (by kernel_rfl) (by kernel_rfl) (by kernel_rfl) (fun _ _ _ h => h) (Or.inr ⟨by rfl, rfl⟩) (by assumption) ?_
                    try simp only [Act.put, List.setIfInBounds_toArray, List.set_cons_zero, List.set_cons_succ]
                    refine wpAnyH_take (i := 29) (v := undef) (op_atS (op_atS (op_atS (op_atS (op_atS (op_atS (op_atS (op_atS (op_atS (op_atS (op_atS (op_atS (op_atS (op_atS (op_atS (op_atS (op_atS (op_atS (op_atS (op_atS (op_atS (op_atS (op_atS (op_atS (op_atS (op_atS (op_atS (op_atS (op_atS op_at0))))))))))))))))))))))))))))) (by kernel_rfl) (by kernel_rfl) (by kernel_rfl) (fun _ _ _ h => h) (Or.inr ⟨by rfl, rfl⟩) (by assumption) ?_
                    try simp only [Act.put, List.setIfInBounds_toArray, List.set_cons_zero, List.set_cons_succ]
                    refine wpAnyH_take (i := 30) (v := undef) (op_atS (op_atS (op_atS (op_atS (op_atS (op_atS (op_atS (op_atS (op_atS (op_atS (op_atS (op_atS (op_atS (op_atS (op_atS (op_atS (op_atS (op_atS (op_atS (op_atS (op_atS (op_atS (op_atS (op_atS (op_atS (op_atS (op_atS (op_atS (op_atS (op_atS op_at0)))))))))))))))))))))))))))))) (by kernel_rfl) (by kernel_rfl) (by kernel_rfl) (fun _ _ _ h => h) (Or.inr ⟨by rfl, rfl⟩) (by assumption) ?_
                    try simp only [Act.put, List.setIfInBounds_toArray, List.set_cons_zero, List.set_cons_succ]
                    refine wpAnyH_take (i := 31) (v := undef) (op_atS (op_atS (op_atS (op_atS (op_atS (op_atS (op_atS (op_atS (op_atS (op_atS (op_atS (op_atS (op_atS (op_atS (op_atS (op_atS (op_atS (op_atS (op_atS (op_atS (op_atS (op_atS (op_atS (op_atS (op_atS (op_atS (op_atS (op_atS (op_atS (op_atS (op_atS op_at0))))))))))))))))))))))))))))))) (by kernel_rfl) (by kernel_rfl) (by kernel_rfl) (fun _ _ _ h => h) (Or.inr ⟨by rfl, rfl⟩) (by assumption) ?_
                    try simp only [Act.put, List.setIfInBounds_toArray, List.set_cons_zero, List.set_cons_succ]
                    refine wpAnyH_take (i := 32) (v := ?_) (op_atS (op_atS (op_atS (op_atS (op_atS (op_atS (op_atS (op_atS (op_atS (op_atS (op_atS (op_atS (op_atS (op_atS (op_atS (op_atS (op_atS (op_atS (op_atS (op_atS (op_atS (op_atS (op_atS (op_atS (op_atS (op_atS (op_atS (op_atS (op_atS (op_atS (op_atS (op_atS op_at0)))))))))))))))))))))))))))))))) (by kernel_rfl) (by kernel_rfl) (by kernel_rfl) (fun _ _ _ h => h) (Or.inl ⟨by rfl, ?_⟩) (by assumption) ?_
                    rotate_left
                    focus ((intro w hSw; (try dsimp only at hSw); go_simp) <;> with_reducible rfl)
                    all_goals skip
                    try simp only [Act.put, List.setIfInBounds_toArray, List.set_cons_zero, List.set_cons_succ]
                    refine wpAnyH_take (i := 33) (v := ?_) (op_atS (op_atS (op_atS (op_atS (op_atS (op_atS (op_atS (op_atS (op_atS (op_atS (op_atS (op_atS (op_atS (op_atS (op_atS (op_atS (op_atS (op_atS (op_atS (op_atS (op_atS (op_atS (op_atS (op_atS (op_atS (op_atS (op_atS (op_atS (op_atS (op_atS (op_atS (op_atS (op_atS op_at0))))))))))))))))))))))))))))))))) (by kernel_rfl) (by kernel_rfl) (by kernel_rfl) (fun _ _ _ h => h) (Or.inl ⟨by rfl, ?_⟩) (by assumption) ?_
                    rotate_left
                    focus ((intro w hSw; (try dsimp only at hSw); go_simp) <;> with_reducible rfl)
                    all_goals skip
                    try simp only [Act.put, List.setIfInBounds_toArray, List.set_cons_zero, List.set_cons_succ]
                    refine wpAnyH_take (i := 34) (v := ?_) (op_atS (op_atS (op_atS (op_atS (op_atS (op_atS (op_atS (op_atS (op_atS (op_atS (op_atS (op_atS (op_atS (op_atS (op_atS (op_atS (op_atS (op_atS (op_atS (op_atS (op_atS (op_atS (op_atS (op_atS (op_atS (op_atS (op_atS (op_atS (op_atS (op_atS (op_atS (op_atS (op_atS (op_atS op_at0)))))))))))))))))))))))))))))))))) (by kernel_rfl) (by kernel_rfl) (by kernel_rfl) (fun _ _ _ h => h) (Or.inl ⟨by rfl, ?_⟩) (by assumption) ?_
                    rotate_left
                    focus ((intro w hSw; (try dsimp only at hSw); go_simp) <;> with_reducible rfl)
                    all_goals skip
                    try simp only [Act.put, List.setIfInBounds_toArray, List.set_cons_zero, List.set_cons_succ]
                    refine wpAnyH_take (i := 35) (v := ?_) (op_atS (op_atS (op_atS (op_atS (op_atS (op_atS (op_atS (op_atS (op_atS (op_atS (op_atS (op_atS (op_atS (op_atS (op_atS (op_atS (op_atS (op_atS (op_atS (op_atS (op_atS (op_atS (op_atS (op_atS (op_atS (op_atS (op_atS (op_atS (op_atS (op_atS (op_atS (op_atS (op_atS (op_atS (op_atS op_at0))))))))))))))))))))))))))))))))))) (by kernel_rfl) (by kernel_rfl) (by kernel_rfl) (fun _ _ _ h => h) (Or.inl ⟨by rfl, ?_⟩) (by assumption) ?_
                    rotate_left
                    focus ((intro w hSw; (try dsimp only at hSw); go_simp) <;> with_reducible rfl)
                    all_goals skip
                    try simp only [Act.put, List.setIfInBounds_toArray, List.set_cons_zero, List.set_cons_succ]
                    refine wpAnyH_take (i := 36) (v := ?_) (op_atS (op_atS (op_atS (op_atS (op_atS (op_atS (op_atS (op_atS (op_atS (op_atS (op_atS (op_atS (op_atS (op_atS (op_atS (op_atS (op_atS (op_atS (op_atS (op_atS (op_atS (op_atS (op_atS (op_atS (op_atS (op_atS (op_atS (op_atS (op_atS (op_atS (op_atS (op_atS (op_atS (op_atS (op_atS (op_atS op_at0)))))))))))))))))))))))))))))))))))) (by kernel_rfl) (by kernel_rfl) (by kernel_rfl) (fun _ _ _ h => h) (Or.inl ⟨by rfl, ?_⟩) (by assumption) ?_
                    rotate_left
                    focus ((intro w hSw; (try dsimp only at hSw); go_simp) <;> with_reducible rfl)
                    all_goals skip
                    try simp only [Act.put, List.setIfInBounds_toArray, List.set_cons_zero, List.set_cons_succ]
                    refine wpAnyH_take (i := 37) (v := ?_) (op_atS (op_atS (op_atS (op_atS (op_atS (op_atS (op_atS (op_atS (op_atS (op_atS (op_atS (op_atS (op_atS (op_atS (op_atS (op_atS (op_atS (op_atS (op_atS (op_atS (op_atS (op_atS (op_atS (op_atS (op_atS (op_atS (op_atS (op_atS (op_atS (op_atS (op_atS (op_atS (op_atS (op_atS (op_atS (op_atS (op_atS op_at0))))))))))))))))))))))))))))))))))))) (by kernel_rfl) (by kernel_rfl) (by kernel_rfl) (fun _ _ _ h => h) (Or.inl ⟨by rfl, ?_⟩) (by assumption) ?_
                    rotate_left
                    focus ((intro w hSw; (try dsimp only at hSw); go_simp) <;> with_reducible rfl)
                    all_goals skip
                    try simp only [Act.put, List.setIfInBounds_toArray, List.set_cons_zero, List.set_cons_succ]
                    refine wpAnyH_take (i := 38) (v := ?_) (op_atS (op_atS (op_atS (op_atS (op_atS (op_atS (op_atS (op_atS (op_atS (op_atS (op_atS (op_atS (op_atS (op_atS (op_atS (op_atS (op_atS (op_atS (op_atS (op_atS (op_atS (op_atS (op_atS (op_atS (op_atS (op_atS (op_atS (op_atS (op_atS (op_atS (op_atS (op_atS (op_atS (op_atS (op_atS (op_atS (op_atS (op_atS op_at0)))))))))))))))))))))))))))))))))))))) (by kernel_rfl) (by kernel_rfl) (by kernel_rfl) (fun _ _ _ h => h) (Or.inl ⟨by rfl, ?_⟩) (by assumption) ?_
                    rotate_left
                    focus ((intro w hSw; (try dsimp only at hSw); go_simp) <;> with_reducible rfl)
                    all_goals skip
                    try simp only [Act.put, List.setIfInBounds_toArray, List.set_cons_zero, List.set_cons_succ]
                    refine wpAnyH_take (i := 39) (v := ?_) (op_atS (op_atS (op_atS (op_atS (op_atS (op_atS (op_atS (op_atS (op_atS (op_atS (op_atS (op_atS (op_atS (op_atS (op_atS (op_atS (op_atS (op_atS (op_atS (op_atS (op_atS (op_atS (op_atS (op_atS (op_atS (op_atS (op_atS (op_atS (op_atS (op_atS (op_atS (op_atS (op_atS (op_atS (op_atS (op_atS (op_atS (op_atS (op_atS op_at0))))))))))))))))))))))))))))))))))))))) (by kernel_rfl) (by kernel_rfl) (by kernel_rfl) (fun _ _ _ h => h) (Or.inl ⟨by rfl, ?_⟩) (by assumption) ?_
                    rotate_left
                    focus ((intro w hSw; (try dsimp only at hSw); go_simp) <;> with_reducible rfl)
                    all_goals skip
                    try simp only [Act.put, List.setIfInBounds_toArray, List.set_cons_zero, List.set_cons_succ]
                    refine wpAnyH_take (i := 40) (v := ?_) (op_atS (op_atS (op_atS (op_atS (op_atS (op_atS (op_atS (op_atS (op_atS (op_atS (op_atS (op_atS (op_atS (op_atS (op_atS (op_atS (op_atS (op_atS (op_atS (op_atS (op_atS (op_atS (op_atS (op_atS (op_atS (op_atS (op_atS (op_atS (op_atS (op_atS (op_atS (op_atS (op_atS (op_atS (op_atS (op_atS (op_atS (op_atS (op_atS (op_atS op_at0)))))))))))))))))))))))))))))))))))))))) (by kernel_rfl) (by kernel_rfl) (by kernel_rfl) (fun _ _ _ h => h) (Or.inl ⟨by rfl, ?_⟩) (by assumption) ?_
                    rotate_left
                    focus ((intro w hSw; (try dsimp only at hSw); go_simp) <;> with_reducible rfl)
                    all_goals skip
                    try simp only [Act.put, List.setIfInBounds_toArray, List.set_cons_zero, List.set_cons_succ]
                    refine wpAnyH_take (i := 41) (v := ?_) (op_atS (op_atS (op_atS (op_atS (op_atS (op_atS (op_atS (op_atS (op_atS (op_atS (op_atS (op_atS (op_atS (op_atS (op_atS (op_atS (op_atS (op_atS (op_atS (op_atS (op_atS (op_atS (op_atS (op_atS (op_atS (op_atS (op_atS (op_atS (op_atS (op_atS (op_atS (op_atS (op_atS (op_atS (op_atS (op_atS (op_atS (op_atS (op_atS (op_atS (op_atS op_at0))))))))))))))))))))))))))))))))))))))))) (by kernel_rfl) (by kernel_rfl) (by kernel_rfl) (fun _ _ _ h => h) (Or.inl ⟨by rfl, ?_⟩) (by assumption) ?_
                    rotate_left
                    focus ((intro w hSw; (try dsimp only at hSw); go_simp) <;> with_reducible rfl)
                    all_goals skip
                    try simp only [Act.put, List.setIfInBounds_toArray, List.set_cons_zero, List.set_cons_succ]
                    refine wpAnyH_take (i := 42) (v := ?_) (op_atS (op_atS (op_atS (op_atS (op_atS (op_atS (op_atS (op_atS (op_atS (op_atS (op_atS (op_atS (op_atS (op_atS (op_atS (op_atS (op_atS (op_atS (op_atS (op_atS (op_atS (op_atS (op_atS (op_atS (op_atS (op_atS (op_atS (op_atS (op_atS (op_atS (op_atS (op_atS (op_atS (op_atS (op_atS (op_atS (op_atS (op_atS (op_atS (op_atS (op_atS (op_atS op_at0)))))))))))))))))))))))))))))))))))))))))) (by kernel_rfl) (by kernel_rfl) (by kernel_rfl) (fun _ _ _ h => h) (Or.inl ⟨by rfl, ?_⟩) (by assumption) ?_
                    rotate_left
                    focus ((intro w hSw; (try dsimp only at hSw); go_simp) <;> with_reducible rfl)
                    all_goals skip
                    try simp only [Act.put, List.setIfInBounds_toArray, List.set_cons_zero, List.set_cons_succ]
                    refine wpAnyH_take (i := 43) (v := ?_) (op_atS (op_atS (op_atS (op_atS (op_atS (op_atS (op_atS (op_atS (op_atS (op_atS (op_atS (op_atS (op_atS (op_atS (op_atS (op_atS (op_atS (op_atS (op_atS (op_atS (op_atS (op_atS (op_atS (op_atS (op_atS (op_atS (op_atS (op_atS (op_atS (op_atS (op_atS (op_atS (op_atS (op_atS (op_atS (op_atS (op_atS (op_atS (op_atS (op_atS (op_atS (op_atS (op_atS op_at0))))))))))))))))))))))))))))))))))))))))))) (by kernel_rfl) (by kernel_rfl) (by kernel_rfl) (fun _ _ _ h => h) (Or.inl ⟨by rfl, ?_⟩) (by assumption) ?_
                    rotate_left
                    focus ((intro w hSw; (try dsimp only at hSw); go_simp) <;> with_reducible rfl)
                    all_goals skip
                    try simp only [Act.put, List.setIfInBounds_toArray, List.set_cons_zero, List.set_cons_succ]
                    refine wpAnyH_take (i := 44) (v := ?_) (op_atS (op_atS (op_atS (op_atS (op_atS (op_atS (op_atS (op_atS (op_atS (op_atS (op_atS (op_atS (op_atS (op_atS (op_atS (op_atS (op_atS (op_atS (op_atS (op_atS (op_atS (op_atS (op_atS (op_atS (op_atS (op_atS (op_atS (op_atS (op_atS (op_atS (op_atS (op_atS (op_atS (op_atS (op_atS (op_atS (op_atS (op_atS (op_atS (op_atS (op_atS (op_atS (op_atS (op_atS op_at0)))))))))))))))))))))))))))))))))))))))))))) (by kernel_rfl) (by kernel_rfl) (by kernel_rfl) (fun _ _ _ h => h) (Or.inl ⟨by rfl, ?_⟩) (by assumption) ?_
                    rotate_left
                    focus ((intro w hSw; (try dsimp only at hSw); go_simp) <;> with_reducible rfl)
                    all_goals skip
                    try simp only [Act.put, List.setIfInBounds_toArray, List.set_cons_zero, List.set_cons_succ]
                    refine wpAnyH_take (i := 45) (v := ?_) (op_atS (op_atS (op_atS (op_atS (op_atS (op_atS (op_atS (op_atS (op_atS (op_atS (op_atS (op_atS (op_atS (op_atS (op_atS (op_atS (op_atS (op_atS (op_atS (op_atS (op_atS (op_atS (op_atS (op_atS (op_atS (op_atS (op_atS (op_atS (op_atS (op_atS (op_atS (op_atS (op_atS (op_atS (op_atS (op_atS (op_atS (op_atS (op_atS (op_atS (op_atS (op_atS (op_atS (op_atS (op_atS op_at0))))))))))))))))))))))))))))))))))))))))))))) (by kernel_rfl) (by kernel_rfl) (by kernel_rfl) (fun _ _ _ h => h) (Or.inl ⟨by rfl, ?_⟩) (by assumption) ?_
                    rotate_left
                    focus ((intro w hSw; (try dsimp only at hSw); go_simp) <;> with_reducible rfl)
                    all_goals skip
                    try simp only [Act.put, List.setIfInBounds_toArray, List.set_cons_zero, List.set_cons_succ]
                    refine wpAnyH_take (i := 46) (v := ?_) (op_atS (op_atS (op_atS (op_atS (op_atS (op_atS (op_atS (op_atS (op_atS (op_atS (op_atS (op_atS (op_atS (op_atS (op_atS (op_atS (op_atS (op_atS (op_atS (op_atS (op_atS (op_atS (op_atS (op_atS (op_atS (op_atS (op_atS (op_atS (op_atS (op_atS (op_atS (op_atS (op_atS (op_atS (op_atS (op_atS (op_atS (op_atS (op_atS (op_atS (op_atS (op_atS (op_atS (op_atS (op_atS (op_atS op_at0)))))))))))))))))))))))))))))))))))))))))))))) (by kernel_rfl) (by kernel_rfl) (by kernel_rfl) (fun _ _ _ h => h) (Or.inl ⟨by rfl, ?_⟩) (by assumption) ?_
                    rotate_left
                    focus ((intro w hSw; (try dsimp only at hSw); go_simp) <;> with_reducible rfl)
                    all_goals skip
                    try simp only [Act.put, List.setIfInBounds_toArray, List.set_cons_zero, List.set_cons_succ]
                    refine wpAnyH_take (i := 47) (v := ?_) (op_atS (op_atS (op_atS (op_atS (op_atS (op_atS (op_atS (op_atS (op_atS (op_atS (op_atS (op_atS (op_atS (op_atS (op_atS (op_atS (op_atS (op_atS (op_atS (op_atS (op_atS (op_atS (op_atS (op_atS (op_atS (op_atS (op_atS (op_atS (op_atS (op_atS (op_atS (op_atS (op_atS (op_atS (op_atS (op_atS (op_atS (op_atS (op_atS (op_atS (op_atS (op_atS (op_atS (op_atS (op_atS (op_atS (op_atS op_at0))))))))))))))))))))))))))))))))))))))))))))))) (by kernel_rfl) (by kernel_rfl) (by kernel_rfl) (fun _ _ _ h => h) (Or.inl ⟨by rfl, ?_⟩) (by assumption) ?_
                    rotate_left
                    focus ((intro w hSw; (try dsimp only at hSw); go_simp) <;> with_reducible rfl)
                    all_goals skip
                    try simp only [Act.put, List.setIfInBounds_toArray, List.set_cons_zero, List.set_cons_succ]
                    refine wpAnyH_take (i := 48) (v := ?_) (op_atS (op_atS (op_atS (op_atS (op_atS (op_atS (op_atS (op_atS (op_atS (op_atS (op_atS (op_atS (op_atS (op_atS (op_atS (op_atS (op_atS (op_atS (op_atS (op_atS (op_atS (op_atS (op_atS (op_atS (op_atS (op_atS (op_atS (op_atS (op_atS (op_atS (op_atS (op_atS (op_atS (op_atS (op_atS (op_atS (op_atS (op_atS (op_atS (op_atS (op_atS (op_atS (op_atS (op_atS (op_atS (op_atS (op_atS (op_atS op_at0)))))))))))))))))))))))))))))))))))))))))))))))) (by kernel_rfl) (by kernel_rfl) (by kernel_rfl) (fun _ _ _ h => h) (Or.inl ⟨by rfl, ?_⟩) (by assumption) ?_
                    rotate_left
                    focus ((intro w hSw; (try dsimp only at hSw); go_simp) <;> with_reducible rfl)
                    all_goals skip
                    try simp only [Act.put, List.setIfInBounds_toArray, List.set_cons_zero, List.set_cons_succ]
                    refine wpAnyH_take (i := 49) (v := ?_) (op_atS (op_atS (op_atS (op_atS (op_atS (op_atS (op_atS (op_atS (op_atS (op_atS (op_atS (op_atS (op_atS (op_atS (op_atS (op_atS (op_atS (op_atS (op_atS (op_atS (op_atS (op_atS (op_atS (op_atS (op_atS (op_atS (op_atS (op_atS (op_atS (op_atS (op_atS (op_atS (op_atS (op_atS (op_atS (op_atS (op_atS (op_atS (op_atS (op_atS (op_atS (op_atS (op_atS (op_atS (op_atS (op_atS (op_atS (op_atS (op_atS op_at0))))))))))))))))))))))))))))))))))))))))))))))))) (by kernel_rfl) (by kernel_rfl) (by kernel_rfl) (fun _ _ _ h => h) (Or.inl ⟨by rfl, ?_⟩) (by assumption) ?_
                    rotate_left
                    focus ((intro w hSw; (try dsimp only at hSw); go_simp) <;> with_reducible rfl)
                    all_goals skip
                    try simp only [Act.put, List.setIfInBounds_toArray, List.set_cons_zero, List.set_cons_succ]
                    refine wpAnyH_take (i := 50) (v := ?_) (op_atS (op_atS (op_atS (op_atS (op_atS (op_atS (op_atS (op_atS (op_atS (op_atS (op_atS (op_atS (op_atS (op_atS (op_atS (op_atS (op_atS (op_atS (op_atS (op_atS (op_atS (op_atS (op_atS (op_atS (op_atS (op_atS (op_atS (op_atS (op_atS (op_atS (op_atS (op_atS (op_atS (op_atS (op_atS (op_atS (op_atS (op_atS (op_atS (op_atS (op_atS (op_atS (op_atS (op_atS (op_atS (op_atS (op_atS (op_atS (op_atS (op_atS op_at0)))))))))))))))))))))))))))))))))))))))))))))))))) (by kernel_rfl) (by kernel_rfl) (by kernel_rfl) (fun _ _ _ h => h) (Or.inl ⟨by rfl, ?_⟩) (by assumption) ?_
                    rotate_left
                    focus ((intro w hSw; (try dsimp only at hSw); go_simp) <;> with_reducible rfl)
                    all_goals skip
                    try simp only [Act.put, List.setIfInBounds_toArray, List.set_cons_zero, List.set_cons_succ]
                    refine wpAnyH_take (i := 51) (v := ?_) (op_atS (op_atS (op_atS (op_atS (op_atS (op_atS (op_atS (op_atS (op_atS (op_atS (op_atS (op_atS (op_atS (op_atS (op_atS (op_atS (op_atS (op_atS (op_atS (op_atS (op_atS (op_atS (op_atS (op_atS (op_atS (op_atS (op_atS (op_atS (op_atS (op_atS (op_atS (op_atS (op_atS (op_atS (op_atS (op_atS (op_atS (op_atS (op_atS (op_atS (op_atS (op_atS (op_atS (op_atS (op_atS (op_atS (op_atS (op_atS (op_atS (op_atS (op_atS op_at0))))))))))))))))))))))))))))))))))))))))))))))))))) (by kernel_rfl) (by kernel_rfl) (by kernel_rfl) (fun _ _ _ h => h) (Or.inl ⟨by rfl, ?_⟩) (by assumption) ?_
                    rotate_left
                    focus ((intro w hSw; (try dsimp only at hSw); go_simp) <;> with_reducible rfl)
                    all_goals skip
                    try simp only [Act.put, List.setIfInBounds_toArray, List.set_cons_zero, List.set_cons_succ]
                    refine wpAnyH_take (i := 52) (v := ?_) (op_atS (op_atS (op_atS (op_atS (op_atS (op_atS (op_atS (op_atS (op_atS (op_atS (op_atS (op_atS (op_atS (op_atS (op_atS (op_atS (op_atS (op_atS (op_atS (op_atS (op_atS (op_atS (op_atS (op_atS (op_atS (op_atS (op_atS (op_atS (op_atS (op_atS (op_atS (op_atS (op_atS (op_atS (op_atS (op_atS (op_atS (op_atS (op_atS (op_atS (op_atS (op_atS (op_atS (op_atS (op_atS (op_atS (op_atS (op_atS (op_atS (op_atS (op_atS (op_atS op_at0)))))))))))))))))))))))))))))))))))))))))))))))))))) (by kernel_rfl) (by kernel_rfl) (by kernel_rfl) (fun _ _ _ h => h) (Or.inl ⟨by rfl, ?_⟩) (by assumption) ?_
                    rotate_left
                    focus ((intro w hSw; (try dsimp only at hSw); go_simp) <;> with_reducible rfl)
                    all_goals skip
                    try simp only [Act.put, List.setIfInBounds_toArray, List.set_cons_zero, List.set_cons_succ]
                    refine wpAnyH_take (i := 53) (v := ?_) (op_atS (op_atS (op_atS (op_atS (op_atS (op_atS (op_atS (op_atS (op_atS (op_atS (op_atS (op_atS (op_atS (op_atS (op_atS (op_atS (op_atS (op_atS (op_atS (op_atS (op_atS (op_atS (op_atS (op_atS (op_atS (op_atS (op_atS (op_atS (op_atS (op_atS (op_atS (op_atS (op_atS (op_atS (op_atS (op_atS (op_atS (op_atS (op_atS (op_atS (op_atS (op_atS (op_atS (op_atS (op_atS (op_atS (op_atS (op_atS (op_atS (op_atS (op_atS (op_atS (op_atS op_at0))))))))))))))))))))))))))))))))))))))))))))))))))))) (by kernel_rfl) (by kernel_rfl) (by kernel_rfl) (fun _ _ _ h => h) (Or.inl ⟨by rfl, ?_⟩) (by assumption) ?_
                    rotate_left
                    focus ((intro w hSw; (try dsimp only at hSw); go_simp) <;> with_reducible rfl)
                    all_goals skip
                    try simp only [Act.put, List.setIfInBounds_toArray, List.set_cons_zero, List.set_cons_succ]
                    refine wpAnyH_take (i := 54) (v := ?_) (op_atS (op_atS (op_atS (op_atS (op_atS (op_atS (op_atS (op_atS (op_atS (op_atS (op_atS (op_atS (op_atS (op_atS (op_atS (op_atS (op_atS (op_atS (op_atS (op_atS (op_atS (op_atS (op_atS (op_atS (op_atS (op_atS (op_atS (op_atS (op_atS (op_atS (op_atS (op_atS (op_atS (op_atS (op_atS (op_atS (op_atS (op_atS (op_atS (op_atS (op_atS (op_atS (op_atS (op_atS (op_atS (op_atS (op_atS (op_atS (op_atS (op_atS (op_atS (op_atS (op_atS (op_atS op_at0)))))))))))))))))))))))))))))))))))))))))))))))))))))) (by kernel_rfl) (by kernel_rfl) (by kernel_rfl) (fun _ _ _ h => h) (Or.inl ⟨by rfl, ?_⟩) (by assumption) ?_
                    rotate_left
                    focus ((intro w hSw; (try dsimp only at hSw); go_simp) <;> with_reducible rfl)
                    all_goals skip
                    try simp only [Act.put, List.setIfInBounds_toArray, List.set_cons_zero, List.set_cons_succ]
                    refine wpAnyH_take (i := 55) (v := ?_) (op_atS (op_atS (op_atS (op_atS (op_atS (op_atS (op_atS (op_atS (op_atS (op_atS (op_atS (op_atS (op_atS (op_atS (op_atS (op_atS (op_atS (op_atS (op_atS (op_atS (op_atS (op_atS (op_atS (op_atS (op_atS (op_atS (op_atS (op_atS (op_atS (op_atS (op_atS (op_atS (op_atS (op_atS (op_atS (op_atS (op_atS (op_atS (op_atS (op_atS (op_atS (op_atS (op_atS (op_atS (op_atS (op_atS (op_atS (op_atS (op_atS (op_atS (op_atS (op_atS (op_atS (op_atS (op_atS op_at0))))))))))))))))))))))))))))))))))))))))))))))))))))))) (by kernel_rfl) (by kernel_rfl) (by kernel_rfl) (fun _ _ _ h => h) (Or.inl ⟨by rfl, ?_⟩) (by assumption) ?_
                    rotate_left
                    focus ((intro w hSw; (try dsimp only at hSw); go_simp) <;> with_reducible rfl)
                    all_goals skip
                    try simp only [Act.put, List.setIfInBounds_toArray, List.set_cons_zero, List.set_cons_succ]
                    refine wpAnyH_take (i := 56) (v := ?_) (op_atS (op_atS (op_atS (op_atS (op_atS (op_atS (op_atS (op_atS (op_atS (op_atS (op_atS (op_atS (op_atS (op_atS (op_atS (op_atS (op_atS (op_atS (op_atS (op_atS (op_atS (op_atS (op_atS (op_atS (op_atS (op_atS (op_atS (op_atS (op_atS (op_atS (op_atS (op_atS (op_atS (op_atS (op_atS (op_atS (op_atS (op_atS (op_atS (op_atS (op_atS (op_atS (op_atS (op_atS (op_atS (op_atS (op_atS (op_atS (op_atS (op_atS (op_atS (op_atS (op_atS (op_atS (op_atS (op_atS op_at0)))))))))))))))))))))))))))))))))))))))))))))))))))))))) (by kernel_rfl) (by kernel_rfl) (by kernel_rfl) (fun _ _ _ h => h) (Or.inl ⟨by rfl, ?_⟩) (by assumption) ?_
                    rotate_left
                    focus ((intro w hSw; (try dsimp only at hSw); go_simp) <;> with_reducible rfl)
                    all_goals skip
                    try simp only [Act.put, List.setIfInBounds_toArray, List.set_cons_zero, List.set_cons_succ]
                    refine wpAnyH_done (by kernel_rfl) ?_ _
                    clear hHeld hne
                    go_wp2
                    go_roundg (gk - 1)
                    case measure => omega
                    case rel => exact ⟨x0 + 1, by go_num, by omega, hMi.trans HMW.out.drew, by omega⟩
            · have hinx : x0 = w := by omega
              subst hinx
              go_wp2
              go_roundg (gout - 1)
              case measure => omega
              case rel => exact ⟨y0 + 1, by go_num, by omega, hMo.trans hMi, by omega⟩
    · have hin : y0 = h := by omega
      subst hin
      go_wp2
      go_ret
      exact ⟨rfl, hM0.trans (hm12.trans (hm3.trans (HM7.out.trans hMo)))⟩
end Go.Proofs.YtldjmacnokkjdaaDoor
