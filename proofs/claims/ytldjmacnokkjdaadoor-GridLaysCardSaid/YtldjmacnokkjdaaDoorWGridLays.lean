/- GridLays's walk. -/
import Derived.Test.YtldjmacnokkjdaaDoorGLay
import Derived.Test.YtldjmacnokkjdaaDoorHs
import Derived.Test.YtldjmacnokkjdaaDoorNeqC
namespace Go.Proofs.YtldjmacnokkjdaaDoor
open Go.RowKit
attribute [local go_sem] min2_mn min_two
set_option linter.unusedVariables false
set_option linter.unusedSimpArgs false

def LayRel (wc : World) (h : Nat) (kk : Nat) (idx s15 s16 s17 : Value) (wr : World) : Prop := ∃ i : Nat, idx = .int .i64 (i : Int) ∧ i ≤ h ∧ Mods [] wc wr ∧ kk + i = h
def LayRel2 (wc : World) (h : Nat) (kk : Nat) (idx s16 s17 : Value) (wr : World) : Prop := ∃ i : Nat, idx = .int .i64 (i : Int) ∧ i ≤ h ∧ Mods [] wc wr ∧ kk + i = h
def dotC : Cell := ⟨46, 0, 0, 0⟩
theorem dotC_ok : (dotC.ok && decide (dotC.attr.val < 64)) = true := by decide +kernel
theorem blankC_ok : (blankC.ok && decide (blankC.attr.val < 64)) = true := by decide +kernel
theorem wrap_mod12 (q : Int) (w : Nat) (hw : (w : Int) = 1 + q % 12) : wrap64 (1 + (wrap64 (q.tmod 12 + 12)).tmod 12) = (w : Int) := by
  obtain ⟨m1, m2, m3⟩ := mod12 q
  rw [IntWalk.wrap64_in (q.tmod 12 + 12) (by omega), m3, IntWalk.wrap64_in _ (by omega), hw]
theorem wrap_mod6 (q : Int) (w : Nat) (hw : (w : Int) = 1 + q % 6) : wrap64 (1 + (wrap64 (q.tmod 6 + 6)).tmod 6) = (w : Int) := by
  obtain ⟨m1, m2, m3⟩ := mod6 q
  rw [IntWalk.wrap64_in (q.tmod 6 + 6) (by omega), m3, IntWalk.wrap64_in _ (by omega), hw]
theorem nat12 (q : Int) : ∃ w : Nat, (w : Int) = 1 + q % 12 ∧ 1 ≤ w ∧ w ≤ 12 := by
  have h1 := Int.emod_nonneg q (b := 12) (by omega)
  have h2 := Int.emod_lt_of_pos q (b := 12) (by omega)
  exact ⟨(1 + q % 12).toNat, by omega, by omega, by omega⟩
theorem nat6 (q : Int) : ∃ w : Nat, (w : Int) = 1 + q % 6 ∧ 1 ≤ w ∧ w ≤ 6 := by
  have h1 := Int.emod_nonneg q (b := 6) (by omega)
  have h2 := Int.emod_lt_of_pos q (b := 6) (by omega)
  exact ⟨(1 + q % 6).toNat, by omega, by omega, by omega⟩
set_option maxRecDepth 100000 in
set_option maxHeartbeats 4000000 in
theorem gridLays_walk (W : World) (nx ny : Int) (A : Option Addr) (k kc : Nat) (l : List Int) (hl : ReadsRows W A k 1 intV l) (hnx : -9223372036854775808 ≤ nx ∧ nx ≤ 9223372036854775807) (hny : -9223372036854775808 ≤ ny ∧ ny ≤ 9223372036854775807)
    (px py : Int) (B : Option Addr) (j jc : Nat) (m : List Int) (hm : ReadsRows W B j 1 intV m) (q0 q1 : Int) :
    Calls Tryd.prog 8 #[.agg #[.int .i64 nx, .int .i64 ny, .slice A k kc], .agg #[.int .i64 px, .int .i64 py, .slice B j jc], .agg #[.int .i64 q0, .int .i64 q1]] W fun e W' => e = .returned (.bool true) ∧ Mods [] W W' := by
  have HH := Lib.hid hl
  have HJ := Lib.hid hm
  obtain ⟨w, hw, hw1, hw2⟩ := nat12 nx
  obtain ⟨h, hh, hh1, hh2⟩ := nat6 ny
  obtain ⟨w', hw', gw1, gw2⟩ := nat12 q0
  obtain ⟨v, hv, gv1, gv2⟩ := nat6 q1
  have HW := Lib.hid hw
  have HHH := Lib.hid hh
  have E1 := Lib.hid (wrap_mod12 q0 w' hw')
  have E2 := Lib.hid (wrap_mod6 q1 v hv)
  clear hl hm hw hh hw' hv
  go_enter Tryd.func8, Tryd.ntmps8
  go_wp2_with fail
  refine Calls.named fun W0 hW0 => ?_
  obtain ⟨hM0, hb3, hb4, hb5, hsz⟩ := boxes3 hW0
  have B3 := Lib.hid hb3
  have B4 := Lib.hid hb4
  have B5 := Lib.hid hb5
  have HSZ := Lib.hid hsz
  clear hb3 hb4 hb5 hsz hW0
  refine (law06_awake W0).mono ?_
  rintro e w1 ⟨rfl, hm1⟩
  have hb4 := hm1.at B4.out (by simp)
  have C3 := fun i => blk_cell (hm1.at B3.out (by simp)) i
  have C4 := fun i => blk_cell hb4 i
  have F4 := fun i => blk_frozen hb4 i
  go_upto_region 4 with fail
  have hb4' := blk_set (blk_set hb4 0 (.int .i64 nx)) 1 (.int .i64 ny)
  simp at hb4'
  have hms := ((Mods.refl [W.heap.size + 1] w1).setCell ⟨W.heap.size + 1, 0, none⟩ (.int .i64 nx) (.inl (by simp))).setCell ⟨W.heap.size + 1, 1, none⟩ (.int .i64 ny) (.inl (by simp))
  clear C3 C4 F4 hb4
  generalize (w1.setCell ⟨W.heap.size + 1, 0, none⟩ (.int .i64 nx)).setCell ⟨W.heap.size + 1, 1, none⟩ (.int .i64 ny) = w2 at *
  have hM2 : Mods [] W w2 := (hM0.trans hm1).then hms (fun k hk => .inr (by simp at hk; omega))
  have D3 := Lib.hid (hms.at (hm1.at B3.out (by simp)) (by simp))
  have D4 := Lib.hid hb4'
  have D5 := Lib.hid (hms.at (hm1.at B5.out (by simp)) (by simp))
  have HM2 := Lib.hid hM2
  clear hb4' hms hM0 hm1 hM2
  have C3 := fun i => blk_cell D3.out i
  go_wp2_with fail
  obtain ⟨n, hn⟩ : ∃ n, w * h = n := ⟨_, rfl⟩
  have HN := Lib.hid hn.symm
  refine (num_grid w2 nx ny w h A k kc l (HH.out.keepsM (fun _ => rfl) HM2.out (by simp)) hnx hny HW.out HHH.out).mono ?_
  rw [hn]
  clear C3
  rintro e w3 ⟨a, c0, L, rfl, hc0, hR, hr, hge, hm3⟩
  have hmG : Mods [] w2 (w3.alloc (.cells #[.int .i64 (w : Int), .int .i64 (h : Int), .slice (some a) n c0] 38)) := hm3.alloc _
  have hbG := blk_new w3 (.cells #[.int .i64 (w : Int), .int .i64 (h : Int), .slice (some a) n c0] 38)
  have hRG := hR.keepsM (fun _ => rfl) ((Mods.refl [] w3).alloc (.cells #[.int .i64 (w : Int), .int .i64 (h : Int), .slice (some a) n c0] 38)) (by simp)
  go_upto_region 5 with fail
  generalize w3.alloc (.cells #[.int .i64 (w : Int), .int .i64 (h : Int), .slice (some a) n c0] 38) = w4 at *
  have C4 := fun i => blk_cell (hmG.at D4.out (by simp)) i
  have BG := Lib.hid hbG
  have RG := Lib.hid hRG
  have HRT := Lib.hid hr
  clear hbG hRG hR hr
  go_wp2_with fail
  refine (num_grid w4 nx ny w h B j jc m (HJ.out.keepsM (fun _ => rfl) (HM2.out.trans hmG) (by simp)) hnx hny HW.out HHH.out).mono ?_
  rw [hn]
  clear C4
  rintro e w5 ⟨b, c1, F, rfl, hc1, hR, hr, hge1, hm5⟩
  have hmF : Mods [] w4 (w5.alloc (.cells #[.int .i64 (w : Int), .int .i64 (h : Int), .slice (some b) n c1] 38)) := hm5.alloc _
  have hbF := blk_new w5 (.cells #[.int .i64 (w : Int), .int .i64 (h : Int), .slice (some b) n c1] 38)
  have hRF := hR.keepsM (fun _ => rfl) ((Mods.refl [] w5).alloc (.cells #[.int .i64 (w : Int), .int .i64 (h : Int), .slice (some b) n c1] 38)) (by simp)
  go_upto_region 6 with fail
  generalize w5.alloc (.cells #[.int .i64 (w : Int), .int .i64 (h : Int), .slice (some b) n c1] 38) = w6 at *
  have BF := Lib.hid hbF
  have RF := Lib.hid hRF
  have HRF := Lib.hid hr
  clear hbF hRF hR hr hn
  have hMF := hmF
  have CG := fun i => blk_cell (hMF.at BG.out (by simp)) i
  have CF := fun i => blk_cell BF.out i
  have RG6 := RG.out.keepsM (fun _ => rfl) hMF (by simp)
  have GOK : Hid (GridOk w h n c0) := Lib.hid ⟨hw1, by omega, hh1, by omega, HN.out, hc0⟩
  have GOK1 : Hid (GridOk w h n c1) := Lib.hid ⟨hw1, by omega, hh1, by omega, HN.out, hc1⟩
  go_wp2_with fail
  refine (grid_Blit w6 w h n c0 a L w h n c1 b F 0 0 GOK.out RG6 HRT.out GOK1.out RF.out HRF.out (by omega) (by omega)).mono ?_
  rw [blit_same RG6.1 RF.out.1 HN.out HRF.out hw1 hh1]
  clear CG CF
  rintro e w7 ⟨x, c2, rfl, hc2, hR, _, hm7⟩
  have hmX : Mods [] w6 (w7.alloc (.cells #[.int .i64 (w : Int), .int .i64 (h : Int), .slice (some x) n c2] 38)) := hm7.alloc _
  have hbX := blk_new w7 (.cells #[.int .i64 (w : Int), .int .i64 (h : Int), .slice (some x) n c2] 38)
  have hRX := hR.keepsM (fun _ => rfl) ((Mods.refl [] w7).alloc (.cells #[.int .i64 (w : Int), .int .i64 (h : Int), .slice (some x) n c2] 38)) (by simp)
  go_upto_region 7 with fail
  generalize w7.alloc (.cells #[.int .i64 (w : Int), .int .i64 (h : Int), .slice (some x) n c2] 38) = w8 at *
  have BX := Lib.hid hbX
  have RX := Lib.hid hRX
  have hM8 := hmF.trans hmX
  have C5 := fun i => blk_cell ((hmG.trans hM8).at D5.out (by simp)) i
  have CG := fun i => blk_cell (hM8.at BG.out (by simp)) i
  have e1 := E1.out
  have e2 := E2.out
  clear hbX hRX hR RG6
  go_upto_region 9 with fail
  clear C5
  clear e1 e2
  go_wp2_with fail
  rw [E1.out, E2.out]
  refine (grid_Resize w8 w h n c0 a L w' v blankC GOK.out (RG.out.keepsM (fun _ => rfl) hM8 (by simp)) HRT.out gw1 (by omega) gv1 (by omega) blankC_ok).mono ?_
  obtain ⟨n', hn'⟩ : ∃ n', w' * v = n' := ⟨_, rfl⟩
  obtain ⟨hls, hrs, hcut⟩ := resize_law (c := blankC) (w' := w') (v := v) RG.out.1 HN.out HRT.out blankC_ok hw1 hh1 gw1 gv1
  generalize resizeG w h L w' v blankC = S at *
  rw [hn'] at hls ⊢
  have HN' := Lib.hid hn'.symm
  have HRS := Lib.hid hrs
  have LAW := Lib.hid hcut
  clear hn' hls hrs hcut CG
  rintro e w9 ⟨s, c3, rfl, hc3, hR, hges, hm9⟩
  have hmS : Mods [] w8 (w9.alloc (.cells #[.int .i64 (w' : Int), .int .i64 (v : Int), .slice (some s) n' c3] 38)) := hm9.alloc _
  have hbS := blk_new w9 (.cells #[.int .i64 (w' : Int), .int .i64 (v : Int), .slice (some s) n' c3] 38)
  have hRS := hR.keepsM (fun _ => rfl) ((Mods.refl [] w9).alloc (.cells #[.int .i64 (w' : Int), .int .i64 (v : Int), .slice (some s) n' c3] 38)) (by simp)
  have SOK : Hid (GridOk w' v n' c3) := Lib.hid ⟨gw1, by omega, gv1, by omega, HN'.out, hc3⟩
  go_upto_region 10 with fail
  generalize w9.alloc (.cells #[.int .i64 (w' : Int), .int .i64 (v : Int), .slice (some s) n' c3] 38) = wa at *
  have BS := Lib.hid hbS
  have RS := Lib.hid hRS
  clear hbS hRS hR
  have CX := fun i => blk_cell (hmS.at BX.out (by simp)) i
  have CF := fun i => blk_cell ((hmX.trans hmS).at BF.out (by simp)) i
  go_wp2_with fail
  refine (grid_Same wa w h w h (some x) (some b) n n c2 c1 F F (RX.out.keepsM (fun _ => rfl) hmS (by simp)) (RF.out.keepsM (fun _ => rfl) (hmX.trans hmS) (by simp))).mono ?_
  rw [decide_eq_true ⟨rfl, rfl, rfl⟩]
  clear CX CF
  rintro e wb ⟨rfl, hmb⟩
  have CS := fun i => blk_cell (hmb.at BS.out (by simp)) i
  go_wp2_with fail
  refine (grid_Check wb w' v n' c3 s S SOK.out (RS.out.keepsM (fun _ => rfl) hmb (by simp))).mono ?_
  rw [HRS.out]
  clear CS
  rintro e wz ⟨rfl, hmz⟩
  have hMS := hmb.trans hmz
  have hMX := hmX.trans (hmS.trans hMS)
  have DG := Lib.hid ((hmF.trans hMX).at BG.out (by simp))
  have DS := Lib.hid (hMS.at BS.out (by simp))
  have RGz := Lib.hid (RG.out.keepsM (fun _ => rfl) (hmF.trans hMX) (by simp))
  have RSz := Lib.hid (RS.out.keepsM (fun _ => rfl) hMS (by simp))
  have HMZ := Lib.hid (HM2.out.trans (hmG.trans (hmF.trans hMX)))
  clear hMS hMX hmb hmz hmS hm9 hmX hm7 hMF hmF hm5 hmG hm3 hM8
  obtain ⟨mv, hmv⟩ : ∃ mv, min v h = mv := ⟨_, rfl⟩
  obtain ⟨mw, hmw⟩ : ∃ mw, min w' w = mw := ⟨_, rfl⟩
  have N1 : Hid (mn (v : Int) (h : Int) = (mv : Int)) := Lib.hid (by rw [← hmv]; unfold mn; split <;> omega)
  have N2 : Hid (mn (w' : Int) (w : Int) = (mw : Int)) := Lib.hid (by rw [← hmw]; unfold mn; split <;> omega)
  have b1 : mv ≤ v := by omega
  have b2 : mv ≤ h := by omega
  have b3 : mw ≤ w' := by omega
  have b4 : mw ≤ w := by omega
  clear hmv hmw
  go_wp2
  go_loopg [14, 15, 16, 17] mv (LayRel wz mv)
  case atStart => exact ⟨0, rfl, by omega, Mods.refl _ _, by omega⟩
  case round =>
    obtain ⟨y0, rfl, hy0, hMo, hkk⟩ := hrel
    have HKK := Lib.hid hkk
    have CG := fun i => blk_cell (hMo.at DG.out (by simp)) i
    have n1 := N1.out
    clear hkk
    by_cases hlt : y0 < mv
    · have hk2 := HKK.out
      generalize gk = gout at *
      go_wp2
      clear CG n1
      go_loopg [15, 16, 17] mw (LayRel2 wr mw)
      case atStart => exact ⟨0, rfl, by omega, Mods.refl _ _, by omega⟩
      case round =>
        obtain ⟨x0, rfl, hx0, hMi, hkk⟩ := hrel
        have HKK2 := Lib.hid hkk
        have hMw := hMo.trans hMi
        have CG := fun i => blk_cell (hMw.at DG.out (by simp)) i
        have CS := fun i => blk_cell (hMw.at DS.out (by simp)) i
        have n2 := N2.out
        clear hkk
        by_cases hltx : x0 < mw
        · have hk3 := HKK2.out
          obtain ⟨ca, cb, hca, hcb, hor⟩ := LAW.out y0 x0 (by omega) (by omega) (by omega) (by omega)
          have HCA := Lib.hid hca
          have HCB := Lib.hid hcb
          have HOR := Lib.hid hor
          clear hca hcb hor
          go_wp2_with fail
          refine (grid_At_in wr w' v n' c3 s S x0 y0 SOK.out (RSz.out.keepsM (fun _ => rfl) hMw (by simp)) (by omega) (by omega) cb HCB.out).mono ?_
          rintro e we ⟨rfl, hme⟩
          obtain ⟨br, bf, bg, bt⟩ := cb
          simp only [Cell.val]
          have hmB : Mods [] wr (we.alloc (.cells #[.int .i32 br, .int .u8 bf, .int .u8 bg, .int .u8 (bt.val : Int)] 27)) := hme.alloc _
          have hbB := blk_new we (.cells #[.int .i32 br, .int .u8 bf, .int .u8 bg, .int .u8 (bt.val : Int)] 27)
          clear CG CS n2
          go_upto_region 19 with fail
          generalize we.alloc (.cells #[.int .i32 br, .int .u8 bf, .int .u8 bg, .int .u8 (bt.val : Int)] 27) = wB at *
          have CG := fun i => blk_cell ((hMw.trans hmB).at DG.out (by simp)) i
          go_wp2_with fail
          refine (grid_At_in wB w h n c0 a L x0 y0 GOK.out (RGz.out.keepsM (fun _ => rfl) (hMw.trans hmB) (by simp)) (by omega) (by omega) ca HCA.out).mono ?_
          rintro e wf ⟨rfl, hmf⟩
          obtain ⟨ar, af, ag, at1⟩ := ca
          simp only [Cell.val]
          have hmA : Mods [] wB (wf.alloc (.cells #[.int .i32 ar, .int .u8 af, .int .u8 ag, .int .u8 (at1.val : Int)] 27)) := hmf.alloc _
          have hbA := blk_new wf (.cells #[.int .i32 ar, .int .u8 af, .int .u8 ag, .int .u8 (at1.val : Int)] 27)
          clear CG
          go_upto_region 20 with fail
          generalize wf.alloc (.cells #[.int .i32 ar, .int .u8 af, .int .u8 ag, .int .u8 (at1.val : Int)] 27) = wA at *
          have CA := fun i => blk_cell hbA i
          have CB := fun i => blk_cell (hmA.at hbB (by simp)) i
          have HMA := Lib.hid (hMi.trans (hmB.trans hmA))
          clear hbA hbB hmA hmB
          by_cases hab : (⟨br, bf, bg, bt⟩ : Cell) = ⟨ar, af, ag, at1⟩
          · have hne : ∀ X, (binOp .neq 27 (.agg #[.int .i32 br, .int .u8 bf, .int .u8 bg, .int .u8 (bt.val : Int)]) (.agg #[.int .i32 ar, .int .u8 af, .int .u8 ag, .int .u8 (at1.val : Int)])).run Tryd.prog X = .ok (.bool false) X := fun X => by
              have := run_neq_cell X ⟨br, bf, bg, bt⟩ ⟨ar, af, ag, at1⟩
              rw [decide_eq_true hab] at this
              exact this
            clear hab
            go_wp2
            go_roundg (gk - 1)
            case measure => omega
            case rel => exact ⟨x0 + 1, by go_num, by omega, HMA.out, by omega⟩
          · have hne : ∀ X, (binOp .neq 27 (.agg #[.int .i32 br, .int .u8 bf, .int .u8 bg, .int .u8 (bt.val : Int)]) (.agg #[.int .i32 ar, .int .u8 af, .int .u8 ag, .int .u8 (at1.val : Int)])).run Tryd.prog X = .ok (.bool true) X := fun X => by
              have := run_neq_cell X ⟨br, bf, bg, bt⟩ ⟨ar, af, ag, at1⟩
              rw [decide_eq_false hab] at this
              exact this
            have hor := HOR.out
            rcases hor with h1 | ⟨h1, h2, h3⟩
            · exact absurd h1 hab
            · clear hab
              have e1 : IntKind.i64.wrap ((w' : Int) - 1) = (x0 : Int) := by rw [← h1]; rw [IntWalk.i64_in _ (by omega)]; omega
              have e2 : ((x0 : Int) == (w' : Int) - 1) = true := by simp; omega
              have e3 : ((x0 : Int) != (w' : Int) - 1) = false := by simp; omega
              have e4 : decide ((at1.val : Int) < 64) = false := decide_eq_false (by simp only at h2; omega)
              have h3' : br = 32 := h3
              clear h3
              subst h3'
              clear h1 h2
              go_wp2
              go_roundg (gk - 1)
              case measure => omega
              case rel => exact ⟨x0 + 1, by go_num, by omega, HMA.out, by omega⟩
        · have hinx : x0 = mw := by omega
          clear CS
          subst hinx
          go_wp2
          go_roundg (gout - 1)
          case measure => omega
          case rel => exact ⟨y0 + 1, by go_num, by omega, hMo.trans hMi, by omega⟩
    · have hin : y0 = mv := by omega
      clear HKK
      subst hin
      go_upto_region 22 with fail
      clear CG n1
      have HMO := Lib.hid hMo
      have KA : ∀ X, Mods [] wr X → (X.cell? ⟨w3.heap.size, 0, none⟩ = some (.int .i64 (w : Int)) ∧ X.cell? ⟨w3.heap.size, 1, none⟩ = some (.int .i64 (h : Int)) ∧ X.cell? ⟨w3.heap.size, 2, none⟩ = some (.slice (some a) n c0)) := fun X hX => ⟨blk_cell ((hMo.trans hX).at DG.out (by simp)) 0, blk_cell ((hMo.trans hX).at DG.out (by simp)) 1, blk_cell ((hMo.trans hX).at DG.out (by simp)) 2⟩
      have hMR : Mods [] wr wr := Mods.refl [] wr
      have RK : Hid (∀ X, Mods [] wr X → ReadsRows X (some a) n 4 Cell.vals L) := Lib.hid fun X hX => RGz.out.keepsM (fun _ => rfl) (hMo.trans hX) (by simp)
      refine wp_region_held_drew (S := (fun X => X.cell? ⟨w3.heap.size, 0, none⟩ = some (.int .i64 (w : Int)) ∧ X.cell? ⟨w3.heap.size, 1, none⟩ = some (.int .i64 (h : Int)) ∧ X.cell? ⟨w3.heap.size, 2, none⟩ = some (.slice (some a) n c0))) (by kernel_rfl) ?_ (fun hHeld => ?_)
      focus ((try dsimp only); exact KA _ hMR.drew)
      refine wpAnyH_take (i := 0) (v := ?_) op_at0 (by kernel_rfl) (by kernel_rfl) (by kernel_rfl) (fun _ _ _ h => h) (Or.inl ⟨by rfl, ?_⟩) (by assumption) ?_
      rotate_left
      focus ((intro w hSw; (try dsimp only at hSw); go_simp) <;> with_reducible rfl)
      all_goals skip
      try simp only [Act.put, List.setIfInBounds_toArray, List.set_cons_zero, List.set_cons_succ]
      refine wpAnyH_take (i := 1) (v := ?_) (op_atS op_at0) (by kernel_rfl) (by kernel_rfl) (by kernel_rfl) (fun _ _ _ h => h) (Or.inl ⟨by rfl, ?_⟩) (by assumption) ?_
      rotate_left
      focus ((intro w hSw; (try dsimp only at hSw); go_simp) <;> with_reducible rfl)
      all_goals skip
      try simp only [Act.put, List.setIfInBounds_toArray, List.set_cons_zero, List.set_cons_succ]
      refine wpAnyH_take (i := 2) (v := ?_) (op_atS (op_atS op_at0)) (by kernel_rfl) (by kernel_rfl) (by kernel_rfl) (fun _ _ _ h => h) (Or.inl ⟨by rfl, ?_⟩) (by assumption) ?_
      rotate_left
      focus ((intro w hSw; (try dsimp only at hSw); go_simp) <;> with_reducible rfl)
      all_goals skip
      try simp only [Act.put, List.setIfInBounds_toArray, List.set_cons_zero, List.set_cons_succ]
      refine wpAnyH_take (i := 3) (v := ?_) (op_atS (op_atS (op_atS op_at0))) (by kernel_rfl) (by kernel_rfl) (by kernel_rfl) (fun _ _ _ h => h) (Or.inl ⟨by rfl, ?_⟩) (by assumption) ?_
      rotate_left
      focus ((intro w hSw; (try dsimp only at hSw); go_simp) <;> with_reducible rfl)
      all_goals skip
      try simp only [Act.put, List.setIfInBounds_toArray, List.set_cons_zero, List.set_cons_succ]
      refine wpAnyH_take (i := 4) (v := ?_) (op_atS (op_atS (op_atS (op_atS op_at0)))) (by kernel_rfl) (by kernel_rfl) (by kernel_rfl) (fun _ _ _ h => h) (Or.inl ⟨by rfl, ?_⟩) (by assumption) ?_
      rotate_left
      focus ((intro w hSw; (try dsimp only at hSw); go_simp) <;> with_reducible rfl)
      all_goals skip
      try simp only [Act.put, List.setIfInBounds_toArray, List.set_cons_zero, List.set_cons_succ]
      refine wpAnyH_take (i := 5) (v := ?_) (op_atS (op_atS (op_atS (op_atS (op_atS op_at0))))) (by kernel_rfl) (by kernel_rfl) (by kernel_rfl) (fun _ _ _ h => h) (Or.inl ⟨by rfl, ?_⟩) (by assumption) ?_
      rotate_left
      focus ((intro w hSw; (try dsimp only at hSw); go_simp) <;> with_reducible rfl)
      all_goals skip
      try simp only [Act.put, List.setIfInBounds_toArray, List.set_cons_zero, List.set_cons_succ]
      refine wpAnyH_take (i := 6) (v := ?_) (op_atS (op_atS (op_atS (op_atS (op_atS (op_atS op_at0)))))) (by kernel_rfl) (by kernel_rfl) (by kernel_rfl) (fun _ _ _ h => h) (Or.inl ⟨by rfl, ?_⟩) (by assumption) ?_
      rotate_left
      focus ((intro w hSw; (try dsimp only at hSw); go_simp) <;> with_reducible rfl)
      all_goals skip
      try simp only [Act.put, List.setIfInBounds_toArray, List.set_cons_zero, List.set_cons_succ]
      refine wpAnyH_take (i := 7) (v := ?_) (op_atS (op_atS (op_atS (op_atS (op_atS (op_atS (op_atS op_at0))))))) (by kernel_rfl) (by kernel_rfl) (by kernel_rfl) (fun _ _ _ h => h) (Or.inl ⟨by rfl, ?_⟩) (by assumption) ?_
      rotate_left
      focus ((intro w hSw; (try dsimp only at hSw); go_simp) <;> with_reducible rfl)
      all_goals skip
      try simp only [Act.put, List.setIfInBounds_toArray, List.set_cons_zero, List.set_cons_succ]
      refine wpAnyH_take (i := 9) (v := ?_) (op_atS (op_atS (op_atS (op_atS (op_atS (op_atS (op_atS (op_atS (op_atS op_at0))))))))) (by kernel_rfl) (by kernel_rfl) (by kernel_rfl) (fun _ _ _ h => h) (Or.inl ⟨by rfl, ?_⟩) (by assumption) ?_
      rotate_left
      focus ((intro w hSw; (try dsimp only at hSw); go_simp) <;> with_reducible rfl)
      all_goals skip
      try simp only [Act.put, List.setIfInBounds_toArray, List.set_cons_zero, List.set_cons_succ]
      refine wpAnyH_ready (rs := [8]) (by kernel_rfl) (by simp) ?_
      refine AllReadyH.cons (op_atS (op_atS (op_atS (op_atS (op_atS (op_atS (op_atS (op_atS op_at0)))))))) (fun K hK => ?_) AllReadyH.nil
      go_simp
      ((go_at_call 29; refine (grid_Resize _ w h n c0 a L w h dotC GOK.out (RK.out _ hMR.drew) HRT.out hw1 (by omega) hh1 (by omega) dotC_ok).mono ?_; rw [resize_same RG.out.1 HN.out HRT.out hw1 hh1]; rintro e w9 ⟨z, zc, rfl, hzc, hZ, _, hm9⟩; have hmK : Mods [] wr w9 := hMR.drew.trans hm9))
      try go_wp2_with fail
      refine hK.out _ _ ?_ (fun hHeld2 => ?_)
      focus ((try dsimp only); exact KA _ hmK)
      clear hK K hHeld
      have hHeld := hHeld2
      clear hHeld2
      try simp only [Act.put, List.setIfInBounds_toArray, List.set_cons_zero, List.set_cons_succ]
      refine wpAnyH_ready (rs := [10]) (by kernel_rfl) (by simp) ?_
      refine AllReadyH.cons (op_atS (op_atS (op_atS (op_atS (op_atS (op_atS (op_atS (op_atS (op_atS (op_atS op_at0)))))))))) (fun K hK => ?_) AllReadyH.nil
      go_simp
      ((go_at_call 30; refine (grid_Same _ w h w h (some z) (some a) (w * h) n zc c0 L L hZ (RK.out _ hmK)).mono ?_; rw [decide_eq_true ⟨rfl, rfl, rfl⟩]; rintro e w9 ⟨rfl, hm8⟩; have hmL : Mods [] wr w9 := hmK.trans hm8))
      try go_wp2_with fail
      refine hK.out _ _ ?_ (fun hHeld2 => ?_)
      focus ((try dsimp only); exact KA _ hmL)
      clear hK K hHeld
      have hHeld := hHeld2
      clear hHeld2
      try simp only [Act.put, List.setIfInBounds_toArray, List.set_cons_zero, List.set_cons_succ]
      refine wpAnyH_take (i := 11) (v := ?_) (op_atS (op_atS (op_atS (op_atS (op_atS (op_atS (op_atS (op_atS (op_atS (op_atS (op_atS op_at0))))))))))) (by kernel_rfl) (by kernel_rfl) (by kernel_rfl) (fun _ _ _ h => h) (Or.inl ⟨by rfl, ?_⟩) (by assumption) ?_
      rotate_left
      focus ((intro w hSw; (try dsimp only at hSw); go_simp) <;> with_reducible rfl)
      all_goals skip
      try simp only [Act.put, List.setIfInBounds_toArray, List.set_cons_zero, List.set_cons_succ]
      refine wpAnyH_take (i := 12) (v := ?_) (op_atS (op_atS (op_atS (op_atS (op_atS (op_atS (op_atS (op_atS (op_atS (op_atS (op_atS (op_atS op_at0)))))))))))) (by kernel_rfl) (by kernel_rfl) (by kernel_rfl) (fun _ _ _ h => h) (Or.inl ⟨by rfl, ?_⟩) (by assumption) ?_
      rotate_left
      focus ((intro w hSw; (try dsimp only at hSw); go_simp) <;> with_reducible rfl)
      all_goals skip
      try simp only [Act.put, List.setIfInBounds_toArray, List.set_cons_zero, List.set_cons_succ]
      refine wpAnyH_done (by kernel_rfl) ?_ _
      go_wp2
      go_ret
      exact ⟨rfl, HMZ.out.trans (HMO.out.trans hmL)⟩
end Go.Proofs.YtldjmacnokkjdaaDoor
