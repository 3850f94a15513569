/- Package lyceumlaw06: plain, the grid by numbers. -/
import Derived.Test.YtldjmacnokkjdaaDoorL6
import Derived.StillTailTactics
namespace Go.Proofs.YtldjmacnokkjdaaDoor
open Go.RowKit
attribute [local go_sem] l6_and15 l6_and3 l6_and1 max2_mx min2_mn max_two min_two
set_option linter.unusedVariables false
set_option linter.unusedSimpArgs false

def charsP : List Int := [32, 46, 45, 122]
def charP (k : Nat) : Int := charsP.getD k 0
def atP (n : Int) : Fin 256 := ⟨(n / 16 % 4).toNat, by have := Int.emod_lt_of_pos (n / 16) (b := 4) (by omega); omega⟩
def plainC (n : Int) : Cell := ⟨charP (n % 4).toNat, 0, n / 4 % 4, atP n⟩
theorem charP_cell (k : Nat) (hk : k < 4) : (#[Value.int .i32 32, .int .i32 46, .int .i32 45, .int .i32 122] : Array Value)[k]? = some (.int .i32 (charP k)) := by
  have : k = 0 ∨ k = 1 ∨ k = 2 ∨ k = 3 := by omega
  rcases this with rfl | rfl | rfl | rfl <;> rfl
theorem plainC_ok (n : Int) : ((plainC n).ok && decide ((plainC n).attr.val < 64)) = true := by
  have key : ∀ (k : Fin 4) (a : Fin 4), (Cell.ok ⟨charP k.val, 0, 0, ⟨a.val, by omega⟩⟩ && decide (a.val < 64)) = true := by decide +kernel
  have h1 : 0 ≤ n % 4 := Int.emod_nonneg _ (by omega)
  have h2 : n % 4 < 4 := Int.emod_lt_of_pos _ (by omega)
  have h3 : 0 ≤ n / 16 % 4 := Int.emod_nonneg _ (by omega)
  have h4 : n / 16 % 4 < 4 := Int.emod_lt_of_pos _ (by omega)
  exact key ⟨(n % 4).toNat, by omega⟩ ⟨(n / 16 % 4).toNat, by omega⟩
set_option maxHeartbeats 1000000 in
theorem law06_plain (W : World) (n : Int) : Calls Tryd.prog 26 #[.int .i64 n] W fun e W' => e = .returned (plainC n).val ∧ Mods [] W W' := by
  have h1 : 0 ≤ n % 4 := Int.emod_nonneg _ (by omega)
  have h2 : n % 4 < 4 := Int.emod_lt_of_pos _ (by omega)
  have f1 : IntKind.u8.wrap (n / 4 % 4) = n / 4 % 4 := by
    have h1 := Int.emod_nonneg (n / 4) (b := 4) (by omega)
    have h2 := Int.emod_lt_of_pos (n / 4) (b := 4) (by omega)
    exact IntWalk.u8_in _ (by omega)
  have f2 : IntKind.u8.wrap (n / 16 % 4) = n / 16 % 4 := by
    have h1 := Int.emod_nonneg (n / 16) (b := 4) (by omega)
    have h2 := Int.emod_lt_of_pos (n / 16) (b := 4) (by omega)
    exact IntWalk.u8_in _ (by omega)
  have f3 : ((atP n).val : Int) = n / 16 % 4 := by
    have h1 := Int.emod_nonneg (n / 16) (b := 4) (by omega)
    simp [atP]; omega
  have hbx := blk_new' (W.alloc (.cells #[.int .i32 0, .int .u8 0, .int .u8 0, .int .u8 0] 27)) (.cells #[.int .i32 32, .int .i32 46, .int .i32 45, .int .i32 122] 83) (k := W.heap.size + 1) (by simp)
  have hb0 := blk_alloc (blk_new W (.cells #[.int .i32 0, .int .u8 0, .int .u8 0, .int .u8 0] 27)) (.cells #[.int .i32 32, .int .i32 46, .int .i32 45, .int .i32 122] 83)
  have d0 := (blk_cell hbx (n % 4).toNat).trans (charP_cell (n % 4).toNat (by omega))
  have hM0 : Mods [] W ((W.alloc (.cells #[.int .i32 0, .int .u8 0, .int .u8 0, .int .u8 0] 27)).alloc (.cells #[.int .i32 32, .int .i32 46, .int .i32 45, .int .i32 122] 83)) := ((Mods.refl [] W).alloc _).alloc _
  have HB0 := Lib.hid hb0
  have F3 := Lib.hid f3
  clear hbx hb0 f3
  go_enter Tryd.func26, Tryd.ntmps26
  go_upto_region 2 with fail
  generalize (W.alloc (.cells #[.int .i32 0, .int .u8 0, .int .u8 0, .int .u8 0] 27)).alloc (.cells #[.int .i32 32, .int .i32 46, .int .i32 45, .int .i32 122] 83) = W0 at *
  go_wp2_with (refine store_blk HB0.out rfl (.tmp 2) (.tmp 17) 27 rfl (c' := #[.int .i32 (charP (n % 4).toNat), .int .u8 0, .int .u8 (n / 4 % 4), .int .u8 (n / 16 % 4)]) (by kernel_rfl) rfl rfl rfl (by simp [Value.oneCell']) ?_; intro w5 hb5 hm5; have HB5 := Lib.hid hb5; clear hb5 d0)
  have CF := fun i => blk_cell HB5.out i
  exact bodyPost_ret (v := .agg #[.int .i32 (charP (n % 4).toNat), .int .u8 0, .int .u8 (n / 4 % 4), .int .u8 (n / 16 % 4)]) (by simp [results, Tryd.results26, go_sem, CF]) rfl ⟨by unfold plainC Cell.val; rw [F3.out], hM0.then hm5 (fun k hk => .inr (by simp at hk; omega))⟩
theorem tmod_near (x m : Int) (hm : 0 < m) : (0 ≤ x ∧ x.tmod m = x % m) ∨ (x < 0 ∧ x.tmod m = -((-x) % m)) := by
  rcases Int.lt_or_le x 0 with h | h
  · refine .inr ⟨h, ?_⟩
    have := Int.neg_tmod (-x) m
    rw [Int.neg_neg] at this
    rw [this, Int.tmod_eq_emod_of_nonneg (by omega)]
  · exact .inl ⟨h, Int.tmod_eq_emod_of_nonneg h⟩
theorem mod12 (x : Int) : -11 ≤ x.tmod 12 ∧ x.tmod 12 ≤ 11 ∧ (x.tmod 12 + 12).tmod 12 = x % 12 := by
  rcases tmod_near x 12 (by omega) with ⟨h, e⟩ | ⟨h, e⟩ <;> rw [e]
  · rw [Int.tmod_eq_emod_of_nonneg (by omega)]; omega
  · rw [Int.tmod_eq_emod_of_nonneg (by omega)]; omega
theorem mod6 (x : Int) : -5 ≤ x.tmod 6 ∧ x.tmod 6 ≤ 5 ∧ (x.tmod 6 + 6).tmod 6 = x % 6 := by
  rcases tmod_near x 6 (by omega) with ⟨h, e⟩ | ⟨h, e⟩ <;> rw [e]
  · rw [Int.tmod_eq_emod_of_nonneg (by omega)]; omega
  · rw [Int.tmod_eq_emod_of_nonneg (by omega)]; omega
theorem right_smallG {w h n : Nat} {L : List Cell} (hl : L.length = n) (hn : n = w * h) (hr : rightG w h L = true) : Small L := by
  intro c hc
  obtain ⟨i, hi⟩ := List.getElem?_of_mem hc
  have hin : i < n := by rw [← hl]; exact (List.getElem?_eq_some_iff.1 hi).1
  have hw : 0 < w := by rcases Nat.eq_zero_or_pos w with h0 | h0; · rw [h0] at hn; omega
                        · exact h0
  have hy : i / w < h := by rw [Nat.div_lt_iff_lt_mul hw, Nat.mul_comm]; omega
  unfold rightG at hr
  rw [List.all_eq_true] at hr
  have h1 := right_small _ (hr (i / w) (by simpa using hy))
  refine h1 c ?_
  have e2 : i / w * w + i % w = i := by rw [Nat.mul_comm]; exact Nat.div_add_mod i w
  have h3 : (rowC w (i / w) L)[i % w]? = some c := by rw [rowC_get (Nat.mod_lt _ hw), e2]; exact hi
  exact List.mem_of_getElem? h3
def NumRel (W : World) (w h n gb : Nat) (kk : Nat) (c4 idx k6 : Value) (wr : World) : Prop :=
  ∃ (y cn cc : Nat) (CA : Option Addr) (C L : List Cell) (a : Addr) (c0 : Nat), idx = .int .i64 (y : Int) ∧ y ≤ h ∧ c4 = .slice CA cn cc ∧ cn ≤ cc ∧ (CA = none → cc = 0) ∧ ReadsRows wr CA cn 4 Cell.vals C ∧ (∀ ad, CA = some ad → ad.block ≠ gb ∧ ad.block ≠ W.heap.size + 1) ∧ Small C ∧ cn ≤ 160 ∧
    wr.heap[gb]? = some (.cells #[.int .i64 (w : Int), .int .i64 (h : Int), .slice (some a) n c0] 38 (0, 0)) ∧ wr.heap[W.heap.size + 1]? = some (.cells #[.int .i64 0, .int .i64 0, .slice none 0 0] 38 (0, 0)) ∧ n ≤ c0 ∧ ReadsRows wr (some a) n 4 Cell.vals L ∧ rightG w h L = true ∧ W.heap.size ≤ a.block ∧ a.block ≠ gb ∧ a.block ≠ W.heap.size + 1 ∧ Mods [] W wr ∧ kk + y = h
set_option maxRecDepth 4000 in
set_option maxHeartbeats 2000000 in
theorem num_grid (W : World) (x y : Int) (w h : Nat) (A : Option Addr) (k kc : Nat) (l : List Int) (hl : ReadsRows W A k 1 intV l) (hx : -9223372036854775808 ≤ x ∧ x ≤ 9223372036854775807) (hy : -9223372036854775808 ≤ y ∧ y ≤ 9223372036854775807)
    (hw : (w : Int) = 1 + x % 12) (hh : (h : Int) = 1 + y % 6) :
    Calls Tryd.prog 24 #[.agg #[.int .i64 x, .int .i64 y, .slice A k kc]] W fun e W' =>
      ∃ a' c' L', e = .returned (gridV w h (some a') (w * h) c') ∧ w * h ≤ c' ∧ ReadsRows W' (some a') (w * h) 4 Cell.vals L' ∧ rightG w h L' = true ∧ W.heap.size ≤ a'.block ∧ Mods [] W W' := by
  have HH := Lib.hid hl
  clear hl
  have hx1 : 0 ≤ x % 12 := Int.emod_nonneg _ (by omega)
  have hx2 : x % 12 < 12 := Int.emod_lt_of_pos _ (by omega)
  have hy1 : 0 ≤ y % 6 := Int.emod_nonneg _ (by omega)
  have hy2 : y % 6 < 6 := Int.emod_lt_of_pos _ (by omega)
  have hw1 : 1 ≤ w := by omega
  have hw2 : w ≤ 12 := by omega
  have hh1 : 1 ≤ h := by omega
  have hh2 : h ≤ 6 := by omega
  have hn2 : w * h ≤ 72 := Nat.mul_le_mul hw2 hh2
  obtain ⟨m1, m2, m3⟩ := mod12 x
  obtain ⟨m4, m5, m6⟩ := mod6 y
  have e1 : wrap64 (1 + (wrap64 (x.tmod 12 + 12)).tmod 12) = (w : Int) := by
    rw [IntWalk.wrap64_in (x.tmod 12 + 12) (by omega), m3, IntWalk.wrap64_in _ (by omega), hw]
  have e2 : wrap64 (1 + (wrap64 (y.tmod 6 + 6)).tmod 6) = (h : Int) := by
    rw [IntWalk.wrap64_in (y.tmod 6 + 6) (by omega), m6, IntWalk.wrap64_in _ (by omega), hh]
  have E1 := Lib.hid e1
  have E2 := Lib.hid e2
  obtain ⟨n, hn⟩ : ∃ n, w * h = n := ⟨_, rfl⟩
  have HN := Lib.hid hn.symm
  rw [hn] at hn2
  rw [hn]
  clear e1 e2 m1 m2 m3 m4 m5 m6 hw hh hx1 hx2 hy1 hy2 hn
  go_enter Tryd.func24, Tryd.ntmps24
  go_wp2_with fail
  refine Calls.named fun W0 hW0 => ?_
  obtain ⟨hM0, hb1, hb2, hsz⟩ := boxes2 hW0
  have B1 := Lib.hid hb1
  have B2 := Lib.hid hb2
  have HSZ := Lib.hid hsz
  clear hb1 hb2 hW0
  rw [E1.out, E2.out]
  refine (ref6_New W0 w h hw1 (by omega) hh1 (by omega)).mono ?_
  rintro e w1 ⟨a1, c1, rfl, hc1, hR1, hge1, hm1⟩
  rw [← HN.out] at hc1 hR1 ⊢
  have hm2 := hm1.alloc (.cells #[.int .i64 (w : Int), .int .i64 (h : Int), .slice (some a1) n c1] 38)
  have C1 := fun i => blk_cell (hm2.at B1.out (by simp)) i
  have hbg := blk_new w1 (.cells #[.int .i64 (w : Int), .int .i64 (h : Int), .slice (some a1) n c1] 38)
  have hR2 := hR1.keepsM (fun _ => rfl) ((Mods.refl [] w1).alloc (.cells #[.int .i64 (w : Int), .int .i64 (h : Int), .slice (some a1) n c1] 38)) (by simp)
  go_wp2_with fail
  refine (law06_cells _ A k kc l (HH.out.keepsM (fun _ => rfl) (hM0.trans hm2) (by simp))).mono ?_
  rintro e w3 ⟨v3, rfl, hown3, hm3⟩
  obtain ⟨A3, c3, rfl, q1, q2, q3⟩ := own_slice' hown3
  have hle3 := cells6_le l
  obtain ⟨hR3, _, hnil3, hblk3⟩ := own_reads hown3 rfl (by omega)
  clear C1 hown3 q2 q3
  go_wp2
  have hs1 := hm1.size
  have hs3 := hm3.size
  simp only [World.size_alloc] at hs3 hblk3
  have hbg3 := hm3.at hbg (by simp)
  have hb23 := (hm2.trans hm3).at B2.out (by simp)
  have hRL3 := hR2.keepsM (fun _ => rfl) hm3 (by simp)
  have hMW3 := hM0.trans (hm2.trans hm3)
  have ha1lt : a1.block < w1.heap.size := by
    obtain ⟨c0, hc0⟩ : ∃ c, (List.replicate n blankC)[0]? = some c := ⟨blankC, by rw [List.getElem?_replicate, if_pos (by rw [HN.out]; exact Nat.mul_pos (by omega) (by omega))]⟩
    obtain ⟨a', ha', hcc, _⟩ := hR1.row hc0
    cases ha'
    have := World.block_lt_of_cell? w1 _ hcc
    have hb0 : (a1.add (0 * 4)).block = a1.block := by unfold Addr.add; split <;> rfl
    rw [hb0] at this
    exact this
  clear hR1 hR2 hbg hm2 hm1
  generalize hgb : w1.heap.size = gb at *
  go_loopg [4, 5, 6] h (NumRel W w h n gb)
  case atStart => exact ⟨0, _, _, _, _, _, a1, c1, rfl, by omega, rfl, q1, hnil3, hR3, fun ad had => by have := hblk3 ad had; omega, cells6_small l, hle3, hbg3, hb23, hc1, hRL3, HN.out ▸ rightG_blanks w h, by omega, by omega, by omega, hMW3, by omega⟩
  case round =>
    obtain ⟨y', cn, cc, CA, C, L, a, c0, rfl, hy', rfl, hcc, hnil, hC, hCA, hsm, h160, hbx, hb2, hnc, hL, hr, hge, hag, ha2, hM, hkk⟩ := hrel
    have HKK := Lib.hid hkk
    have HCC := Lib.hid hC
    have HCL := Lib.hid hC.1
    have HCA := Lib.hid hCA
    have HSM := Lib.hid hsm
    have HBX := Lib.hid hbx
    have HB2 := Lib.hid hb2
    have HL := Lib.hid hL
    have HR := Lib.hid hr
    have HNIL := Lib.hid hnil
    have CX := fun i => blk_cell hbx i
    clear hkk hC hCA hsm hb2 hL hr hnil
    by_cases hlt : y' < h
    · have hk2 := HKK.out
      obtain ⟨q, hq⟩ : ∃ q, min cn w = q := ⟨_, rfl⟩
      have hqn : mn (cn : Int) (w : Int) = (q : Int) := by unfold mn; split <;> omega
      have hq1 : q ≤ cn := by omega
      have hq2 : q ≤ w := by omega
      have hq3 : (q : Int) ≤ (cc : Int) := by omega
      have hq0 : (0 : Int) ≤ (q : Int) := by omega
      have hq4 : (q : Int) ≤ (cn : Int) := by omega
      clear hq hbx
      go_upto_region 7 with fail
      clear hqn
      have D0 : wr.drew.cell? ⟨gb, 0, none⟩ = some (.int .i64 (w : Int)) := CX 0
      have D1 : wr.drew.cell? ⟨gb, 1, none⟩ = some (.int .i64 (h : Int)) := CX 1
      have D2 : wr.drew.cell? ⟨gb, 2, none⟩ = some (.slice (some a) n c0) := CX 2
      have hMd : Mods [] wr wr.drew := (Mods.refl [] wr).drew
      clear CX
      go_still_tail 5, (by kernel_rfl)
      change wpList _ _ _ _ _ wr.drew
      generalize wr.drew = wd at *
      go_wp2_with fail
      clear D0 D1 D2
      refine (ref6_Put wd w h n c0 a L y' CA q cc (C.take q) ⟨hw1, by omega, hh1, by omega, HN.out, hnc⟩ (HL.out.keepsM (fun _ => rfl) hMd (by simp)) HR.out (right_smallG HL.out.1 HN.out HR.out) hlt ((HCC.out.keepsM (fun _ => rfl) hMd (by simp)).first q hq1) hq2 (fun c hc => HSM.out c (List.mem_of_mem_take hc))).mono ?_
      rintro e w8 ⟨a8, c8, L8, rfl, hc8, hR8, hr8, hor8, hm8⟩
      have hm18 := hMd.trans hm8
      have HB8 := Lib.hid (hm18.at HBX.out (by simp))
      have hblk8 : W.heap.size ≤ a8.block ∧ a8.block ≠ gb ∧ a8.block ≠ W.heap.size + 1 := by
        have hl1 := heap_lt HBX.out
        have hl2 := heap_lt HB2.out
        have hl3 := hMd.size
        rcases hor8 with rfl | h8
        · exact ⟨hge, hag, ha2⟩
        · omega
      by_cases hcq : cc = q
      · have hz : cn - q = 0 := by omega
        have hC0 : ∀ X, ReadsRows X CA (cn - q) 4 Cell.vals (C.drop q) := fun X => ⟨by rw [List.length_drop, HCL.out], by unfold maxLen; omega, fun i o hi => by rw [List.drop_of_length_le (by rw [HCL.out]; omega)] at hi; cases hi⟩
        have HC0 := Lib.hid hC0
        have HZ := Lib.hid hz
        clear hz hC0
        go_wp2_with (refine store_blk HB8.out rfl (.tmp 3) (.tmp 39) 38 rfl (c' := #[.int .i64 (w : Int), .int .i64 (h : Int), .slice (some a8) n c8]) (by kernel_rfl) rfl rfl rfl (by simp [Value.oneCell']) ?_; intro w9 hb9 hm9; have HB9 := Lib.hid hb9; clear hb9)
        have hm19 : Mods [gb] wr w9 := (hm18.mono (by simp)).trans hm9
        have hb29 := hm19.at HB2.out (by simp; omega)
        have hR9 := hR8.keepsM (fun _ => rfl) hm9 (by intro a' ha'; cases ha'; simpa using hblk8.2.1)
        have hM9 := hM.then hm19 (fun k hk => .inr (by simp at hk; omega))
        have hsd : Small (C.drop q) := fun c hc => HSM.out c (List.mem_of_mem_drop hc)
        go_roundg (gk - 1)
        case measure => omega
        case rel => exact ⟨y' + 1, cn - q, 0, CA, C.drop q, L8, a8, c8, by go_num, by omega, rfl, by have := HZ.out; omega, fun _ => rfl, HC0.out _, HCA.out, hsd, by omega, HB9.out, hb29, hc8, hR9, hr8, hblk8.1, hblk8.2.1, hblk8.2.2, hM9, by omega⟩
      · obtain ⟨ca, rfl⟩ : ∃ ca, CA = some ca := by
          cases CA with
          | none => have := HNIL.out rfl; omega
          | some ca => exact ⟨ca, rfl⟩
        go_wp2_with (refine store_blk HB8.out rfl (.tmp 3) (.tmp 39) 38 rfl (c' := #[.int .i64 (w : Int), .int .i64 (h : Int), .slice (some a8) n c8]) (by kernel_rfl) rfl rfl rfl (by simp [Value.oneCell']) ?_; intro w9 hb9 hm9; have HB9 := Lib.hid hb9; clear hb9)
        have hm19 : Mods [gb] wr w9 := (hm18.mono (by simp)).trans hm9
        have hb29 := hm19.at HB2.out (by simp; omega)
        have hR9 := hR8.keepsM (fun _ => rfl) hm9 (by intro a' ha'; cases ha'; simpa using hblk8.2.1)
        have hM9 := hM.then hm19 (fun k hk => .inr (by simp at hk; omega))
        have hC9 := HCC.out.keepsM (fun _ => rfl) hm19 (by intro a' ha'; simpa using (HCA.out a' ha').1)
        have hCd := hC9.cut q (cn - q) (by omega)
        rw [List.take_of_length_le (by rw [List.length_drop, HCL.out]; exact Nat.le_refl _)] at hCd
        have hsd : Small (C.drop q) := fun c hc => HSM.out c (List.mem_of_mem_drop hc)
        go_roundg (gk - 1)
        case measure => omega
        case rel =>
          have hCA' : ∀ ad, some (ca.add (q * 4)) = some ad → ad.block ≠ gb ∧ ad.block ≠ W.heap.size + 1 := by
            intro ad had
            cases had
            have hb0 : (ca.add (q * 4)).block = ca.block := by unfold Addr.add; split <;> rfl
            rw [hb0]
            exact HCA.out ca rfl
          exact ⟨y' + 1, cn - q, cc - q, some (ca.add (q * 4)), C.drop q, L8, a8, c8, by go_num, by omega, rfl, by omega, (fun h => by cases h), hCd, hCA', hsd, by omega, HB9.out, hb29, hc8, hR9, hr8, hblk8.1, hblk8.2.1, hblk8.2.2, hM9, by omega⟩
    · have hin : y' = h := by omega
      subst hin
      go_wp2_with (refine store_blk HB2.out rfl (.tmp 2) (.tmp 43) 38 rfl (c' := #[.int .i64 (w : Int), .int .i64 (y' : Int), .slice (some a) n c0]) (by kernel_rfl) rfl rfl rfl (by simp [Value.oneCell']) ?_; intro w9 hb9 hm9; have HB9 := Lib.hid hb9; clear hb9)
      have CF := fun i => blk_cell HB9.out i
      have hM9 := hM.then hm9 (fun k hk => .inr (by simp at hk; omega))
      have hR9 := HL.out.keepsM (fun _ => rfl) hm9 (by intro a' ha'; cases ha'; simpa using ha2)
      clear CX
      exact bodyPost_ret (v := gridV w y' (some a) n c0) (by simp [results, Tryd.results24, go_sem, CF]) rfl ⟨a, c0, L, rfl, hnc, hR9, HR.out, hge, hM9⟩
end Go.Proofs.YtldjmacnokkjdaaDoor
