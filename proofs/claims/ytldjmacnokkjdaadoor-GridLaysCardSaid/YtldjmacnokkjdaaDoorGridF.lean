/- Package cell: Right, Blank; package grid: what tells of sizes, places and rows. -/
import Derived.Test.YtldjmacnokkjdaaDoorCBlk
import Derived.Test.YtldjmacnokkjdaaDoorSame
namespace Go.Proofs.YtldjmacnokkjdaaDoor
open Go.RowKit
set_option linter.unusedVariables false
set_option linter.unusedSimpArgs false
attribute [local go_sem] max2_mx min2_mn max_two min_two

def rightC : List Cell → Bool
  | [] => true
  | [c] => decide (sizeC [c] = 1)
  | c :: d :: l => if sizeC (c :: d :: l) = 0 then false else if sizeC (c :: d :: l) = 1 then rightC (d :: l) else rightC l
theorem rightC_0 {c : Cell} {l : List Cell} (h : sizeC (c :: l) = 0) : rightC (c :: l) = false := by
  cases l with
  | nil => simp [rightC, h]
  | cons d l => simp [rightC, h]
theorem rightC_1 {c : Cell} {l : List Cell} (h : sizeC (c :: l) = 1) : rightC (c :: l) = rightC l := by
  cases l with
  | nil => simp [rightC, h]
  | cons d l => simp [rightC, h]
theorem rightC_2 {c d : Cell} {l : List Cell} (h : sizeC (c :: d :: l) = 2) : rightC (c :: d :: l) = rightC l := by
  simp [rightC, h]
theorem rightC_split (row : List Cell) (i : Nat) (hi : i < row.length) : (sizeC (row.drop i) = 0 ∧ rightC (row.drop i) = false) ∨ ∃ k, sizeC (row.drop i) = k ∧ 1 ≤ k ∧ k ≤ 2 ∧ i + k ≤ row.length ∧ rightC (row.drop i) = rightC (row.drop (i + k)) := by
  obtain ⟨c, l, hl⟩ : ∃ c l, row.drop i = c :: l := by
    cases h : row.drop i with
    | nil => simp at h; omega
    | cons c l => exact ⟨c, l, rfl⟩
  have hlen : l.length + 1 = row.length - i := by have := congrArg List.length hl; simp at this; omega
  rw [hl]
  rcases sizeC_cases c l with h | h | ⟨h, d, l', rfl⟩
  · exact .inl ⟨h, rightC_0 h⟩
  · refine .inr ⟨1, h, by omega, by omega, by omega, ?_⟩
    rw [← List.drop_drop, hl, rightC_1 h]; rfl
  · refine .inr ⟨2, h, by omega, by omega, by simp at hlen; omega, ?_⟩
    rw [← List.drop_drop, hl, rightC_2 h]; rfl
def blankC : Cell := ⟨32, 0, 0, 0⟩
theorem cell_Blank (w : World) : Calls Tryd.prog 72 #[] w fun e w' => e = .returned (.agg #[.int .i32 32, .int .u8 0, .int .u8 0, .int .u8 0]) ∧ Mods [] w w' := by
  go_enter Tryd.func72, Tryd.ntmps72
  go_wp2
  exact bodyPost_ret (v := blankC.val) (by simp [results, Tryd.results72, go_sem, blankC]) rfl ⟨rfl, (Mods.refl _ _).alloc _⟩
def RightRel (w : World) (row : List Cell) (n : Nat) (kk : Nat) (idx : Value) (wr : World) : Prop :=
  ∃ i : Nat, idx = .int .i64 i ∧ i ≤ n ∧ rightC (row.drop i) = rightC row ∧ Mods [] w wr ∧ kk + i = n
theorem cell_Right (w : World) (A : Option Addr) (n cap : Nat) (row : List Cell) (h : ReadsRows w A n 4 Cell.vals row) (hsm : n ≤ 1000000) :
    Calls Tryd.prog 61 #[.slice A n cap] w fun e w' => e = .returned (.bool (rightC row)) ∧ Mods [] w w' := by
  have HO := Lib.hid h
  have HLN := Lib.hid h.1
  clear h
  go_enter Tryd.func61, Tryd.ntmps61
  go_wp2
  go_loopg [3] n (RightRel w row n)
  case atStart => exact ⟨0, rfl, by omega, rfl, Mods.refl _ _, by omega⟩
  case round =>
    obtain ⟨i, rfl, hi, hr, hM, hkk⟩ := hrel
    have HR := Lib.hid hr
    have HKK := Lib.hid hkk
    clear hr hkk
    by_cases hlt : i < n
    · have hk2 := HKK.out
      rcases rightC_split row i (by rw [HLN.out]; exact hlt) with ⟨h1, h2⟩ | ⟨k, h1, h2, h3, h4, h5⟩
      · have HS := Lib.hid h1
        have H2 := Lib.hid h2
        clear h1 h2
        go_wp2_with fail
        with_reducible refine (cell_size _ A n cap i row (HO.out.keepsM (fun _ => rfl) hM (by simp)) hlt).mono ?_
        rw [HS.out]
        rintro e w1 ⟨rfl, hm1⟩
        go_wp2
        go_ret
        exact ⟨by show Ending.returned (.bool false) = _; rw [← HR.out, H2.out], hM.trans hm1⟩
      · have HS := Lib.hid h1
        have H5 := Lib.hid h5
        rw [HLN.out] at h4
        clear h1 h5
        go_wp2_with fail
        with_reducible refine (cell_size _ A n cap i row (HO.out.keepsM (fun _ => rfl) hM (by simp)) hlt).mono ?_
        rw [HS.out]
        rintro e w1 ⟨rfl, hm1⟩
        have hb : ((k : Int) == 0) = false := by simp; omega
        go_wp2
        clear hb
        go_roundg (gk - k)
        case measure => omega
        case rel => exact ⟨i + k, by go_num, by omega, by rw [← HR.out, ← H5.out], hM.trans hm1, by omega⟩
    · have hin : i = n := by omega
      subst hin
      go_wp2
      go_ret
      refine ⟨?_, hM⟩
      rw [← HR.out, List.drop_of_length_le (by rw [HLN.out]; exact Nat.le_refl _)]
      rfl
theorem grid_may (w : World) (x y : Int) : Calls Tryd.prog 59 #[.int .i64 x, .int .i64 y] w fun e w' => e = .returned (.bool (decide (1 ≤ x ∧ x ≤ 200 ∧ 1 ≤ y ∧ y ≤ 60))) ∧ w = w' := by
  by_cases h1 : 1 ≤ x <;> by_cases h2 : x ≤ 200 <;> by_cases h3 : 1 ≤ y <;> by_cases h4 : y ≤ 60
  all_goals
    go_enter Tryd.func59, Tryd.ntmps59
    go_wp2
    go_ret
    simp [h1, h2, h3, h4]

/-- A grid's value. -/
@[reducible] def gridV (w h : Int) (A : Option Addr) (n c : Nat) : Value := .agg #[.int .i64 w, .int .i64 h, .slice A n c]
set_option maxHeartbeats 1000000 in
theorem grid_row (W : World) (w h n c : Nat) (a : Addr) (y : Nat) (hw1 : 1 ≤ w) (hw2 : w ≤ 200) (hh1 : 1 ≤ h) (hh2 : h ≤ 60) (hn : n = w * h) (hc : n ≤ c) (hy : y < h) :
    Calls Tryd.prog 48 #[gridV w h (some a) n c, .int .i64 (y : Int)] W fun e W' => e = .returned (.slice (some (a.add (y * w * 4))) w w) ∧ Mods [] W W' := by
  have hle : y * w + w ≤ n := by rw [hn]; calc y * w + w = (y + 1) * w := by rw [Nat.add_mul]; omega
      _ ≤ h * w := Nat.mul_le_mul_right _ hy
      _ = w * h := Nat.mul_comm _ _
  have hq : (n : Int).tdiv (w : Int) = (h : Int) := by
    rw [hn, ← Int.ofNat_tdiv, Nat.mul_div_cancel_left _ (by omega)]
  have hn2 : n ≤ 12000 := by rw [hn]; exact Nat.mul_le_mul hw2 hh2
  have hm : IntKind.i64.wrap ((y : Int) * (w : Int)) = ((y * w : Nat) : Int) := by rw [← Int.natCast_mul]; exact IntWalk.i64_in _ (by omega)
  generalize y * w = K at *
  have hk : IntKind.i64.wrap ((K : Int) + (w : Int)) = (K : Int) + (w : Int) := IntWalk.i64_in _ (by omega)
  have hw0 : ((w : Int) == 0) = false := by simp; omega
  have d1 : decide ((y : Int) < 0) = false := by simp
  have d2 : decide (h ≤ y) = false := by simp; omega
  have d3 : decide (w < 1) = false := by simp; omega
  have d3' : decide ((w : Int) < 1) = false := by simp; omega
  have hq2 : (n : Int) / (w : Int) = (h : Int) := by rw [← Int.natCast_tdiv_eq_ediv]; exact hq
  have hq3 : n / w = h := by rw [hn]; exact Nat.mul_div_cancel_left _ (by omega)
  clear hn
  go_enter Tryd.func48, Tryd.ntmps48
  go_upto_region 1 with fail
  go_quiet (fail)
  go_upto_region 3 with fail
  go_quiet (fail)
  go_wp2
  go_ret
  exact ⟨by show Ending.returned (.slice _ (K + w - K) (K + w - K)) = _; rw [Nat.add_sub_cancel_left], ((Mods.refl [] W).alloc _).drewN _⟩
theorem grid_row_none (W : World) (w h n c : Nat) (A : Option Addr) (y : Int) (hy : y < 0 ∨ (h : Int) ≤ y) :
    Calls Tryd.prog 48 #[gridV w h A n c, .int .i64 y] W fun e W' => e = .returned (.slice none 0 0) ∧ Mods [] W W' := by
  have h3 : y < 0 ∨ (¬ y < 0 ∧ (h : Int) ≤ y) := by omega
  clear hy
  rcases h3 with h1 | ⟨h1, h2⟩
  · have d1 : decide (y < 0) = true := by simp; omega
    go_enter Tryd.func48, Tryd.ntmps48
    go_upto_region 1 with fail
    go_quiet (fail)
    go_wp2
    go_ret
    exact ⟨rfl, ((Mods.refl [] W).alloc _).drewN _⟩
  · have d1 : decide (y < 0) = false := by simp; omega
    have d2 : decide (y ≥ (h : Int)) = true := by simp; omega
    go_enter Tryd.func48, Tryd.ntmps48
    go_upto_region 1 with fail
    go_quiet (fail)
    go_wp2
    go_ret
    exact ⟨rfl, ((Mods.refl [] W).alloc _).drewN _⟩
theorem grid_plain (W : World) (c : Cell) : Calls Tryd.prog 54 #[c.val] W fun e W' => e = .returned (.bool (c.ok && decide (c.attr.val < 64))) ∧ Mods [] W W' := by
  obtain ⟨r, fg, bg, at'⟩ := c
  have K0 : ∀ w, Calls Tryd.prog 62 #[.agg #[.int .i32 r, .int .u8 fg, .int .u8 bg, .int .u8 (at'.val : Int)]] w fun e w' => e = .returned (.bool (Cell.ok ⟨r, fg, bg, at'⟩)) ∧ Mods [] w w' := fun w => cell_Check w ⟨r, fg, bg, at'⟩
  have K1 := Lib.hid K0
  have hM := (Mods.refl [] W).alloc (.cells #[Value.int .i32 r, Value.int .u8 fg, Value.int .u8 bg, Value.int .u8 (at'.val : Int)] 27)
  have hl : ((at'.val : Int) < 64) ↔ at'.val < 64 := by omega
  have HL := Lib.hid hl
  clear K0 hl
  cases hk : Cell.ok ⟨r, fg, bg, at'⟩ <;> by_cases h6 : (at'.val : Int) < 64
  all_goals
    rw [hk] at K1
    clear hk
    have d6 := h6
    rw [HL.out] at d6
    have D6 := Lib.hid d6
    clear d6
    go_enter Tryd.func54, Tryd.ntmps54
    have hX := Mods.refl [] (W.alloc (.cells #[Value.int .i32 r, Value.int .u8 fg, Value.int .u8 bg, Value.int .u8 (at'.val : Int)] 27))
    go_wp2_with (go_at_call 62; go_must (refine (K1.out _).mono ?_); rintro e w1 ⟨rfl, hm⟩; have hY := hX.trans hm; clear hX hm; have hX := hY; clear hY; have C := kept_cells hX)
    go_ret
    exact ⟨by have := D6.out; simp [this] <;> omega, hM.trans hX⟩
def spanF (from' many end' : Int) : Int × Int := if many ≤ 0 ∨ end' ≤ from' then (0, 0) else if from' < 0 then (0, mx (mn (from' + many) end') 0) else (from', from' + mn many (end' - from'))
theorem grid_span (W : World) (f m e : Int) (h1 : -1000000 ≤ f ∧ f ≤ 1000000) (h2 : -1000000 ≤ m ∧ m ≤ 1000000) (h3 : 0 ≤ e ∧ e ≤ 1000000) :
    Calls Tryd.prog 42 #[.int .i64 f, .int .i64 m, .int .i64 e] W fun r W' => r = .returned (.tuple #[.int .i64 (spanF f m e).1, .int .i64 (spanF f m e).2]) ∧ W = W' := by
  obtain ⟨a1, a2⟩ := h1
  obtain ⟨b1, b2⟩ := h2
  obtain ⟨c1, c2⟩ := h3
  have hmn : mn m (e - f) ≤ m := by unfold mn; split <;> omega
  have hmn2 : mn m (e - f) = m ∨ mn m (e - f) = e - f := by unfold mn; split <;> simp
  have hmn3 : -2000000 ≤ mn m (e - f) := by omega
  clear hmn2
  by_cases q1 : m ≤ 0
  · go_enter Tryd.func42, Tryd.ntmps42
    go_wp2
    go_ret2
    exact ⟨by unfold spanF; rw [if_pos (.inl (by omega))]; rfl, rfl⟩
  · by_cases q2 : e ≤ f
    · have d : decide (f ≥ e) = true := by simp; omega
      go_enter Tryd.func42, Tryd.ntmps42
      go_wp2
      go_ret2
      exact ⟨by unfold spanF; rw [if_pos (.inr (by omega))]; rfl, rfl⟩
    · have d : decide (f ≥ e) = false := by simp; omega
      have hn : ¬ (m ≤ 0 ∨ e ≤ f) := by omega
      have HN := Lib.hid hn
      clear hn
      by_cases q3 : f < 0
      · go_enter Tryd.func42, Tryd.ntmps42
        go_wp2
        go_ret2
        exact ⟨by unfold spanF; rw [if_neg HN.out, if_pos (by omega)]; rfl, rfl⟩
      · go_enter Tryd.func42, Tryd.ntmps42
        go_wp2
        go_ret2
        exact ⟨by unfold spanF; rw [if_neg HN.out, if_neg (by omega)]; rfl, rfl⟩
def movedF (at' by' f e : Int) : Int := at' + mn (mx by' (f - e)) (e - f)
theorem grid_moved (W : World) (x b f e : Int) (h0 : 0 ≤ x ∧ x ≤ 1000000) (hb : -9223372036854775808 ≤ b ∧ b ≤ 9223372036854775807) (h1 : 0 ≤ f ∧ f ≤ 1000000) (h2 : 0 ≤ e ∧ e ≤ 1000000) :
    Calls Tryd.prog 57 #[.int .i64 x, .int .i64 b, .int .i64 f, .int .i64 e] W fun r W' => r = .returned (.tuple #[.int .i64 (movedF x b f e), .bool (decide (f ≤ movedF x b f e ∧ movedF x b f e < e))]) ∧ W = W' := by
  obtain ⟨x1, x2⟩ := h0
  obtain ⟨a1, a2⟩ := h1
  obtain ⟨c1, c2⟩ := h2
  have k1 : -1000000 ≤ mn (mx b (f - e)) (e - f) := by unfold mn mx; split <;> split <;> omega
  have k2 : mn (mx b (f - e)) (e - f) ≤ 1000000 := by unfold mn mx; split <;> split <;> omega
  by_cases q1 : f ≤ x + mn (mx b (f - e)) (e - f) <;> by_cases q2 : x + mn (mx b (f - e)) (e - f) < e
  all_goals
    go_enter Tryd.func57, Tryd.ntmps57
    go_wp2
    go_ret2
    exact ⟨by unfold movedF; simp [q1, q2], rfl⟩
/-- A row of cells of its own grid; a place in it. -/
def rowC (w y : Nat) (L : List Cell) : List Cell := (L.drop (y * w)).take w
theorem rowC_len {w h n y : Nat} {L : List Cell} (hl : L.length = n) (hn : n = w * h) (hy : y < h) : (rowC w y L).length = w := by
  have hle : y * w + w ≤ n := by rw [hn]; calc y * w + w = (y + 1) * w := by rw [Nat.add_mul]; omega
      _ ≤ h * w := Nat.mul_le_mul_right _ hy
      _ = w * h := Nat.mul_comm _ _
  unfold rowC; simp; omega
theorem row_le {w h n y : Nat} (hn : n = w * h) (hy : y < h) : y * w + w ≤ n := by
  rw [hn]; calc y * w + w = (y + 1) * w := by rw [Nat.add_mul]; omega
    _ ≤ h * w := Nat.mul_le_mul_right _ hy
    _ = w * h := Nat.mul_comm _ _
theorem ReadsRows.row_of {W : World} {a : Addr} {w h n y : Nat} {L : List Cell} (hL : ReadsRows W (some a) n 4 Cell.vals L) (hn : n = w * h) (hy : y < h) : ReadsRows W (some (a.add (y * w * 4))) w 4 Cell.vals (rowC w y L) :=
  hL.cut (y * w) w (row_le hn hy)
def GridOk (w h n c : Nat) : Prop := 1 ≤ w ∧ w ≤ 200 ∧ 1 ≤ h ∧ h ≤ 60 ∧ n = w * h ∧ n ≤ c
def rightG (w h : Nat) (L : List Cell) : Bool := (List.range h).all fun y => rightC (rowC w y L)
def CheckRel (W : World) (w h : Nat) (L : List Cell) (kk : Nat) (idx : Value) (wr : World) : Prop :=
  ∃ i : Nat, idx = .int .i64 i ∧ i ≤ h ∧ ((List.range i).all fun y => rightC (rowC w y L)) = true ∧ Mods [] W wr ∧ kk + i = h
set_option maxHeartbeats 1000000 in
theorem grid_Check (W : World) (w h n c : Nat) (a : Addr) (L : List Cell) (hg : GridOk w h n c) (hL : ReadsRows W (some a) n 4 Cell.vals L) :
    Calls Tryd.prog 31 #[gridV w h (some a) n c] W fun e W' => e = .returned (.bool (rightG w h L)) ∧ Mods [] W W' := by
  obtain ⟨hw1, hw2, hh1, hh2, hn, hc⟩ := hg
  have hn2 : n ≤ 12000 := by rw [hn]; exact Nat.mul_le_mul hw2 hh2
  have HN := Lib.hid hn
  have HL := Lib.hid hL
  have hm : wrap64 ((w : Int) * (h : Int)) = (n : Int) := by rw [hn, ← Int.natCast_mul]; exact IntWalk.wrap64_in _ (by omega)
  have hb0 : ((n : Int) != wrap64 ((w : Int) * (h : Int))) = false := by rw [hm]; simp
  have hM0 := (Mods.refl [] W).alloc (.cells #[.int .i64 (w : Int), .int .i64 (h : Int), .slice (some a) n c] 38)
  have hG := Lib.hid (blk_new W (.cells #[.int .i64 (w : Int), .int .i64 (h : Int), .slice (some a) n c] 38))
  clear hn hL hm
  go_enter Tryd.func31, Tryd.ntmps31
  go_wp2_with fail
  refine (grid_may _ _ _).mono ?_
  have hd : decide (1 ≤ (w : Int) ∧ (w : Int) ≤ 200 ∧ 1 ≤ (h : Int) ∧ (h : Int) ≤ 60) = true := by simp; omega
  rw [hd]
  clear hd
  rintro e w1 ⟨rfl, rfl⟩
  go_wp2
  clear hb0
  generalize W.alloc (.cells #[.int .i64 (w : Int), .int .i64 (h : Int), .slice (some a) n c] 38) = W0 at *
  go_loopg [23] h (CheckRel W0 w h L)
  case atStart => exact ⟨0, rfl, by omega, by simp, Mods.refl _ _, by omega⟩
  case round =>
    obtain ⟨i, rfl, hi, hall, hM, hkk⟩ := hrel
    have HA := Lib.hid hall
    have HKK := Lib.hid hkk
    clear hall hkk
    by_cases hlt : i < h
    · have hb := hM.at hG.out (by simp)
      have C := fun j => blk_cell hb j
      have HR := Lib.hid (HL.out.row_of HN.out hlt)
      clear hb
      go_wp2_with fail
      with_reducible refine (grid_row _ w h n c a i hw1 hw2 hh1 hh2 HN.out hc hlt).mono ?_
      rintro e w2 ⟨rfl, hm2⟩
      go_wp2_with fail
      have hM2 := hM0.trans (hM.trans hm2)
      with_reducible refine (cell_Right _ _ w w (rowC w i L) (HR.out.keepsM (fun _ => rfl) hM2 (by simp)) (by omega)).mono ?_
      have hk2 := HKK.out
      cases hr : rightC (rowC w i L)
      all_goals
        have HRR := Lib.hid hr
        clear hr
        rintro e w3 ⟨rfl, hm3⟩
        clear C
        go_wp2
      · go_ret
        refine ⟨?_, hM2.trans hm3⟩
        have : rightG w h L = false := by
          unfold rightG
          rw [List.all_eq_false]
          exact ⟨i, by simpa using hlt, by rw [HRR.out]; simp⟩
        rw [this]; rfl
      · go_roundg (gk - 1)
        case measure => omega
        case rel => exact ⟨i + 1, by go_num, by omega, by rw [List.range_succ, List.all_append, HA.out]; simp [HRR.out], (hM.trans hm2).trans hm3, by omega⟩
    · have hin : i = h := by omega
      subst hin
      go_wp2
      go_ret
      exact ⟨by unfold rightG; rw [HA.out]; rfl, hM0.trans hM⟩
def EqRel (w : World) (xs ys : List Cell) (n : Nat) (kk : Nat) (idx : Value) (wr : World) : Prop :=
  ∃ (i m : Nat), idx = .int .i64 i ∧ i ≤ n ∧ xs.take i = ys.take i ∧ wr = w.drewN m ∧ kk + i = n
set_option maxHeartbeats 1000000 in
theorem slices_Equal (w : World) (A B : Option Addr) (n m ca cb : Nat) (xs ys : List Cell) (hx : ReadsRows w A n 4 Cell.vals xs) (hy : ReadsRows w B m 4 Cell.vals ys) :
    Calls Tryd.prog 60 #[.slice A n ca, .slice B m cb] w fun e w' => e = .returned (.bool (decide (xs = ys))) ∧ ∃ k, w' = w.drewN k := by
  have hn := hx.2.1
  have hm := hy.2.1
  unfold maxLen at hn hm
  have HX := Lib.hid hx
  have HY := Lib.hid hy
  have LX := Lib.hid hx.1
  have LY := Lib.hid hy.1
  clear hx hy
  by_cases hnm : n = m
  · have hb : ((n : Int) != (m : Int)) = false := by simp [hnm]
    have HNM := Lib.hid hnm
    clear hnm
    go_enter Tryd.func60, Tryd.ntmps60
    go_wp2
    clear hb
    go_loopg [13] n (EqRel w xs ys n)
    case atStart => exact ⟨0, 0, rfl, by omega, rfl, rfl, by omega⟩
    case round =>
      obtain ⟨i, k, rfl, hi, htk, rfl, hkk⟩ := hrel
      have HTK := Lib.hid htk
      have HKK := Lib.hid hkk
      have hk2 := hkk
      clear htk hkk
      by_cases hlt : i < n
      · obtain ⟨c, hc⟩ : ∃ c, xs[i]? = some c := ⟨_, List.getElem?_eq_getElem (by rw [LX.out]; exact hlt)⟩
        obtain ⟨d, hd⟩ : ∃ d, ys[i]? = some d := ⟨_, List.getElem?_eq_getElem (by rw [LY.out, ← HNM.out]; exact hlt)⟩
        obtain ⟨a, rfl, c0, hcs⟩ := HX.out.row hc
        obtain ⟨b, rfl, d0, hds⟩ := HY.out.row hd
        have c1 := hcs 0 (by omega)
        have c2 := hcs 1 (by omega)
        have c3 := hcs 2 (by omega)
        have d1 := hds 0 (by omega)
        have d2 := hds 1 (by omega)
        have d3 := hds 2 (by omega)
        clear hcs hds
        obtain ⟨r, fg, bg, at'⟩ := c
        obtain ⟨r', fg', bg', bt⟩ := d
        simp only [Cell.vals, List.getElem?_cons_zero, List.getElem?_cons_succ] at c0 c1 c2 c3 d0 d1 d2 d3
        have HXC := Lib.hid hc
        have HYD := Lib.hid hd
        clear hc hd
        have hlm : (i : Int) < (m : Int) := by have := HNM.out; omega
        have hln : (i : Int) < (n : Int) := by omega
        rcases cell_cases r r' fg fg' bg bg' at' bt with hq | hq
        · obtain ⟨q1, q2, q3, q4⟩ := hq
          have hab : at' = bt := by rw [Fin.ext_iff]; omega
          subst q1 q2 q3 hab
          have hts : xs.take (i + 1) = ys.take (i + 1) := by rw [List.take_add_one, List.take_add_one, HTK.out, HXC.out, HYD.out]
          have HTS := Lib.hid hts
          clear hts q4
          go_upto_region 6 with fail
          go_quiet (fail)
          go_wp2
          go_roundg (gk - 1)
          case measure => omega
          case rel => exact ⟨i + 1, _, by go_num, by omega, HTS.out, rfl, by omega⟩
        · have hne := cell_ne hq
          have hxy : xs ≠ ys := by
            intro e; subst e
            have := HXC.out.symm.trans HYD.out
            simp only [Option.some.injEq] at this
            exact hne this
          have HXY := Lib.hid hxy
          clear hne hxy
          rcases hq with q1 | ⟨rfl, q2⟩ | ⟨rfl, rfl, q3⟩ | ⟨rfl, rfl, rfl, q4⟩
          all_goals
            go_upto_region 6 with fail
            go_quiet (fail)
            go_wp2
            go_ret
            exact ⟨by show Ending.returned (.bool false) = _; rw [decide_eq_false HXY.out], _, World.drewN_drewN _ _ _⟩
      · have hin : i = n := by omega
        have hxy : xs = ys := by
          have h1 := HTK.out
          rwa [List.take_of_length_le (by rw [LX.out]; omega), List.take_of_length_le (by rw [LY.out, ← HNM.out]; omega)] at h1
        have HXY := Lib.hid hxy
        clear hxy
        go_wp2
        go_ret
        exact ⟨by show Ending.returned (.bool true) = _; rw [decide_eq_true HXY.out], _, rfl⟩
  · have hb : ((n : Int) != (m : Int)) = true := by simp; omega
    have hxy : xs ≠ ys := by intro e; exact hnm (by rw [← LX.out, ← LY.out, e])
    have HXY := Lib.hid hxy
    clear hxy
    go_enter Tryd.func60, Tryd.ntmps60
    go_wp2
    go_ret
    exact ⟨by show Ending.returned (.bool false) = _; rw [decide_eq_false HXY.out], 0, rfl⟩
theorem grid_Same (W : World) (w h w' h' : Int) (A B : Option Addr) (n m ca cb : Nat) (xs ys : List Cell) (hx : ReadsRows W A n 4 Cell.vals xs) (hy : ReadsRows W B m 4 Cell.vals ys) :
    Calls Tryd.prog 30 #[gridV w h A n ca, gridV w' h' B m cb] W fun e W' => e = .returned (.bool (decide (w = w' ∧ h = h' ∧ xs = ys))) ∧ Mods [] W W' := by
  have hM0 := ((Mods.refl [] W).alloc (.cells #[.int .i64 w, .int .i64 h, .slice A n ca] 38)).alloc (.cells #[.int .i64 w', .int .i64 h', .slice B m cb] 38)
  have HX := Lib.hid (hx.keepsM (fun _ => rfl) hM0 (by simp))
  have HY := Lib.hid (hy.keepsM (fun _ => rfl) hM0 (by simp))
  clear hx hy
  by_cases h1 : w = w'
  · by_cases h2 : h = h'
    · subst h1 h2
      go_enter Tryd.func30, Tryd.ntmps30
      go_wp2_with fail
      with_reducible refine (slices_Equal _ _ _ _ _ _ _ _ _ HX.out HY.out).mono ?_
      rintro e w1 ⟨rfl, k, rfl⟩
      go_wp2
      go_ret
      exact ⟨by simp, hM0.drewN _⟩
    · have d : (h == h') = false := by simpa using h2
      have H2 := Lib.hid h2
      clear h2
      subst h1
      go_enter Tryd.func30, Tryd.ntmps30
      go_wp2
      go_ret
      exact ⟨by have := H2.out; simp [this], hM0⟩
  · have d : (w == w') = false := by simpa using h1
    have H1 := Lib.hid h1
    clear h1
    go_enter Tryd.func30, Tryd.ntmps30
    go_wp2
    go_ret
    exact ⟨by have := H1.out; simp [this], hM0⟩
end Go.Proofs.YtldjmacnokkjdaaDoor
