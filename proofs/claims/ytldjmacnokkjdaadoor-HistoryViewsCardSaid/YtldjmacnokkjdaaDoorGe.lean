/- A part of the library on package lyceum: Hs, NeqC, R5, R5M, R5R, R6, R6A, R6N, R6P, R6S. -/
import Derived.Test.YtldjmacnokkjdaaDoorGd
import Derived.Deep.RegionHeld3
import Derived.Test.YtldjmacnokkjdaaDoorGa
import Derived.BigQuiet
import Derived.StillTailTactics
/- An operation of a region, found by its number; for walks in the text's order (written out by hsx.py). -/
namespace Go.Proofs.YtldjmacnokkjdaaDoor
theorem op_at0 {o : Oper} {l : List Oper} : (o :: l).toArray[0]? = some o := by simp
theorem op_atS {x o : Oper} {l : List Oper} {i : Nat} (h : l.toArray[i]? = some o) : (x :: l).toArray[i + 1]? = some o := by simpa using h
end Go.Proofs.YtldjmacnokkjdaaDoor
/- Cells that are compared by '!='. -/
namespace Go.Proofs.YtldjmacnokkjdaaDoor
open Go.RowKit
set_option linter.unusedVariables false
set_option linter.unusedSimpArgs false

theorem run_neq_cell (W : World) (c d : Cell) : (binOp .neq 27 c.val d.val).run Tryd.prog W = .ok (.bool (!decide (c = d))) W := by
  have u1 : Tryd.prog.underlying 27 = some (.struct (Tryd.prog.fieldsOf 27)) := by kernel_rfl
  have u2 : Tryd.prog.stoodInHeld 27 = false := by kernel_rfl
  have u3 : (Tryd.prog.fieldsOf 27).toList = [{ name := "R", type := 21, offset := 0, embedded := false, tag := "", pkgPath := "", byteOffset := 0 }, { name := "Fg", type := 5, offset := 1, embedded := false, tag := "", pkgPath := "", byteOffset := 4 }, { name := "Bg", type := 5, offset := 2, embedded := false, tag := "", pkgPath := "", byteOffset := 5 }, { name := "Attr", type := 5, offset := 3, embedded := false, tag := "", pkgPath := "", byteOffset := 6 }] := by kernel_rfl
  obtain ⟨r, fg, bg, a⟩ := c
  obtain ⟨r', fg', bg', a'⟩ := d
  simp only [Cell.val]
  rw [run_neq_struct, show (10000 : Nat) = 9999 + 1 from rfl, run_equalIn_agg _ _ _ _ _ u1 u2, u3]
  have v1 := Tryd.underlying21
  have v2 := Tryd.underlying5
  simp [go_sem]
  have ha : ((a.val : Int) = (a'.val : Int)) ↔ a = a' := by rw [Fin.ext_iff]; omega
  by_cases h1 : r = r' <;> by_cases h2 : fg = fg' <;> by_cases h3 : bg = bg' <;> by_cases h4 : a = a' <;> simp [h1, h2, h3, h4, ha]

end Go.Proofs.YtldjmacnokkjdaaDoor
/- The document's answers of layer 5: Check, pair, Right, Mend. -/
namespace Go.Proofs.YtldjmacnokkjdaaDoor
open Go.RowKit
set_option linter.unusedVariables false
set_option linter.unusedSimpArgs false

theorem quo64 (a : Fin 256) : ((a.val : Int) / 64 % 2 == 1) = wideA a := by revert a; decide +kernel
theorem quo128 (a : Fin 256) : ((a.val : Int) / 128 == 1) = tailA a := by revert a; decide +kernel
theorem ref5_wide (w : World) (c : Cell) : Calls Tryd.prog 101 #[c.val] w fun e w' => e = .returned (.bool c.wide) ∧ Mods [] w w' := by
  obtain ⟨r, fg, bg, a⟩ := c
  go_enter Tryd.func101, Tryd.ntmps101
  go_wp2
  go_ret
  exact ⟨by show Ending.returned (.bool ((a.val : Int) / 64 % 2 == 1)) = _; rw [quo64]; rfl, (Mods.refl _ _).alloc _⟩
theorem ref5_tail (w : World) (c : Cell) : Calls Tryd.prog 103 #[c.val] w fun e w' => e = .returned (.bool c.tail) ∧ Mods [] w w' := by
  obtain ⟨r, fg, bg, a⟩ := c
  go_enter Tryd.func103, Tryd.ntmps103
  go_wp2
  go_ret
  exact ⟨by show Ending.returned (.bool ((a.val : Int) / 128 == 1)) = _; rw [quo128]; rfl, (Mods.refl _ _).alloc _⟩
set_option maxRecDepth 4000 in
set_option maxHeartbeats 4000000 in
theorem ref5_Check (w : World) (c : Cell) (hb : -2147483648 ≤ c.r ∧ c.r ≤ 2147483647) : Calls Tryd.prog 100 #[c.val] w fun e w' => e = .returned (.bool c.ok) ∧ Mods [] w w' := by
  obtain ⟨r, fg, bg, at'⟩ := c
  obtain ⟨hb1, hb2⟩ := hb
  simp only at hb1 hb2
  have KW : ∀ w, Calls Tryd.prog 101 #[.agg #[.int .i32 r, .int .u8 fg, .int .u8 bg, .int .u8 (at'.val : Int)]] w fun e w' => e = .returned (.bool (wideA at')) ∧ Mods [] w w' := fun w => ref5_wide w ⟨r, fg, bg, at'⟩
  have KT : ∀ w, Calls Tryd.prog 103 #[.agg #[.int .i32 r, .int .u8 fg, .int .u8 bg, .int .u8 (at'.val : Int)]] w fun e w' => e = .returned (.bool (tailA at')) ∧ Mods [] w w' := fun w => ref5_tail w ⟨r, fg, bg, at'⟩
  have HKW := Lib.hid KW
  have HKT := Lib.hid KT
  clear KW KT
  have hok : Cell.ok ⟨r, fg, bg, at'⟩ = if tailA at' then !wideA at' && decide (r = 0) else if wideA at' then decide (width r = 2) else decide (width r = 1) := rfl
  have HOK := Lib.hid hok
  clear hok
  have hX := Mods.refl [] (w.alloc (.cells #[.int .i32 r, .int .u8 fg, .int .u8 bg, .int .u8 (at'.val : Int)] 27))
  have hM := (Mods.refl [] w).alloc (.cells #[.int .i32 r, .int .u8 fg, .int .u8 bg, .int .u8 (at'.val : Int)] 27)
  have HMM := Lib.hid hM
  clear hM
  obtain ⟨wr, hwr⟩ : ∃ k, width r = k := ⟨_, rfl⟩
  have HWR := Lib.hid hwr
  have hws := width_cases r
  rw [hwr] at hws
  clear hwr hX
  cases ht : tailA at' <;> cases hwd : wideA at'
  all_goals
    rw [ht, hwd] at HOK
    rw [ht] at HKT
    rw [hwd] at HKW
    clear ht hwd
    go_enter Tryd.func100, Tryd.ntmps100
    go_wp2_with fail
    refine (ref4_Width _ r hb1 hb2).mono ?_
    rw [HWR.out]
    rintro e w1 ⟨rfl, rfl⟩
    go_wp2_with fail
    refine (HKT.out _).mono ?_
    rintro e w2 ⟨rfl, hm2⟩
    have C := kept_cells hm2
  · rcases hws with rfl | rfl | rfl
    · go_wp2
      go_ret
      exact ⟨by rw [HOK.out, HWR.out]; rfl, HMM.out.trans hm2⟩
    · go_wp2_with fail
      refine (HKW.out _).mono ?_
      rintro e w3 ⟨rfl, hm3⟩
      clear C
      go_wp2
      go_ret
      exact ⟨by rw [HOK.out, HWR.out]; rfl, HMM.out.trans (hm2.trans hm3)⟩
    · go_wp2_with fail
      refine (HKW.out _).mono ?_
      rintro e w3 ⟨rfl, hm3⟩
      clear C
      go_wp2
      go_ret
      exact ⟨by rw [HOK.out, HWR.out]; rfl, HMM.out.trans (hm2.trans hm3)⟩
  · rcases hws with rfl | rfl | rfl
    · go_wp2
      go_ret
      exact ⟨by rw [HOK.out, HWR.out]; rfl, HMM.out.trans hm2⟩
    · go_wp2_with fail
      refine (HKW.out _).mono ?_
      rintro e w3 ⟨rfl, hm3⟩
      clear C
      go_wp2
      go_ret
      exact ⟨by rw [HOK.out, HWR.out]; rfl, HMM.out.trans (hm2.trans hm3)⟩
    · go_wp2_with fail
      refine (HKW.out _).mono ?_
      rintro e w3 ⟨rfl, hm3⟩
      clear C
      go_wp2
      go_ret
      exact ⟨by rw [HOK.out, HWR.out]; rfl, HMM.out.trans (hm2.trans hm3)⟩
  · go_wp2_with fail
    refine (HKW.out _).mono ?_
    rintro e w3 ⟨rfl, hm3⟩
    clear C
    have C := kept_cells (hm2.trans hm3)
    go_wp2
    go_ret
    exact ⟨by rw [HOK.out]; by_cases hr0 : r = 0 <;> simp [hr0], HMM.out.trans (hm2.trans hm3)⟩
  · go_wp2_with fail
    refine (HKW.out _).mono ?_
    rintro e w3 ⟨rfl, hm3⟩
    clear C
    go_wp2
    go_ret
    exact ⟨by rw [HOK.out]; rfl, HMM.out.trans (hm2.trans hm3)⟩
def pairC (row : List Cell) (i : Nat) : Bool :=
  match row[i]?, row[i + 1]? with
  | some c, some d => c.ok && c.wide && decide (d = c.behind)
  | _, _ => false
theorem ref5_pair_neg (w : World) (A : Option Addr) (n cap : Nat) : Calls Tryd.prog 102 #[.slice A n cap, .int .i64 (-1)] w fun e w' => e = .returned (.bool false) ∧ Mods [] w w' := by
  go_enter Tryd.func102, Tryd.ntmps102
  go_upto_region 1 with fail
  go_quiet (fail)
  go_wp2
  go_ret
  exact ⟨rfl, (Mods.refl _ _).drewN _⟩
set_option maxRecDepth 4000 in
set_option maxHeartbeats 4000000 in
theorem ref5_pair (w : World) (A : Option Addr) (n cap i : Nat) (row : List Cell) (h : ReadsRows w A n 4 Cell.vals row) (hi : i < n) (hb : ∀ c ∈ row, -2147483648 ≤ c.r ∧ c.r ≤ 2147483647) :
    Calls Tryd.prog 102 #[.slice A n cap, .int .i64 (i : Int)] w fun e w' => e = .returned (.bool (pairC row i)) ∧ Mods [] w w' := by
  have hn := h.2.1
  unfold maxLen at hn
  have hl := h.1
  obtain ⟨c, hc⟩ : ∃ c, row[i]? = some c := ⟨_, List.getElem?_eq_getElem (by rw [hl]; exact hi)⟩
  have e1 : IntKind.i64.wrap ((i : Int) + 1) = (i : Int) + 1 := IntWalk.i64_in _ (by omega)
  have e2 : ((i : Int) + 1).toNat = i + 1 := by omega
  have e3 : (0 : Int) ≤ (i : Int) + 1 := by omega
  have g0 : decide ((i : Int) ≥ 0) = true := by simp
  by_cases h1 : i + 1 < n
  · obtain ⟨d, hd⟩ : ∃ d, row[i + 1]? = some d := ⟨_, List.getElem?_eq_getElem (by rw [hl]; exact h1)⟩
    have hp : pairC row i = (c.ok && c.wide && decide (d = c.behind)) := by unfold pairC; rw [hc, hd]
    obtain ⟨a, rfl, c0, hcs⟩ := h.row hc
    obtain ⟨a', ha', d0, hds⟩ := h.row hd
    cases ha'
    have c1 := hcs 0 (by omega)
    have c2 := hcs 1 (by omega)
    have c3 := hcs 2 (by omega)
    have d1 := hds 0 (by omega)
    have d2 := hds 1 (by omega)
    have d3 := hds 2 (by omega)
    have hbc := hb c (List.mem_of_getElem? hc)
    have HP := Lib.hid hp
    clear hcs hds h hl hc hd hb hp
    have K0 : ∀ w, Calls Tryd.prog 100 #[c.val] w fun e w' => e = .returned (.bool c.ok) ∧ Mods [] w w' := fun w => ref5_Check w c hbc
    have W0 : ∀ w, Calls Tryd.prog 101 #[c.val] w fun e w' => e = .returned (.bool c.wide) ∧ Mods [] w w' := fun w => ref5_wide w c
    have B0 : ∀ w, Calls Tryd.prog 69 #[c.val] w fun e w' => e = .returned c.behind.val ∧ Mods [] w w' := fun w => ref5_Tail w c
    have K1 := Lib.hid K0
    have W1 := Lib.hid W0
    have B1 := Lib.hid B0
    clear K0 W0 B0 hbc
    obtain ⟨r, fg, bg, at'⟩ := c
    obtain ⟨dr, df, db, da⟩ := d
    simp only [Cell.vals, List.getElem?_cons_zero, List.getElem?_cons_succ] at c0 c1 c2 c3 d0 d1 d2 d3
    simp only [Cell.behind, Cell.val] at K1 W1 B1
    have e4 : (i : Int) + 1 < (n : Int) := by omega
    have i1 : (i : Int) < (n : Int) := by omega
    have KA : ∀ X, Mods [] w X → ((X.cell? (a.add (i * (3 + 1))) = some (.int .i32 r) ∧ X.cell? ⟨(a.add (i * (3 + 1))).block, (a.add (i * (3 + 1))).off + (0 + 1), none⟩ = some (.int .u8 fg) ∧ X.cell? ⟨(a.add (i * (3 + 1))).block, (a.add (i * (3 + 1))).off + (1 + 1), none⟩ = some (.int .u8 bg) ∧ X.cell? ⟨(a.add (i * (3 + 1))).block, (a.add (i * (3 + 1))).off + (2 + 1), none⟩ = some (.int .u8 (at'.val : Int))) ∧
        X.cell? (a.add ((i + 1) * (3 + 1))) = some (.int .i32 dr) ∧ X.cell? ⟨(a.add ((i + 1) * (3 + 1))).block, (a.add ((i + 1) * (3 + 1))).off + (0 + 1), none⟩ = some (.int .u8 df) ∧ X.cell? ⟨(a.add ((i + 1) * (3 + 1))).block, (a.add ((i + 1) * (3 + 1))).off + (1 + 1), none⟩ = some (.int .u8 db) ∧ X.cell? ⟨(a.add ((i + 1) * (3 + 1))).block, (a.add ((i + 1) * (3 + 1))).off + (2 + 1), none⟩ = some (.int .u8 (da.val : Int))) := fun X hm => ⟨⟨hm.cell c0 (by simp), hm.cell c1 (by simp), hm.cell c2 (by simp), hm.cell c3 (by simp)⟩, hm.cell d0 (by simp), hm.cell d1 (by simp), hm.cell d2 (by simp), hm.cell d3 (by simp)⟩
    have KA0 := KA _ (Mods.refl [] w)
    have hMW : Hid (Mods [] w w) := Lib.hid (Mods.refl [] w)
    clear c0 c1 c2 c3 d0 d1 d2 d3
    have hcase : (dr = 0 ∧ df = fg ∧ db = bg ∧ da = tailOf at') ∨ dr ≠ 0 ∨ (dr = 0 ∧ df ≠ fg) ∨ (dr = 0 ∧ df = fg ∧ db ≠ bg) ∨ (dr = 0 ∧ df = fg ∧ db = bg ∧ da ≠ tailOf at') := by
      by_cases q1 : dr = 0 <;> by_cases q2 : df = fg <;> by_cases q3 : db = bg <;> by_cases q4 : da = tailOf at' <;> simp [q1, q2, q3, q4]
    have hfin : ((da.val : Int) = ((tailOf at').val : Int)) ↔ da = tailOf at' := by rw [Fin.ext_iff]; omega
    cases hk : Cell.ok ⟨r, fg, bg, at'⟩ <;> cases hw : Cell.wide ⟨r, fg, bg, at'⟩
    all_goals
      rw [hk, hw] at HP
      rw [hk] at K1
      rw [hw] at W1
      clear hk hw
    · clear hcase hfin
      go_enter Tryd.func102, Tryd.ntmps102
      go_upto_region 1 with fail
      refine wp_region_held_drew (S := (fun X => (X.cell? (a.add (i * (3 + 1))) = some (.int .i32 r) ∧ X.cell? ⟨(a.add (i * (3 + 1))).block, (a.add (i * (3 + 1))).off + (0 + 1), none⟩ = some (.int .u8 fg) ∧ X.cell? ⟨(a.add (i * (3 + 1))).block, (a.add (i * (3 + 1))).off + (1 + 1), none⟩ = some (.int .u8 bg) ∧ X.cell? ⟨(a.add (i * (3 + 1))).block, (a.add (i * (3 + 1))).off + (2 + 1), none⟩ = some (.int .u8 (at'.val : Int))) ∧ X.cell? (a.add ((i + 1) * (3 + 1))) = some (.int .i32 dr) ∧ X.cell? ⟨(a.add ((i + 1) * (3 + 1))).block, (a.add ((i + 1) * (3 + 1))).off + (0 + 1), none⟩ = some (.int .u8 df) ∧ X.cell? ⟨(a.add ((i + 1) * (3 + 1))).block, (a.add ((i + 1) * (3 + 1))).off + (1 + 1), none⟩ = some (.int .u8 db) ∧ X.cell? ⟨(a.add ((i + 1) * (3 + 1))).block, (a.add ((i + 1) * (3 + 1))).off + (2 + 1), none⟩ = some (.int .u8 (da.val : Int)))) (by kernel_rfl) ?_ (fun hHeld => ?_)
      focus ((try dsimp only); with_reducible exact KA _ hMW.out.drew)
      refine wpAnyH_take (i := 0) (v := ?_) op_at0 (by kernel_rfl) (by kernel_rfl) (by kernel_rfl) (fun _ _ _ h => h) (Or.inl ⟨by rfl, ?_⟩) (by assumption) ?_
      rotate_left
      focus ((intro w hSw; (try dsimp only at hSw); go_simp) <;> with_reducible rfl)
      all_goals skip
      try simp only [Act.put, List.setIfInBounds_toArray, List.set_cons_zero, List.set_cons_succ]
      refine wpAnyH_take (i := 1) (v := ?_) (op_atS op_at0) (by kernel_rfl) (by kernel_rfl) (by kernel_rfl) (fun _ _ _ h => h) (Or.inl ⟨by rfl, ?_⟩) (by assumption) ?_
      rotate_left
      focus ((intro w hSw; (try dsimp only at hSw); go_simp) <;> with_reducible rfl)
      all_goals skip
      try simp only [Act.put, List.setIfInBounds_toArray, List.set_cons_zero, List.set_cons_succ]
      refine wpAnyH_take (i := 2) (v := ?_) (op_atS (op_atS op_at0)) (by kernel_rfl) (by kernel_rfl) (by kernel_rfl) (fun _ _ _ h => h) (Or.inl ⟨by rfl, ?_⟩) (by assumption) ?_
      rotate_left
      focus ((intro w hSw; (try dsimp only at hSw); go_simp) <;> with_reducible rfl)
      all_goals skip
      try simp only [Act.put, List.setIfInBounds_toArray, List.set_cons_zero, List.set_cons_succ]
      refine wpAnyH_take (i := 3) (v := ?_) (op_atS (op_atS (op_atS op_at0))) (by kernel_rfl) (by kernel_rfl) (by kernel_rfl) (fun _ _ _ h => h) (Or.inl ⟨by rfl, ?_⟩) (by assumption) ?_
      rotate_left
      focus ((intro w hSw; (try dsimp only at hSw); go_simp) <;> with_reducible rfl)
      all_goals skip
      try simp only [Act.put, List.setIfInBounds_toArray, List.set_cons_zero, List.set_cons_succ]
      refine wpAnyH_take (i := 4) (v := ?_) (op_atS (op_atS (op_atS (op_atS op_at0)))) (by kernel_rfl) (by kernel_rfl) (by kernel_rfl) (fun _ _ _ h => h) (Or.inl ⟨by rfl, ?_⟩) (by assumption) ?_
      rotate_left
      focus ((intro w hSw; (try dsimp only at hSw); go_simp) <;> with_reducible rfl)
      all_goals skip
      try simp only [Act.put, List.setIfInBounds_toArray, List.set_cons_zero, List.set_cons_succ]
      refine wpAnyH_take (i := 5) (v := ?_) (op_atS (op_atS (op_atS (op_atS (op_atS op_at0))))) (by kernel_rfl) (by kernel_rfl) (by kernel_rfl) (fun _ _ _ h => h) (Or.inl ⟨by rfl, ?_⟩) (by assumption) ?_
      rotate_left
      focus ((intro w hSw; (try dsimp only at hSw); go_simp) <;> with_reducible rfl)
      all_goals skip
      try simp only [Act.put, List.setIfInBounds_toArray, List.set_cons_zero, List.set_cons_succ]
      refine wpAnyH_take (i := 6) (v := ?_) (op_atS (op_atS (op_atS (op_atS (op_atS (op_atS op_at0)))))) (by kernel_rfl) (by kernel_rfl) (by kernel_rfl) (fun _ _ _ h => h) (Or.inl ⟨by rfl, ?_⟩) (by assumption) ?_
      rotate_left
      focus ((intro w hSw; (try dsimp only at hSw); go_simp) <;> with_reducible rfl)
      all_goals skip
      try simp only [Act.put, List.setIfInBounds_toArray, List.set_cons_zero, List.set_cons_succ]
      refine wpAnyH_take (i := 7) (v := ?_) (op_atS (op_atS (op_atS (op_atS (op_atS (op_atS (op_atS op_at0))))))) (by kernel_rfl) (by kernel_rfl) (by kernel_rfl) (fun _ _ _ h => h) (Or.inl ⟨by rfl, ?_⟩) (by assumption) ?_
      rotate_left
      focus ((intro w hSw; (try dsimp only at hSw); go_simp) <;> with_reducible rfl)
      all_goals skip
      try simp only [Act.put, List.setIfInBounds_toArray, List.set_cons_zero, List.set_cons_succ]
      refine wpAnyH_take (i := 8) (v := ?_) (op_atS (op_atS (op_atS (op_atS (op_atS (op_atS (op_atS (op_atS op_at0)))))))) (by kernel_rfl) (by kernel_rfl) (by kernel_rfl) (fun _ _ _ h => h) (Or.inl ⟨by rfl, ?_⟩) (by assumption) ?_
      rotate_left
      focus ((intro w hSw; (try dsimp only at hSw); go_simp) <;> with_reducible rfl)
      all_goals skip
      try simp only [Act.put, List.setIfInBounds_toArray, List.set_cons_zero, List.set_cons_succ]
      refine wpAnyH_take (i := 9) (v := ?_) (op_atS (op_atS (op_atS (op_atS (op_atS (op_atS (op_atS (op_atS (op_atS op_at0))))))))) (by kernel_rfl) (by kernel_rfl) (by kernel_rfl) (fun _ _ _ h => h) (Or.inl ⟨by rfl, ?_⟩) (by assumption) ?_
      rotate_left
      focus ((intro w hSw; (try dsimp only at hSw); go_simp) <;> with_reducible rfl)
      all_goals skip
      try simp only [Act.put, List.setIfInBounds_toArray, List.set_cons_zero, List.set_cons_succ]
      refine wpAnyH_take (i := 10) (v := ?_) (op_atS (op_atS (op_atS (op_atS (op_atS (op_atS (op_atS (op_atS (op_atS (op_atS op_at0)))))))))) (by kernel_rfl) (by kernel_rfl) (by kernel_rfl) (fun _ _ _ h => h) (Or.inl ⟨by rfl, ?_⟩) (by assumption) ?_
      rotate_left
      focus ((intro w hSw; (try dsimp only at hSw); go_simp) <;> with_reducible rfl)
      all_goals skip
      try simp only [Act.put, List.setIfInBounds_toArray, List.set_cons_zero, List.set_cons_succ]
      refine wpAnyH_take (i := 11) (v := ?_) (op_atS (op_atS (op_atS (op_atS (op_atS (op_atS (op_atS (op_atS (op_atS (op_atS (op_atS op_at0))))))))))) (by kernel_rfl) (by kernel_rfl) (by kernel_rfl) (fun _ _ _ h => h) (Or.inl ⟨by rfl, ?_⟩) (by assumption) ?_
      rotate_left
      focus ((intro w hSw; (try dsimp only at hSw); go_simp) <;> with_reducible rfl)
      all_goals skip
      try simp only [Act.put, List.setIfInBounds_toArray, List.set_cons_zero, List.set_cons_succ]
      refine wpAnyH_take (i := 12) (v := ?_) (op_atS (op_atS (op_atS (op_atS (op_atS (op_atS (op_atS (op_atS (op_atS (op_atS (op_atS (op_atS op_at0)))))))))))) (by kernel_rfl) (by kernel_rfl) (by kernel_rfl) (fun _ _ _ h => h) (Or.inl ⟨by rfl, ?_⟩) (by assumption) ?_
      rotate_left
      focus ((intro w hSw; (try dsimp only at hSw); go_simp) <;> with_reducible rfl)
      all_goals skip
      try simp only [Act.put, List.setIfInBounds_toArray, List.set_cons_zero, List.set_cons_succ]
      refine wpAnyH_take (i := 13) (v := ?_) (op_atS (op_atS (op_atS (op_atS (op_atS (op_atS (op_atS (op_atS (op_atS (op_atS (op_atS (op_atS (op_atS op_at0))))))))))))) (by kernel_rfl) (by kernel_rfl) (by kernel_rfl) (fun _ _ _ h => h) (Or.inl ⟨by rfl, ?_⟩) (by assumption) ?_
      rotate_left
      focus ((intro w hSw; (try dsimp only at hSw); go_simp) <;> with_reducible rfl)
      all_goals skip
      try simp only [Act.put, List.setIfInBounds_toArray, List.set_cons_zero, List.set_cons_succ]
      refine wpAnyH_ready (rs := [14]) (by kernel_rfl) (by simp) ?_
      refine AllReadyH.cons (op_atS (op_atS (op_atS (op_atS (op_atS (op_atS (op_atS (op_atS (op_atS (op_atS (op_atS (op_atS (op_atS (op_atS op_at0)))))))))))))) (fun K hK => ?_) AllReadyH.nil
      go_simp
      ((go_at_call 100; refine (K1.out _).mono ?_; rintro e w1 ⟨rfl, hm1⟩; have hmA : Mods [] w w1 := hMW.out.drew.trans hm1))
      try go_wp2_with fail
      refine hK.out _ _ ?_ (fun hHeld2 => ?_)
      focus ((try dsimp only); with_reducible exact KA _ hmA)
      clear hK K hHeld
      have hHeld := hHeld2
      clear hHeld2
      try simp only [Act.put, List.setIfInBounds_toArray, List.set_cons_zero, List.set_cons_succ]
      refine wpAnyH_take (i := 15) (v := ?_) (op_atS (op_atS (op_atS (op_atS (op_atS (op_atS (op_atS (op_atS (op_atS (op_atS (op_atS (op_atS (op_atS (op_atS (op_atS op_at0))))))))))))))) (by kernel_rfl) (by kernel_rfl) (by kernel_rfl) (fun _ _ _ h => h) (Or.inl ⟨by rfl, ?_⟩) (by assumption) ?_
      rotate_left
      focus ((intro w hSw; (try dsimp only at hSw); go_simp) <;> with_reducible rfl)
      all_goals skip
      try simp only [Act.put, List.setIfInBounds_toArray, List.set_cons_zero, List.set_cons_succ]
      refine wpAnyH_take (i := 16) (v := ?_) (op_atS (op_atS (op_atS (op_atS (op_atS (op_atS (op_atS (op_atS (op_atS (op_atS (op_atS (op_atS (op_atS (op_atS (op_atS (op_atS op_at0)))))))))))))))) (by kernel_rfl) (by kernel_rfl) (by kernel_rfl) (fun _ _ _ h => h) (Or.inl ⟨by rfl, ?_⟩) (by assumption) ?_
      rotate_left
      focus ((intro w hSw; (try dsimp only at hSw); go_simp) <;> with_reducible rfl)
      all_goals skip
      try simp only [Act.put, List.setIfInBounds_toArray, List.set_cons_zero, List.set_cons_succ]
      refine wpAnyH_take (i := 17) (v := undef) (op_atS (op_atS (op_atS (op_atS (op_atS (op_atS (op_atS (op_atS (op_atS (op_atS (op_atS (op_atS (op_atS (op_atS (op_atS (op_atS (op_atS op_at0))))))))))))))))) (by kernel_rfl) (by kernel_rfl) (by kernel_rfl) (fun _ _ _ h => h) (Or.inr ⟨by rfl, rfl⟩) (by assumption) ?_
      try simp only [Act.put, List.setIfInBounds_toArray, List.set_cons_zero, List.set_cons_succ]
      refine wpAnyH_take (i := 18) (v := undef) (op_atS (op_atS (op_atS (op_atS (op_atS (op_atS (op_atS (op_atS (op_atS (op_atS (op_atS (op_atS (op_atS (op_atS (op_atS (op_atS (op_atS (op_atS op_at0)))))))))))))))))) (by kernel_rfl) (by kernel_rfl) (by kernel_rfl) (fun _ _ _ h => h) (Or.inr ⟨by rfl, rfl⟩) (by assumption) ?_
      try simp only [Act.put, List.setIfInBounds_toArray, List.set_cons_zero, List.set_cons_succ]
      refine wpAnyH_take (i := 19) (v := undef) (op_atS (op_atS (op_atS (op_atS (op_atS (op_atS (op_atS (op_atS (op_atS (op_atS (op_atS (op_atS (op_atS (op_atS (op_atS (op_atS (op_atS (op_atS (op_atS op_at0))))))))))))))))))) (by kernel_rfl) (by kernel_rfl) (by kernel_rfl) (fun _ _ _ h => h) (Or.inr ⟨by rfl, rfl⟩) (by assumption) ?_
      try simp only [Act.put, List.setIfInBounds_toArray, List.set_cons_zero, List.set_cons_succ]
      refine wpAnyH_take (i := 20) (v := undef) (op_atS (op_atS (op_atS (op_atS (op_atS (op_atS (op_atS (op_atS (op_atS (op_atS (op_atS (op_atS (op_atS (op_atS (op_atS (op_atS (op_atS (op_atS (op_atS (op_atS op_at0)))))))))))))))))))) (by kernel_rfl) (by kernel_rfl) (by kernel_rfl) (fun _ _ _ h => h) (Or.inr ⟨by rfl, rfl⟩) (by assumption) ?_
      try simp only [Act.put, List.setIfInBounds_toArray, List.set_cons_zero, List.set_cons_succ]
      refine wpAnyH_take (i := 21) (v := undef) (op_atS (op_atS (op_atS (op_atS (op_atS (op_atS (op_atS (op_atS (op_atS (op_atS (op_atS (op_atS (op_atS (op_atS (op_atS (op_atS (op_atS (op_atS (op_atS (op_atS (op_atS op_at0))))))))))))))))))))) (by kernel_rfl) (by kernel_rfl) (by kernel_rfl) (fun _ _ _ h => h) (Or.inr ⟨by rfl, rfl⟩) (by assumption) ?_
      try simp only [Act.put, List.setIfInBounds_toArray, List.set_cons_zero, List.set_cons_succ]
      refine wpAnyH_take (i := 22) (v := ?_) (op_atS (op_atS (op_atS (op_atS (op_atS (op_atS (op_atS (op_atS (op_atS (op_atS (op_atS (op_atS (op_atS (op_atS (op_atS (op_atS (op_atS (op_atS (op_atS (op_atS (op_atS (op_atS op_at0)))))))))))))))))))))) (by kernel_rfl) (by kernel_rfl) (by kernel_rfl) (fun _ _ _ h => h) (Or.inl ⟨by rfl, ?_⟩) (by assumption) ?_
      rotate_left
      focus ((intro w hSw; (try dsimp only at hSw); go_simp) <;> with_reducible rfl)
      all_goals skip
      try simp only [Act.put, List.setIfInBounds_toArray, List.set_cons_zero, List.set_cons_succ]
      refine wpAnyH_take (i := 23) (v := ?_) (op_atS (op_atS (op_atS (op_atS (op_atS (op_atS (op_atS (op_atS (op_atS (op_atS (op_atS (op_atS (op_atS (op_atS (op_atS (op_atS (op_atS (op_atS (op_atS (op_atS (op_atS (op_atS (op_atS op_at0))))))))))))))))))))))) (by kernel_rfl) (by kernel_rfl) (by kernel_rfl) (fun _ _ _ h => h) (Or.inl ⟨by rfl, ?_⟩) (by assumption) ?_
      rotate_left
      focus ((intro w hSw; (try dsimp only at hSw); go_simp) <;> with_reducible rfl)
      all_goals skip
      try simp only [Act.put, List.setIfInBounds_toArray, List.set_cons_zero, List.set_cons_succ]
      refine wpAnyH_take (i := 24) (v := undef) (op_atS (op_atS (op_atS (op_atS (op_atS (op_atS (op_atS (op_atS (op_atS (op_atS (op_atS (op_atS (op_atS (op_atS (op_atS (op_atS (op_atS (op_atS (op_atS (op_atS (op_atS (op_atS (op_atS (op_atS op_at0)))))))))))))))))))))))) (by kernel_rfl) (by kernel_rfl) (by kernel_rfl) (fun _ _ _ h => h) (Or.inr ⟨by rfl, rfl⟩) (by assumption) ?_
      try simp only [Act.put, List.setIfInBounds_toArray, List.set_cons_zero, List.set_cons_succ]
      refine wpAnyH_take (i := 25) (v := undef) (op_atS (op_atS (op_atS (op_atS (op_atS (op_atS (op_atS (op_atS (op_atS (op_atS (op_atS (op_atS (op_atS (op_atS (op_atS (op_atS (op_atS (op_atS (op_atS (op_atS (op_atS (op_atS (op_atS (op_atS (op_atS op_at0))))))))))))))))))))))))) (by kernel_rfl) (by kernel_rfl) (by kernel_rfl) (fun _ _ _ h => h) (Or.inr ⟨by rfl, rfl⟩) (by assumption) ?_
      try simp only [Act.put, List.setIfInBounds_toArray, List.set_cons_zero, List.set_cons_succ]
      refine wpAnyH_take (i := 26) (v := undef) (op_atS (op_atS (op_atS (op_atS (op_atS (op_atS (op_atS (op_atS (op_atS (op_atS (op_atS (op_atS (op_atS (op_atS (op_atS (op_atS (op_atS (op_atS (op_atS (op_atS (op_atS (op_atS (op_atS (op_atS (op_atS (op_atS op_at0)))))))))))))))))))))))))) (by kernel_rfl) (by kernel_rfl) (by kernel_rfl) (fun _ _ _ h => h) (Or.inr ⟨by rfl, rfl⟩) (by assumption) ?_
      try simp only [Act.put, List.setIfInBounds_toArray, List.set_cons_zero, List.set_cons_succ]
      refine wpAnyH_take (i := 27) (v := undef) (op_atS (op_atS (op_atS (op_atS (op_atS (op_atS (op_atS (op_atS (op_atS (op_atS (op_atS (op_atS (op_atS (op_atS (op_atS (op_atS (op_atS (op_atS (op_atS (op_atS (op_atS (op_atS (op_atS (op_atS (op_atS (op_atS (op_atS op_at0))))))))))))))))))))))))))) (by kernel_rfl) (by kernel_rfl) (by kernel_rfl) (fun _ _ _ h => h) (Or.inr ⟨by rfl, rfl⟩) (by assumption) ?_
      try simp only [Act.put, List.setIfInBounds_toArray, List.set_cons_zero, List.set_cons_succ]
      refine wpAnyH_take (i := 28) (v := undef) (op_atS (op_atS (op_atS (op_atS (op_atS (op_atS (op_atS (op_atS (op_atS (op_atS (op_atS (op_atS (op_atS (op_atS (op_atS (op_atS (op_atS (op_atS (op_atS (op_atS (op_atS (op_atS (op_atS (op_atS (op_atS (op_atS (op_atS (op_atS op_at0)))))))))))))))))))))))))))) (by kernel_rfl) (by kernel_rfl) (by kernel_rfl) (fun _ _ _ h => h) (Or.inr ⟨by rfl, rfl⟩) (by assumption) ?_
      try simp only [Act.put, List.setIfInBounds_toArray, List.set_cons_zero, List.set_cons_succ]
      refine wpAnyH_take (i := 29) (v := undef) (op_atS (op_atS (op_atS (op_atS (op_atS (op_atS (op_atS (op_atS (op_atS (op_atS (op_atS (op_atS (op_atS (op_atS (op_atS (op_atS (op_atS (op_atS (op_atS (op_atS (op_atS (op_atS (op_atS (op_atS (op_atS (op_atS (op_atS (op_atS (op_atS op_at0))))))))))))))))))))))))))))) (by kernel_rfl) (by kernel_rfl) (by kernel_rfl) (fun _ _ _ h => h) (Or.inr ⟨by rfl, rfl⟩) (by assumption) ?_
      try simp only [Act.put, List.setIfInBounds_toArray, List.set_cons_zero, List.set_cons_succ]
      refine wpAnyH_take (i := 30) (v := undef) (op_atS (op_atS (op_atS (op_atS (op_atS (op_atS (op_atS (op_atS (op_atS (op_atS (op_atS (op_atS (op_atS (op_atS (op_atS (op_atS (op_atS (op_atS (op_atS (op_atS (op_atS (op_atS (op_atS (op_atS (op_atS (op_atS (op_atS (op_atS (op_atS (op_atS op_at0)))))))))))))))))))))))))))))) (by kernel_rfl) (by kernel_rfl) (by kernel_rfl) (fun _ _ _ h => h) (Or.inr ⟨by rfl, rfl⟩) (by assumption) ?_
      try simp only [Act.put, List.setIfInBounds_toArray, List.set_cons_zero, List.set_cons_succ]
      refine wpAnyH_take (i := 31) (v := undef) (op_atS (op_atS (op_atS (op_atS (op_atS (op_atS (op_atS (op_atS (op_atS (op_atS (op_atS (op_atS (op_atS (op_atS (op_atS (op_atS (op_atS (op_atS (op_atS (op_atS (op_atS (op_atS (op_atS (op_atS (op_atS (op_atS (op_atS (op_atS (op_atS (op_atS (op_atS op_at0))))))))))))))))))))))))))))))) (by kernel_rfl) (by kernel_rfl) (by kernel_rfl) (fun _ _ _ h => h) (Or.inr ⟨by rfl, rfl⟩) (by assumption) ?_
      try simp only [Act.put, List.setIfInBounds_toArray, List.set_cons_zero, List.set_cons_succ]
      refine wpAnyH_take (i := 32) (v := undef) (op_atS (op_atS (op_atS (op_atS (op_atS (op_atS (op_atS (op_atS (op_atS (op_atS (op_atS (op_atS (op_atS (op_atS (op_atS (op_atS (op_atS (op_atS (op_atS (op_atS (op_atS (op_atS (op_atS (op_atS (op_atS (op_atS (op_atS (op_atS (op_atS (op_atS (op_atS (op_atS op_at0)))))))))))))))))))))))))))))))) (by kernel_rfl) (by kernel_rfl) (by kernel_rfl) (fun _ _ _ h => h) (Or.inr ⟨by rfl, rfl⟩) (by assumption) ?_
      try simp only [Act.put, List.setIfInBounds_toArray, List.set_cons_zero, List.set_cons_succ]
      refine wpAnyH_take (i := 33) (v := undef) (op_atS (op_atS (op_atS (op_atS (op_atS (op_atS (op_atS (op_atS (op_atS (op_atS (op_atS (op_atS (op_atS (op_atS (op_atS (op_atS (op_atS (op_atS (op_atS (op_atS (op_atS (op_atS (op_atS (op_atS (op_atS (op_atS (op_atS (op_atS (op_atS (op_atS (op_atS (op_atS (op_atS op_at0))))))))))))))))))))))))))))))))) (by kernel_rfl) (by kernel_rfl) (by kernel_rfl) (fun _ _ _ h => h) (Or.inr ⟨by rfl, rfl⟩) (by assumption) ?_
      try simp only [Act.put, List.setIfInBounds_toArray, List.set_cons_zero, List.set_cons_succ]
      refine wpAnyH_take (i := 34) (v := undef) (op_atS (op_atS (op_atS (op_atS (op_atS (op_atS (op_atS (op_atS (op_atS (op_atS (op_atS (op_atS (op_atS (op_atS (op_atS (op_atS (op_atS (op_atS (op_atS (op_atS (op_atS (op_atS (op_atS (op_atS (op_atS (op_atS (op_atS (op_atS (op_atS (op_atS (op_atS (op_atS (op_atS (op_atS op_at0)))))))))))))))))))))))))))))))))) (by kernel_rfl) (by kernel_rfl) (by kernel_rfl) (fun _ _ _ h => h) (Or.inr ⟨by rfl, rfl⟩) (by assumption) ?_
      try simp only [Act.put, List.setIfInBounds_toArray, List.set_cons_zero, List.set_cons_succ]
      refine wpAnyH_take (i := 35) (v := ?_) (op_atS (op_atS (op_atS (op_atS (op_atS (op_atS (op_atS (op_atS (op_atS (op_atS (op_atS (op_atS (op_atS (op_atS (op_atS (op_atS (op_atS (op_atS (op_atS (op_atS (op_atS (op_atS (op_atS (op_atS (op_atS (op_atS (op_atS (op_atS (op_atS (op_atS (op_atS (op_atS (op_atS (op_atS (op_atS op_at0))))))))))))))))))))))))))))))))))) (by kernel_rfl) (by kernel_rfl) (by kernel_rfl) (fun _ _ _ h => h) (Or.inl ⟨by rfl, ?_⟩) (by assumption) ?_
      rotate_left
      focus ((intro w hSw; (try dsimp only at hSw); go_simp) <;> with_reducible rfl)
      all_goals skip
      try simp only [Act.put, List.setIfInBounds_toArray, List.set_cons_zero, List.set_cons_succ]
      refine wpAnyH_take (i := 36) (v := ?_) (op_atS (op_atS (op_atS (op_atS (op_atS (op_atS (op_atS (op_atS (op_atS (op_atS (op_atS (op_atS (op_atS (op_atS (op_atS (op_atS (op_atS (op_atS (op_atS (op_atS (op_atS (op_atS (op_atS (op_atS (op_atS (op_atS (op_atS (op_atS (op_atS (op_atS (op_atS (op_atS (op_atS (op_atS (op_atS (op_atS op_at0)))))))))))))))))))))))))))))))))))) (by kernel_rfl) (by kernel_rfl) (by kernel_rfl) (fun _ _ _ h => h) (Or.inl ⟨by rfl, ?_⟩) (by assumption) ?_
      rotate_left
      focus ((intro w hSw; (try dsimp only at hSw); go_simp) <;> with_reducible rfl)
      all_goals skip
      try simp only [Act.put, List.setIfInBounds_toArray, List.set_cons_zero, List.set_cons_succ]
      refine wpAnyH_done (by kernel_rfl) ?_ _
      go_wp2
      go_ret
      exact ⟨by rw [HP.out]; rfl, hmA⟩
    · clear hcase hfin
      go_enter Tryd.func102, Tryd.ntmps102
      go_upto_region 1 with fail
      refine wp_region_held_drew (S := (fun X => (X.cell? (a.add (i * (3 + 1))) = some (.int .i32 r) ∧ X.cell? ⟨(a.add (i * (3 + 1))).block, (a.add (i * (3 + 1))).off + (0 + 1), none⟩ = some (.int .u8 fg) ∧ X.cell? ⟨(a.add (i * (3 + 1))).block, (a.add (i * (3 + 1))).off + (1 + 1), none⟩ = some (.int .u8 bg) ∧ X.cell? ⟨(a.add (i * (3 + 1))).block, (a.add (i * (3 + 1))).off + (2 + 1), none⟩ = some (.int .u8 (at'.val : Int))) ∧ X.cell? (a.add ((i + 1) * (3 + 1))) = some (.int .i32 dr) ∧ X.cell? ⟨(a.add ((i + 1) * (3 + 1))).block, (a.add ((i + 1) * (3 + 1))).off + (0 + 1), none⟩ = some (.int .u8 df) ∧ X.cell? ⟨(a.add ((i + 1) * (3 + 1))).block, (a.add ((i + 1) * (3 + 1))).off + (1 + 1), none⟩ = some (.int .u8 db) ∧ X.cell? ⟨(a.add ((i + 1) * (3 + 1))).block, (a.add ((i + 1) * (3 + 1))).off + (2 + 1), none⟩ = some (.int .u8 (da.val : Int)))) (by kernel_rfl) ?_ (fun hHeld => ?_)
      focus ((try dsimp only); with_reducible exact KA _ hMW.out.drew)
      refine wpAnyH_take (i := 0) (v := ?_) op_at0 (by kernel_rfl) (by kernel_rfl) (by kernel_rfl) (fun _ _ _ h => h) (Or.inl ⟨by rfl, ?_⟩) (by assumption) ?_
      rotate_left
      focus ((intro w hSw; (try dsimp only at hSw); go_simp) <;> with_reducible rfl)
      all_goals skip
      try simp only [Act.put, List.setIfInBounds_toArray, List.set_cons_zero, List.set_cons_succ]
      refine wpAnyH_take (i := 1) (v := ?_) (op_atS op_at0) (by kernel_rfl) (by kernel_rfl) (by kernel_rfl) (fun _ _ _ h => h) (Or.inl ⟨by rfl, ?_⟩) (by assumption) ?_
      rotate_left
      focus ((intro w hSw; (try dsimp only at hSw); go_simp) <;> with_reducible rfl)
      all_goals skip
      try simp only [Act.put, List.setIfInBounds_toArray, List.set_cons_zero, List.set_cons_succ]
      refine wpAnyH_take (i := 2) (v := ?_) (op_atS (op_atS op_at0)) (by kernel_rfl) (by kernel_rfl) (by kernel_rfl) (fun _ _ _ h => h) (Or.inl ⟨by rfl, ?_⟩) (by assumption) ?_
      rotate_left
      focus ((intro w hSw; (try dsimp only at hSw); go_simp) <;> with_reducible rfl)
      all_goals skip
      try simp only [Act.put, List.setIfInBounds_toArray, List.set_cons_zero, List.set_cons_succ]
      refine wpAnyH_take (i := 3) (v := ?_) (op_atS (op_atS (op_atS op_at0))) (by kernel_rfl) (by kernel_rfl) (by kernel_rfl) (fun _ _ _ h => h) (Or.inl ⟨by rfl, ?_⟩) (by assumption) ?_
      rotate_left
      focus ((intro w hSw; (try dsimp only at hSw); go_simp) <;> with_reducible rfl)
      all_goals skip
      try simp only [Act.put, List.setIfInBounds_toArray, List.set_cons_zero, List.set_cons_succ]
      refine wpAnyH_take (i := 4) (v := ?_) (op_atS (op_atS (op_atS (op_atS op_at0)))) (by kernel_rfl) (by kernel_rfl) (by kernel_rfl) (fun _ _ _ h => h) (Or.inl ⟨by rfl, ?_⟩) (by assumption) ?_
      rotate_left
      focus ((intro w hSw; (try dsimp only at hSw); go_simp) <;> with_reducible rfl)
      all_goals skip
      try simp only [Act.put, List.setIfInBounds_toArray, List.set_cons_zero, List.set_cons_succ]
      refine wpAnyH_take (i := 5) (v := ?_) (op_atS (op_atS (op_atS (op_atS (op_atS op_at0))))) (by kernel_rfl) (by kernel_rfl) (by kernel_rfl) (fun _ _ _ h => h) (Or.inl ⟨by rfl, ?_⟩) (by assumption) ?_
      rotate_left
      focus ((intro w hSw; (try dsimp only at hSw); go_simp) <;> with_reducible rfl)
      all_goals skip
      try simp only [Act.put, List.setIfInBounds_toArray, List.set_cons_zero, List.set_cons_succ]
      refine wpAnyH_take (i := 6) (v := ?_) (op_atS (op_atS (op_atS (op_atS (op_atS (op_atS op_at0)))))) (by kernel_rfl) (by kernel_rfl) (by kernel_rfl) (fun _ _ _ h => h) (Or.inl ⟨by rfl, ?_⟩) (by assumption) ?_
      rotate_left
      focus ((intro w hSw; (try dsimp only at hSw); go_simp) <;> with_reducible rfl)
      all_goals skip
      try simp only [Act.put, List.setIfInBounds_toArray, List.set_cons_zero, List.set_cons_succ]
      refine wpAnyH_take (i := 7) (v := ?_) (op_atS (op_atS (op_atS (op_atS (op_atS (op_atS (op_atS op_at0))))))) (by kernel_rfl) (by kernel_rfl) (by kernel_rfl) (fun _ _ _ h => h) (Or.inl ⟨by rfl, ?_⟩) (by assumption) ?_
      rotate_left
      focus ((intro w hSw; (try dsimp only at hSw); go_simp) <;> with_reducible rfl)
      all_goals skip
      try simp only [Act.put, List.setIfInBounds_toArray, List.set_cons_zero, List.set_cons_succ]
      refine wpAnyH_take (i := 8) (v := ?_) (op_atS (op_atS (op_atS (op_atS (op_atS (op_atS (op_atS (op_atS op_at0)))))))) (by kernel_rfl) (by kernel_rfl) (by kernel_rfl) (fun _ _ _ h => h) (Or.inl ⟨by rfl, ?_⟩) (by assumption) ?_
      rotate_left
      focus ((intro w hSw; (try dsimp only at hSw); go_simp) <;> with_reducible rfl)
      all_goals skip
      try simp only [Act.put, List.setIfInBounds_toArray, List.set_cons_zero, List.set_cons_succ]
      refine wpAnyH_take (i := 9) (v := ?_) (op_atS (op_atS (op_atS (op_atS (op_atS (op_atS (op_atS (op_atS (op_atS op_at0))))))))) (by kernel_rfl) (by kernel_rfl) (by kernel_rfl) (fun _ _ _ h => h) (Or.inl ⟨by rfl, ?_⟩) (by assumption) ?_
      rotate_left
      focus ((intro w hSw; (try dsimp only at hSw); go_simp) <;> with_reducible rfl)
      all_goals skip
      try simp only [Act.put, List.setIfInBounds_toArray, List.set_cons_zero, List.set_cons_succ]
      refine wpAnyH_take (i := 10) (v := ?_) (op_atS (op_atS (op_atS (op_atS (op_atS (op_atS (op_atS (op_atS (op_atS (op_atS op_at0)))))))))) (by kernel_rfl) (by kernel_rfl) (by kernel_rfl) (fun _ _ _ h => h) (Or.inl ⟨by rfl, ?_⟩) (by assumption) ?_
      rotate_left
      focus ((intro w hSw; (try dsimp only at hSw); go_simp) <;> with_reducible rfl)
      all_goals skip
      try simp only [Act.put, List.setIfInBounds_toArray, List.set_cons_zero, List.set_cons_succ]
      refine wpAnyH_take (i := 11) (v := ?_) (op_atS (op_atS (op_atS (op_atS (op_atS (op_atS (op_atS (op_atS (op_atS (op_atS (op_atS op_at0))))))))))) (by kernel_rfl) (by kernel_rfl) (by kernel_rfl) (fun _ _ _ h => h) (Or.inl ⟨by rfl, ?_⟩) (by assumption) ?_
      rotate_left
      focus ((intro w hSw; (try dsimp only at hSw); go_simp) <;> with_reducible rfl)
      all_goals skip
      try simp only [Act.put, List.setIfInBounds_toArray, List.set_cons_zero, List.set_cons_succ]
      refine wpAnyH_take (i := 12) (v := ?_) (op_atS (op_atS (op_atS (op_atS (op_atS (op_atS (op_atS (op_atS (op_atS (op_atS (op_atS (op_atS op_at0)))))))))))) (by kernel_rfl) (by kernel_rfl) (by kernel_rfl) (fun _ _ _ h => h) (Or.inl ⟨by rfl, ?_⟩) (by assumption) ?_
      rotate_left
      focus ((intro w hSw; (try dsimp only at hSw); go_simp) <;> with_reducible rfl)
      all_goals skip
      try simp only [Act.put, List.setIfInBounds_toArray, List.set_cons_zero, List.set_cons_succ]
      refine wpAnyH_take (i := 13) (v := ?_) (op_atS (op_atS (op_atS (op_atS (op_atS (op_atS (op_atS (op_atS (op_atS (op_atS (op_atS (op_atS (op_atS op_at0))))))))))))) (by kernel_rfl) (by kernel_rfl) (by kernel_rfl) (fun _ _ _ h => h) (Or.inl ⟨by rfl, ?_⟩) (by assumption) ?_
      rotate_left
      focus ((intro w hSw; (try dsimp only at hSw); go_simp) <;> with_reducible rfl)
      all_goals skip
      try simp only [Act.put, List.setIfInBounds_toArray, List.set_cons_zero, List.set_cons_succ]
      refine wpAnyH_ready (rs := [14]) (by kernel_rfl) (by simp) ?_
      refine AllReadyH.cons (op_atS (op_atS (op_atS (op_atS (op_atS (op_atS (op_atS (op_atS (op_atS (op_atS (op_atS (op_atS (op_atS (op_atS op_at0)))))))))))))) (fun K hK => ?_) AllReadyH.nil
      go_simp
      ((go_at_call 100; refine (K1.out _).mono ?_; rintro e w1 ⟨rfl, hm1⟩; have hmA : Mods [] w w1 := hMW.out.drew.trans hm1))
      try go_wp2_with fail
      refine hK.out _ _ ?_ (fun hHeld2 => ?_)
      focus ((try dsimp only); with_reducible exact KA _ hmA)
      clear hK K hHeld
      have hHeld := hHeld2
      clear hHeld2
      try simp only [Act.put, List.setIfInBounds_toArray, List.set_cons_zero, List.set_cons_succ]
      refine wpAnyH_take (i := 15) (v := ?_) (op_atS (op_atS (op_atS (op_atS (op_atS (op_atS (op_atS (op_atS (op_atS (op_atS (op_atS (op_atS (op_atS (op_atS (op_atS op_at0))))))))))))))) (by kernel_rfl) (by kernel_rfl) (by kernel_rfl) (fun _ _ _ h => h) (Or.inl ⟨by rfl, ?_⟩) (by assumption) ?_
      rotate_left
      focus ((intro w hSw; (try dsimp only at hSw); go_simp) <;> with_reducible rfl)
      all_goals skip
      try simp only [Act.put, List.setIfInBounds_toArray, List.set_cons_zero, List.set_cons_succ]
      refine wpAnyH_take (i := 16) (v := ?_) (op_atS (op_atS (op_atS (op_atS (op_atS (op_atS (op_atS (op_atS (op_atS (op_atS (op_atS (op_atS (op_atS (op_atS (op_atS (op_atS op_at0)))))))))))))))) (by kernel_rfl) (by kernel_rfl) (by kernel_rfl) (fun _ _ _ h => h) (Or.inl ⟨by rfl, ?_⟩) (by assumption) ?_
      rotate_left
      focus ((intro w hSw; (try dsimp only at hSw); go_simp) <;> with_reducible rfl)
      all_goals skip
      try simp only [Act.put, List.setIfInBounds_toArray, List.set_cons_zero, List.set_cons_succ]
      refine wpAnyH_take (i := 17) (v := undef) (op_atS (op_atS (op_atS (op_atS (op_atS (op_atS (op_atS (op_atS (op_atS (op_atS (op_atS (op_atS (op_atS (op_atS (op_atS (op_atS (op_atS op_at0))))))))))))))))) (by kernel_rfl) (by kernel_rfl) (by kernel_rfl) (fun _ _ _ h => h) (Or.inr ⟨by rfl, rfl⟩) (by assumption) ?_
      try simp only [Act.put, List.setIfInBounds_toArray, List.set_cons_zero, List.set_cons_succ]
      refine wpAnyH_take (i := 18) (v := undef) (op_atS (op_atS (op_atS (op_atS (op_atS (op_atS (op_atS (op_atS (op_atS (op_atS (op_atS (op_atS (op_atS (op_atS (op_atS (op_atS (op_atS (op_atS op_at0)))))))))))))))))) (by kernel_rfl) (by kernel_rfl) (by kernel_rfl) (fun _ _ _ h => h) (Or.inr ⟨by rfl, rfl⟩) (by assumption) ?_
      try simp only [Act.put, List.setIfInBounds_toArray, List.set_cons_zero, List.set_cons_succ]
      refine wpAnyH_take (i := 19) (v := undef) (op_atS (op_atS (op_atS (op_atS (op_atS (op_atS (op_atS (op_atS (op_atS (op_atS (op_atS (op_atS (op_atS (op_atS (op_atS (op_atS (op_atS (op_atS (op_atS op_at0))))))))))))))))))) (by kernel_rfl) (by kernel_rfl) (by kernel_rfl) (fun _ _ _ h => h) (Or.inr ⟨by rfl, rfl⟩) (by assumption) ?_
      try simp only [Act.put, List.setIfInBounds_toArray, List.set_cons_zero, List.set_cons_succ]
      refine wpAnyH_take (i := 20) (v := undef) (op_atS (op_atS (op_atS (op_atS (op_atS (op_atS (op_atS (op_atS (op_atS (op_atS (op_atS (op_atS (op_atS (op_atS (op_atS (op_atS (op_atS (op_atS (op_atS (op_atS op_at0)))))))))))))))))))) (by kernel_rfl) (by kernel_rfl) (by kernel_rfl) (fun _ _ _ h => h) (Or.inr ⟨by rfl, rfl⟩) (by assumption) ?_
      try simp only [Act.put, List.setIfInBounds_toArray, List.set_cons_zero, List.set_cons_succ]
      refine wpAnyH_take (i := 21) (v := undef) (op_atS (op_atS (op_atS (op_atS (op_atS (op_atS (op_atS (op_atS (op_atS (op_atS (op_atS (op_atS (op_atS (op_atS (op_atS (op_atS (op_atS (op_atS (op_atS (op_atS (op_atS op_at0))))))))))))))))))))) (by kernel_rfl) (by kernel_rfl) (by kernel_rfl) (fun _ _ _ h => h) (Or.inr ⟨by rfl, rfl⟩) (by assumption) ?_
      try simp only [Act.put, List.setIfInBounds_toArray, List.set_cons_zero, List.set_cons_succ]
      refine wpAnyH_take (i := 22) (v := ?_) (op_atS (op_atS (op_atS (op_atS (op_atS (op_atS (op_atS (op_atS (op_atS (op_atS (op_atS (op_atS (op_atS (op_atS (op_atS (op_atS (op_atS (op_atS (op_atS (op_atS (op_atS (op_atS op_at0)))))))))))))))))))))) (by kernel_rfl) (by kernel_rfl) (by kernel_rfl) (fun _ _ _ h => h) (Or.inl ⟨by rfl, ?_⟩) (by assumption) ?_
      rotate_left
      focus ((intro w hSw; (try dsimp only at hSw); go_simp) <;> with_reducible rfl)
      all_goals skip
      try simp only [Act.put, List.setIfInBounds_toArray, List.set_cons_zero, List.set_cons_succ]
      refine wpAnyH_take (i := 23) (v := ?_) (op_atS (op_atS (op_atS (op_atS (op_atS (op_atS (op_atS (op_atS (op_atS (op_atS (op_atS (op_atS (op_atS (op_atS (op_atS (op_atS (op_atS (op_atS (op_atS (op_atS (op_atS (op_atS (op_atS op_at0))))))))))))))))))))))) (by kernel_rfl) (by kernel_rfl) (by kernel_rfl) (fun _ _ _ h => h) (Or.inl ⟨by rfl, ?_⟩) (by assumption) ?_
      rotate_left
      focus ((intro w hSw; (try dsimp only at hSw); go_simp) <;> with_reducible rfl)
      all_goals skip
      try simp only [Act.put, List.setIfInBounds_toArray, List.set_cons_zero, List.set_cons_succ]
      refine wpAnyH_take (i := 24) (v := undef) (op_atS (op_atS (op_atS (op_atS (op_atS (op_atS (op_atS (op_atS (op_atS (op_atS (op_atS (op_atS (op_atS (op_atS (op_atS (op_atS (op_atS (op_atS (op_atS (op_atS (op_atS (op_atS (op_atS (op_atS op_at0)))))))))))))))))))))))) (by kernel_rfl) (by kernel_rfl) (by kernel_rfl) (fun _ _ _ h => h) (Or.inr ⟨by rfl, rfl⟩) (by assumption) ?_
      try simp only [Act.put, List.setIfInBounds_toArray, List.set_cons_zero, List.set_cons_succ]
      refine wpAnyH_take (i := 25) (v := undef) (op_atS (op_atS (op_atS (op_atS (op_atS (op_atS (op_atS (op_atS (op_atS (op_atS (op_atS (op_atS (op_atS (op_atS (op_atS (op_atS (op_atS (op_atS (op_atS (op_atS (op_atS (op_atS (op_atS (op_atS (op_atS op_at0))))))))))))))))))))))))) (by kernel_rfl) (by kernel_rfl) (by kernel_rfl) (fun _ _ _ h => h) (Or.inr ⟨by rfl, rfl⟩) (by assumption) ?_
      try simp only [Act.put, List.setIfInBounds_toArray, List.set_cons_zero, List.set_cons_succ]
      refine wpAnyH_take (i := 26) (v := undef) (op_atS (op_atS (op_atS (op_atS (op_atS (op_atS (op_atS (op_atS (op_atS (op_atS (op_atS (op_atS (op_atS (op_atS (op_atS (op_atS (op_atS (op_atS (op_atS (op_atS (op_atS (op_atS (op_atS (op_atS (op_atS (op_atS op_at0)))))))))))))))))))))))))) (by kernel_rfl) (by kernel_rfl) (by kernel_rfl) (fun _ _ _ h => h) (Or.inr ⟨by rfl, rfl⟩) (by assumption) ?_
      try simp only [Act.put, List.setIfInBounds_toArray, List.set_cons_zero, List.set_cons_succ]
      refine wpAnyH_take (i := 27) (v := undef) (op_atS (op_atS (op_atS (op_atS (op_atS (op_atS (op_atS (op_atS (op_atS (op_atS (op_atS (op_atS (op_atS (op_atS (op_atS (op_atS (op_atS (op_atS (op_atS (op_atS (op_atS (op_atS (op_atS (op_atS (op_atS (op_atS (op_atS op_at0))))))))))))))))))))))))))) (by kernel_rfl) (by kernel_rfl) (by kernel_rfl) (fun _ _ _ h => h) (Or.inr ⟨by rfl, rfl⟩) (by assumption) ?_
      try simp only [Act.put, List.setIfInBounds_toArray, List.set_cons_zero, List.set_cons_succ]
      refine wpAnyH_take (i := 28) (v := undef) (op_atS (op_atS (op_atS (op_atS (op_atS (op_atS (op_atS (op_atS (op_atS (op_atS (op_atS (op_atS (op_atS (op_atS (op_atS (op_atS (op_atS (op_atS (op_atS (op_atS (op_atS (op_atS (op_atS (op_atS (op_atS (op_atS (op_atS (op_atS op_at0)))))))))))))))))))))))))))) (by kernel_rfl) (by kernel_rfl) (by kernel_rfl) (fun _ _ _ h => h) (Or.inr ⟨by rfl, rfl⟩) (by assumption) ?_
      try simp only [Act.put, List.setIfInBounds_toArray, List.set_cons_zero, List.set_cons_succ]
      refine wpAnyH_take (i := 29) (v := undef) (op_atS (op_atS (op_atS (op_atS (op_atS (op_atS (op_atS (op_atS (op_atS (op_atS (op_atS (op_atS (op_atS (op_atS (op_atS (op_atS (op_atS (op_atS (op_atS (op_atS (op_atS (op_atS (op_atS (op_atS (op_atS (op_atS (op_atS (op_atS (op_atS op_at0))))))))))))))))))))))))))))) (by kernel_rfl) (by kernel_rfl) (by kernel_rfl) (fun _ _ _ h => h) (Or.inr ⟨by rfl, rfl⟩) (by assumption) ?_
      try simp only [Act.put, List.setIfInBounds_toArray, List.set_cons_zero, List.set_cons_succ]
      refine wpAnyH_take (i := 30) (v := undef) (op_atS (op_atS (op_atS (op_atS (op_atS (op_atS (op_atS (op_atS (op_atS (op_atS (op_atS (op_atS (op_atS (op_atS (op_atS (op_atS (op_atS (op_atS (op_atS (op_atS (op_atS (op_atS (op_atS (op_atS (op_atS (op_atS (op_atS (op_atS (op_atS (op_atS op_at0)))))))))))))))))))))))))))))) (by kernel_rfl) (by kernel_rfl) (by kernel_rfl) (fun _ _ _ h => h) (Or.inr ⟨by rfl, rfl⟩) (by assumption) ?_
      try simp only [Act.put, List.setIfInBounds_toArray, List.set_cons_zero, List.set_cons_succ]
      refine wpAnyH_take (i := 31) (v := undef) (op_atS (op_atS (op_atS (op_atS (op_atS (op_atS (op_atS (op_atS (op_atS (op_atS (op_atS (op_atS (op_atS (op_atS (op_atS (op_atS (op_atS (op_atS (op_atS (op_atS (op_atS (op_atS (op_atS (op_atS (op_atS (op_atS (op_atS (op_atS (op_atS (op_atS (op_atS op_at0))))))))))))))))))))))))))))))) (by kernel_rfl) (by kernel_rfl) (by kernel_rfl) (fun _ _ _ h => h) (Or.inr ⟨by rfl, rfl⟩) (by assumption) ?_
      try simp only [Act.put, List.setIfInBounds_toArray, List.set_cons_zero, List.set_cons_succ]
      refine wpAnyH_take (i := 32) (v := undef) (op_atS (op_atS (op_atS (op_atS (op_atS (op_atS (op_atS (op_atS (op_atS (op_atS (op_atS (op_atS (op_atS (op_atS (op_atS (op_atS (op_atS (op_atS (op_atS (op_atS (op_atS (op_atS (op_atS (op_atS (op_atS (op_atS (op_atS (op_atS (op_atS (op_atS (op_atS (op_atS op_at0)))))))))))))))))))))))))))))))) (by kernel_rfl) (by kernel_rfl) (by kernel_rfl) (fun _ _ _ h => h) (Or.inr ⟨by rfl, rfl⟩) (by assumption) ?_
      try simp only [Act.put, List.setIfInBounds_toArray, List.set_cons_zero, List.set_cons_succ]
      refine wpAnyH_take (i := 33) (v := undef) (op_atS (op_atS (op_atS (op_atS (op_atS (op_atS (op_atS (op_atS (op_atS (op_atS (op_atS (op_atS (op_atS (op_atS (op_atS (op_atS (op_atS (op_atS (op_atS (op_atS (op_atS (op_atS (op_atS (op_atS (op_atS (op_atS (op_atS (op_atS (op_atS (op_atS (op_atS (op_atS (op_atS op_at0))))))))))))))))))))))))))))))))) (by kernel_rfl) (by kernel_rfl) (by kernel_rfl) (fun _ _ _ h => h) (Or.inr ⟨by rfl, rfl⟩) (by assumption) ?_
      try simp only [Act.put, List.setIfInBounds_toArray, List.set_cons_zero, List.set_cons_succ]
      refine wpAnyH_take (i := 34) (v := undef) (op_atS (op_atS (op_atS (op_atS (op_atS (op_atS (op_atS (op_atS (op_atS (op_atS (op_atS (op_atS (op_atS (op_atS (op_atS (op_atS (op_atS (op_atS (op_atS (op_atS (op_atS (op_atS (op_atS (op_atS (op_atS (op_atS (op_atS (op_atS (op_atS (op_atS (op_atS (op_atS (op_atS (op_atS op_at0)))))))))))))))))))))))))))))))))) (by kernel_rfl) (by kernel_rfl) (by kernel_rfl) (fun _ _ _ h => h) (Or.inr ⟨by rfl, rfl⟩) (by assumption) ?_
      try simp only [Act.put, List.setIfInBounds_toArray, List.set_cons_zero, List.set_cons_succ]
      refine wpAnyH_take (i := 35) (v := ?_) (op_atS (op_atS (op_atS (op_atS (op_atS (op_atS (op_atS (op_atS (op_atS (op_atS (op_atS (op_atS (op_atS (op_atS (op_atS (op_atS (op_atS (op_atS (op_atS (op_atS (op_atS (op_atS (op_atS (op_atS (op_atS (op_atS (op_atS (op_atS (op_atS (op_atS (op_atS (op_atS (op_atS (op_atS (op_atS op_at0))))))))))))))))))))))))))))))))))) (by kernel_rfl) (by kernel_rfl) (by kernel_rfl) (fun _ _ _ h => h) (Or.inl ⟨by rfl, ?_⟩) (by assumption) ?_
      rotate_left
      focus ((intro w hSw; (try dsimp only at hSw); go_simp) <;> with_reducible rfl)
      all_goals skip
      try simp only [Act.put, List.setIfInBounds_toArray, List.set_cons_zero, List.set_cons_succ]
      refine wpAnyH_take (i := 36) (v := ?_) (op_atS (op_atS (op_atS (op_atS (op_atS (op_atS (op_atS (op_atS (op_atS (op_atS (op_atS (op_atS (op_atS (op_atS (op_atS (op_atS (op_atS (op_atS (op_atS (op_atS (op_atS (op_atS (op_atS (op_atS (op_atS (op_atS (op_atS (op_atS (op_atS (op_atS (op_atS (op_atS (op_atS (op_atS (op_atS (op_atS op_at0)))))))))))))))))))))))))))))))))))) (by kernel_rfl) (by kernel_rfl) (by kernel_rfl) (fun _ _ _ h => h) (Or.inl ⟨by rfl, ?_⟩) (by assumption) ?_
      rotate_left
      focus ((intro w hSw; (try dsimp only at hSw); go_simp) <;> with_reducible rfl)
      all_goals skip
      try simp only [Act.put, List.setIfInBounds_toArray, List.set_cons_zero, List.set_cons_succ]
      refine wpAnyH_done (by kernel_rfl) ?_ _
      go_wp2
      go_ret
      exact ⟨by rw [HP.out]; rfl, hmA⟩
    · clear hcase hfin
      go_enter Tryd.func102, Tryd.ntmps102
      go_upto_region 1 with fail
      refine wp_region_held_drew (S := (fun X => (X.cell? (a.add (i * (3 + 1))) = some (.int .i32 r) ∧ X.cell? ⟨(a.add (i * (3 + 1))).block, (a.add (i * (3 + 1))).off + (0 + 1), none⟩ = some (.int .u8 fg) ∧ X.cell? ⟨(a.add (i * (3 + 1))).block, (a.add (i * (3 + 1))).off + (1 + 1), none⟩ = some (.int .u8 bg) ∧ X.cell? ⟨(a.add (i * (3 + 1))).block, (a.add (i * (3 + 1))).off + (2 + 1), none⟩ = some (.int .u8 (at'.val : Int))) ∧ X.cell? (a.add ((i + 1) * (3 + 1))) = some (.int .i32 dr) ∧ X.cell? ⟨(a.add ((i + 1) * (3 + 1))).block, (a.add ((i + 1) * (3 + 1))).off + (0 + 1), none⟩ = some (.int .u8 df) ∧ X.cell? ⟨(a.add ((i + 1) * (3 + 1))).block, (a.add ((i + 1) * (3 + 1))).off + (1 + 1), none⟩ = some (.int .u8 db) ∧ X.cell? ⟨(a.add ((i + 1) * (3 + 1))).block, (a.add ((i + 1) * (3 + 1))).off + (2 + 1), none⟩ = some (.int .u8 (da.val : Int)))) (by kernel_rfl) ?_ (fun hHeld => ?_)
      focus ((try dsimp only); with_reducible exact KA _ hMW.out.drew)
      refine wpAnyH_take (i := 0) (v := ?_) op_at0 (by kernel_rfl) (by kernel_rfl) (by kernel_rfl) (fun _ _ _ h => h) (Or.inl ⟨by rfl, ?_⟩) (by assumption) ?_
      rotate_left
      focus ((intro w hSw; (try dsimp only at hSw); go_simp) <;> with_reducible rfl)
      all_goals skip
      try simp only [Act.put, List.setIfInBounds_toArray, List.set_cons_zero, List.set_cons_succ]
      refine wpAnyH_take (i := 1) (v := ?_) (op_atS op_at0) (by kernel_rfl) (by kernel_rfl) (by kernel_rfl) (fun _ _ _ h => h) (Or.inl ⟨by rfl, ?_⟩) (by assumption) ?_
      rotate_left
      focus ((intro w hSw; (try dsimp only at hSw); go_simp) <;> with_reducible rfl)
      all_goals skip
      try simp only [Act.put, List.setIfInBounds_toArray, List.set_cons_zero, List.set_cons_succ]
      refine wpAnyH_take (i := 2) (v := ?_) (op_atS (op_atS op_at0)) (by kernel_rfl) (by kernel_rfl) (by kernel_rfl) (fun _ _ _ h => h) (Or.inl ⟨by rfl, ?_⟩) (by assumption) ?_
      rotate_left
      focus ((intro w hSw; (try dsimp only at hSw); go_simp) <;> with_reducible rfl)
      all_goals skip
      try simp only [Act.put, List.setIfInBounds_toArray, List.set_cons_zero, List.set_cons_succ]
      refine wpAnyH_take (i := 3) (v := ?_) (op_atS (op_atS (op_atS op_at0))) (by kernel_rfl) (by kernel_rfl) (by kernel_rfl) (fun _ _ _ h => h) (Or.inl ⟨by rfl, ?_⟩) (by assumption) ?_
      rotate_left
      focus ((intro w hSw; (try dsimp only at hSw); go_simp) <;> with_reducible rfl)
      all_goals skip
      try simp only [Act.put, List.setIfInBounds_toArray, List.set_cons_zero, List.set_cons_succ]
      refine wpAnyH_take (i := 4) (v := ?_) (op_atS (op_atS (op_atS (op_atS op_at0)))) (by kernel_rfl) (by kernel_rfl) (by kernel_rfl) (fun _ _ _ h => h) (Or.inl ⟨by rfl, ?_⟩) (by assumption) ?_
      rotate_left
      focus ((intro w hSw; (try dsimp only at hSw); go_simp) <;> with_reducible rfl)
      all_goals skip
      try simp only [Act.put, List.setIfInBounds_toArray, List.set_cons_zero, List.set_cons_succ]
      refine wpAnyH_take (i := 5) (v := ?_) (op_atS (op_atS (op_atS (op_atS (op_atS op_at0))))) (by kernel_rfl) (by kernel_rfl) (by kernel_rfl) (fun _ _ _ h => h) (Or.inl ⟨by rfl, ?_⟩) (by assumption) ?_
      rotate_left
      focus ((intro w hSw; (try dsimp only at hSw); go_simp) <;> with_reducible rfl)
      all_goals skip
      try simp only [Act.put, List.setIfInBounds_toArray, List.set_cons_zero, List.set_cons_succ]
      refine wpAnyH_take (i := 6) (v := ?_) (op_atS (op_atS (op_atS (op_atS (op_atS (op_atS op_at0)))))) (by kernel_rfl) (by kernel_rfl) (by kernel_rfl) (fun _ _ _ h => h) (Or.inl ⟨by rfl, ?_⟩) (by assumption) ?_
      rotate_left
      focus ((intro w hSw; (try dsimp only at hSw); go_simp) <;> with_reducible rfl)
      all_goals skip
      try simp only [Act.put, List.setIfInBounds_toArray, List.set_cons_zero, List.set_cons_succ]
      refine wpAnyH_take (i := 7) (v := ?_) (op_atS (op_atS (op_atS (op_atS (op_atS (op_atS (op_atS op_at0))))))) (by kernel_rfl) (by kernel_rfl) (by kernel_rfl) (fun _ _ _ h => h) (Or.inl ⟨by rfl, ?_⟩) (by assumption) ?_
      rotate_left
      focus ((intro w hSw; (try dsimp only at hSw); go_simp) <;> with_reducible rfl)
      all_goals skip
      try simp only [Act.put, List.setIfInBounds_toArray, List.set_cons_zero, List.set_cons_succ]
      refine wpAnyH_take (i := 8) (v := ?_) (op_atS (op_atS (op_atS (op_atS (op_atS (op_atS (op_atS (op_atS op_at0)))))))) (by kernel_rfl) (by kernel_rfl) (by kernel_rfl) (fun _ _ _ h => h) (Or.inl ⟨by rfl, ?_⟩) (by assumption) ?_
      rotate_left
      focus ((intro w hSw; (try dsimp only at hSw); go_simp) <;> with_reducible rfl)
      all_goals skip
      try simp only [Act.put, List.setIfInBounds_toArray, List.set_cons_zero, List.set_cons_succ]
      refine wpAnyH_take (i := 9) (v := ?_) (op_atS (op_atS (op_atS (op_atS (op_atS (op_atS (op_atS (op_atS (op_atS op_at0))))))))) (by kernel_rfl) (by kernel_rfl) (by kernel_rfl) (fun _ _ _ h => h) (Or.inl ⟨by rfl, ?_⟩) (by assumption) ?_
      rotate_left
      focus ((intro w hSw; (try dsimp only at hSw); go_simp) <;> with_reducible rfl)
      all_goals skip
      try simp only [Act.put, List.setIfInBounds_toArray, List.set_cons_zero, List.set_cons_succ]
      refine wpAnyH_take (i := 10) (v := ?_) (op_atS (op_atS (op_atS (op_atS (op_atS (op_atS (op_atS (op_atS (op_atS (op_atS op_at0)))))))))) (by kernel_rfl) (by kernel_rfl) (by kernel_rfl) (fun _ _ _ h => h) (Or.inl ⟨by rfl, ?_⟩) (by assumption) ?_
      rotate_left
      focus ((intro w hSw; (try dsimp only at hSw); go_simp) <;> with_reducible rfl)
      all_goals skip
      try simp only [Act.put, List.setIfInBounds_toArray, List.set_cons_zero, List.set_cons_succ]
      refine wpAnyH_take (i := 11) (v := ?_) (op_atS (op_atS (op_atS (op_atS (op_atS (op_atS (op_atS (op_atS (op_atS (op_atS (op_atS op_at0))))))))))) (by kernel_rfl) (by kernel_rfl) (by kernel_rfl) (fun _ _ _ h => h) (Or.inl ⟨by rfl, ?_⟩) (by assumption) ?_
      rotate_left
      focus ((intro w hSw; (try dsimp only at hSw); go_simp) <;> with_reducible rfl)
      all_goals skip
      try simp only [Act.put, List.setIfInBounds_toArray, List.set_cons_zero, List.set_cons_succ]
      refine wpAnyH_take (i := 12) (v := ?_) (op_atS (op_atS (op_atS (op_atS (op_atS (op_atS (op_atS (op_atS (op_atS (op_atS (op_atS (op_atS op_at0)))))))))))) (by kernel_rfl) (by kernel_rfl) (by kernel_rfl) (fun _ _ _ h => h) (Or.inl ⟨by rfl, ?_⟩) (by assumption) ?_
      rotate_left
      focus ((intro w hSw; (try dsimp only at hSw); go_simp) <;> with_reducible rfl)
      all_goals skip
      try simp only [Act.put, List.setIfInBounds_toArray, List.set_cons_zero, List.set_cons_succ]
      refine wpAnyH_take (i := 13) (v := ?_) (op_atS (op_atS (op_atS (op_atS (op_atS (op_atS (op_atS (op_atS (op_atS (op_atS (op_atS (op_atS (op_atS op_at0))))))))))))) (by kernel_rfl) (by kernel_rfl) (by kernel_rfl) (fun _ _ _ h => h) (Or.inl ⟨by rfl, ?_⟩) (by assumption) ?_
      rotate_left
      focus ((intro w hSw; (try dsimp only at hSw); go_simp) <;> with_reducible rfl)
      all_goals skip
      try simp only [Act.put, List.setIfInBounds_toArray, List.set_cons_zero, List.set_cons_succ]
      refine wpAnyH_ready (rs := [14]) (by kernel_rfl) (by simp) ?_
      refine AllReadyH.cons (op_atS (op_atS (op_atS (op_atS (op_atS (op_atS (op_atS (op_atS (op_atS (op_atS (op_atS (op_atS (op_atS (op_atS op_at0)))))))))))))) (fun K hK => ?_) AllReadyH.nil
      go_simp
      ((go_at_call 100; refine (K1.out _).mono ?_; rintro e w1 ⟨rfl, hm1⟩; have hmA : Mods [] w w1 := hMW.out.drew.trans hm1))
      try go_wp2_with fail
      refine hK.out _ _ ?_ (fun hHeld2 => ?_)
      focus ((try dsimp only); with_reducible exact KA _ hmA)
      clear hK K hHeld
      have hHeld := hHeld2
      clear hHeld2
      try simp only [Act.put, List.setIfInBounds_toArray, List.set_cons_zero, List.set_cons_succ]
      refine wpAnyH_take (i := 15) (v := ?_) (op_atS (op_atS (op_atS (op_atS (op_atS (op_atS (op_atS (op_atS (op_atS (op_atS (op_atS (op_atS (op_atS (op_atS (op_atS op_at0))))))))))))))) (by kernel_rfl) (by kernel_rfl) (by kernel_rfl) (fun _ _ _ h => h) (Or.inl ⟨by rfl, ?_⟩) (by assumption) ?_
      rotate_left
      focus ((intro w hSw; (try dsimp only at hSw); go_simp) <;> with_reducible rfl)
      all_goals skip
      try simp only [Act.put, List.setIfInBounds_toArray, List.set_cons_zero, List.set_cons_succ]
      refine wpAnyH_take (i := 16) (v := ?_) (op_atS (op_atS (op_atS (op_atS (op_atS (op_atS (op_atS (op_atS (op_atS (op_atS (op_atS (op_atS (op_atS (op_atS (op_atS (op_atS op_at0)))))))))))))))) (by kernel_rfl) (by kernel_rfl) (by kernel_rfl) (fun _ _ _ h => h) (Or.inl ⟨by rfl, ?_⟩) (by assumption) ?_
      rotate_left
      focus ((intro w hSw; (try dsimp only at hSw); go_simp) <;> with_reducible rfl)
      all_goals skip
      try simp only [Act.put, List.setIfInBounds_toArray, List.set_cons_zero, List.set_cons_succ]
      refine wpAnyH_take (i := 17) (v := ?_) (op_atS (op_atS (op_atS (op_atS (op_atS (op_atS (op_atS (op_atS (op_atS (op_atS (op_atS (op_atS (op_atS (op_atS (op_atS (op_atS (op_atS op_at0))))))))))))))))) (by kernel_rfl) (by kernel_rfl) (by kernel_rfl) (fun _ _ _ h => h) (Or.inl ⟨by rfl, ?_⟩) (by assumption) ?_
      rotate_left
      focus ((intro w hSw; (try dsimp only at hSw); go_simp) <;> with_reducible rfl)
      all_goals skip
      try simp only [Act.put, List.setIfInBounds_toArray, List.set_cons_zero, List.set_cons_succ]
      refine wpAnyH_take (i := 18) (v := ?_) (op_atS (op_atS (op_atS (op_atS (op_atS (op_atS (op_atS (op_atS (op_atS (op_atS (op_atS (op_atS (op_atS (op_atS (op_atS (op_atS (op_atS (op_atS op_at0)))))))))))))))))) (by kernel_rfl) (by kernel_rfl) (by kernel_rfl) (fun _ _ _ h => h) (Or.inl ⟨by rfl, ?_⟩) (by assumption) ?_
      rotate_left
      focus ((intro w hSw; (try dsimp only at hSw); go_simp) <;> with_reducible rfl)
      all_goals skip
      try simp only [Act.put, List.setIfInBounds_toArray, List.set_cons_zero, List.set_cons_succ]
      refine wpAnyH_take (i := 19) (v := ?_) (op_atS (op_atS (op_atS (op_atS (op_atS (op_atS (op_atS (op_atS (op_atS (op_atS (op_atS (op_atS (op_atS (op_atS (op_atS (op_atS (op_atS (op_atS (op_atS op_at0))))))))))))))))))) (by kernel_rfl) (by kernel_rfl) (by kernel_rfl) (fun _ _ _ h => h) (Or.inl ⟨by rfl, ?_⟩) (by assumption) ?_
      rotate_left
      focus ((intro w hSw; (try dsimp only at hSw); go_simp) <;> with_reducible rfl)
      all_goals skip
      try simp only [Act.put, List.setIfInBounds_toArray, List.set_cons_zero, List.set_cons_succ]
      refine wpAnyH_take (i := 20) (v := ?_) (op_atS (op_atS (op_atS (op_atS (op_atS (op_atS (op_atS (op_atS (op_atS (op_atS (op_atS (op_atS (op_atS (op_atS (op_atS (op_atS (op_atS (op_atS (op_atS (op_atS op_at0)))))))))))))))))))) (by kernel_rfl) (by kernel_rfl) (by kernel_rfl) (fun _ _ _ h => h) (Or.inl ⟨by rfl, ?_⟩) (by assumption) ?_
      rotate_left
      focus ((intro w hSw; (try dsimp only at hSw); go_simp) <;> with_reducible rfl)
      all_goals skip
      try simp only [Act.put, List.setIfInBounds_toArray, List.set_cons_zero, List.set_cons_succ]
      refine wpAnyH_ready (rs := [21]) (by kernel_rfl) (by simp) ?_
      refine AllReadyH.cons (op_atS (op_atS (op_atS (op_atS (op_atS (op_atS (op_atS (op_atS (op_atS (op_atS (op_atS (op_atS (op_atS (op_atS (op_atS (op_atS (op_atS (op_atS (op_atS (op_atS (op_atS op_at0))))))))))))))))))))) (fun K hK => ?_) AllReadyH.nil
      go_simp
      ((go_at_call 101; refine (W1.out _).mono ?_; rintro e w2 ⟨rfl, hm2⟩; have hmB : Mods [] w w2 := hmA.trans hm2))
      try go_wp2_with fail
      refine hK.out _ _ ?_ (fun hHeld2 => ?_)
      focus ((try dsimp only); with_reducible exact KA _ hmB)
      clear hK K hHeld
      have hHeld := hHeld2
      clear hHeld2
      try simp only [Act.put, List.setIfInBounds_toArray, List.set_cons_zero, List.set_cons_succ]
      refine wpAnyH_take (i := 22) (v := ?_) (op_atS (op_atS (op_atS (op_atS (op_atS (op_atS (op_atS (op_atS (op_atS (op_atS (op_atS (op_atS (op_atS (op_atS (op_atS (op_atS (op_atS (op_atS (op_atS (op_atS (op_atS (op_atS op_at0)))))))))))))))))))))) (by kernel_rfl) (by kernel_rfl) (by kernel_rfl) (fun _ _ _ h => h) (Or.inl ⟨by rfl, ?_⟩) (by assumption) ?_
      rotate_left
      focus ((intro w hSw; (try dsimp only at hSw); go_simp) <;> with_reducible rfl)
      all_goals skip
      try simp only [Act.put, List.setIfInBounds_toArray, List.set_cons_zero, List.set_cons_succ]
      refine wpAnyH_take (i := 23) (v := ?_) (op_atS (op_atS (op_atS (op_atS (op_atS (op_atS (op_atS (op_atS (op_atS (op_atS (op_atS (op_atS (op_atS (op_atS (op_atS (op_atS (op_atS (op_atS (op_atS (op_atS (op_atS (op_atS (op_atS op_at0))))))))))))))))))))))) (by kernel_rfl) (by kernel_rfl) (by kernel_rfl) (fun _ _ _ h => h) (Or.inl ⟨by rfl, ?_⟩) (by assumption) ?_
      rotate_left
      focus ((intro w hSw; (try dsimp only at hSw); go_simp) <;> with_reducible rfl)
      all_goals skip
      try simp only [Act.put, List.setIfInBounds_toArray, List.set_cons_zero, List.set_cons_succ]
      refine wpAnyH_take (i := 24) (v := undef) (op_atS (op_atS (op_atS (op_atS (op_atS (op_atS (op_atS (op_atS (op_atS (op_atS (op_atS (op_atS (op_atS (op_atS (op_atS (op_atS (op_atS (op_atS (op_atS (op_atS (op_atS (op_atS (op_atS (op_atS op_at0)))))))))))))))))))))))) (by kernel_rfl) (by kernel_rfl) (by kernel_rfl) (fun _ _ _ h => h) (Or.inr ⟨by rfl, rfl⟩) (by assumption) ?_
      try simp only [Act.put, List.setIfInBounds_toArray, List.set_cons_zero, List.set_cons_succ]
      refine wpAnyH_take (i := 25) (v := undef) (op_atS (op_atS (op_atS (op_atS (op_atS (op_atS (op_atS (op_atS (op_atS (op_atS (op_atS (op_atS (op_atS (op_atS (op_atS (op_atS (op_atS (op_atS (op_atS (op_atS (op_atS (op_atS (op_atS (op_atS (op_atS op_at0))))))))))))))))))))))))) (by kernel_rfl) (by kernel_rfl) (by kernel_rfl) (fun _ _ _ h => h) (Or.inr ⟨by rfl, rfl⟩) (by assumption) ?_
      try simp only [Act.put, List.setIfInBounds_toArray, List.set_cons_zero, List.set_cons_succ]
      refine wpAnyH_take (i := 26) (v := undef) (op_atS (op_atS (op_atS (op_atS (op_atS (op_atS (op_atS (op_atS (op_atS (op_atS (op_atS (op_atS (op_atS (op_atS (op_atS (op_atS (op_atS (op_atS (op_atS (op_atS (op_atS (op_atS (op_atS (op_atS (op_atS (op_atS op_at0)))))))))))))))))))))))))) (by kernel_rfl) (by kernel_rfl) (by kernel_rfl) (fun _ _ _ h => h) (Or.inr ⟨by rfl, rfl⟩) (by assumption) ?_
      try simp only [Act.put, List.setIfInBounds_toArray, List.set_cons_zero, List.set_cons_succ]
      refine wpAnyH_take (i := 27) (v := undef) (op_atS (op_atS (op_atS (op_atS (op_atS (op_atS (op_atS (op_atS (op_atS (op_atS (op_atS (op_atS (op_atS (op_atS (op_atS (op_atS (op_atS (op_atS (op_atS (op_atS (op_atS (op_atS (op_atS (op_atS (op_atS (op_atS (op_atS op_at0))))))))))))))))))))))))))) (by kernel_rfl) (by kernel_rfl) (by kernel_rfl) (fun _ _ _ h => h) (Or.inr ⟨by rfl, rfl⟩) (by assumption) ?_
      try simp only [Act.put, List.setIfInBounds_toArray, List.set_cons_zero, List.set_cons_succ]
      refine wpAnyH_take (i := 28) (v := undef) (op_atS (op_atS (op_atS (op_atS (op_atS (op_atS (op_atS (op_atS (op_atS (op_atS (op_atS (op_atS (op_atS (op_atS (op_atS (op_atS (op_atS (op_atS (op_atS (op_atS (op_atS (op_atS (op_atS (op_atS (op_atS (op_atS (op_atS (op_atS op_at0)))))))))))))))))))))))))))) (by kernel_rfl) (by kernel_rfl) (by kernel_rfl) (fun _ _ _ h => h) (Or.inr ⟨by rfl, rfl⟩) (by assumption) ?_
      try simp only [Act.put, List.setIfInBounds_toArray, List.set_cons_zero, List.set_cons_succ]
      refine wpAnyH_take (i := 29) (v := undef) (op_atS (op_atS (op_atS (op_atS (op_atS (op_atS (op_atS (op_atS (op_atS (op_atS (op_atS (op_atS (op_atS (op_atS (op_atS (op_atS (op_atS (op_atS (op_atS (op_atS (op_atS (op_atS (op_atS (op_atS (op_atS (op_atS (op_atS (op_atS (op_atS op_at0))))))))))))))))))))))))))))) (by kernel_rfl) (by kernel_rfl) (by kernel_rfl) (fun _ _ _ h => h) (Or.inr ⟨by rfl, rfl⟩) (by assumption) ?_
      try simp only [Act.put, List.setIfInBounds_toArray, List.set_cons_zero, List.set_cons_succ]
      refine wpAnyH_take (i := 30) (v := undef) (op_atS (op_atS (op_atS (op_atS (op_atS (op_atS (op_atS (op_atS (op_atS (op_atS (op_atS (op_atS (op_atS (op_atS (op_atS (op_atS (op_atS (op_atS (op_atS (op_atS (op_atS (op_atS (op_atS (op_atS (op_atS (op_atS (op_atS (op_atS (op_atS (op_atS op_at0)))))))))))))))))))))))))))))) (by kernel_rfl) (by kernel_rfl) (by kernel_rfl) (fun _ _ _ h => h) (Or.inr ⟨by rfl, rfl⟩) (by assumption) ?_
      try simp only [Act.put, List.setIfInBounds_toArray, List.set_cons_zero, List.set_cons_succ]
      refine wpAnyH_take (i := 31) (v := undef) (op_atS (op_atS (op_atS (op_atS (op_atS (op_atS (op_atS (op_atS (op_atS (op_atS (op_atS (op_atS (op_atS (op_atS (op_atS (op_atS (op_atS (op_atS (op_atS (op_atS (op_atS (op_atS (op_atS (op_atS (op_atS (op_atS (op_atS (op_atS (op_atS (op_atS (op_atS op_at0))))))))))))))))))))))))))))))) (by kernel_rfl) (by kernel_rfl) (by kernel_rfl) (fun _ _ _ h => h) (Or.inr ⟨by rfl, rfl⟩) (by assumption) ?_
      try simp only [Act.put, List.setIfInBounds_toArray, List.set_cons_zero, List.set_cons_succ]
      refine wpAnyH_take (i := 32) (v := undef) (op_atS (op_atS (op_atS (op_atS (op_atS (op_atS (op_atS (op_atS (op_atS (op_atS (op_atS (op_atS (op_atS (op_atS (op_atS (op_atS (op_atS (op_atS (op_atS (op_atS (op_atS (op_atS (op_atS (op_atS (op_atS (op_atS (op_atS (op_atS (op_atS (op_atS (op_atS (op_atS op_at0)))))))))))))))))))))))))))))))) (by kernel_rfl) (by kernel_rfl) (by kernel_rfl) (fun _ _ _ h => h) (Or.inr ⟨by rfl, rfl⟩) (by assumption) ?_
      try simp only [Act.put, List.setIfInBounds_toArray, List.set_cons_zero, List.set_cons_succ]
      refine wpAnyH_take (i := 33) (v := undef) (op_atS (op_atS (op_atS (op_atS (op_atS (op_atS (op_atS (op_atS (op_atS (op_atS (op_atS (op_atS (op_atS (op_atS (op_atS (op_atS (op_atS (op_atS (op_atS (op_atS (op_atS (op_atS (op_atS (op_atS (op_atS (op_atS (op_atS (op_atS (op_atS (op_atS (op_atS (op_atS (op_atS op_at0))))))))))))))))))))))))))))))))) (by kernel_rfl) (by kernel_rfl) (by kernel_rfl) (fun _ _ _ h => h) (Or.inr ⟨by rfl, rfl⟩) (by assumption) ?_
      try simp only [Act.put, List.setIfInBounds_toArray, List.set_cons_zero, List.set_cons_succ]
      refine wpAnyH_take (i := 34) (v := undef) (op_atS (op_atS (op_atS (op_atS (op_atS (op_atS (op_atS (op_atS (op_atS (op_atS (op_atS (op_atS (op_atS (op_atS (op_atS (op_atS (op_atS (op_atS (op_atS (op_atS (op_atS (op_atS (op_atS (op_atS (op_atS (op_atS (op_atS (op_atS (op_atS (op_atS (op_atS (op_atS (op_atS (op_atS op_at0)))))))))))))))))))))))))))))))))) (by kernel_rfl) (by kernel_rfl) (by kernel_rfl) (fun _ _ _ h => h) (Or.inr ⟨by rfl, rfl⟩) (by assumption) ?_
      try simp only [Act.put, List.setIfInBounds_toArray, List.set_cons_zero, List.set_cons_succ]
      refine wpAnyH_take (i := 35) (v := ?_) (op_atS (op_atS (op_atS (op_atS (op_atS (op_atS (op_atS (op_atS (op_atS (op_atS (op_atS (op_atS (op_atS (op_atS (op_atS (op_atS (op_atS (op_atS (op_atS (op_atS (op_atS (op_atS (op_atS (op_atS (op_atS (op_atS (op_atS (op_atS (op_atS (op_atS (op_atS (op_atS (op_atS (op_atS (op_atS op_at0))))))))))))))))))))))))))))))))))) (by kernel_rfl) (by kernel_rfl) (by kernel_rfl) (fun _ _ _ h => h) (Or.inl ⟨by rfl, ?_⟩) (by assumption) ?_
      rotate_left
      focus ((intro w hSw; (try dsimp only at hSw); go_simp) <;> with_reducible rfl)
      all_goals skip
      try simp only [Act.put, List.setIfInBounds_toArray, List.set_cons_zero, List.set_cons_succ]
      refine wpAnyH_take (i := 36) (v := ?_) (op_atS (op_atS (op_atS (op_atS (op_atS (op_atS (op_atS (op_atS (op_atS (op_atS (op_atS (op_atS (op_atS (op_atS (op_atS (op_atS (op_atS (op_atS (op_atS (op_atS (op_atS (op_atS (op_atS (op_atS (op_atS (op_atS (op_atS (op_atS (op_atS (op_atS (op_atS (op_atS (op_atS (op_atS (op_atS (op_atS op_at0)))))))))))))))))))))))))))))))))))) (by kernel_rfl) (by kernel_rfl) (by kernel_rfl) (fun _ _ _ h => h) (Or.inl ⟨by rfl, ?_⟩) (by assumption) ?_
      rotate_left
      focus ((intro w hSw; (try dsimp only at hSw); go_simp) <;> with_reducible rfl)
      all_goals skip
      try simp only [Act.put, List.setIfInBounds_toArray, List.set_cons_zero, List.set_cons_succ]
      refine wpAnyH_done (by kernel_rfl) ?_ _
      go_wp2
      go_ret
      exact ⟨by rw [HP.out]; rfl, hmB⟩
    · go_enter Tryd.func102, Tryd.ntmps102
      go_upto_region 1 with fail
      refine wp_region_held_drew (S := (fun X => (X.cell? (a.add (i * (3 + 1))) = some (.int .i32 r) ∧ X.cell? ⟨(a.add (i * (3 + 1))).block, (a.add (i * (3 + 1))).off + (0 + 1), none⟩ = some (.int .u8 fg) ∧ X.cell? ⟨(a.add (i * (3 + 1))).block, (a.add (i * (3 + 1))).off + (1 + 1), none⟩ = some (.int .u8 bg) ∧ X.cell? ⟨(a.add (i * (3 + 1))).block, (a.add (i * (3 + 1))).off + (2 + 1), none⟩ = some (.int .u8 (at'.val : Int))) ∧ X.cell? (a.add ((i + 1) * (3 + 1))) = some (.int .i32 dr) ∧ X.cell? ⟨(a.add ((i + 1) * (3 + 1))).block, (a.add ((i + 1) * (3 + 1))).off + (0 + 1), none⟩ = some (.int .u8 df) ∧ X.cell? ⟨(a.add ((i + 1) * (3 + 1))).block, (a.add ((i + 1) * (3 + 1))).off + (1 + 1), none⟩ = some (.int .u8 db) ∧ X.cell? ⟨(a.add ((i + 1) * (3 + 1))).block, (a.add ((i + 1) * (3 + 1))).off + (2 + 1), none⟩ = some (.int .u8 (da.val : Int)))) (by kernel_rfl) ?_ (fun hHeld => ?_)
      focus ((try dsimp only); with_reducible exact KA _ hMW.out.drew)
      refine wpAnyH_take (i := 0) (v := ?_) op_at0 (by kernel_rfl) (by kernel_rfl) (by kernel_rfl) (fun _ _ _ h => h) (Or.inl ⟨by rfl, ?_⟩) (by assumption) ?_
      rotate_left
      focus ((intro w hSw; (try dsimp only at hSw); go_simp) <;> with_reducible rfl)
      all_goals skip
      try simp only [Act.put, List.setIfInBounds_toArray, List.set_cons_zero, List.set_cons_succ]
      refine wpAnyH_take (i := 1) (v := ?_) (op_atS op_at0) (by kernel_rfl) (by kernel_rfl) (by kernel_rfl) (fun _ _ _ h => h) (Or.inl ⟨by rfl, ?_⟩) (by assumption) ?_
      rotate_left
      focus ((intro w hSw; (try dsimp only at hSw); go_simp) <;> with_reducible rfl)
      all_goals skip
      try simp only [Act.put, List.setIfInBounds_toArray, List.set_cons_zero, List.set_cons_succ]
      refine wpAnyH_take (i := 2) (v := ?_) (op_atS (op_atS op_at0)) (by kernel_rfl) (by kernel_rfl) (by kernel_rfl) (fun _ _ _ h => h) (Or.inl ⟨by rfl, ?_⟩) (by assumption) ?_
      rotate_left
      focus ((intro w hSw; (try dsimp only at hSw); go_simp) <;> with_reducible rfl)
      all_goals skip
      try simp only [Act.put, List.setIfInBounds_toArray, List.set_cons_zero, List.set_cons_succ]
      refine wpAnyH_take (i := 3) (v := ?_) (op_atS (op_atS (op_atS op_at0))) (by kernel_rfl) (by kernel_rfl) (by kernel_rfl) (fun _ _ _ h => h) (Or.inl ⟨by rfl, ?_⟩) (by assumption) ?_
      rotate_left
      focus ((intro w hSw; (try dsimp only at hSw); go_simp) <;> with_reducible rfl)
      all_goals skip
      try simp only [Act.put, List.setIfInBounds_toArray, List.set_cons_zero, List.set_cons_succ]
      refine wpAnyH_take (i := 4) (v := ?_) (op_atS (op_atS (op_atS (op_atS op_at0)))) (by kernel_rfl) (by kernel_rfl) (by kernel_rfl) (fun _ _ _ h => h) (Or.inl ⟨by rfl, ?_⟩) (by assumption) ?_
      rotate_left
      focus ((intro w hSw; (try dsimp only at hSw); go_simp) <;> with_reducible rfl)
      all_goals skip
      try simp only [Act.put, List.setIfInBounds_toArray, List.set_cons_zero, List.set_cons_succ]
      refine wpAnyH_take (i := 5) (v := ?_) (op_atS (op_atS (op_atS (op_atS (op_atS op_at0))))) (by kernel_rfl) (by kernel_rfl) (by kernel_rfl) (fun _ _ _ h => h) (Or.inl ⟨by rfl, ?_⟩) (by assumption) ?_
      rotate_left
      focus ((intro w hSw; (try dsimp only at hSw); go_simp) <;> with_reducible rfl)
      all_goals skip
      try simp only [Act.put, List.setIfInBounds_toArray, List.set_cons_zero, List.set_cons_succ]
      refine wpAnyH_take (i := 6) (v := ?_) (op_atS (op_atS (op_atS (op_atS (op_atS (op_atS op_at0)))))) (by kernel_rfl) (by kernel_rfl) (by kernel_rfl) (fun _ _ _ h => h) (Or.inl ⟨by rfl, ?_⟩) (by assumption) ?_
      rotate_left
      focus ((intro w hSw; (try dsimp only at hSw); go_simp) <;> with_reducible rfl)
      all_goals skip
      try simp only [Act.put, List.setIfInBounds_toArray, List.set_cons_zero, List.set_cons_succ]
      refine wpAnyH_take (i := 7) (v := ?_) (op_atS (op_atS (op_atS (op_atS (op_atS (op_atS (op_atS op_at0))))))) (by kernel_rfl) (by kernel_rfl) (by kernel_rfl) (fun _ _ _ h => h) (Or.inl ⟨by rfl, ?_⟩) (by assumption) ?_
      rotate_left
      focus ((intro w hSw; (try dsimp only at hSw); go_simp) <;> with_reducible rfl)
      all_goals skip
      try simp only [Act.put, List.setIfInBounds_toArray, List.set_cons_zero, List.set_cons_succ]
      refine wpAnyH_take (i := 8) (v := ?_) (op_atS (op_atS (op_atS (op_atS (op_atS (op_atS (op_atS (op_atS op_at0)))))))) (by kernel_rfl) (by kernel_rfl) (by kernel_rfl) (fun _ _ _ h => h) (Or.inl ⟨by rfl, ?_⟩) (by assumption) ?_
      rotate_left
      focus ((intro w hSw; (try dsimp only at hSw); go_simp) <;> with_reducible rfl)
      all_goals skip
      try simp only [Act.put, List.setIfInBounds_toArray, List.set_cons_zero, List.set_cons_succ]
      refine wpAnyH_take (i := 9) (v := ?_) (op_atS (op_atS (op_atS (op_atS (op_atS (op_atS (op_atS (op_atS (op_atS op_at0))))))))) (by kernel_rfl) (by kernel_rfl) (by kernel_rfl) (fun _ _ _ h => h) (Or.inl ⟨by rfl, ?_⟩) (by assumption) ?_
      rotate_left
      focus ((intro w hSw; (try dsimp only at hSw); go_simp) <;> with_reducible rfl)
      all_goals skip
      try simp only [Act.put, List.setIfInBounds_toArray, List.set_cons_zero, List.set_cons_succ]
      refine wpAnyH_take (i := 10) (v := ?_) (op_atS (op_atS (op_atS (op_atS (op_atS (op_atS (op_atS (op_atS (op_atS (op_atS op_at0)))))))))) (by kernel_rfl) (by kernel_rfl) (by kernel_rfl) (fun _ _ _ h => h) (Or.inl ⟨by rfl, ?_⟩) (by assumption) ?_
      rotate_left
      focus ((intro w hSw; (try dsimp only at hSw); go_simp) <;> with_reducible rfl)
      all_goals skip
      try simp only [Act.put, List.setIfInBounds_toArray, List.set_cons_zero, List.set_cons_succ]
      refine wpAnyH_take (i := 11) (v := ?_) (op_atS (op_atS (op_atS (op_atS (op_atS (op_atS (op_atS (op_atS (op_atS (op_atS (op_atS op_at0))))))))))) (by kernel_rfl) (by kernel_rfl) (by kernel_rfl) (fun _ _ _ h => h) (Or.inl ⟨by rfl, ?_⟩) (by assumption) ?_
      rotate_left
      focus ((intro w hSw; (try dsimp only at hSw); go_simp) <;> with_reducible rfl)
      all_goals skip
      try simp only [Act.put, List.setIfInBounds_toArray, List.set_cons_zero, List.set_cons_succ]
      refine wpAnyH_take (i := 12) (v := ?_) (op_atS (op_atS (op_atS (op_atS (op_atS (op_atS (op_atS (op_atS (op_atS (op_atS (op_atS (op_atS op_at0)))))))))))) (by kernel_rfl) (by kernel_rfl) (by kernel_rfl) (fun _ _ _ h => h) (Or.inl ⟨by rfl, ?_⟩) (by assumption) ?_
      rotate_left
      focus ((intro w hSw; (try dsimp only at hSw); go_simp) <;> with_reducible rfl)
      all_goals skip
      try simp only [Act.put, List.setIfInBounds_toArray, List.set_cons_zero, List.set_cons_succ]
      refine wpAnyH_take (i := 13) (v := ?_) (op_atS (op_atS (op_atS (op_atS (op_atS (op_atS (op_atS (op_atS (op_atS (op_atS (op_atS (op_atS (op_atS op_at0))))))))))))) (by kernel_rfl) (by kernel_rfl) (by kernel_rfl) (fun _ _ _ h => h) (Or.inl ⟨by rfl, ?_⟩) (by assumption) ?_
      rotate_left
      focus ((intro w hSw; (try dsimp only at hSw); go_simp) <;> with_reducible rfl)
      all_goals skip
      try simp only [Act.put, List.setIfInBounds_toArray, List.set_cons_zero, List.set_cons_succ]
      refine wpAnyH_ready (rs := [14]) (by kernel_rfl) (by simp) ?_
      refine AllReadyH.cons (op_atS (op_atS (op_atS (op_atS (op_atS (op_atS (op_atS (op_atS (op_atS (op_atS (op_atS (op_atS (op_atS (op_atS op_at0)))))))))))))) (fun K hK => ?_) AllReadyH.nil
      go_simp
      ((go_at_call 100; refine (K1.out _).mono ?_; rintro e w1 ⟨rfl, hm1⟩; have hmA : Mods [] w w1 := hMW.out.drew.trans hm1))
      try go_wp2_with fail
      refine hK.out _ _ ?_ (fun hHeld2 => ?_)
      focus ((try dsimp only); with_reducible exact KA _ hmA)
      clear hK K hHeld
      have hHeld := hHeld2
      clear hHeld2
      try simp only [Act.put, List.setIfInBounds_toArray, List.set_cons_zero, List.set_cons_succ]
      refine wpAnyH_take (i := 15) (v := ?_) (op_atS (op_atS (op_atS (op_atS (op_atS (op_atS (op_atS (op_atS (op_atS (op_atS (op_atS (op_atS (op_atS (op_atS (op_atS op_at0))))))))))))))) (by kernel_rfl) (by kernel_rfl) (by kernel_rfl) (fun _ _ _ h => h) (Or.inl ⟨by rfl, ?_⟩) (by assumption) ?_
      rotate_left
      focus ((intro w hSw; (try dsimp only at hSw); go_simp) <;> with_reducible rfl)
      all_goals skip
      try simp only [Act.put, List.setIfInBounds_toArray, List.set_cons_zero, List.set_cons_succ]
      refine wpAnyH_take (i := 16) (v := ?_) (op_atS (op_atS (op_atS (op_atS (op_atS (op_atS (op_atS (op_atS (op_atS (op_atS (op_atS (op_atS (op_atS (op_atS (op_atS (op_atS op_at0)))))))))))))))) (by kernel_rfl) (by kernel_rfl) (by kernel_rfl) (fun _ _ _ h => h) (Or.inl ⟨by rfl, ?_⟩) (by assumption) ?_
      rotate_left
      focus ((intro w hSw; (try dsimp only at hSw); go_simp) <;> with_reducible rfl)
      all_goals skip
      try simp only [Act.put, List.setIfInBounds_toArray, List.set_cons_zero, List.set_cons_succ]
      refine wpAnyH_take (i := 17) (v := ?_) (op_atS (op_atS (op_atS (op_atS (op_atS (op_atS (op_atS (op_atS (op_atS (op_atS (op_atS (op_atS (op_atS (op_atS (op_atS (op_atS (op_atS op_at0))))))))))))))))) (by kernel_rfl) (by kernel_rfl) (by kernel_rfl) (fun _ _ _ h => h) (Or.inl ⟨by rfl, ?_⟩) (by assumption) ?_
      rotate_left
      focus ((intro w hSw; (try dsimp only at hSw); go_simp) <;> with_reducible rfl)
      all_goals skip
      try simp only [Act.put, List.setIfInBounds_toArray, List.set_cons_zero, List.set_cons_succ]
      refine wpAnyH_take (i := 18) (v := ?_) (op_atS (op_atS (op_atS (op_atS (op_atS (op_atS (op_atS (op_atS (op_atS (op_atS (op_atS (op_atS (op_atS (op_atS (op_atS (op_atS (op_atS (op_atS op_at0)))))))))))))))))) (by kernel_rfl) (by kernel_rfl) (by kernel_rfl) (fun _ _ _ h => h) (Or.inl ⟨by rfl, ?_⟩) (by assumption) ?_
      rotate_left
      focus ((intro w hSw; (try dsimp only at hSw); go_simp) <;> with_reducible rfl)
      all_goals skip
      try simp only [Act.put, List.setIfInBounds_toArray, List.set_cons_zero, List.set_cons_succ]
      refine wpAnyH_take (i := 19) (v := ?_) (op_atS (op_atS (op_atS (op_atS (op_atS (op_atS (op_atS (op_atS (op_atS (op_atS (op_atS (op_atS (op_atS (op_atS (op_atS (op_atS (op_atS (op_atS (op_atS op_at0))))))))))))))))))) (by kernel_rfl) (by kernel_rfl) (by kernel_rfl) (fun _ _ _ h => h) (Or.inl ⟨by rfl, ?_⟩) (by assumption) ?_
      rotate_left
      focus ((intro w hSw; (try dsimp only at hSw); go_simp) <;> with_reducible rfl)
      all_goals skip
      try simp only [Act.put, List.setIfInBounds_toArray, List.set_cons_zero, List.set_cons_succ]
      refine wpAnyH_take (i := 20) (v := ?_) (op_atS (op_atS (op_atS (op_atS (op_atS (op_atS (op_atS (op_atS (op_atS (op_atS (op_atS (op_atS (op_atS (op_atS (op_atS (op_atS (op_atS (op_atS (op_atS (op_atS op_at0)))))))))))))))))))) (by kernel_rfl) (by kernel_rfl) (by kernel_rfl) (fun _ _ _ h => h) (Or.inl ⟨by rfl, ?_⟩) (by assumption) ?_
      rotate_left
      focus ((intro w hSw; (try dsimp only at hSw); go_simp) <;> with_reducible rfl)
      all_goals skip
      try simp only [Act.put, List.setIfInBounds_toArray, List.set_cons_zero, List.set_cons_succ]
      refine wpAnyH_ready (rs := [21]) (by kernel_rfl) (by simp) ?_
      refine AllReadyH.cons (op_atS (op_atS (op_atS (op_atS (op_atS (op_atS (op_atS (op_atS (op_atS (op_atS (op_atS (op_atS (op_atS (op_atS (op_atS (op_atS (op_atS (op_atS (op_atS (op_atS (op_atS op_at0))))))))))))))))))))) (fun K hK => ?_) AllReadyH.nil
      go_simp
      ((go_at_call 101; refine (W1.out _).mono ?_; rintro e w2 ⟨rfl, hm2⟩; have hmB : Mods [] w w2 := hmA.trans hm2))
      try go_wp2_with fail
      refine hK.out _ _ ?_ (fun hHeld2 => ?_)
      focus ((try dsimp only); with_reducible exact KA _ hmB)
      clear hK K hHeld
      have hHeld := hHeld2
      clear hHeld2
      try simp only [Act.put, List.setIfInBounds_toArray, List.set_cons_zero, List.set_cons_succ]
      refine wpAnyH_take (i := 22) (v := ?_) (op_atS (op_atS (op_atS (op_atS (op_atS (op_atS (op_atS (op_atS (op_atS (op_atS (op_atS (op_atS (op_atS (op_atS (op_atS (op_atS (op_atS (op_atS (op_atS (op_atS (op_atS (op_atS op_at0)))))))))))))))))))))) (by kernel_rfl) (by kernel_rfl) (by kernel_rfl) (fun _ _ _ h => h) (Or.inl ⟨by rfl, ?_⟩) (by assumption) ?_
      rotate_left
      focus ((intro w hSw; (try dsimp only at hSw); go_simp) <;> with_reducible rfl)
      all_goals skip
      try simp only [Act.put, List.setIfInBounds_toArray, List.set_cons_zero, List.set_cons_succ]
      refine wpAnyH_take (i := 23) (v := ?_) (op_atS (op_atS (op_atS (op_atS (op_atS (op_atS (op_atS (op_atS (op_atS (op_atS (op_atS (op_atS (op_atS (op_atS (op_atS (op_atS (op_atS (op_atS (op_atS (op_atS (op_atS (op_atS (op_atS op_at0))))))))))))))))))))))) (by kernel_rfl) (by kernel_rfl) (by kernel_rfl) (fun _ _ _ h => h) (Or.inl ⟨by rfl, ?_⟩) (by assumption) ?_
      rotate_left
      focus ((intro w hSw; (try dsimp only at hSw); go_simp) <;> with_reducible rfl)
      all_goals skip
      try simp only [Act.put, List.setIfInBounds_toArray, List.set_cons_zero, List.set_cons_succ]
      refine wpAnyH_take (i := 24) (v := ?_) (op_atS (op_atS (op_atS (op_atS (op_atS (op_atS (op_atS (op_atS (op_atS (op_atS (op_atS (op_atS (op_atS (op_atS (op_atS (op_atS (op_atS (op_atS (op_atS (op_atS (op_atS (op_atS (op_atS (op_atS op_at0)))))))))))))))))))))))) (by kernel_rfl) (by kernel_rfl) (by kernel_rfl) (fun _ _ _ h => h) (Or.inl ⟨by rfl, ?_⟩) (by assumption) ?_
      rotate_left
      focus ((intro w hSw; (try dsimp only at hSw); go_simp) <;> with_reducible rfl)
      all_goals skip
      try simp only [Act.put, List.setIfInBounds_toArray, List.set_cons_zero, List.set_cons_succ]
      refine wpAnyH_take (i := 25) (v := ?_) (op_atS (op_atS (op_atS (op_atS (op_atS (op_atS (op_atS (op_atS (op_atS (op_atS (op_atS (op_atS (op_atS (op_atS (op_atS (op_atS (op_atS (op_atS (op_atS (op_atS (op_atS (op_atS (op_atS (op_atS (op_atS op_at0))))))))))))))))))))))))) (by kernel_rfl) (by kernel_rfl) (by kernel_rfl) (fun _ _ _ h => h) (Or.inl ⟨by rfl, ?_⟩) (by assumption) ?_
      rotate_left
      focus ((intro w hSw; (try dsimp only at hSw); go_simp) <;> with_reducible rfl)
      all_goals skip
      try simp only [Act.put, List.setIfInBounds_toArray, List.set_cons_zero, List.set_cons_succ]
      refine wpAnyH_take (i := 26) (v := ?_) (op_atS (op_atS (op_atS (op_atS (op_atS (op_atS (op_atS (op_atS (op_atS (op_atS (op_atS (op_atS (op_atS (op_atS (op_atS (op_atS (op_atS (op_atS (op_atS (op_atS (op_atS (op_atS (op_atS (op_atS (op_atS (op_atS op_at0)))))))))))))))))))))))))) (by kernel_rfl) (by kernel_rfl) (by kernel_rfl) (fun _ _ _ h => h) (Or.inl ⟨by rfl, ?_⟩) (by assumption) ?_
      rotate_left
      focus ((intro w hSw; (try dsimp only at hSw); go_simp) <;> with_reducible rfl)
      all_goals skip
      try simp only [Act.put, List.setIfInBounds_toArray, List.set_cons_zero, List.set_cons_succ]
      refine wpAnyH_take (i := 27) (v := ?_) (op_atS (op_atS (op_atS (op_atS (op_atS (op_atS (op_atS (op_atS (op_atS (op_atS (op_atS (op_atS (op_atS (op_atS (op_atS (op_atS (op_atS (op_atS (op_atS (op_atS (op_atS (op_atS (op_atS (op_atS (op_atS (op_atS (op_atS op_at0))))))))))))))))))))))))))) (by kernel_rfl) (by kernel_rfl) (by kernel_rfl) (fun _ _ _ h => h) (Or.inl ⟨by rfl, ?_⟩) (by assumption) ?_
      rotate_left
      focus ((intro w hSw; (try dsimp only at hSw); go_simp) <;> with_reducible rfl)
      all_goals skip
      try simp only [Act.put, List.setIfInBounds_toArray, List.set_cons_zero, List.set_cons_succ]
      refine wpAnyH_take (i := 28) (v := ?_) (op_atS (op_atS (op_atS (op_atS (op_atS (op_atS (op_atS (op_atS (op_atS (op_atS (op_atS (op_atS (op_atS (op_atS (op_atS (op_atS (op_atS (op_atS (op_atS (op_atS (op_atS (op_atS (op_atS (op_atS (op_atS (op_atS (op_atS (op_atS op_at0)))))))))))))))))))))))))))) (by kernel_rfl) (by kernel_rfl) (by kernel_rfl) (fun _ _ _ h => h) (Or.inl ⟨by rfl, ?_⟩) (by assumption) ?_
      rotate_left
      focus ((intro w hSw; (try dsimp only at hSw); go_simp) <;> with_reducible rfl)
      all_goals skip
      try simp only [Act.put, List.setIfInBounds_toArray, List.set_cons_zero, List.set_cons_succ]
      refine wpAnyH_take (i := 29) (v := ?_) (op_atS (op_atS (op_atS (op_atS (op_atS (op_atS (op_atS (op_atS (op_atS (op_atS (op_atS (op_atS (op_atS (op_atS (op_atS (op_atS (op_atS (op_atS (op_atS (op_atS (op_atS (op_atS (op_atS (op_atS (op_atS (op_atS (op_atS (op_atS (op_atS op_at0))))))))))))))))))))))))))))) (by kernel_rfl) (by kernel_rfl) (by kernel_rfl) (fun _ _ _ h => h) (Or.inl ⟨by rfl, ?_⟩) (by assumption) ?_
      rotate_left
      focus ((intro w hSw; (try dsimp only at hSw); go_simp) <;> with_reducible rfl)
      all_goals skip
      try simp only [Act.put, List.setIfInBounds_toArray, List.set_cons_zero, List.set_cons_succ]
      refine wpAnyH_take (i := 30) (v := ?_) (op_atS (op_atS (op_atS (op_atS (op_atS (op_atS (op_atS (op_atS (op_atS (op_atS (op_atS (op_atS (op_atS (op_atS (op_atS (op_atS (op_atS (op_atS (op_atS (op_atS (op_atS (op_atS (op_atS (op_atS (op_atS (op_atS (op_atS (op_atS (op_atS (op_atS op_at0)))))))))))))))))))))))))))))) (by kernel_rfl) (by kernel_rfl) (by kernel_rfl) (fun _ _ _ h => h) (Or.inl ⟨by rfl, ?_⟩) (by assumption) ?_
      rotate_left
      focus ((intro w hSw; (try dsimp only at hSw); go_simp) <;> with_reducible rfl)
      all_goals skip
      try simp only [Act.put, List.setIfInBounds_toArray, List.set_cons_zero, List.set_cons_succ]
      refine wpAnyH_take (i := 31) (v := ?_) (op_atS (op_atS (op_atS (op_atS (op_atS (op_atS (op_atS (op_atS (op_atS (op_atS (op_atS (op_atS (op_atS (op_atS (op_atS (op_atS (op_atS (op_atS (op_atS (op_atS (op_atS (op_atS (op_atS (op_atS (op_atS (op_atS (op_atS (op_atS (op_atS (op_atS (op_atS op_at0))))))))))))))))))))))))))))))) (by kernel_rfl) (by kernel_rfl) (by kernel_rfl) (fun _ _ _ h => h) (Or.inl ⟨by rfl, ?_⟩) (by assumption) ?_
      rotate_left
      focus ((intro w hSw; (try dsimp only at hSw); go_simp) <;> with_reducible rfl)
      all_goals skip
      try simp only [Act.put, List.setIfInBounds_toArray, List.set_cons_zero, List.set_cons_succ]
      refine wpAnyH_take (i := 32) (v := ?_) (op_atS (op_atS (op_atS (op_atS (op_atS (op_atS (op_atS (op_atS (op_atS (op_atS (op_atS (op_atS (op_atS (op_atS (op_atS (op_atS (op_atS (op_atS (op_atS (op_atS (op_atS (op_atS (op_atS (op_atS (op_atS (op_atS (op_atS (op_atS (op_atS (op_atS (op_atS (op_atS op_at0)))))))))))))))))))))))))))))))) (by kernel_rfl) (by kernel_rfl) (by kernel_rfl) (fun _ _ _ h => h) (Or.inl ⟨by rfl, ?_⟩) (by assumption) ?_
      rotate_left
      focus ((intro w hSw; (try dsimp only at hSw); go_simp) <;> with_reducible rfl)
      all_goals skip
      try simp only [Act.put, List.setIfInBounds_toArray, List.set_cons_zero, List.set_cons_succ]
      refine wpAnyH_ready (rs := [33]) (by kernel_rfl) (by simp) ?_
      refine AllReadyH.cons (op_atS (op_atS (op_atS (op_atS (op_atS (op_atS (op_atS (op_atS (op_atS (op_atS (op_atS (op_atS (op_atS (op_atS (op_atS (op_atS (op_atS (op_atS (op_atS (op_atS (op_atS (op_atS (op_atS (op_atS (op_atS (op_atS (op_atS (op_atS (op_atS (op_atS (op_atS (op_atS (op_atS op_at0))))))))))))))))))))))))))))))))) (fun K hK => ?_) AllReadyH.nil
      go_simp
      ((go_at_call 69; refine (B1.out _).mono ?_; rintro e w3 ⟨rfl, hm3⟩; have hmC : Mods [] w w3 := hmB.trans hm3))
      try go_wp2_with fail
      refine hK.out _ _ ?_ (fun hHeld2 => ?_)
      focus ((try dsimp only); with_reducible exact KA _ hmC)
      clear hK K hHeld
      have hHeld := hHeld2
      clear hHeld2
      try simp only [Act.put, List.setIfInBounds_toArray, List.set_cons_zero, List.set_cons_succ]
      have hrow : pairC row i = decide (dr = 0 ∧ df = fg ∧ db = bg ∧ da = tailOf at') := by
        rw [HP.out]; simp [Cell.behind]
      have HROW := Lib.hid hrow
      clear hrow
      rcases hcase with ⟨q1, q2, q3, q4⟩ | q1 | ⟨q1, q2⟩ | ⟨q1, q2, q3⟩ | ⟨q1, q2, q3, q4⟩
      all_goals
        try have q5 := mt hfin.1 q4
        clear hfin
        refine wpAnyH_take (i := 34) (v := ?_) (op_atS (op_atS (op_atS (op_atS (op_atS (op_atS (op_atS (op_atS (op_atS (op_atS (op_atS (op_atS (op_atS (op_atS (op_atS (op_atS (op_atS (op_atS (op_atS (op_atS (op_atS (op_atS (op_atS (op_atS (op_atS (op_atS (op_atS (op_atS (op_atS (op_atS (op_atS (op_atS (op_atS (op_atS op_at0)))))))))))))))))))))))))))))))))) (by kernel_rfl) (by kernel_rfl) (by kernel_rfl) (fun _ _ _ h => h) (Or.inl ⟨by rfl, ?_⟩) (by assumption) ?_
        rotate_left
        focus ((intro w hSw; (try dsimp only at hSw); go_simp) <;> with_reducible rfl)
        all_goals skip
        try simp only [Act.put, List.setIfInBounds_toArray, List.set_cons_zero, List.set_cons_succ]
        refine wpAnyH_take (i := 35) (v := ?_) (op_atS (op_atS (op_atS (op_atS (op_atS (op_atS (op_atS (op_atS (op_atS (op_atS (op_atS (op_atS (op_atS (op_atS (op_atS (op_atS (op_atS (op_atS (op_atS (op_atS (op_atS (op_atS (op_atS (op_atS (op_atS (op_atS (op_atS (op_atS (op_atS (op_atS (op_atS (op_atS (op_atS (op_atS (op_atS op_at0))))))))))))))))))))))))))))))))))) (by kernel_rfl) (by kernel_rfl) (by kernel_rfl) (fun _ _ _ h => h) (Or.inl ⟨by rfl, ?_⟩) (by assumption) ?_
        rotate_left
        focus ((intro w hSw; (try dsimp only at hSw); go_simp) <;> with_reducible rfl)
        all_goals skip
        try simp only [Act.put, List.setIfInBounds_toArray, List.set_cons_zero, List.set_cons_succ]
        refine wpAnyH_take (i := 36) (v := ?_) (op_atS (op_atS (op_atS (op_atS (op_atS (op_atS (op_atS (op_atS (op_atS (op_atS (op_atS (op_atS (op_atS (op_atS (op_atS (op_atS (op_atS (op_atS (op_atS (op_atS (op_atS (op_atS (op_atS (op_atS (op_atS (op_atS (op_atS (op_atS (op_atS (op_atS (op_atS (op_atS (op_atS (op_atS (op_atS (op_atS op_at0)))))))))))))))))))))))))))))))))))) (by kernel_rfl) (by kernel_rfl) (by kernel_rfl) (fun _ _ _ h => h) (Or.inl ⟨by rfl, ?_⟩) (by assumption) ?_
        rotate_left
        focus ((intro w hSw; (try dsimp only at hSw); go_simp) <;> with_reducible rfl)
        all_goals skip
        try simp only [Act.put, List.setIfInBounds_toArray, List.set_cons_zero, List.set_cons_succ]
        refine wpAnyH_done (by kernel_rfl) ?_ _
        go_wp2
        go_ret
        exact ⟨by rw [HROW.out]; simp [*], hmC⟩
  · have hd : row[i + 1]? = none := List.getElem?_eq_none (by rw [hl]; omega)
    have hp : pairC row i = false := by unfold pairC; rw [hd, hc]
    have HP := Lib.hid hp
    have g1 : decide ((i : Int) + 1 < (n : Int)) = false := by simp; omega
    clear hp hd hc hl h hb
    go_enter Tryd.func102, Tryd.ntmps102
    go_upto_region 1 with fail
    go_quiet (fail)
    go_wp2
    go_ret
    exact ⟨by rw [HP.out]; rfl, (Mods.refl _ _).drewN _⟩
end Go.Proofs.YtldjmacnokkjdaaDoor
/- The document's answers of layer 5: Mend, Right. -/
namespace Go.Proofs.YtldjmacnokkjdaaDoor
open Go.RowKit
set_option linter.unusedVariables false
set_option linter.unusedSimpArgs false

def pairP (row : List Cell) (i : Nat) : Bool := decide (1 ≤ i) && pairC row (i - 1)
def mendAt (row : List Cell) (i : Nat) (c : Cell) : Cell := if pairC row i || pairP row i || (c.ok && !c.wide && !c.tail) then c else c.blank
def mendR (row : List Cell) : List Cell := row.mapIdx (mendAt row)
theorem mendR_len (row : List Cell) : (mendR row).length = row.length := by simp [mendR]
theorem mendR_get {row : List Cell} {i : Nat} {c : Cell} (h : row[i]? = some c) : (mendR row)[i]? = some (mendAt row i c) := by simp [mendR, h]
theorem mendR_take {row : List Cell} {i : Nat} {c : Cell} (h : row[i]? = some c) : (mendR row).take (i + 1) = (mendR row).take i ++ [mendAt row i c] := by
  rw [List.take_add_one, mendR_get h]; rfl
def Small (row : List Cell) : Prop := ∀ c ∈ row, -2147483648 ≤ c.r ∧ c.r ≤ 2147483647
theorem ref5_pair_prev (w : World) (A : Option Addr) (n cap i : Nat) (row : List Cell) (h : ReadsRows w A n 4 Cell.vals row) (hi : i < n) (hb : Small row) :
    Calls Tryd.prog 102 #[.slice A n cap, .int .i64 ((i : Int) - 1)] w fun e w' => e = .returned (.bool (pairP row i)) ∧ Mods [] w w' := by
  cases i with
  | zero => exact ref5_pair_neg w A n cap
  | succ i =>
    have := ref5_pair w A n cap i row h (by omega) hb
    rw [show ((i + 1 : Nat) : Int) - 1 = (i : Int) by omega]
    rwa [show pairP row (i + 1) = pairC row i by simp [pairP]]
def MendR (W : World) (row : List Cell) (n : Nat) (kk : Nat) (out idx : Value) (wr : World) : Prop :=
  ∃ i : Nat, idx = .int .i64 (i : Int) ∧ i ≤ n ∧ wr.ownsRow W.heap.size 27 4 out i (((mendR row).take i).flatMap Cell.vals) ∧ Mods [] W wr ∧ kk + i = n
set_option maxRecDepth 100000 in
set_option maxHeartbeats 4000000 in
theorem ref5_Mend (W : World) (A : Option Addr) (n cap : Nat) (row : List Cell) (h : ReadsRows W A n 4 Cell.vals row) (hb : Small row) (hsm : n ≤ 1000000) :
    Calls Tryd.prog 90 #[.slice A n cap] W fun e W' => ∃ v, e = .returned v ∧ W'.ownsRow W.heap.size 27 4 v n ((mendR row).flatMap Cell.vals) ∧ Mods [] W W' := by
  have HO := Lib.hid h
  have HLN := Lib.hid h.1
  have HB := Lib.hid hb
  clear h hb
  go_enter Tryd.func90, Tryd.ntmps90
  go_wp2
  go_loopg [3, 4] n (MendR W row n)
  case atStart => exact ⟨0, rfl, by omega, own_nil _ _ _ _, Mods.refl _ _, by omega⟩
  case round =>
    obtain ⟨i, rfl, hi, hown, hM, hkk⟩ := hrel
    have HKK := Lib.hid hkk
    have HOWN := Lib.hid hown
    obtain ⟨OA, oc, rfl, hoc1, hoc2, hoc3⟩ := own_slice' hown
    clear hown hkk
    by_cases hlt : i < n
    · obtain ⟨c, hc⟩ : ∃ c, row[i]? = some c := ⟨_, List.getElem?_eq_getElem (by rw [HLN.out]; exact hlt)⟩
      have HR := Lib.hid (HO.out.keepsM (fun _ => rfl) hM (by simp))
      obtain ⟨a, rfl, c0, hcs⟩ := HR.out.row hc
      have c1 := hcs 0 (by omega)
      have c2 := hcs 1 (by omega)
      have c3 := hcs 2 (by omega)
      have hbc := HB.out c (List.mem_of_getElem? hc)
      have HMT := Lib.hid (mendR_take hc)
      have i1 : (i : Int) < (n : Int) := by omega
      have i0 : (0 : Int) ≤ (i : Int) := by omega
      have e1 : IntKind.i64.wrap ((i : Int) - 1) = (i : Int) - 1 := IntWalk.i64_in _ (by omega)
      clear hcs hc
      have K0 : ∀ w, Calls Tryd.prog 100 #[c.val] w fun e w' => e = .returned (.bool c.ok) ∧ Mods [] w w' := fun w => ref5_Check w c hbc
      have W0 : ∀ w, Calls Tryd.prog 101 #[c.val] w fun e w' => e = .returned (.bool c.wide) ∧ Mods [] w w' := fun w => ref5_wide w c
      have T0 : ∀ w, Calls Tryd.prog 103 #[c.val] w fun e w' => e = .returned (.bool c.tail) ∧ Mods [] w w' := fun w => ref5_tail w c
      have K1 := Lib.hid K0
      have W1 := Lib.hid W0
      have T1 := Lib.hid T0
      have hma : mendAt row i c = if pairC row i || pairP row i || (c.ok && !c.wide && !c.tail) then c else c.blank := rfl
      have HMA := Lib.hid hma
      clear K0 W0 T0 hbc hma
      obtain ⟨r, fg, bg, at'⟩ := c
      simp only [Cell.vals, List.getElem?_cons_zero, List.getElem?_cons_succ] at c0 c1 c2 c3
      simp only [Cell.val] at K1 W1 T1
      go_wp2_with fail
      clear c0 c1 c2 c3
      have hbx := blk_new wr (.cells #[.int .i32 r, .int .u8 fg, .int .u8 bg, .int .u8 (at'.val : Int)] 27)
      have hm0 := (Mods.refl [] wr).alloc (.cells #[.int .i32 r, .int .u8 fg, .int .u8 bg, .int .u8 (at'.val : Int)] 27)
      have hsz : (wr.alloc (.cells #[.int .i32 r, .int .u8 fg, .int .u8 bg, .int .u8 (at'.val : Int)] 27)).heap.size = wr.heap.size + 1 := by simp
      generalize wr.alloc (.cells #[.int .i32 r, .int .u8 fg, .int .u8 bg, .int .u8 (at'.val : Int)] 27) = X0 at *
      have BX := Lib.hid hbx
      have HM0 := Lib.hid hm0
      have HSZ := Lib.hid hsz
      clear hbx hm0 hsz
      refine (K1.out _).mono ?_
      rintro e w1 ⟨rfl, hm1⟩
      go_wp2_with fail
      refine (ref5_pair w1 (some a) n cap i row (HR.out.keepsM (fun _ => rfl) (HM0.out.trans hm1) (by simp)) hlt HB.out).mono ?_
      rintro e w2 ⟨rfl, hm2⟩
      go_wp2_with fail
      refine (ref5_pair_prev w2 (some a) n cap i row (HR.out.keepsM (fun _ => rfl) (HM0.out.trans (hm1.trans hm2)) (by simp)) hlt HB.out).mono ?_
      rintro e w3 ⟨rfl, hm3⟩
      have hm123 := (hm1.trans hm2).trans hm3
      clear hm1 hm2 hm3 e1
      have BX3 := Lib.hid (hm123.at BX.out (by simp))
      generalize pairC row i = p1 at *
      generalize pairP row i = p2 at *
      generalize Cell.ok ⟨r, fg, bg, at'⟩ = b0 at *
      generalize Cell.wide ⟨r, fg, bg, at'⟩ = b1 at *
      generalize Cell.tail ⟨r, fg, bg, at'⟩ = b2 at *
      clear K1
      go_upto_region 9 with fail
      go_cut [45] from 28 to 54 (fun s45 wx => s45 = .bool (!(p1 || p2 || b0 && !b1 && !b2)) ∧ Mods [] w3 wx)
      case first =>
        have C := fun i => blk_cell BX3.out i
        cases p1
        case true =>
          go_wp2_with fail
          go_meet
          exact ⟨rfl, Mods.refl _ _⟩
        case false =>
        cases p2
        case true =>
          go_wp2_with fail
          go_meet
          exact ⟨rfl, Mods.refl _ _⟩
        case false =>
        cases b0
        case false =>
          go_wp2_with fail
          go_meet
          exact ⟨rfl, Mods.refl _ _⟩
        case true =>
          go_wp2_with fail
          refine (W1.out _).mono ?_
          rintro e w4 ⟨rfl, hm4⟩
          clear C
          have C := fun i => blk_cell (hm4.at BX3.out (by simp)) i
          cases b1
          case true =>
            go_wp2_with fail
            go_meet
            exact ⟨rfl, hm4⟩
          case false =>
            go_wp2_with fail
            refine (T1.out _).mono ?_
            rintro e w5 ⟨rfl, hm5⟩
            clear C
            cases b2
            all_goals
              go_wp2_with fail
              go_meet
              exact ⟨rfl, hm4.trans hm5⟩
      case rest =>
        obtain ⟨rfl, hm4⟩ := hcut
        have hMX := HM0.out.trans (hm123.trans hm4)
        have BX4 := Lib.hid (hm4.at BX3.out (by simp))
        have hown4 := own_mods HOWN.out hMX (by simp)
        have hMW := hM.trans hMX
        have hsz2 := HSZ.out
        have hsz3 := hm123.size
        have hsz4 := hm4.size
        have hszr := hM.size
        generalize hpb : (p1 || p2 || b0 && !b1 && !b2) = pb at *
        have hk2 := HKK.out
        cases pb
        · simp only [Bool.false_eq_true, if_false] at HMA
          have C := fun i => blk_cell BX4.out i
          have hl := HMT.out
          rw [HMA.out] at hl
          have HMT2 := Lib.hid hl
          clear hl HMT HMA
          go_wp2_with (first
            | (refine store_blk BX4.out rfl (.tmp 5) (.tmp 50) 27 rfl (c' := #[.int .i32 32, .int .u8 fg, .int .u8 bg, .int .u8 0]) (by kernel_rfl) rfl rfl rfl (by simp [Value.oneCell']) ?_; intro w6 hb6 hm6; have C6 := fun i => blk_cell hb6 i; clear hb6 C; have hown6 := own_mods hown4 hm6 (fun k hk => by have := own_lt HOWN.out k hk; simp; omega); have hM6 := hMW.then hm6 (fun k hk => .inr (by simp at hk; omega)); have hsz6 := hm6.size)
            | (at_builtin; go_must (refine append_one (w := W) (S := []) W.heap.size rfl (.tmp 51) (.tmp 53) 28 27 (.agg #[.int .i32 0, .int .u8 0, .int .u8 0, .int .u8 0]) 4 8 rfl Tryd.underlying28 (by kernel_rfl) rfl (by decide) (by decide) _ i (((mendR row).take i).flatMap Cell.vals) (Cell.vals (Cell.blank ⟨r, fg, bg, at'⟩)) rfl rfl rfl (by simp [Cell.vals, Cell.blank, Value.oneCell']) hown6 hM6 (by omega) (Nat.le_refl _) (by omega) ?_); intro v1 w7 hown7 hM7 hgr hblk; clear hgr hblk hown4 hown6; have HOWN7 := Lib.hid hown7; clear hown7))
          go_roundg (gk - 1)
          case measure => omega
          case rel => exact ⟨i + 1, by go_num, by omega, by rw [HMT2.out, List.flatMap_append]; simpa using HOWN7.out, hM7, by omega⟩
        · simp only [if_true] at HMA
          have C := fun i => blk_cell BX4.out i
          have hl := HMT.out
          rw [HMA.out] at hl
          have HMT2 := Lib.hid hl
          clear hl HMT HMA
          go_wp2_with (at_builtin; go_must (refine append_one (w := W) (S := []) W.heap.size rfl (.tmp 51) (.tmp 53) 28 27 (.agg #[.int .i32 0, .int .u8 0, .int .u8 0, .int .u8 0]) 4 8 rfl Tryd.underlying28 (by kernel_rfl) rfl (by decide) (by decide) _ i (((mendR row).take i).flatMap Cell.vals) (Cell.vals ⟨r, fg, bg, at'⟩) rfl rfl rfl (by simp [Cell.vals, Value.oneCell']) hown4 hMW (by omega) (Nat.le_refl _) (by omega) ?_); intro v1 w6 hown6 hM6 hgr hblk; clear hgr hblk hown4; have HOWN6 := Lib.hid hown6; clear hown6)
          go_roundg (gk - 1)
          case measure => omega
          case rel => exact ⟨i + 1, by go_num, by omega, by rw [HMT2.out, List.flatMap_append]; simpa using HOWN6.out, hM6, by omega⟩
    · have hin : i = n := by omega
      subst hin
      go_wp2
      go_ret
      exact ⟨_, rfl, by have := HOWN.out; rwa [List.take_of_length_le (by rw [mendR_len, HLN.out]; exact Nat.le_refl _)] at this, hM⟩
/-! ### the same as the program's own -/
def pairH : List Cell → Bool
  | c :: d :: _ => c.ok && c.wide && decide (d = c.behind)
  | _ => false
theorem pairC_cons (c : Cell) (l : List Cell) (i : Nat) : pairC (c :: l) (i + 1) = pairC l i := by simp [pairC]
theorem pairC_zero (c : Cell) (l : List Cell) : pairC (c :: l) 0 = pairH (c :: l) := by cases l <;> simp [pairC, pairH]
def mendA : Bool → List Cell → List Cell
  | _, [] => []
  | p, c :: l => (if pairH (c :: l) || p || (c.ok && !c.wide && !c.tail) then c else c.blank) :: mendA (pairH (c :: l)) l
theorem mendA_get (l : List Cell) : ∀ (p : Bool) (i : Nat), (mendA p l)[i]? = (l[i]?).map fun c => if pairC l i || (if i = 0 then p else pairC l (i - 1)) || (c.ok && !c.wide && !c.tail) then c else c.blank := by
  induction l with
  | nil => intro p i; simp [mendA]
  | cons c l ih =>
    intro p i
    cases i with
    | zero => simp [mendA, pairC_zero]
    | succ i =>
      simp only [mendA, List.getElem?_cons_succ, ih, pairC_cons]
      cases i with
      | zero => simp [pairC_zero]
      | succ i => simp [pairC_cons]
theorem mendR_A (l : List Cell) : mendR l = mendA false l := by
  apply List.ext_getElem?
  intro i
  rw [mendA_get]
  simp only [mendR, List.getElem?_mapIdx]
  congr 1
  funext c
  unfold mendAt pairP
  cases i with
  | zero => simp
  | succ i => simp
theorem behind_tail (c : Cell) : c.behind.tail = true := by
  have : ∀ a : Fin 256, tailA (tailOf a) = true := by decide +kernel
  exact this c.attr
theorem behind_wide (c : Cell) : c.behind.wide = false := by
  have : ∀ a : Fin 256, wideA (tailOf a) = false := by decide +kernel
  exact this c.attr
theorem wide_tail_no (c : Cell) (h : c.tail = true) (hok : c.ok = true) : c.wide = false := by
  unfold Cell.ok at hok
  rw [if_pos h] at hok
  simp at hok
  exact hok.1
theorem mendA_mend (l : List Cell) : mendA false l = mend l := by
  have key : ∀ k (l : List Cell), l.length ≤ k → mendA false l = mend l := by
    intro k
    induction k with
    | zero => intro l h; have : l = [] := List.eq_nil_of_length_eq_zero (by omega); subst this; rfl
    | succ k ih =>
      intro l h
      cases l with
      | nil => rfl
      | cons c l =>
        simp at h
        have hu : sizeC (c :: l) = if !c.ok || c.tail then 0 else if !c.wide then 1 else if l.head? = some c.behind then 2 else 0 := rfl
        have hph : pairH (c :: l) = (c.ok && c.wide && decide (l.head? = some c.behind)) := by cases l <;> simp [pairH]
        cases hok : c.ok
        · have hs : sizeC (c :: l) = 0 := by rw [hu]; simp [hok]
          rw [mend_0 hs]
          simp only [mendA, hph, hok, Bool.false_and, Bool.or_false, Bool.false_eq_true, if_false]
          rw [ih l (by omega)]
        · cases ht : c.tail
          · cases hw : c.wide
            · have hs : sizeC (c :: l) = 1 := by rw [hu]; simp [hok, ht, hw]
              rw [mend_1 hs]
              simp only [mendA, hph, hok, ht, hw, Bool.true_and, Bool.and_false, Bool.false_and, Bool.or_false, Bool.not_false, Bool.and_true, Bool.or_true, if_true]
              rw [ih l (by omega)]
            · by_cases hb : l.head? = some c.behind
              · obtain ⟨l', rfl⟩ : ∃ l', l = c.behind :: l' := by cases l with
                  | nil => simp at hb
                  | cons d l' => simp at hb; exact ⟨l', by rw [hb]⟩
                have hs : sizeC (c :: c.behind :: l') = 2 := by rw [hu]; simp [hok, ht, hw]
                rw [mend_2 hs]
                have hph2 : pairH (c.behind :: l') = false := by cases l' <;> simp [pairH, behind_wide]
                simp at h
                simp only [mendA, hph, hok, hw, List.head?_cons, decide_true, Bool.true_and, Bool.or_false, Bool.true_or, Bool.or_true, if_true, hph2]
                rw [ih l' (by omega)]
              · have hs : sizeC (c :: l) = 0 := by rw [hu]; simp [hok, ht, hw, hb]
                rw [mend_0 hs]
                simp only [mendA, hph, hok, ht, hw, hb, decide_false, Bool.and_false, Bool.not_true, Bool.false_and, Bool.or_false, Bool.false_eq_true, if_false]
                rw [ih l (by omega)]
          · have hw := wide_tail_no c ht hok
            have hs : sizeC (c :: l) = 0 := by rw [hu]; simp [ht]
            rw [mend_0 hs]
            simp only [mendA, hph, hok, ht, hw, Bool.and_false, Bool.not_true, Bool.false_and, Bool.or_false, Bool.false_eq_true, if_false]
            rw [ih l (by omega)]
  exact key _ l (Nat.le_refl _)
theorem mendR_mend (l : List Cell) : mendR l = mend l := (mendR_A l).trans (mendA_mend l)
/-- The cells of a right row are small. -/
theorem ok_small (c : Cell) (h : c.ok = true) : -2147483648 ≤ c.r ∧ c.r ≤ 2147483647 := by
  unfold Cell.ok at h
  split at h
  · simp at h
    rw [h.2]; decide
  · have hv : validRune c.r = true := by
      cases hv : validRune c.r
      · have : width c.r = 0 := by unfold width; rw [hv]; rfl
        rw [this] at h
        split at h <;> simp at h
      · rfl
    unfold validRune at hv
    simp at hv
    omega
theorem right_small (l : List Cell) (h : rightC l = true) : Small l := by
  have key : ∀ k (l : List Cell), l.length ≤ k → rightC l = true → Small l := by
    intro k
    induction k with
    | zero => intro l h _; have : l = [] := List.eq_nil_of_length_eq_zero (by omega); subst this; intro c hc; cases hc
    | succ k ih =>
      intro l h hr
      cases l with
      | nil => intro c hc; cases hc
      | cons c l =>
        simp at h
        have hu : sizeC (c :: l) = if !c.ok || c.tail then 0 else if !c.wide then 1 else if l.head? = some c.behind then 2 else 0 := rfl
        have hok : sizeC (c :: l) ≠ 0 → c.ok = true := by
          intro h0
          cases hk : c.ok
          · exfalso; apply h0; rw [hu, hk]; rfl
          · rfl
        rcases sizeC_cases c l with h1 | h1 | ⟨h1, d, l', rfl⟩
        · rw [rightC_0 h1] at hr; cases hr
        · rw [rightC_1 h1] at hr
          intro x hx
          rcases List.mem_cons.1 hx with rfl | hx
          · exact ok_small _ (hok (by omega))
          · exact ih l (by omega) hr x hx
        · rw [rightC_2 h1] at hr
          simp at h
          intro x hx
          rcases List.mem_cons.1 hx with rfl | hx
          · exact ok_small _ (hok (by omega))
          · rcases List.mem_cons.1 hx with rfl | hx
            · have hd : x = c.behind := by
                rw [hu] at h1
                split at h1
                · cases h1
                · split at h1
                  · cases h1
                  · split at h1
                    · rename_i h3; simpa using h3
                    · cases h1
              rw [hd]; simp [Cell.behind]
            · exact ih l' (by omega) hr x hx
  exact key _ l (Nat.le_refl _) h
end Go.Proofs.YtldjmacnokkjdaaDoor
/- The document's answers of layers 5 and 6: Right, size, Row, Check. -/
namespace Go.Proofs.YtldjmacnokkjdaaDoor
open Go.RowKit
set_option linter.unusedVariables false
set_option linter.unusedSimpArgs false

def Right5Rel (W : World) (n : Nat) (kk : Nat) (idx : Value) (wr : World) : Prop := ∃ i : Nat, idx = .int .i64 (i : Int) ∧ i ≤ n ∧ Mods [] W wr ∧ kk + i = n
set_option maxRecDepth 4000 in
set_option maxHeartbeats 4000000 in
theorem ref5_Right (W : World) (A : Option Addr) (n cap : Nat) (row : List Cell) (h : ReadsRows W A n 4 Cell.vals row) (hb : Small row) (hsm : n ≤ 1000000) :
    Calls Tryd.prog 89 #[.slice A n cap] W fun e W' => ∃ b, e = .returned (.bool b) ∧ Mods [] W W' := by
  have HO := Lib.hid h
  have HLN := Lib.hid h.1
  have HB := Lib.hid hb
  clear h hb
  go_enter Tryd.func89, Tryd.ntmps89
  go_wp2
  go_loopg [3] n (Right5Rel W n)
  case atStart => exact ⟨0, rfl, by omega, Mods.refl _ _, by omega⟩
  case round =>
    obtain ⟨i, rfl, hi, hM, hkk⟩ := hrel
    have HKK := Lib.hid hkk
    clear hkk
    by_cases hlt : i < n
    · obtain ⟨c, hc⟩ : ∃ c, row[i]? = some c := ⟨_, List.getElem?_eq_getElem (by rw [HLN.out]; exact hlt)⟩
      have HRW : Hid (∀ X, Mods [] wr X → ReadsRows X A n 4 Cell.vals row) := Lib.hid (fun X hX => HO.out.keepsM (fun _ => rfl) (hM.trans hX) (by simp))
      obtain ⟨a, rfl, c0, hcs⟩ := (HRW.out _ (Mods.refl _ _)).row hc
      have c1 := hcs 0 (by omega)
      have c2 := hcs 1 (by omega)
      have c3 := hcs 2 (by omega)
      have hbc := HB.out c (List.mem_of_getElem? hc)
      have i1 : (i : Int) < (n : Int) := by omega
      have i0 : (0 : Int) ≤ (i : Int) := by omega
      have e1 : IntKind.i64.wrap ((i : Int) - 1) = (i : Int) - 1 := IntWalk.i64_in _ (by omega)
      have hk2 := HKK.out
      clear hcs hc
      have K0 : ∀ w, Calls Tryd.prog 100 #[c.val] w fun e w' => e = .returned (.bool c.ok) ∧ Mods [] w w' := fun w => ref5_Check w c hbc
      have W0 : ∀ w, Calls Tryd.prog 101 #[c.val] w fun e w' => e = .returned (.bool c.wide) ∧ Mods [] w w' := fun w => ref5_wide w c
      have T0 : ∀ w, Calls Tryd.prog 103 #[c.val] w fun e w' => e = .returned (.bool c.tail) ∧ Mods [] w w' := fun w => ref5_tail w c
      generalize c.ok = b0 at *
      generalize c.wide = b1 at *
      generalize c.tail = b2 at *
      have K1 := Lib.hid K0
      have W1 := Lib.hid W0
      have T1 := Lib.hid T0
      clear K0 W0 T0 hbc
      obtain ⟨r, fg, bg, at'⟩ := c
      simp only [Cell.vals, List.getElem?_cons_zero, List.getElem?_cons_succ] at c0 c1 c2 c3
      simp only [Cell.val] at K1 W1 T1
      have KA : ∀ X, Mods [] wr X → X.cell? (a.add (i * (3 + 1))) = some (.int .i32 r) ∧ X.cell? ⟨(a.add (i * (3 + 1))).block, (a.add (i * (3 + 1))).off + (0 + 1), none⟩ = some (.int .u8 fg) ∧ X.cell? ⟨(a.add (i * (3 + 1))).block, (a.add (i * (3 + 1))).off + (1 + 1), none⟩ = some (.int .u8 bg) ∧ X.cell? ⟨(a.add (i * (3 + 1))).block, (a.add (i * (3 + 1))).off + (2 + 1), none⟩ = some (.int .u8 (at'.val : Int)) := fun X hX => ⟨hX.cell c0 (by simp), hX.cell c1 (by simp), hX.cell c2 (by simp), hX.cell c3 (by simp)⟩
      have HKA := Lib.hid KA
      clear KA
      go_wp2_with fail
      clear c0 c1 c2 c3
      refine (K1.out _).mono ?_
      rintro e w1 ⟨rfl, hm1⟩
      obtain ⟨c0, c1, c2, c3⟩ := HKA.out _ hm1
      cases b0
      case false =>
        go_wp2
        go_ret
        exact ⟨false, rfl, hM.trans hm1⟩
      case true =>
        go_wp2_with fail
        clear c0 c1 c2 c3
        refine (W1.out _).mono ?_
        rintro e w2 ⟨rfl, hm2⟩
        have hm12 := hm1.trans hm2
        cases b1
        case false =>
          obtain ⟨c0, c1, c2, c3⟩ := HKA.out _ hm12
          go_wp2_with fail
          clear c0 c1 c2 c3
          refine (T1.out _).mono ?_
          rintro e w4 ⟨rfl, hm4⟩
          have hm14 := hm12.trans hm4
          cases b2
          case false =>
            go_wp2
            go_roundg (gk - 1)
            case measure => omega
            case rel => exact ⟨i + 1, by go_num, by omega, hM.trans hm14, by omega⟩
          case true =>
            go_wp2_with fail
            refine (ref5_pair_prev w4 (some a) n cap i row (HRW.out _ hm14) hlt HB.out).mono ?_
            generalize pairP row i = p2
            rintro e w5 ⟨rfl, hm5⟩
            cases p2
            case false =>
              go_wp2
              go_ret
              exact ⟨false, rfl, hM.trans (hm14.trans hm5)⟩
            case true =>
              go_wp2
              go_roundg (gk - 1)
              case measure => omega
              case rel => exact ⟨i + 1, by go_num, by omega, hM.trans (hm14.trans hm5), by omega⟩
        case true =>
          go_wp2_with fail
          refine (ref5_pair w2 (some a) n cap i row (HRW.out _ hm12) hlt HB.out).mono ?_
          generalize pairC row i = p1
          rintro e w3 ⟨rfl, hm3⟩
          have hm13 := hm12.trans hm3
          cases p1
          case false =>
            go_wp2
            go_ret
            exact ⟨false, rfl, hM.trans hm13⟩
          case true =>
            obtain ⟨c0, c1, c2, c3⟩ := HKA.out _ hm13
            go_wp2_with fail
            clear c0 c1 c2 c3
            refine (T1.out _).mono ?_
            rintro e w4 ⟨rfl, hm4⟩
            have hm14 := hm13.trans hm4
            cases b2
            case false =>
              go_wp2
              go_roundg (gk - 1)
              case measure => omega
              case rel => exact ⟨i + 1, by go_num, by omega, hM.trans hm14, by omega⟩
            case true =>
              go_wp2_with fail
              refine (ref5_pair_prev w4 (some a) n cap i row (HRW.out _ hm14) hlt HB.out).mono ?_
              generalize pairP row i = p2
              rintro e w5 ⟨rfl, hm5⟩
              cases p2
              case false =>
                go_wp2
                go_ret
                exact ⟨false, rfl, hM.trans (hm14.trans hm5)⟩
              case true =>
                go_wp2
                go_roundg (gk - 1)
                case measure => omega
                case rel => exact ⟨i + 1, by go_num, by omega, hM.trans (hm14.trans hm5), by omega⟩
    · have hin : i = n := by omega
      subst hin
      go_wp2
      go_ret
      exact ⟨true, rfl, hM⟩
theorem ref6_size (W : World) (x y : Int) : Calls Tryd.prog 40 #[.int .i64 x, .int .i64 y] W fun e W' => e = .returned (.bool (decide (1 ≤ x ∧ x ≤ 200 ∧ 1 ≤ y ∧ y ≤ 60))) ∧ W = W' := by
  by_cases h1 : 1 ≤ x <;> by_cases h2 : x ≤ 200 <;> by_cases h3 : 1 ≤ y <;> by_cases h4 : y ≤ 60
  all_goals
    go_enter Tryd.func40, Tryd.ntmps40
    go_wp2
    go_ret
    simp [h1, h2, h3, h4]
end Go.Proofs.YtldjmacnokkjdaaDoor
/- The document's answers of layer 6: Row, Check. -/
namespace Go.Proofs.YtldjmacnokkjdaaDoor
open Go.RowKit
set_option linter.unusedVariables false
set_option linter.unusedSimpArgs false

set_option maxHeartbeats 1000000 in
theorem ref6_Row (W : World) (w h n c : Nat) (a : Addr) (L : List Cell) (y : Nat) (hg : GridOk w h n c) (hL : ReadsRows W (some a) n 4 Cell.vals L) (hy : y < h) :
    Calls Tryd.prog 47 #[gridV w h (some a) n c, .int .i64 (y : Int)] W fun e W' => ∃ v, e = .returned v ∧ W'.ownsRow W.heap.size 27 4 v w ((rowC w y L).flatMap Cell.vals) ∧ Mods [] W W' := by
  obtain ⟨hw1, hw2, hh1, hh2, hn, hc⟩ := hg
  have hle := row_le hn hy
  have hn2 : n ≤ 12000 := by rw [hn]; exact Nat.mul_le_mul hw2 hh2
  have hdiv : n / w = h := by rw [hn]; exact Nat.mul_div_cancel_left h (by omega)
  have hdivI : (n : Int) / (w : Int) = (h : Int) := by rw [← hdiv]; simp
  have hM0 := (Mods.refl [] W).alloc (.cells #[.int .i64 (w : Int), .int .i64 (h : Int), .slice (some a) n c] 38)
  have HR := Lib.hid ((hL.row_of hn hy).keepsM (fun _ => rfl) hM0 (by simp))
  have HN := Lib.hid hn
  have d1 : decide (h ≤ y) = false := by simp; omega
  have d2 : decide ((w : Int) < 1) = false := by simp; omega
  have d2' : decide (w < 1) = false := by simp; omega
  have d2'' : decide (w = 0) = false := by simp; omega
  have d3 : decide ((y : Int) < 0) = false := by simp
  have d4 : decide ((y : Int) ≥ (h : Int)) = false := by simp; omega
  have d5 : decide ((h : Int) > (n : Int) / (w : Int)) = false := by rw [hdivI]; simp
  have hw0 : ¬ w = 0 := by omega
  clear hL hn
  go_enter Tryd.func47, Tryd.ntmps47
  go_upto_region 1 with fail
  go_quiet (fail)
  generalize hW1 : (W.alloc (.cells #[.int .i64 (w : Int), .int .i64 (h : Int), .slice (some a) n c] 38)).drewN nq = W1
  have hm1 : Mods [] W W1 := hW1 ▸ hM0.drewN nq
  have hb := (by rw [← hW1]; exact blk_new W (.cells #[.int .i64 (w : Int), .int .i64 (h : Int), .slice (some a) n c] 38) : W1.heap[W.heap.size]? = some (.cells #[.int .i64 (w : Int), .int .i64 (h : Int), .slice (some a) n c] 38 (0, 0)))
  have hR1 : ReadsRows W1 (some (a.add (y * w * 4))) w 4 Cell.vals (rowC w y L) := by rw [← hW1]; exact HR.out
  have HR1 := Lib.hid hR1
  have hm : IntKind.i64.wrap ((y : Int) * (w : Int)) = ((y * w : Nat) : Int) := by rw [← Int.natCast_mul]; exact IntWalk.i64_in _ (by omega)
  clear hR1 HR hW1 d1 d2 d2' d2'' d3 d4 d5
  generalize y * w = K at *
  have hk : IntKind.i64.wrap ((K : Int) + (w : Int)) = (K : Int) + (w : Int) := IntWalk.i64_in _ (by omega)
  have hcK : ¬ c = K := by omega
  have hm2 : Mods [] W1 (W1.alloc (.cells #[] 27)) := (Mods.refl [] W1).alloc _
  have C := fun i => blk_cell (hm2.at hb (by simp)) i
  have hown0 : (W1.alloc (.cells #[] 27)).ownsRow W1.heap.size 27 4 (.slice (some ⟨W1.heap.size, 0, none⟩) 0 0) 0 [] := own_block (cs := #[]) (blk_new W1 _) (Nat.le_refl _) rfl (by unfold maxLen; omega)
  have HOWN0 := Lib.hid hown0
  have hsz1 := hm1.size
  have HRL := Lib.hid HR1.out.1
  have hrr := HR1.out.keepsM (fun _ => rfl) hm2 (by simp)
  have hmm := hm1.trans hm2
  have HRR := Lib.hid hrr
  clear hown0 hm2 hrr
  go_wp2_with (at_builtin; go_must (refine append_src (w := W) (S := []) W1.heap.size rfl (.tmp 29) (.tmp 43) 28 27 (.agg #[.int .i32 0, .int .u8 0, .int .u8 0, .int .u8 0]) 4 8 rfl Tryd.underlying28 (by kernel_rfl) rfl (by decide) (by decide) _ 0 [] (a.add (K * 4)) (K + w - K) (c - K) ((rowC w y L).flatMap Cell.vals) rfl rfl (by rw [vals_len, HRL.out, Nat.add_sub_cancel_left]) (fun j u hj => by have := rows_news HRR.out 0 (rowC w y L) [] (by simp) j u hj; rwa [Nat.zero_mul, add_zero_addr] at this) (vals_one _) HOWN0.out hmm (by simp) hsz1 (by omega) ?_); intro v1 w6 hown6 hM6 hgr hblk; clear hgr hblk; have HOWN6 := Lib.hid hown6; clear hown6)
  go_ret
  refine ⟨v1, rfl, ?_, hM6⟩
  have := own_lower HOWN6.out hsz1
  rw [Nat.zero_add, Nat.add_sub_cancel_left, List.nil_append] at this
  exact this
theorem Small.row {L : List Cell} (h : Small L) (w y : Nat) : Small (rowC w y L) := fun c hc => h c (List.mem_of_mem_drop (List.mem_of_mem_take hc))
def Check6Rel (W : World) (n : Nat) (kk : Nat) (idx r5 : Value) (wr : World) : Prop := ∃ i : Nat, idx = .int .i64 (i : Int) ∧ i ≤ n ∧ Mods [] W wr ∧ kk + i = n
set_option maxHeartbeats 1000000 in
theorem ref6_Check (W : World) (w h n c : Nat) (a : Addr) (L : List Cell) (hg : GridOk w h n c) (hL : ReadsRows W (some a) n 4 Cell.vals L) (hb : Small L) :
    Calls Tryd.prog 74 #[gridV w h (some a) n c] W fun e W' => ∃ b, e = .returned (.bool b) ∧ Mods [] W W' := by
  obtain ⟨hw1, hw2, hh1, hh2, hn, hc⟩ := id hg
  have HG := Lib.hid hg
  have hn2 : n ≤ 12000 := by rw [hn]; exact Nat.mul_le_mul hw2 hh2
  have HN := Lib.hid hn
  have HL := Lib.hid hL
  have HB := Lib.hid hb
  have hm : IntKind.i64.wrap ((w : Int) * (h : Int)) = (n : Int) := by rw [hn, ← Int.natCast_mul]; exact IntWalk.i64_in _ (by have := hn2; rw [hn] at this; omega)
  have hM0 := (Mods.refl [] W).alloc (.cells #[.int .i64 (w : Int), .int .i64 (h : Int), .slice (some a) n c] 38)
  have hG := Lib.hid (blk_new W (.cells #[.int .i64 (w : Int), .int .i64 (h : Int), .slice (some a) n c] 38))
  clear hn hL hg hb
  go_enter Tryd.func74, Tryd.ntmps74
  go_wp2_with fail
  refine (ref6_size _ _ _).mono ?_
  have hd : decide (1 ≤ (w : Int) ∧ (w : Int) ≤ 200 ∧ 1 ≤ (h : Int) ∧ (h : Int) ≤ 60) = true := by simp; omega
  rw [hd]
  clear hd
  rintro e w1 ⟨rfl, rfl⟩
  go_wp2
  generalize W.alloc (.cells #[.int .i64 (w : Int), .int .i64 (h : Int), .slice (some a) n c] 38) = W0 at *
  clear hm
  go_loopg [4, 5] h (Check6Rel W0 h)
  case atStart => exact ⟨0, rfl, by omega, Mods.refl _ _, by omega⟩
  case round =>
    obtain ⟨i, rfl, hi, hM, hkk⟩ := hrel
    have HKK := Lib.hid hkk
    clear hkk
    have hb := hM.at hG.out (by simp)
    have C := fun j => blk_cell hb j
    clear hb
    by_cases hlt : i < h
    · have hMW := hM0.trans hM
      have hk2 := HKK.out
      go_wp2_with fail
      refine (ref6_Row _ w h n c a L i HG.out (HL.out.keepsM (fun _ => rfl) hMW (by simp)) hlt).mono ?_
      rintro e w2 ⟨v, rfl, hown, hm2⟩
      obtain ⟨A2, c2, rfl, q1, q2, q3⟩ := own_slice' hown
      have hR2 := Lib.hid (own_reads hown (rowC_len HL.out.1 HN.out hlt) (by omega)).1
      clear hown q1 q2 q3 C
      go_wp2_with fail
      refine (ref5_Right w2 A2 w c2 (rowC w i L) hR2.out (HB.out.row w i) (by omega)).mono ?_
      rintro e w3 ⟨b, rfl, hm3⟩
      cases b
      · go_wp2
        go_ret
        exact ⟨false, rfl, hMW.trans (hm2.trans hm3)⟩
      · go_wp2
        go_roundg (gk - 1)
        case measure => omega
        case rel => exact ⟨i + 1, by go_num, by omega, hM.trans (hm2.trans hm3), by omega⟩
    · have hin : i = h := by omega
      subst hin
      go_wp2
      go_ret
      exact ⟨true, rfl, hM0.trans hM⟩
end Go.Proofs.YtldjmacnokkjdaaDoor
/- The document's answer of layer 6: all. -/
namespace Go.Proofs.YtldjmacnokkjdaaDoor
open Go.RowKit
set_option linter.unusedVariables false
set_option linter.unusedSimpArgs false

def bolV (b : Bool) : List Value := [.bool b]
def rowA (w : Nat) (rows : List Bool) (C : List Cell) (y : Nat) : List Cell := if rows.getD y false then mend (rowC w y C) else rowC w y C
def allC (w : Nat) (rows : List Bool) (C : List Cell) (k : Nat) : List Cell := (List.range k).flatMap (rowA w rows C)
theorem rowA_len {w h n y : Nat} {rows : List Bool} {C : List Cell} (hl : C.length = n) (hn : n = w * h) (hy : y < h) : (rowA w rows C y).length = w := by
  unfold rowA
  split
  · rw [mend_len, rowC_len hl hn hy]
  · exact rowC_len hl hn hy
theorem allC_succ (w : Nat) (rows : List Bool) (C : List Cell) (k : Nat) : allC w rows C (k + 1) = allC w rows C k ++ rowA w rows C k := by unfold allC; rw [List.range_succ]; simp
theorem allC_len {w h n : Nat} {rows : List Bool} {C : List Cell} (hl : C.length = n) (hn : n = w * h) (k : Nat) (hk : k ≤ h) : (allC w rows C k).length = k * w := by
  induction k with
  | zero => simp [allC]
  | succ k ih => rw [allC_succ, List.length_append, ih (by omega), rowA_len hl hn (by omega), Nat.add_mul]; omega
theorem rowC_all {w h n : Nat} {rows : List Bool} {C : List Cell} (hl : C.length = n) (hn : n = w * h) (k : Nat) (hk : k ≤ h) (y : Nat) (hy : y < k) : rowC w y (allC w rows C k) = rowA w rows C y := by
  induction k with
  | zero => omega
  | succ k ih =>
    have h1 := allC_len (rows := rows) hl hn k (by omega)
    have h2 := rowA_len (rows := rows) hl hn (y := k) (by omega)
    rw [allC_succ]
    by_cases hyk : y = k
    · subst hyk
      unfold rowC
      rw [List.drop_left' h1, List.take_of_length_le (by omega)]
    · have hle : (y + 1) * w ≤ k * w := Nat.mul_le_mul_right _ (by omega)
      rw [Nat.add_mul] at hle
      rw [← ih (by omega) (by omega)]
      unfold rowC
      rw [List.drop_append_of_le_length (by omega), List.take_append_of_le_length (by simp; omega)]
def AllRel (W : World) (w h o : Nat) (rows : List Bool) (C : List Cell) (kk : Nat) (idx r11 : Value) (wr : World) : Prop :=
  ∃ (y : Nat) (v : Value), idx = .int .i64 (y : Int) ∧ y ≤ h ∧ wr.heap[o]? = some (.cells #[.int .i64 (w : Int), .int .i64 (h : Int), v] 38 (0, 0)) ∧ wr.ownsRow (W.heap.size + 2) 27 4 v (y * w) ((allC w rows C y).flatMap Cell.vals) ∧ W.heap.size + 2 ≤ wr.heap.size ∧ Mods [] W wr ∧ kk + y = h
set_option maxRecDepth 4000 in
set_option maxHeartbeats 2000000 in
theorem ref6_all (W : World) (w h n rc cc : Nat) (RA : Option Addr) (a : Addr) (rows : List Bool) (C : List Cell) (hw1 : 1 ≤ w) (hw2 : w ≤ 200) (hh1 : 1 ≤ h) (hh2 : h ≤ 60) (hn : n = w * h) (hcc : n ≤ cc)
    (hR : ReadsRows W RA h 1 bolV rows) (hC : ReadsRows W (some a) n 4 Cell.vals C) (hb : Small C) :
    Calls Tryd.prog 75 #[.int .i64 (w : Int), .int .i64 (h : Int), .slice RA h rc, .slice (some a) n cc] W fun e W' => GridNew W W' w h n (allC w rows C h) e := by
  have hn2 : n ≤ 12000 := by rw [hn]; exact Nat.mul_le_mul hw2 hh2
  have HR := Lib.hid hR
  have HRL := Lib.hid hR.1
  have HC := Lib.hid hC
  have HCL := Lib.hid hC.1
  have HB := Lib.hid hb
  have HN := Lib.hid hn
  clear hR hC hb hn
  go_enter Tryd.func75, Tryd.ntmps75
  go_wp2
  have hb9 := blk_new' (W.alloc (.cells #[.int .i64 0, .int .i64 0, .slice none 0 0] 38)) (.cells #[.int .i64 (w : Int), .int .i64 (h : Int), .slice none 0 0] 38) (k := W.heap.size + 1) (by simp)
  have hb8 := blk_alloc (blk_new W (.cells #[.int .i64 0, .int .i64 0, .slice none 0 0] 38)) (.cells #[.int .i64 (w : Int), .int .i64 (h : Int), .slice none 0 0] 38)
  have hM0 : Mods [] W ((W.alloc (.cells #[.int .i64 0, .int .i64 0, .slice none 0 0] 38)).alloc (.cells #[.int .i64 (w : Int), .int .i64 (h : Int), .slice none 0 0] 38)) := ((Mods.refl [] W).alloc _).alloc _
  generalize hW0 : (W.alloc (.cells #[.int .i64 0, .int .i64 0, .slice none 0 0] 38)).alloc (.cells #[.int .i64 (w : Int), .int .i64 (h : Int), .slice none 0 0] 38) = W0 at *
  have hsz0 : W0.heap.size = W.heap.size + 2 := by rw [← hW0]; simp
  have HM0 := Lib.hid hM0
  have B8 := Lib.hid hb8
  have B9 := Lib.hid hb9
  have HSZ := Lib.hid hsz0
  clear hb8 hb9 hM0 hsz0 hW0
  go_loopg [10, 11] h (fun kk i r wr => AllRel W w h (W.heap.size + 1) rows C kk i r wr ∧ wr.heap[W.heap.size]? = some (.cells #[.int .i64 0, .int .i64 0, .slice none 0 0] 38 (0, 0)))
  case atStart => exact ⟨⟨0, _, rfl, by omega, B9.out, by have := own_nil W0 (W.heap.size + 2) 27 4; rw [Nat.zero_mul]; exact this, by have := HSZ.out; omega, HM0.out, by omega⟩, B8.out⟩
  case round =>
    obtain ⟨⟨y, v, rfl, hy, hbx, hown, hsz, hM, hkk⟩, hb8⟩ := hrel
    have HKK := Lib.hid hkk
    have BX := Lib.hid hbx
    have HOWN := Lib.hid hown
    have H8 := Lib.hid hb8
    have CX := fun i => blk_cell hbx i
    have FX := fun i => blk_frozen hbx i
    obtain ⟨OA, oc, rfl, hoc1, hoc2, hoc3⟩ := own_slice' hown
    clear hkk hbx hown hb8
    by_cases hlt : y < h
    · have hle := row_le HN.out hlt
      have hk2 := HKK.out
      obtain ⟨b, hbv⟩ : ∃ b, rows[y]? = some b := ⟨_, List.getElem?_eq_getElem (by rw [HRL.out]; exact hlt)⟩
      have hra : rowA w rows C y = if b then mend (rowC w y C) else rowC w y C := by unfold rowA; rw [List.getD_eq_getElem?_getD, hbv]; rfl
      have HRA := Lib.hid hra
      obtain ⟨ra, rfl, r0, hr0⟩ := (HR.out.keepsM (fun _ => rfl) hM (by simp)).row hbv
      simp only [bolV, List.getElem?_cons_zero, Nat.zero_add, Nat.mul_one] at r0
      have hrow := Lib.hid ((HC.out.keepsM (fun _ => rfl) hM (by simp)).row_of HN.out hlt)
      have hrl := Lib.hid (rowC_len HCL.out HN.out hlt)
      have hm : IntKind.i64.wrap ((y : Int) * (w : Int)) = ((y * w : Nat) : Int) := by rw [← Int.natCast_mul]; exact IntWalk.i64_in _ (by omega)
      clear hra hbv hr0
      generalize hKK : y * w = K at *
      have HKY := Lib.hid hKK
      have hk : IntKind.i64.wrap ((K : Int) + (w : Int)) = (K : Int) + (w : Int) := IntWalk.i64_in _ (by omega)
      have hcK : ¬ cc = K := by omega
      have y0 : (0 : Int) ≤ (y : Int) := by omega
      have y1 : (y : Int) < (h : Int) := by omega
      clear hKK
      cases b
      · simp only [Bool.false_eq_true, if_false] at HRA
        have HRA2 := HRA
        clear HRA
        go_wp2_with (at_builtin; go_must (refine append_src (w := W) (S := []) (W.heap.size + 2) rfl (.tmp 37) (.tmp 38) 28 27 (.agg #[.int .i32 0, .int .u8 0, .int .u8 0, .int .u8 0]) 4 8 rfl Tryd.underlying28 (by kernel_rfl) rfl (by decide) (by decide) _ K _ (a.add (K * 4)) (K + w - K) (cc - K) ((rowC w y C).flatMap Cell.vals) rfl rfl (by rw [vals_len, hrl.out, Nat.add_sub_cancel_left]) (fun j u hj => by have := rows_news hrow.out 0 (rowC w y C) [] (by simp) j u hj; rwa [Nat.zero_mul, add_zero_addr] at this) (vals_one _) HOWN.out hM (by omega) (by omega) (by omega) ?_); intro v1 w6 hown6 hM6 hgr hblk; rw [Nat.add_sub_cancel_left] at hown6; clear CX FX; have hbx6 := (hgr.block (W.heap.size + 1) (heap_lt BX.out) (fun e => by have := own_base HOWN.out _ e.symm; omega)).trans BX.out; have hb86 := (hgr.block W.heap.size (heap_lt H8.out) (fun e => by have := own_base HOWN.out _ e.symm; omega)).trans H8.out; have C6 := fun i => blk_cell hbx6 i; have F6 := fun i => blk_frozen hbx6 i; have hs6 := hgr.size; clear hgr hblk; obtain ⟨A6, c6, rfl, t1, t2, t3⟩ := own_slice' hown6; clear t1 t2 t3; have HOWN6 := Lib.hid hown6; clear hown6)
        · clear C6 F6 hm hk hcK r0
          go_roundg (gk - 1)
          case measure => omega
          case rel =>
            have e9 := blk_set hbx6 2 (.slice A6 (K + w) c6)
            simp at e9
            have hm9 := (Mods.refl [W.heap.size + 1] w6).setCell ⟨W.heap.size + 1, 2, none⟩ (.slice A6 (K + w) c6) (.inl (by simp))
            have hown9 := own_mods HOWN6.out hm9 (fun k hk => by have := own_base HOWN6.out k hk; simp; omega)
            have hs9 := hm9.size
            refine ⟨⟨y + 1, _, by go_num, by omega, e9, ?_, by omega, hM6.then hm9 (fun k hk => .inr (by simp at hk; omega)), by omega⟩, hm9.at hb86 (by simp)⟩
            rw [allC_succ, HRA2.out, List.flatMap_append, Nat.add_mul, Nat.one_mul, HKY.out]
            exact hown9
      · simp only [if_true] at HRA
        have HRA2 := HRA
        clear HRA
        go_wp2_with fail
        clear CX FX
        refine (ref5_Mend wr (some (a.add (K * 4))) w (cc - K) (rowC w y C) hrow.out (HB.out.row w y) (by omega)).mono ?_
        rintro e w5 ⟨v5, rfl, hown5, hm5⟩
        rw [mendR_mend] at hown5
        obtain ⟨A5, c5, rfl, g1, g2, g3⟩ := own_slice' hown5
        obtain ⟨g5, rfl⟩ := g3 (by omega)
        have hml : (mend (rowC w y C)).length = w := by rw [mend_len, hrl.out]
        have HML := Lib.hid hml
        have hR5 := Lib.hid (own_reads hown5 hml (by omega)).1
        have hownB := own_mods HOWN.out hm5 (by simp)
        have HOWNB := Lib.hid hownB
        have BX5 := Lib.hid (hm5.at BX.out (by simp))
        have H85 := Lib.hid (hm5.at H8.out (by simp))
        have CX := fun i => blk_cell BX5.out i
        have FX := fun i => blk_frozen BX5.out i
        have hM5 := hM.trans hm5
        have hs5 := hm5.size
        clear hown5 hml hownB g1 g2 g3
        go_wp2_with (at_builtin; go_must (refine append_src (w := W) (S := []) (W.heap.size + 2) rfl (.tmp 37) (.tmp 38) 28 27 (.agg #[.int .i32 0, .int .u8 0, .int .u8 0, .int .u8 0]) 4 8 rfl Tryd.underlying28 (by kernel_rfl) rfl (by decide) (by decide) _ K _ ⟨g5, 0, none⟩ w c5 ((mend (rowC w y C)).flatMap Cell.vals) rfl rfl (by rw [vals_len, HML.out]) (fun j u hj => by have := rows_news hR5.out 0 (mend (rowC w y C)) [] (by simp) j u hj; rwa [Nat.zero_mul, add_zero_addr] at this) (vals_one _) HOWNB.out hM5 (by omega) (by omega) (by omega) ?_); intro v1 w6 hown6 hM6 hgr hblk; clear CX FX; have hbx6 := (hgr.block (W.heap.size + 1) (heap_lt BX5.out) (fun e => by have := own_base HOWN.out _ e.symm; omega)).trans BX5.out; have hb86 := (hgr.block W.heap.size (heap_lt H85.out) (fun e => by have := own_base HOWN.out _ e.symm; omega)).trans H85.out; have C6 := fun i => blk_cell hbx6 i; have F6 := fun i => blk_frozen hbx6 i; have hs6 := hgr.size; clear hgr hblk; obtain ⟨A6, c6, rfl, t1, t2, t3⟩ := own_slice' hown6; clear t1 t2 t3; have HOWN6 := Lib.hid hown6; clear hown6)
        · clear C6 F6 hm hk hcK r0
          go_roundg (gk - 1)
          case measure => omega
          case rel =>
            have e9 := blk_set hbx6 2 (.slice A6 (K + w) c6)
            simp at e9
            have hm9 := (Mods.refl [W.heap.size + 1] w6).setCell ⟨W.heap.size + 1, 2, none⟩ (.slice A6 (K + w) c6) (.inl (by simp))
            have hown9 := own_mods HOWN6.out hm9 (fun k hk => by have := own_base HOWN6.out k hk; simp; omega)
            have hs9 := hm9.size
            refine ⟨⟨y + 1, _, by go_num, by omega, e9, ?_, by omega, hM6.then hm9 (fun k hk => .inr (by simp at hk; omega)), by omega⟩, hm9.at hb86 (by simp)⟩
            rw [allC_succ, HRA2.out, List.flatMap_append, Nat.add_mul, Nat.one_mul, HKY.out]
            exact hown9
    · have hin : y = h := by omega
      subst hin
      have hyn : y * w = n := by rw [HN.out, Nat.mul_comm]
      rw [hyn] at HOWN BX CX hoc1 hoc3
      have hsz1 := HSZ.out
      go_wp2_with (refine store_blk H8.out rfl (.tmp 8) (.tmp 41) 38 rfl (c' := #[.int .i64 (w : Int), .int .i64 (y : Int), .slice OA n oc]) (by kernel_rfl) rfl rfl rfl (by simp [Value.oneCell']) ?_; intro w6 hb6 hm6; have HB7 := Lib.hid hb6; clear hb6)
      obtain ⟨g, rfl⟩ := hoc3 (by rw [HN.out]; exact Nat.mul_pos (by omega) (by omega))
      have CF := fun i => blk_cell HB7.out i
      have hown6 := own_mods HOWN.out hm6 (fun k hk => by have := own_base HOWN.out k hk; simp; omega)
      have hR6 := own_reads hown6 (by rw [allC_len HCL.out HN.out y (Nat.le_refl _), hyn]) (by omega)
      have hM6 := hM.then hm6 (fun k hk => .inr (by simp at hk; omega))
      clear CX FX
      exact bodyPost_ret (v := gridV w y (some ⟨g, 0, none⟩) n oc) (by simp [results, Tryd.results75, go_sem, CF]) rfl ⟨⟨g, 0, none⟩, oc, rfl, hoc1, hR6.1, by have := (hR6.2.2.2 ⟨g, 0, none⟩ rfl).1; show W.heap.size ≤ g; simp at this; omega, hM6⟩
end Go.Proofs.YtldjmacnokkjdaaDoor
/- The document's answer of layer 6: New. -/
namespace Go.Proofs.YtldjmacnokkjdaaDoor
open Go.RowKit
set_option linter.unusedVariables false
set_option linter.unusedSimpArgs false

theorem ref5_Blank (w : World) : Calls Tryd.prog 41 #[] w fun e w' => e = .returned (.agg #[.int .i32 32, .int .u8 0, .int .u8 0, .int .u8 0]) ∧ Mods [] w w' := by
  go_enter Tryd.func41, Tryd.ntmps41
  go_wp2
  exact bodyPost_ret (v := blankC.val) (by simp [results, Tryd.results41, go_sem, blankC]) rfl ⟨rfl, (Mods.refl _ _).alloc _⟩
/-- append_one as a step of a region, which tells what it leaves as it was. -/
theorem step_append_one_g {P : Program} {ops : Array Oper} {o : Oper} {a : Act} {K : Act → World → Prop} {Q : Exit → Act → World → Prop} {E : Prop} {W : World} (base : Nat) (hgd : o.guard = none) (s x : Operand) (t e : TypeId) (z : Value) (size bytes : Nat)
    (ho : o.op = .call { callee := .builtin .append, args := #[s, x], argTypes := #[t, t] })
    (ht : P.underlying t = some (.slice e)) (hinfo : (P.info? e).map (fun i => (i.zero, i.size, i.bytes)) = some (some z, size, bytes)) (hz : z.cells.size = size) (hs0 : 0 < size) (hb0 : 0 < bytes)
    (v : Value) (n : Nat) (xs ys : List Value) (hs : a.eval s = v) (hx : a.eval x = .slice (some ⟨W.heap.size, 0, none⟩) 1 1) (hys : ys.length = size) (h1 : ∀ u ∈ ys, u.oneCell' = true)
    (HO : W.ownsRow base e size v n xs) (hbase : base ≤ W.heap.size) (hl : (n + 1) * bytes ≤ 140737488355328)
    (h : ∀ v1 w1, w1.ownsRow base e size v1 (n + 1) (xs ++ ys) → W.grownBy w1 v.ownBlock → K (a.put o.dst v1) w1) :
    if Region.wanted o (yielded ops a.tmps) = true then Oper.wp P o a (W.alloc (.cells ys.toArray e)) K Q else E := by
  have hw : Region.wanted o (yielded ops a.tmps) = true := by simp [Region.wanted, hgd]
  rw [if_pos hw]
  obtain ⟨i0, hi, hzz⟩ := Option.map_eq_some_iff.1 hinfo
  simp only [Prod.mk.injEq] at hzz
  obtain ⟨hz0, hz1, hz2⟩ := hzz
  have hlen : n + 1 ≤ 140737488355328 := Nat.le_trans (Nat.le_mul_of_pos_right _ hb0) hl
  obtain ⟨v', w', hr, h2, h3, h4, h5⟩ := run_append_own_at (P := P) (W.alloc (.cells ys.toArray e)) base t o.type e i0 z size bytes ht hi hz0 hz1 hz2 hz hs0 v n xs (HO.alloc _) ⟨W.heap.size, 0, none⟩ 1 1 ys (by rw [hys]; simp)
    (by simpa using World.news_of_block (cs := ys.toArray) (t := e) (fr := (0, 0)) (heap_alloc_new W (.cells ys.toArray e))) h1 (by simp only [maxLen]; omega) hl (by simp; omega)
  unfold Oper.wp execOp
  simp only [ho, resolve, invoke, builtin, Sem.run_bind, Sem.run_pure, Result.andThen_ok, List.map_toArray, List.map_cons, List.map_nil, hs, hx, hr]
  exact h v' w' h2 (World.grownBy.trans (World.grownBy_alloc W _ _) h3)
def NewRel (W : World) (w h n : Nat) (kk : Nat) (idx : Value) (wr : World) : Prop :=
  ∃ (i : Nat) (v : Value), idx = .int .i64 (i : Int) ∧ i ≤ n ∧ wr.heap[W.heap.size + 1]? = some (.cells #[.int .i64 (w : Int), .int .i64 (h : Int), v] 38 (0, 0)) ∧ wr.heap[W.heap.size]? = some (.cells #[.int .i64 0, .int .i64 0, .slice none 0 0] 38 (0, 0)) ∧
    wr.ownsRow (W.heap.size + 2) 27 4 v i ((List.replicate i blankC).flatMap Cell.vals) ∧ W.heap.size + 2 ≤ wr.heap.size ∧ Mods [] W wr ∧ kk + i = n
set_option maxRecDepth 4000 in
set_option maxHeartbeats 2000000 in
theorem ref6_New (W : World) (w h : Nat) (hw1 : 1 ≤ w) (hw2 : w ≤ 200) (hh1 : 1 ≤ h) (hh2 : h ≤ 60) :
    Calls Tryd.prog 17 #[.int .i64 (w : Int), .int .i64 (h : Int)] W fun e W' => GridNew W W' w h (w * h) (List.replicate (w * h) blankC) e := by
  obtain ⟨n, hn⟩ : ∃ n, w * h = n := ⟨_, rfl⟩
  have hn1 : 0 < n := by rw [← hn]; exact Nat.mul_pos (by omega) (by omega)
  have hn2 : n ≤ 12000 := by rw [← hn]; exact Nat.mul_le_mul hw2 hh2
  have hm : IntKind.i64.wrap ((w : Int) * (h : Int)) = (n : Int) := by rw [← hn, ← Int.natCast_mul]; exact IntWalk.i64_in _ (by rw [hn]; omega)
  rw [hn]
  clear hn
  go_enter Tryd.func17, Tryd.ntmps17
  go_wp2_with fail
  refine (ref6_size _ _ _).mono ?_
  have hd : decide (1 ≤ (w : Int) ∧ (w : Int) ≤ 200 ∧ 1 ≤ (h : Int) ∧ (h : Int) ≤ 60) = true := by simp; omega
  rw [hd]
  clear hd
  rintro e w1 ⟨rfl, rfl⟩
  go_wp2
  have hb9 := blk_new' (W.alloc (.cells #[.int .i64 0, .int .i64 0, .slice none 0 0] 38)) (.cells #[.int .i64 (w : Int), .int .i64 (h : Int), .slice none 0 0] 38) (k := W.heap.size + 1) (by simp)
  have hb8 := blk_alloc (blk_new W (.cells #[.int .i64 0, .int .i64 0, .slice none 0 0] 38)) (.cells #[.int .i64 (w : Int), .int .i64 (h : Int), .slice none 0 0] 38)
  have hM0 : Mods [] W ((W.alloc (.cells #[.int .i64 0, .int .i64 0, .slice none 0 0] 38)).alloc (.cells #[.int .i64 (w : Int), .int .i64 (h : Int), .slice none 0 0] 38)) := ((Mods.refl [] W).alloc _).alloc _
  generalize hW0 : (W.alloc (.cells #[.int .i64 0, .int .i64 0, .slice none 0 0] 38)).alloc (.cells #[.int .i64 (w : Int), .int .i64 (h : Int), .slice none 0 0] 38) = W0 at *
  have hsz0 : W0.heap.size = W.heap.size + 2 := by rw [← hW0]; simp
  have HM0 := Lib.hid hM0
  have B8 := Lib.hid hb8
  have B9 := Lib.hid hb9
  have HSZ := Lib.hid hsz0
  clear hb8 hb9 hM0 hsz0 hW0
  go_loopg [7] n (NewRel W w h n)
  case atStart => exact ⟨0, _, rfl, by omega, B9.out, B8.out, own_nil _ _ _ _, by have := HSZ.out; omega, HM0.out, by omega⟩
  case round =>
    obtain ⟨i, v, rfl, hi, hbx, hb8, hown, hsz, hM, hkk⟩ := hrel
    have HKK := Lib.hid hkk
    have BX := Lib.hid hbx
    have HOWN := Lib.hid hown
    have H8 := Lib.hid hb8
    obtain ⟨OA, oc, rfl, hoc1, hoc2, hoc3⟩ := own_slice' hown
    clear hkk hbx hown hb8
    by_cases hlt : i < n
    · have hk2 := HKK.out
      go_upto_region 8 with fail
      have D : wr.drew.cell? ⟨W.heap.size + 1, 2, none⟩ = some (.slice OA i oc) := blk_cell BX.out 2
      go_region_law (first
        | (refine step_append_one_g (W.heap.size + 2) rfl (.tmp 25) (.tmp 27) 28 27 (.agg #[.int .i32 0, .int .u8 0, .int .u8 0, .int .u8 0]) 4 8 rfl Tryd.underlying28 (by kernel_rfl) rfl (by decide) (by decide) _ i _ (Cell.vals blankC) rfl rfl rfl (by simp [Cell.vals, blankC, Value.oneCell']) (own_mods HOWN.out hm1 (by simp)) (by omega) (by omega) ?_; intro v1 w6 hown6 hgr; have hbx6 := (hgr.block (W.heap.size + 1) (heap_lt (hm1.at BX.out (by simp))) (fun e => by have := own_base HOWN.out _ e.symm; omega)).trans (hm1.at BX.out (by simp)); have hb86 := (hgr.block W.heap.size (heap_lt (hm1.at H8.out (by simp))) (fun e => by have := own_base HOWN.out _ e.symm; omega)).trans (hm1.at H8.out (by simp)); have hM6 : Mods [] W w6 := (hM.trans hm1).grown hgr (fun k e => .inr (by have := own_base HOWN.out _ e; omega)); have C6 := blk_cell hbx6 2; have F6 := blk_frozen hbx6 2; have hs6 := hgr.size; clear hgr; obtain ⟨A6, c6, rfl, t1, t2, t3⟩ := own_slice' hown6; clear t1 t2 t3; have HOWN6 := Lib.hid hown6; clear hown6)
        | (go_simp; go_at_call 41; refine (ref5_Blank _).mono ?_; rintro e w1 ⟨rfl, hm⟩; have hm1 : Mods [] wr w1 := (Mods.refl [] wr).drew.trans hm; have D1 := hm1.cell D (by simp); have D2 := (hm1.alloc (.cells #[.int .i32 32, .int .u8 0, .int .u8 0, .int .u8 0] 27)).cell D (by simp); have hs1 := hm1.size))
      all_goals
        have e9 := blk_set hbx6 2 (.slice A6 (i + 1) c6)
        simp at e9
        have hm9 := (Mods.refl [W.heap.size + 1] w6).setCell ⟨W.heap.size + 1, 2, none⟩ (.slice A6 (i + 1) c6) (.inl (by simp))
        have hown9 := own_mods HOWN6.out hm9 (fun k hk => by have := own_base HOWN6.out k hk; simp; omega)
        have hs9 := hm9.size
        have hM9 := hM6.then hm9 (fun k hk => .inr (by simp at hk; omega))
        have hb89 := hm9.at hb86 (by simp)
        clear hm9 hbx6 hb86 C6 F6
        generalize w6.setCell ⟨W.heap.size + 1, 2, none⟩ (.slice A6 (i + 1) c6) = W9 at *
        go_wp2
        go_roundg (gk - 1)
        case measure => omega
        case rel =>
          refine ⟨i + 1, _, by go_num, by omega, e9, hb89, ?_, by omega, hM9, by omega⟩
          rw [List.replicate_succ', List.flatMap_append]
          simpa using hown9
    · have hin : i = n := by omega
      subst hin
      have CX := fun j => blk_cell BX.out j
      have hsz1 := HSZ.out
      go_wp2_with (refine store_blk H8.out rfl (.tmp 4) (.tmp 30) 38 rfl (c' := #[.int .i64 (w : Int), .int .i64 (h : Int), .slice OA i oc]) (by kernel_rfl) rfl rfl rfl (by simp [Value.oneCell']) ?_; intro w6 hb6 hm6; have HB7 := Lib.hid hb6; clear hb6)
      obtain ⟨g, rfl⟩ := hoc3 hn1
      have CF := fun j => blk_cell HB7.out j
      have hown6 := own_mods HOWN.out hm6 (fun k hk => by have := own_base HOWN.out k hk; simp; omega)
      have hR6 := own_reads hown6 (by simp) (by omega)
      have hM6 := hM.then hm6 (fun k hk => .inr (by simp at hk; omega))
      clear CX
      exact bodyPost_ret (v := gridV w h (some ⟨g, 0, none⟩) i oc) (by simp [results, Tryd.results17, go_sem, CF]) rfl ⟨⟨g, 0, none⟩, oc, rfl, hoc1, hR6.1, by have := (hR6.2.2.2 ⟨g, 0, none⟩ rfl).1; show W.heap.size ≤ g; simp at this; omega, hM6⟩
end Go.Proofs.YtldjmacnokkjdaaDoor
/- The document's answer of layer 6: Put, at the beginning of a row. -/
namespace Go.Proofs.YtldjmacnokkjdaaDoor
open Go.RowKit
set_option linter.unusedVariables false
set_option linter.unusedSimpArgs false

theorem made_bools (n : Nat) : (madeCells (Value.bool false).cells (n * 1)).toList = (List.replicate n false).flatMap bolV := by
  apply List.ext_getElem?
  intro i
  rw [show (List.replicate n false).flatMap bolV = List.replicate n (Value.bool false) by induction n with
    | zero => rfl
    | succ n ih => rw [List.replicate_succ, List.flatMap_cons, ih]; rfl]
  rw [List.getElem?_replicate]
  by_cases hi : i < n
  · simp [madeCells, Value.cells, hi, Nat.mod_one]
  · simp [madeCells, hi]
/-- A slice of bools of the call's own: its block. -/
theorem bools_of {w : World} {base g n : Nat} {l : List Bool} (h : w.ownsRow base 4 1 (.slice (some ⟨g, 0, none⟩) n n) n (l.flatMap bolV)) : w.heap[g]? = some (.cells (l.flatMap bolV).toArray 4 (0, 0)) := by
  obtain ⟨h0, h2⟩ := h
  rcases h2 with ⟨h2, _⟩ | ⟨g', cap', cur, hv, hb, h1, h3, h4, h5, h6⟩
  · cases h2
  · simp only [Value.slice.injEq, Option.some.injEq, Addr.mk.injEq, true_and, and_true] at hv
    obtain ⟨rfl, rfl⟩ := hv
    rw [h1]
    rw [List.take_of_length_le (by rw [Array.length_toList]; omega)] at h6
    rw [← h6]
theorem bool_reads {w : World} {g n : Nat} {l : List Bool} (h : w.heap[g]? = some (.cells (l.flatMap bolV).toArray 4 (0, 0))) (hl : l.length = n) (hn : n ≤ maxLen) : ReadsRows w (some ⟨g, 0, none⟩) n 1 bolV l := by
  refine ⟨hl, hn, fun i o hi => ⟨⟨g, 0, none⟩, rfl, fun j hj => ?_⟩⟩
  have h2 := flat_get (rd := bolV) (size := 1) (fun _ => rfl) hi hj
  rw [addr_at, addr_at, blk_cell h, Nat.zero_add]
  simpa using h2
theorem flat_bolV (l : List Bool) : l.flatMap bolV = l.map Value.bool := by
  induction l with
  | nil => rfl
  | cons b l ih => rw [List.flatMap_cons, ih]; rfl
theorem bolV_set (l : List Bool) (y : Nat) (b : Bool) : (l.flatMap bolV).toArray.setIfInBounds y (.bool b) = ((l.set y b).flatMap bolV).toArray := by
  rw [flat_bolV, flat_bolV, List.map_set]
  simp
def rowsY (h y : Nat) : List Bool := (List.replicate h false).set y true
theorem rowsY_getD {h y y' : Nat} (hy : y < h) : (rowsY h y).getD y' false = decide (y' = y) := by
  unfold rowsY
  rw [List.getD_eq_getElem?_getD, List.getElem?_set]
  by_cases e : y = y'
  · subst e; simp [hy]
  · rw [if_neg e, List.getElem?_replicate]
    have : ¬ y' = y := fun h => e h.symm
    split <;> simp [this]
theorem right_put {w h n y i : Nat} {s L : List Cell} (hl : L.length = n) (hn : n = w * h) (hy : y < h) (hr : rightG w h L = true) (hi : i ≤ s.length) (hw : i ≤ w) :
    rightG w h (allC w (rowsY h y) (setRow w y (layRow 0 i s (rowC w y L)) L) h) = true := by
  have hrl := rowC_len hl hn hy
  have hll := layRow_len (l := 0) (rt := i) (s := s) hrl (by omega) hw (by omega)
  have hle := row_le hn hy
  have hsl : (setRow w y (layRow 0 i s (rowC w y L)) L).length = n := by rw [setRow_len hll (by omega), hl]
  unfold rightG at hr ⊢
  rw [List.all_eq_true] at hr ⊢
  intro y' hy'
  have hyh : y' < h := by simpa using hy'
  rw [rowC_all hsl hn h (Nat.le_refl _) y' hyh]
  unfold rowA
  rw [rowsY_getD hy]
  by_cases e : y' = y
  · simp only [e, decide_true, if_true]; exact right_mend _
  · simp only [e, decide_false, Bool.false_eq_true, if_false]
    have hle' := row_le hn hyh
    rw [rowC_setRow_ne hll (by omega) (by omega) e]
    exact hr y' hy'
theorem layRow_set {w i : Nat} {s r : List Cell} {d : Cell} (hr : r.length = w) (hi : i < w) (hd : s[i]? = some d) : (layRow 0 i s r).set i d = layRow 0 (i + 1) s r := by
  have hsl : i < s.length := (List.getElem?_eq_some_iff.1 hd).1
  apply List.ext_getElem?
  intro j
  rw [List.getElem?_set, layRow_len hr (by omega) (by omega) (by omega), layRow_get hr (by omega) (by omega) (by omega), layRow_get hr (by omega) (by omega) (by omega)]
  by_cases h : i = j
  · subst h
    rw [if_pos rfl, if_pos hi, if_pos (by omega), Nat.sub_zero, hd]
  · rw [if_neg h]
    by_cases h2 : j < i
    · rw [if_pos (by omega), if_pos (by omega)]
    · rw [if_neg (by omega), if_neg (by omega)]
/-- What Put's loop has made of a row's beginning. -/
def Put6Rel (W1 : World) (b cap n w y : Nat) (s L : List Cell) (kk : Nat) (idx : Value) (wr : World) : Prop :=
  ∃ i : Nat, idx = .int .i64 (i : Int) ∧ i ≤ s.length ∧ CellB wr b n cap (setRow w y (layRow 0 i s (rowC w y L)) L) ∧ Mods [b] W1 wr ∧ kk + i = s.length
/-- A grid that a function of the document hands back. -/
def GridSome (W W' : World) (w h n : Nat) (a : Addr) (e : Ending) : Prop :=
  ∃ a' c' L', e = .returned (gridV w h (some a') n c') ∧ n ≤ c' ∧ ReadsRows W' (some a') n 4 Cell.vals L' ∧ rightG w h L' = true ∧ (a' = a ∨ W.heap.size ≤ a'.block) ∧ Mods [] W W'
set_option maxRecDepth 100000 in
set_option maxHeartbeats 4000000 in
theorem ref6_Put (W : World) (w h n c0 : Nat) (a : Addr) (L : List Cell) (y : Nat) (A : Option Addr) (k kc : Nat) (s : List Cell) (hg : GridOk w h n c0) (hL : ReadsRows W (some a) n 4 Cell.vals L) (hr : rightG w h L = true)
    (hb : Small L) (hy : y < h) (hs : ReadsRows W A k 4 Cell.vals s) (hk : k ≤ w) (hsb : Small s) :
    Calls Tryd.prog 53 #[gridV w h (some a) n c0, .int .i64 0, .int .i64 (y : Int), .slice A k kc] W fun e W' => GridSome W W' w h n a e := by
  obtain ⟨hw1, hw2, hh1, hh2, hn, hcc⟩ := id hg
  have hn2 : n ≤ 12000 := by rw [hn]; exact Nat.mul_le_mul hw2 hh2
  have hle := row_le hn hy
  have HG := Lib.hid hg
  have HL := Lib.hid hL
  have HR := Lib.hid hr
  have HN := Lib.hid hn
  have HS := Lib.hid hs
  have HSL := Lib.hid hs.1
  have HB := Lib.hid hb
  have HSB := Lib.hid hsb
  have dy : decide ((y : Int) ≥ (h : Int)) = false := by simp; omega
  have dy2 : decide (h ≤ y) = false := by simp; omega
  clear hg hL hr hn hs hb hsb
  go_enter Tryd.func53, Tryd.ntmps53
  go_wp2_with fail
  refine Calls.named fun W0 hW0 => ?_
  obtain ⟨hM0, hb4, hb8, hsz⟩ := boxes2 hW0
  have B4 := Lib.hid hb4
  have B8 := Lib.hid hb8
  have HSZ := Lib.hid hsz
  have HM0 := Lib.hid hM0
  clear hb4 hb8 hsz hW0
  refine (ref6_Check W0 w h n c0 a L HG.out (HL.out.keepsM (fun _ => rfl) hM0 (by simp)) HB.out).mono ?_
  rintro e w1 ⟨b, rfl, hm1⟩
  have C4 := fun i => blk_cell (hm1.at B4.out (by simp)) i
  have hs1 := hm1.size
  have hsz := HSZ.out
  cases b
  · have HB8 := Lib.hid (hm1.at B8.out (by simp))
    go_wp2_with (refine store_blk HB8.out rfl (.tmp 8) (.tmp 27) 38 rfl (c' := #[.int .i64 (w : Int), .int .i64 (h : Int), .slice (some a) n c0]) (by kernel_rfl) rfl rfl rfl (by simp [Value.oneCell']) ?_; intro w5 hb5 hm5; have HB5 := Lib.hid hb5; clear hb5)
    have CF := fun i => blk_cell HB5.out i
    have hM5 := (HM0.out.trans hm1).then hm5 (fun k hk => .inr (by simp at hk; omega))
    clear C4
    exact bodyPost_ret (v := gridV w h (some a) n c0) (by simp [results, Tryd.results53, go_sem, CF]) rfl ⟨a, c0, L, rfl, hcc, HL.out.keepsM (fun _ => rfl) hM5 (by simp), HR.out, .inl rfl, hM5⟩
  · obtain ⟨i0, hi, hz0, hz1, hz2⟩ := info_parts (show (Tryd.prog.info? 4).map (fun i => (i.zero, i.size, i.bytes)) = some (some (.bool false), 1, 1) by kernel_rfl)
    have HI := Lib.hid hi
    have HZ0 := Lib.hid hz0
    have HZ1 := Lib.hid hz1
    have HZ2 := Lib.hid hz2
    clear hi hz0 hz1 hz2
    go_upto_region 5 with (refine wpList_make_full _ rfl (.tmp 29) (.tmp 29) 100 rfl w1.heap.size 4 i0 _ 1 Tryd.underlying100 HI.out HZ0.out HZ1.out .i64 .i64 _ _ h rfl rfl rfl rfl (by rw [HZ2.out]; omega) (by unfold maxLen; omega) (Nat.le_refl _) ?_; intro w2 hown hgrow; rw [made_bools] at hown; have HOWN := Lib.hid hown; have HGW := Lib.hid hgrow; clear hown hgrow)
    clear C4 HI HZ0 HZ1 HZ2
    have hm2 : Mods [] w1 w2 := (Mods.refl [] w1).grown HGW.out (fun k e => by cases e)
    have hs2 : w1.heap.size < w2.heap.size := own_lt HOWN.out _ rfl
    have hbb := bools_of HOWN.out
    have y0 : (0 : Int) ≤ (y : Int) := by omega
    have y1 : (y : Int) < (h : Int) := by omega
    have CB : w2.cell? ⟨w1.heap.size, y, none⟩ = some (.bool false) := by
      rw [blk_cell hbb y]
      have : (List.replicate h false)[y]? = some false := by rw [List.getElem?_replicate, if_pos hy]
      have h2 := flat_get (rd := bolV) (size := 1) (fun _ => rfl) this (j := 0) (by omega)
      simpa [bolV] using h2
    have FB : w2.frozen? ⟨w1.heap.size, y, none⟩ = false := blk_frozen hbb y
    have HBB := Lib.hid hbb
    clear hbb
    go_upto_region 6 with fail
    have hb3 := blk_set HBB.out y (.bool true)
    rw [bolV_set] at hb3
    have hm3 := (Mods.refl [w1.heap.size] w2).setCell ⟨w1.heap.size, y, none⟩ (.bool true) (.inl (by simp))
    have hs3 := hm3.size
    clear CB FB
    generalize w2.setCell ⟨w1.heap.size, y, none⟩ (.bool true) = W3 at *
    have HB3 := Lib.hid hb3
    have hM3 : Mods [] w1 W3 := hm2.then hm3 (fun k hk => .inr (by simp at hk; omega))
    have hMW3 : Mods [] W W3 := HM0.out.trans (hm1.trans hM3)
    have hm4 : Mods [] W3 (W3.alloc (.cells #[] 27)) := (Mods.refl [] W3).alloc _
    have C4 := fun i => blk_cell ((hm1.trans (hM3.trans hm4)).at B4.out (by simp)) i
    have hown0 : (W3.alloc (.cells #[] 27)).ownsRow W3.heap.size 27 4 (.slice (some ⟨W3.heap.size, 0, none⟩) 0 0) 0 [] := own_block (cs := #[]) (blk_new W3 _) (Nat.le_refl _) rfl (by unfold maxLen; omega)
    have HOWN0 := Lib.hid hown0
    have hLL := Lib.hid HL.out.1
    have HLW := Lib.hid (HL.out.keepsM (fun _ => rfl) (hMW3.trans hm4) (by simp))
    have hmm := hMW3.trans hm4
    clear hb3 hown0
    go_upto_region 7 with (at_builtin; go_must (refine append_src (w := W) (S := []) W3.heap.size rfl (.tmp 34) (.tmp 36) 28 27 (.agg #[.int .i32 0, .int .u8 0, .int .u8 0, .int .u8 0]) 4 8 rfl Tryd.underlying28 (by kernel_rfl) rfl (by decide) (by decide) _ 0 [] a n c0 (L.flatMap Cell.vals) rfl rfl (by rw [vals_len, hLL.out]) (fun j u hj => by have := rows_news HLW.out 0 L [] (by simp) j u hj; rwa [Nat.zero_mul, add_zero_addr] at this) (vals_one _) HOWN0.out hmm (by simp) (by omega) (by omega) ?_); intro v1 w6 hown6 hM6 hgr hblk; have hm6 : Mods [] W3 w6 := (Mods.refl [] W3).trans (hm4.grown hgr (fun k e => .inr (own_base HOWN0.out k e))); clear hgr hblk C4; rw [Nat.zero_add, List.nil_append] at hown6; obtain ⟨A6, c6, rfl, t1, t2, t3⟩ := own_slice' hown6; obtain ⟨b, rfl⟩ := t3 (by rw [HN.out]; exact Nat.mul_pos (by omega) (by omega)); clear t1 t2 t3; have HOWN6 := Lib.hid hown6; clear hown6)
    obtain ⟨hBC, hbge⟩ := CellB.of_own HOWN6.out hLL.out
    have HBC := Lib.hid hBC
    have B46 := Lib.hid ((hm1.trans (hM3.trans hm6)).at B4.out (by simp))
    have B86 := Lib.hid ((hm1.trans (hM3.trans hm6)).at B8.out (by simp))
    have HB6 := Lib.hid (hm6.at HB3.out (by simp))
    have hs6 := hm6.size
    have hblt := hBC.lt
    clear hBC HLW hmm hm4 HOWN0
    have hrl := rowC_len hLL.out HN.out hy
    have HRL := Lib.hid hrl
    have hK : IntKind.i64.wrap ((y : Int) * (w : Int)) = ((y * w : Nat) : Int) := by rw [← Int.natCast_mul]; exact IntWalk.i64_in _ (by omega)
    have HK := Lib.hid hK
    clear hrl hK
    go_wp2
    go_loopg [12] k (Put6Rel w6 b c6 n w y s L)
    case atStart => exact ⟨0, rfl, by omega, by rw [show layRow 0 0 s (rowC w y L) = rowC w y L by simp [layRow], setRow_self (by rw [hLL.out]; exact hle)]; exact HBC.out, Mods.refl _ _, by rw [HSL.out]; omega⟩
    case round =>
      obtain ⟨i, rfl, hi, hBi, hMi, hkk⟩ := hrel
      rw [HSL.out] at hi hkk
      have HKK := Lib.hid hkk
      have HBI := Lib.hid hBi
      have hMWi : Mods [] W wr := hM6.then hMi (fun k hk => .inr (by simp at hk; omega))
      have C4 := fun j => blk_cell (hMi.at B46.out (by simp; omega)) j
      clear hkk hBi
      by_cases hlt : i < k
      · obtain ⟨d, hd⟩ : ∃ d, s[i]? = some d := ⟨_, List.getElem?_eq_getElem (by rw [HSL.out]; exact hlt)⟩
        have HD := Lib.hid hd
        obtain ⟨sa, rfl, e0, hes⟩ := (HS.out.keepsM (fun _ => rfl) hMWi (by simp)).row hd
        have e1 := hes 0 (by omega)
        have e2 := hes 1 (by omega)
        have e3 := hes 2 (by omega)
        clear hes hd
        obtain ⟨d1, d2, d3, d4⟩ := d
        simp only [Cell.vals, List.getElem?_cons_zero, List.getElem?_cons_succ] at e0 e1 e2 e3
        have hk2 := HKK.out
        have hKK := HK.out
        have hfit : y * w + i < n := by omega
        have HFIT := Lib.hid hfit
        generalize hKe : y * w = K at *
        have HKE := Lib.hid hKe
        have x1 : IntKind.i64.wrap ((w : Int) - (i : Int)) = (w : Int) - (i : Int) := IntWalk.i64_in _ (by omega)
        have x2 : decide ((0 : Int) < (w : Int) - (i : Int)) = true := by simp; omega
        have x3 : IntKind.i64.wrap (K : Int) = (K : Int) := IntWalk.i64_in _ (by omega)
        have z0 : (0 : Int) ≤ (K : Int) + (i : Int) := by omega
        have z1 : (K : Int) + (i : Int) < (n : Int) := by omega
        have z2 : ((K : Int) + (i : Int)).toNat = K + i := by omega
        have x4 : IntKind.i64.wrap ((K : Int) + (i : Int)) = (K : Int) + (i : Int) := IntWalk.i64_in _ (by omega)
        have i0 : (0 : Int) ≤ (i : Int) := by omega
        have i1 : (i : Int) < (k : Int) := by omega
        clear hKe
        go_upto_region 11 with fail
        have E0 : wr.drew.cell? (sa.add (i * (3 + 1))) = some (.int .i32 d1) := e0
        have E1 : wr.drew.cell? ⟨(sa.add (i * (3 + 1))).block, (sa.add (i * (3 + 1))).off + (0 + 1), none⟩ = some (.int .u8 d2) := e1
        have E2 : wr.drew.cell? ⟨(sa.add (i * (3 + 1))).block, (sa.add (i * (3 + 1))).off + (1 + 1), none⟩ = some (.int .u8 d3) := e2
        have E3 : wr.drew.cell? ⟨(sa.add (i * (3 + 1))).block, (sa.add (i * (3 + 1))).off + (2 + 1), none⟩ = some (.int .u8 (d4.val : Int)) := e3
        have D4 : wr.drew.cell? ⟨W.heap.size, 0, none⟩ = some (.int .i64 (w : Int)) := C4 0
        have HBD : Hid (CellB wr.drew b n c6 (setRow w y (layRow 0 i s (rowC w y L)) L)) := Lib.hid HBI.out
        have hMd : Mods [b] w6 wr.drew := hMi.drew
        clear e0 e1 e2 e3 C4
        go_still_tail 14, (by kernel_rfl)
        change wpList _ _ _ _ _ wr.drew
        generalize wr.drew = wd at *
        go_wp2_with (refine store_cell HBD.out rfl (.tmp 85) (.tmp 84) 27 rfl (by kernel_rfl) (K + i) _ rfl ⟨d1, d2, d3, d4⟩ rfl rfl (by omega) ?_; intro w7 hB7 hM7; have HB7 := Lib.hid hB7; clear hB7)
        go_roundg (gk - 1)
        case measure => omega
        case rel =>
          refine ⟨i + 1, by go_num, by rw [HSL.out]; omega, ?_, hMd.trans hM7, by rw [HSL.out]; omega⟩
          have := HB7.out
          rw [← HKE.out, setRow_set (layRow_len HRL.out (by omega) (by omega) (by rw [HSL.out]; omega)) (by rw [hLL.out, HKE.out]; exact hle) (by omega), layRow_set HRL.out (by omega) HD.out] at this
          exact this
      · have hin : i = k := by omega
        subst hin
        go_wp2_with fail
        clear C4
        have hbl : Small (setRow w y (layRow 0 i s (rowC w y L)) L) := by
          intro c hc
          have hHB := HB.out
          have hSB := HSB.out
          unfold setRow layRow rowC at hc
          simp only [List.mem_append] at hc
          rcases hc with (hc | ((hc | hc) | hc)) | hc
          · exact hHB c (List.mem_of_mem_take hc)
          · exact hHB c (List.mem_of_mem_drop (List.mem_of_mem_take (List.mem_of_mem_take hc)))
          · exact hSB c (List.mem_of_mem_take hc)
          · exact hHB c (List.mem_of_mem_drop (List.mem_of_mem_take (List.mem_of_mem_drop hc)))
          · exact hHB c (List.mem_of_mem_drop hc)
        refine (ref6_all wr w h n h c6 _ ⟨b, 0, none⟩ (rowsY h y) _ hw1 hw2 hh1 hh2 HN.out HBI.out.cap (bool_reads (hMi.at HB6.out (by simp; omega)) (by simp [rowsY]) (by unfold maxLen; omega)) HBI.out.reads hbl).mono ?_
        rintro e w8 ⟨a8, c8, rfl, hc8, hR8, hge8, hm8⟩
        have hM8 := hMi.trans (hm8.mono (by simp))
        have HB88 := Lib.hid (hM8.at B86.out (by simp; omega))
        have hsi := hMi.size
        go_wp2_with (refine store_blk HB88.out rfl (.tmp 8) (.tmp 92) 38 rfl (c' := #[.int .i64 (w : Int), .int .i64 (h : Int), .slice (some a8) n c8]) (by kernel_rfl) rfl rfl rfl (by simp [Value.oneCell']) ?_; intro w9 hb9 hm9; have HB9 := Lib.hid hb9; clear hb9)
        have CF := fun i => blk_cell HB9.out i
        have hM9 := (hMWi.trans hm8).then hm9 (fun k hk => .inr (by simp at hk; omega))
        have hR9 := hR8.keepsM (fun _ => rfl) hm9 (by intro a' ha'; cases ha'; simp; omega)
        exact bodyPost_ret (v := gridV w h (some a8) n c8) (by simp [results, Tryd.results53, go_sem, CF]) rfl ⟨a8, c8, _, rfl, hc8, hR9, right_put hLL.out HN.out hy HR.out (by rw [HSL.out]; exact Nat.le_refl _) hk, .inr (by omega), hM9⟩
end Go.Proofs.YtldjmacnokkjdaaDoor
/- Package lyceumref06: Row of no row, At, Same. -/
namespace Go.Proofs.YtldjmacnokkjdaaDoor
open Go.RowKit Go.Shelf
set_option linter.unusedVariables false
set_option linter.unusedSimpArgs false

theorem ref6_Row_none (W : World) (w h n c : Nat) (A : Option Addr) (y : Int) (hy : y < 0) :
    Calls Tryd.prog 47 #[gridV w h A n c, .int .i64 y] W fun e W' => e = .returned (.slice none 0 0) ∧ Mods [] W W' := by
  have d1 : decide (y < 0) = true := by simp; omega
  go_enter Tryd.func47, Tryd.ntmps47
  go_upto_region 1 with fail
  go_quiet (fail)
  go_wp2
  go_ret
  exact ⟨rfl, ((Mods.refl [] W).alloc _).drewN _⟩
theorem ref6_At_none (W : World) (w h n c : Nat) (A : Option Addr) (x : Nat) (y : Int) (hy : y < 0) :
    Calls Tryd.prog 21 #[gridV w h A n c, .int .i64 (x : Int), .int .i64 y] W fun e W' => e = .returned (.agg #[.int .i32 0, .int .u8 0, .int .u8 0, .int .u8 0]) ∧ Mods [] W W' := by
  have hM0 := ((Mods.refl [] W).alloc (.cells #[.int .i64 (w : Int), .int .i64 (h : Int), .slice A n c] 38)).alloc (.cells #[.int .i32 0, .int .u8 0, .int .u8 0, .int .u8 0] 27)
  have hG := blk_new (W.alloc (.cells #[.int .i64 (w : Int), .int .i64 (h : Int), .slice A n c] 38)) (.cells #[.int .i32 0, .int .u8 0, .int .u8 0, .int .u8 0] 27)
  rw [World.size_alloc] at hG
  have HG := Lib.hid hG
  clear hG
  go_enter Tryd.func21, Tryd.ntmps21
  go_wp2_with fail
  with_reducible refine (ref6_Row_none _ w h n c A y hy).mono ?_
  rintro e w2 ⟨rfl, hm2⟩
  have HG2 := Lib.hid (hm2.at HG.out (by simp))
  go_wp2_with (refine store_blk HG2.out rfl (.tmp 6) (.tmp 19) 27 rfl (c' := #[.int .i32 0, .int .u8 0, .int .u8 0, .int .u8 0]) (by kernel_rfl) rfl rfl rfl (by simp [Value.oneCell']) ?_; intro w3 hb3 hm3; have HB3 := Lib.hid hb3; clear hb3)
  have C3 := fun i => blk_cell HB3.out i
  exact bodyPost_ret (v := .agg #[.int .i32 0, .int .u8 0, .int .u8 0, .int .u8 0]) (by simp [results, Tryd.results21, go_sem, C3]) rfl ⟨rfl, (hM0.trans hm2).then hm3 (by simp)⟩
theorem ref6_At_in (W : World) (w h n c : Nat) (a : Addr) (L : List Cell) (x y : Nat) (hg : GridOk w h n c) (hL : ReadsRows W (some a) n 4 Cell.vals L) (hy : y < h) (hx : x < w) (d : Cell) (hd : (rowC w y L)[x]? = some d) :
    Calls Tryd.prog 21 #[gridV w h (some a) n c, .int .i64 (x : Int), .int .i64 (y : Int)] W fun e W' => e = .returned d.val ∧ Mods [] W W' := by
  have HGO := Lib.hid hg
  have hM0 := ((Mods.refl [] W).alloc (.cells #[.int .i64 (w : Int), .int .i64 (h : Int), .slice (some a) n c] 38)).alloc (.cells #[.int .i32 0, .int .u8 0, .int .u8 0, .int .u8 0] 27)
  have hG := blk_new (W.alloc (.cells #[.int .i64 (w : Int), .int .i64 (h : Int), .slice (some a) n c] 38)) (.cells #[.int .i32 0, .int .u8 0, .int .u8 0, .int .u8 0] 27)
  rw [World.size_alloc] at hG
  have HG := Lib.hid hG
  have HR := Lib.hid (hL.keepsM (fun _ => rfl) hM0 (by simp))
  have HD := Lib.hid hd
  have hrl : (rowC w y L).length = w := rowC_len hL.1 hg.2.2.2.2.1 hy
  have HRL := Lib.hid hrl
  have hw2 : w ≤ 200 := hg.2.1
  clear hL hg hG hd hrl
  go_enter Tryd.func21, Tryd.ntmps21
  go_wp2_with fail
  with_reducible refine (ref6_Row _ w h n c a L y HGO.out HR.out hy).mono ?_
  rintro e w2 ⟨v, rfl, hown, hm2⟩
  obtain ⟨A2, c2, rfl, r1, r2, r3⟩ := own_slice' hown
  obtain ⟨hR2, _, _, _⟩ := own_reads hown HRL.out (by omega)
  have HG2 := Lib.hid (hm2.at HG.out (by simp))
  obtain ⟨a2, rfl, c0, hcs⟩ := hR2.row HD.out
  have c1 := hcs 0 (by omega)
  have c2' := hcs 1 (by omega)
  have c3 := hcs 2 (by omega)
  clear hcs HD HR hown hR2
  obtain ⟨r, fg, bg, at'⟩ := d
  simp only [Cell.vals, List.getElem?_cons_zero, List.getElem?_cons_succ] at c0 c1 c2' c3
  have d5 : decide ((x : Int) ≥ (w : Int)) = false := by simp; omega
  have d6 : decide (w ≤ x) = false := by simp; omega
  go_wp2_with (refine store_blk HG2.out rfl (.tmp 6) (.tmp 23) 27 rfl (c' := #[.int .i32 r, .int .u8 fg, .int .u8 bg, .int .u8 (at'.val : Int)]) (by kernel_rfl) rfl rfl rfl (by simp [Value.oneCell']) ?_; intro w3 hb3 hm3; have HB3 := Lib.hid hb3; clear hb3)
  clear c0 c1 c2' c3
  have C3 := fun i => blk_cell HB3.out i
  exact bodyPost_ret (v := .agg #[.int .i32 r, .int .u8 fg, .int .u8 bg, .int .u8 (at'.val : Int)]) (by simp [results, Tryd.results21, go_sem, C3]) rfl ⟨rfl, (hM0.trans hm2).then hm3 (by simp)⟩
theorem ref6_Same (W : World) (w h w' h' : Int) (A B : Option Addr) (n m ca cb : Nat) (xs ys : List Cell) (hx : ReadsRows W A n 4 Cell.vals xs) (hy : ReadsRows W B m 4 Cell.vals ys) :
    Calls Tryd.prog 19 #[gridV w h A n ca, gridV w' h' B m cb] W fun e W' => e = .returned (.bool (decide (w = w' ∧ h = h' ∧ xs = ys))) ∧ Mods [] W W' := by
  have hM0 := ((Mods.refl [] W).alloc (.cells #[.int .i64 w, .int .i64 h, .slice A n ca] 38)).alloc (.cells #[.int .i64 w', .int .i64 h', .slice B m cb] 38)
  have HX := Lib.hid (hx.keepsM (fun _ => rfl) hM0 (by simp))
  have HY := Lib.hid (hy.keepsM (fun _ => rfl) hM0 (by simp))
  obtain ⟨res, hres⟩ : ∃ b, decide (w = w' ∧ h = h' ∧ xs = ys) = b := ⟨_, rfl⟩
  have HRES := Lib.hid hres
  rw [hres]
  clear hx hy hres
  go_enter Tryd.func19, Tryd.ntmps19
  go_wp2_with fail
  refine Calls.named fun W0 hW0 => ?_
  rw [← hW0] at hM0 HX HY
  obtain ⟨_, hb2, hb3, _⟩ := boxes2 hW0
  have B2 := Lib.hid hb2
  have B3 := Lib.hid hb3
  clear hb2 hb3 hW0
  refine (ref5_Same W0 A B n m ca cb xs ys HX.out HY.out).mono ?_
  rintro e w1 ⟨rfl, nd, rfl⟩
  have hm1 : Mods [] W0 (W0.drewN nd) := (Mods.refl [] W0).drewN nd
  have C2 := fun i => blk_cell (hm1.at B2.out (by simp)) i
  have C3 := fun i => blk_cell (hm1.at B3.out (by simp)) i
  generalize W0.drewN nd = w1 at *
  obtain ⟨bb, hbb⟩ : ∃ b, decide (xs = ys) = b := ⟨_, rfl⟩
  have HBB := Lib.hid hbb
  rw [hbb]
  clear hbb
  cases bb
  · go_wp2
    go_ret
    have hr : res = false := by rw [← HRES.out]; exact decide_eq_false (fun hh => of_decide_eq_false HBB.out hh.2.2)
    subst hr
    exact ⟨rfl, hM0.trans hm1⟩
  · by_cases hw : w = w'
    · by_cases hh : h = h'
      · subst hw
        subst hh
        go_wp2
        go_ret
        have hr : res = true := by rw [← HRES.out]; simpa using of_decide_eq_true HBB.out
        subst hr
        exact ⟨rfl, hM0.trans hm1⟩
      · subst hw
        have e1 : (h == h') = false := by simp [hh]
        go_wp2
        go_ret
        have hr : res = false := by rw [← HRES.out]; exact decide_eq_false (fun h0 => hh h0.2.1)
        subst hr
        exact ⟨rfl, hM0.trans hm1⟩
    · have e1 : (w == w') = false := by simp [hw]
      go_wp2
      go_ret
      have hr : res = false := by rw [← HRES.out]; exact decide_eq_false (fun h0 => hw h0.1)
      subst hr
      exact ⟨rfl, hM0.trans hm1⟩
end Go.Proofs.YtldjmacnokkjdaaDoor
