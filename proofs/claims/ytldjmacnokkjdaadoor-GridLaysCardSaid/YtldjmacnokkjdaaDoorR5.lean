/- The document's answers of layer 5: Check, pair, Right, Mend. -/
import Derived.Test.YtldjmacnokkjdaaDoorHs
import Derived.BigQuiet
namespace Go.Proofs.YtldjmacnokkjdaaDoor
open Go.RowKit
set_option linter.unusedVariables false
set_option linter.unusedSimpArgs false

theorem quo64 (a : Fin 256) : ((a.val : Int) / 64 % 2 == 1) = wideA a := by revert a; decide +kernel
theorem quo128 (a : Fin 256) : ((a.val : Int) / 128 == 1) = tailA a := by revert a; decide +kernel
theorem ref5_wide (w : World) (c : Cell) : Calls Tryd.prog 101 #[c.val] w fun e w' => e = .returned (.bool c.wide) ∧ Mods [] w w' := by
  obtain ⟨r, fg, bg, a⟩ := c
  go_enter Tryd.func101, Tryd.ntmps101
  go_wp2
  go_ret
  exact ⟨by show Ending.returned (.bool ((a.val : Int) / 64 % 2 == 1)) = _; rw [quo64]; rfl, (Mods.refl _ _).alloc _⟩
theorem ref5_tail (w : World) (c : Cell) : Calls Tryd.prog 103 #[c.val] w fun e w' => e = .returned (.bool c.tail) ∧ Mods [] w w' := by
  obtain ⟨r, fg, bg, a⟩ := c
  go_enter Tryd.func103, Tryd.ntmps103
  go_wp2
  go_ret
  exact ⟨by show Ending.returned (.bool ((a.val : Int) / 128 == 1)) = _; rw [quo128]; rfl, (Mods.refl _ _).alloc _⟩
set_option maxRecDepth 4000 in
set_option maxHeartbeats 4000000 in
theorem ref5_Check (w : World) (c : Cell) (hb : -2147483648 ≤ c.r ∧ c.r ≤ 2147483647) : Calls Tryd.prog 100 #[c.val] w fun e w' => e = .returned (.bool c.ok) ∧ Mods [] w w' := by
  obtain ⟨r, fg, bg, at'⟩ := c
  obtain ⟨hb1, hb2⟩ := hb
  simp only at hb1 hb2
  have KW : ∀ w, Calls Tryd.prog 101 #[.agg #[.int .i32 r, .int .u8 fg, .int .u8 bg, .int .u8 (at'.val : Int)]] w fun e w' => e = .returned (.bool (wideA at')) ∧ Mods [] w w' := fun w => ref5_wide w ⟨r, fg, bg, at'⟩
  have KT : ∀ w, Calls Tryd.prog 103 #[.agg #[.int .i32 r, .int .u8 fg, .int .u8 bg, .int .u8 (at'.val : Int)]] w fun e w' => e = .returned (.bool (tailA at')) ∧ Mods [] w w' := fun w => ref5_tail w ⟨r, fg, bg, at'⟩
  have HKW := Lib.hid KW
  have HKT := Lib.hid KT
  clear KW KT
  have hok : Cell.ok ⟨r, fg, bg, at'⟩ = if tailA at' then !wideA at' && decide (r = 0) else if wideA at' then decide (width r = 2) else decide (width r = 1) := rfl
  have HOK := Lib.hid hok
  clear hok
  have hX := Mods.refl [] (w.alloc (.cells #[.int .i32 r, .int .u8 fg, .int .u8 bg, .int .u8 (at'.val : Int)] 27))
  have hM := (Mods.refl [] w).alloc (.cells #[.int .i32 r, .int .u8 fg, .int .u8 bg, .int .u8 (at'.val : Int)] 27)
  have HMM := Lib.hid hM
  clear hM
  obtain ⟨wr, hwr⟩ : ∃ k, width r = k := ⟨_, rfl⟩
  have HWR := Lib.hid hwr
  have hws := width_cases r
  rw [hwr] at hws
  clear hwr hX
  cases ht : tailA at' <;> cases hwd : wideA at'
  all_goals
    rw [ht, hwd] at HOK
    rw [ht] at HKT
    rw [hwd] at HKW
    clear ht hwd
    go_enter Tryd.func100, Tryd.ntmps100
    go_wp2_with fail
    refine (ref4_Width _ r hb1 hb2).mono ?_
    rw [HWR.out]
    rintro e w1 ⟨rfl, rfl⟩
    go_wp2_with fail
    refine (HKT.out _).mono ?_
    rintro e w2 ⟨rfl, hm2⟩
    have C := kept_cells hm2
  · rcases hws with rfl | rfl | rfl
    · go_wp2
      go_ret
      exact ⟨by rw [HOK.out, HWR.out]; rfl, HMM.out.trans hm2⟩
    · go_wp2_with fail
      refine (HKW.out _).mono ?_
      rintro e w3 ⟨rfl, hm3⟩
      clear C
      go_wp2
      go_ret
      exact ⟨by rw [HOK.out, HWR.out]; rfl, HMM.out.trans (hm2.trans hm3)⟩
    · go_wp2_with fail
      refine (HKW.out _).mono ?_
      rintro e w3 ⟨rfl, hm3⟩
      clear C
      go_wp2
      go_ret
      exact ⟨by rw [HOK.out, HWR.out]; rfl, HMM.out.trans (hm2.trans hm3)⟩
  · rcases hws with rfl | rfl | rfl
    · go_wp2
      go_ret
      exact ⟨by rw [HOK.out, HWR.out]; rfl, HMM.out.trans hm2⟩
    · go_wp2_with fail
      refine (HKW.out _).mono ?_
      rintro e w3 ⟨rfl, hm3⟩
      clear C
      go_wp2
      go_ret
      exact ⟨by rw [HOK.out, HWR.out]; rfl, HMM.out.trans (hm2.trans hm3)⟩
    · go_wp2_with fail
      refine (HKW.out _).mono ?_
      rintro e w3 ⟨rfl, hm3⟩
      clear C
      go_wp2
      go_ret
      exact ⟨by rw [HOK.out, HWR.out]; rfl, HMM.out.trans (hm2.trans hm3)⟩
  · go_wp2_with fail
    refine (HKW.out _).mono ?_
    rintro e w3 ⟨rfl, hm3⟩
    clear C
    have C := kept_cells (hm2.trans hm3)
    go_wp2
    go_ret
    exact ⟨by rw [HOK.out]; by_cases hr0 : r = 0 <;> simp [hr0], HMM.out.trans (hm2.trans hm3)⟩
  · go_wp2_with fail
    refine (HKW.out _).mono ?_
    rintro e w3 ⟨rfl, hm3⟩
    clear C
    go_wp2
    go_ret
    exact ⟨by rw [HOK.out]; rfl, HMM.out.trans (hm2.trans hm3)⟩
def pairC (row : List Cell) (i : Nat) : Bool :=
  match row[i]?, row[i + 1]? with
  | some c, some d => c.ok && c.wide && decide (d = c.behind)
  | _, _ => false
theorem ref5_pair_neg (w : World) (A : Option Addr) (n cap : Nat) : Calls Tryd.prog 102 #[.slice A n cap, .int .i64 (-1)] w fun e w' => e = .returned (.bool false) ∧ Mods [] w w' := by
  go_enter Tryd.func102, Tryd.ntmps102
  go_upto_region 1 with fail
  go_quiet (fail)
  go_wp2
  go_ret
  exact ⟨rfl, (Mods.refl _ _).drewN _⟩
set_option maxRecDepth 4000 in
set_option maxHeartbeats 4000000 in
theorem ref5_pair (w : World) (A : Option Addr) (n cap i : Nat) (row : List Cell) (h : ReadsRows w A n 4 Cell.vals row) (hi : i < n) (hb : ∀ c ∈ row, -2147483648 ≤ c.r ∧ c.r ≤ 2147483647) :
    Calls Tryd.prog 102 #[.slice A n cap, .int .i64 (i : Int)] w fun e w' => e = .returned (.bool (pairC row i)) ∧ Mods [] w w' := by
  have hn := h.2.1
  unfold maxLen at hn
  have hl := h.1
  obtain ⟨c, hc⟩ : ∃ c, row[i]? = some c := ⟨_, List.getElem?_eq_getElem (by rw [hl]; exact hi)⟩
  have e1 : IntKind.i64.wrap ((i : Int) + 1) = (i : Int) + 1 := IntWalk.i64_in _ (by omega)
  have e2 : ((i : Int) + 1).toNat = i + 1 := by omega
  have e3 : (0 : Int) ≤ (i : Int) + 1 := by omega
  have g0 : decide ((i : Int) ≥ 0) = true := by simp
  by_cases h1 : i + 1 < n
  · obtain ⟨d, hd⟩ : ∃ d, row[i + 1]? = some d := ⟨_, List.getElem?_eq_getElem (by rw [hl]; exact h1)⟩
    have hp : pairC row i = (c.ok && c.wide && decide (d = c.behind)) := by unfold pairC; rw [hc, hd]
    obtain ⟨a, rfl, c0, hcs⟩ := h.row hc
    obtain ⟨a', ha', d0, hds⟩ := h.row hd
    cases ha'
    have c1 := hcs 0 (by omega)
    have c2 := hcs 1 (by omega)
    have c3 := hcs 2 (by omega)
    have d1 := hds 0 (by omega)
    have d2 := hds 1 (by omega)
    have d3 := hds 2 (by omega)
    have hbc := hb c (List.mem_of_getElem? hc)
    have HP := Lib.hid hp
    clear hcs hds h hl hc hd hb hp
    have K0 : ∀ w, Calls Tryd.prog 100 #[c.val] w fun e w' => e = .returned (.bool c.ok) ∧ Mods [] w w' := fun w => ref5_Check w c hbc
    have W0 : ∀ w, Calls Tryd.prog 101 #[c.val] w fun e w' => e = .returned (.bool c.wide) ∧ Mods [] w w' := fun w => ref5_wide w c
    have B0 : ∀ w, Calls Tryd.prog 69 #[c.val] w fun e w' => e = .returned c.behind.val ∧ Mods [] w w' := fun w => ref5_Tail w c
    have K1 := Lib.hid K0
    have W1 := Lib.hid W0
    have B1 := Lib.hid B0
    clear K0 W0 B0 hbc
    obtain ⟨r, fg, bg, at'⟩ := c
    obtain ⟨dr, df, db, da⟩ := d
    simp only [Cell.vals, List.getElem?_cons_zero, List.getElem?_cons_succ] at c0 c1 c2 c3 d0 d1 d2 d3
    simp only [Cell.behind, Cell.val] at K1 W1 B1
    have e4 : (i : Int) + 1 < (n : Int) := by omega
    have i1 : (i : Int) < (n : Int) := by omega
    have KA : ∀ X, Mods [] w X → ((X.cell? (a.add (i * (3 + 1))) = some (.int .i32 r) ∧ X.cell? ⟨(a.add (i * (3 + 1))).block, (a.add (i * (3 + 1))).off + (0 + 1), none⟩ = some (.int .u8 fg) ∧ X.cell? ⟨(a.add (i * (3 + 1))).block, (a.add (i * (3 + 1))).off + (1 + 1), none⟩ = some (.int .u8 bg) ∧ X.cell? ⟨(a.add (i * (3 + 1))).block, (a.add (i * (3 + 1))).off + (2 + 1), none⟩ = some (.int .u8 (at'.val : Int))) ∧
        X.cell? (a.add ((i + 1) * (3 + 1))) = some (.int .i32 dr) ∧ X.cell? ⟨(a.add ((i + 1) * (3 + 1))).block, (a.add ((i + 1) * (3 + 1))).off + (0 + 1), none⟩ = some (.int .u8 df) ∧ X.cell? ⟨(a.add ((i + 1) * (3 + 1))).block, (a.add ((i + 1) * (3 + 1))).off + (1 + 1), none⟩ = some (.int .u8 db) ∧ X.cell? ⟨(a.add ((i + 1) * (3 + 1))).block, (a.add ((i + 1) * (3 + 1))).off + (2 + 1), none⟩ = some (.int .u8 (da.val : Int))) := fun X hm => ⟨⟨hm.cell c0 (by simp), hm.cell c1 (by simp), hm.cell c2 (by simp), hm.cell c3 (by simp)⟩, hm.cell d0 (by simp), hm.cell d1 (by simp), hm.cell d2 (by simp), hm.cell d3 (by simp)⟩
    have KA0 := KA _ (Mods.refl [] w)
    have hMW : Hid (Mods [] w w) := Lib.hid (Mods.refl [] w)
    clear c0 c1 c2 c3 d0 d1 d2 d3
    have hcase : (dr = 0 ∧ df = fg ∧ db = bg ∧ da = tailOf at') ∨ dr ≠ 0 ∨ (dr = 0 ∧ df ≠ fg) ∨ (dr = 0 ∧ df = fg ∧ db ≠ bg) ∨ (dr = 0 ∧ df = fg ∧ db = bg ∧ da ≠ tailOf at') := by
      by_cases q1 : dr = 0 <;> by_cases q2 : df = fg <;> by_cases q3 : db = bg <;> by_cases q4 : da = tailOf at' <;> simp [q1, q2, q3, q4]
    have hfin : ((da.val : Int) = ((tailOf at').val : Int)) ↔ da = tailOf at' := by rw [Fin.ext_iff]; omega
    cases hk : Cell.ok ⟨r, fg, bg, at'⟩ <;> cases hw : Cell.wide ⟨r, fg, bg, at'⟩
    all_goals
      rw [hk, hw] at HP
      rw [hk] at K1
      rw [hw] at W1
      clear hk hw
    · clear hcase hfin
      go_enter Tryd.func102, Tryd.ntmps102
      go_upto_region 1 with fail
      refine wp_region_held_drew (S := (fun X => (X.cell? (a.add (i * (3 + 1))) = some (.int .i32 r) ∧ X.cell? ⟨(a.add (i * (3 + 1))).block, (a.add (i * (3 + 1))).off + (0 + 1), none⟩ = some (.int .u8 fg) ∧ X.cell? ⟨(a.add (i * (3 + 1))).block, (a.add (i * (3 + 1))).off + (1 + 1), none⟩ = some (.int .u8 bg) ∧ X.cell? ⟨(a.add (i * (3 + 1))).block, (a.add (i * (3 + 1))).off + (2 + 1), none⟩ = some (.int .u8 (at'.val : Int))) ∧ X.cell? (a.add ((i + 1) * (3 + 1))) = some (.int .i32 dr) ∧ X.cell? ⟨(a.add ((i + 1) * (3 + 1))).block, (a.add ((i + 1) * (3 + 1))).off + (0 + 1), none⟩ = some (.int .u8 df) ∧ X.cell? ⟨(a.add ((i + 1) * (3 + 1))).block, (a.add ((i + 1) * (3 + 1))).off + (1 + 1), none⟩ = some (.int .u8 db) ∧ X.cell? ⟨(a.add ((i + 1) * (3 + 1))).block, (a.add ((i + 1) * (3 + 1))).off + (2 + 1), none⟩ = some (.int .u8 (da.val : Int)))) (by kernel_rfl) ?_ (fun hHeld => ?_)
      focus ((try dsimp only); with_reducible exact KA _ hMW.out.drew)
      refine wpAnyH_take (i := 0) (v := ?_) op_at0 (by kernel_rfl) (by kernel_rfl) (by kernel_rfl) (fun _ _ _ h => h) (Or.inl ⟨by rfl, ?_⟩) (by assumption) ?_
      rotate_left
      focus ((intro w hSw; (try dsimp only at hSw); go_simp) <;> with_reducible rfl)
      all_goals skip
      try simp only [Act.put, List.setIfInBounds_toArray, List.set_cons_zero, List.set_cons_succ]
      refine wpAnyH_take (i := 1) (v := ?_) (op_atS op_at0) (by kernel_rfl) (by kernel_rfl) (by kernel_rfl) (fun _ _ _ h => h) (Or.inl ⟨by rfl, ?_⟩) (by assumption) ?_
      rotate_left
      focus ((intro w hSw; (try dsimp only at hSw); go_simp) <;> with_reducible rfl)
      all_goals skip
      try simp only [Act.put, List.setIfInBounds_toArray, List.set_cons_zero, List.set_cons_succ]
      refine wpAnyH_take (i := 2) (v := ?_) (op_atS (op_atS op_at0)) (by kernel_rfl) (by kernel_rfl) (by kernel_rfl) (fun _ _ _ h => h) (Or.inl ⟨by rfl, ?_⟩) (by assumption) ?_
      rotate_left
      focus ((intro w hSw; (try dsimp only at hSw); go_simp) <;> with_reducible rfl)
      all_goals skip
      try simp only [Act.put, List.setIfInBounds_toArray, List.set_cons_zero, List.set_cons_succ]
      refine wpAnyH_take (i := 3) (v := ?_) (op_atS (op_atS (op_atS op_at0))) (by kernel_rfl) (by kernel_rfl) (by kernel_rfl) (fun _ _ _ h => h) (Or.inl ⟨by rfl, ?_⟩) (by assumption) ?_
      rotate_left
      focus ((intro w hSw; (try dsimp only at hSw); go_simp) <;> with_reducible rfl)
      all_goals skip
      try simp only [Act.put, List.setIfInBounds_toArray, List.set_cons_zero, List.set_cons_succ]
      refine wpAnyH_take (i := 4) (v := ?_) (op_atS (op_atS (op_atS (op_atS op_at0)))) (by kernel_rfl) (by kernel_rfl) (by kernel_rfl) (fun _ _ _ h => h) (Or.inl ⟨by rfl, ?_⟩) (by assumption) ?_
      rotate_left
      focus ((intro w hSw; (try dsimp only at hSw); go_simp) <;> with_reducible rfl)
      all_goals skip
      try simp only [Act.put, List.setIfInBounds_toArray, List.set_cons_zero, List.set_cons_succ]
      refine wpAnyH_take (i := 5) (v := ?_) (op_atS (op_atS (op_atS (op_atS (op_atS op_at0))))) (by kernel_rfl) (by kernel_rfl) (by kernel_rfl) (fun _ _ _ h => h) (Or.inl ⟨by rfl, ?_⟩) (by assumption) ?_
      rotate_left
      focus ((intro w hSw; (try dsimp only at hSw); go_simp) <;> with_reducible rfl)
      all_goals skip
      try simp only [Act.put, List.setIfInBounds_toArray, List.set_cons_zero, List.set_cons_succ]
      refine wpAnyH_take (i := 6) (v := ?_) (op_atS (op_atS (op_atS (op_atS (op_atS (op_atS op_at0)))))) (by kernel_rfl) (by kernel_rfl) (by kernel_rfl) (fun _ _ _ h => h) (Or.inl ⟨by rfl, ?_⟩) (by assumption) ?_
      rotate_left
      focus ((intro w hSw; (try dsimp only at hSw); go_simp) <;> with_reducible rfl)
      all_goals skip
      try simp only [Act.put, List.setIfInBounds_toArray, List.set_cons_zero, List.set_cons_succ]
      refine wpAnyH_take (i := 7) (v := ?_) (op_atS (op_atS (op_atS (op_atS (op_atS (op_atS (op_atS op_at0))))))) (by kernel_rfl) (by kernel_rfl) (by kernel_rfl) (fun _ _ _ h => h) (Or.inl ⟨by rfl, ?_⟩) (by assumption) ?_
      rotate_left
      focus ((intro w hSw; (try dsimp only at hSw); go_simp) <;> with_reducible rfl)
      all_goals skip
      try simp only [Act.put, List.setIfInBounds_toArray, List.set_cons_zero, List.set_cons_succ]
      refine wpAnyH_take (i := 8) (v := ?_) (op_atS (op_atS (op_atS (op_atS (op_atS (op_atS (op_atS (op_atS op_at0)))))))) (by kernel_rfl) (by kernel_rfl) (by kernel_rfl) (fun _ _ _ h => h) (Or.inl ⟨by rfl, ?_⟩) (by assumption) ?_
      rotate_left
      focus ((intro w hSw; (try dsimp only at hSw); go_simp) <;> with_reducible rfl)
      all_goals skip
      try simp only [Act.put, List.setIfInBounds_toArray, List.set_cons_zero, List.set_cons_succ]
      refine wpAnyH_take (i := 9) (v := ?_) (op_atS (op_atS (op_atS (op_atS (op_atS (op_atS (op_atS (op_atS (op_atS op_at0))))))))) (by kernel_rfl) (by kernel_rfl) (by kernel_rfl) (fun _ _ _ h => h) (Or.inl ⟨by rfl, ?_⟩) (by assumption) ?_
      rotate_left
      focus ((intro w hSw; (try dsimp only at hSw); go_simp) <;> with_reducible rfl)
      all_goals skip
      try simp only [Act.put, List.setIfInBounds_toArray, List.set_cons_zero, List.set_cons_succ]
      refine wpAnyH_take (i := 10) (v := ?_) (op_atS (op_atS (op_atS (op_atS (op_atS (op_atS (op_atS (op_atS (op_atS (op_atS op_at0)))))))))) (by kernel_rfl) (by kernel_rfl) (by kernel_rfl) (fun _ _ _ h => h) (Or.inl ⟨by rfl, ?_⟩) (by assumption) ?_
      rotate_left
      focus ((intro w hSw; (try dsimp only at hSw); go_simp) <;> with_reducible rfl)
      all_goals skip
      try simp only [Act.put, List.setIfInBounds_toArray, List.set_cons_zero, List.set_cons_succ]
      refine wpAnyH_take (i := 11) (v := ?_) (op_atS (op_atS (op_atS (op_atS (op_atS (op_atS (op_atS (op_atS (op_atS (op_atS (op_atS op_at0))))))))))) (by kernel_rfl) (by kernel_rfl) (by kernel_rfl) (fun _ _ _ h => h) (Or.inl ⟨by rfl, ?_⟩) (by assumption) ?_
      rotate_left
      focus ((intro w hSw; (try dsimp only at hSw); go_simp) <;> with_reducible rfl)
      all_goals skip
      try simp only [Act.put, List.setIfInBounds_toArray, List.set_cons_zero, List.set_cons_succ]
      refine wpAnyH_take (i := 12) (v := ?_) (op_atS (op_atS (op_atS (op_atS (op_atS (op_atS (op_atS (op_atS (op_atS (op_atS (op_atS (op_atS op_at0)))))))))))) (by kernel_rfl) (by kernel_rfl) (by kernel_rfl) (fun _ _ _ h => h) (Or.inl ⟨by rfl, ?_⟩) (by assumption) ?_
      rotate_left
      focus ((intro w hSw; (try dsimp only at hSw); go_simp) <;> with_reducible rfl)
      all_goals skip
      try simp only [Act.put, List.setIfInBounds_toArray, List.set_cons_zero, List.set_cons_succ]
      refine wpAnyH_take (i := 13) (v := ?_) (op_atS (op_atS (op_atS (op_atS (op_atS (op_atS (op_atS (op_atS (op_atS (op_atS (op_atS (op_atS (op_atS op_at0))))))))))))) (by kernel_rfl) (by kernel_rfl) (by kernel_rfl) (fun _ _ _ h => h) (Or.inl ⟨by rfl, ?_⟩) (by assumption) ?_
      rotate_left
      focus ((intro w hSw; (try dsimp only at hSw); go_simp) <;> with_reducible rfl)
      all_goals skip
      try simp only [Act.put, List.setIfInBounds_toArray, List.set_cons_zero, List.set_cons_succ]
      refine wpAnyH_ready (rs := [14]) (by kernel_rfl) (by simp) ?_
      refine AllReadyH.cons (op_atS (op_atS (op_atS (op_atS (op_atS (op_atS (op_atS (op_atS (op_atS (op_atS (op_atS (op_atS (op_atS (op_atS op_at0)))))))))))))) (fun K hK => ?_) AllReadyH.nil
      go_simp
      ((go_at_call 100; refine (K1.out _).mono ?_; rintro e w1 ⟨rfl, hm1⟩; have hmA : Mods [] w w1 := hMW.out.drew.trans hm1))
      try go_wp2_with fail
      refine hK.out _ _ ?_ (fun hHeld2 => ?_)
      focus ((try dsimp only); with_reducible exact KA _ hmA)
      clear hK K hHeld
      have hHeld := hHeld2
      clear hHeld2
      try simp only [Act.put, List.setIfInBounds_toArray, List.set_cons_zero, List.set_cons_succ]
      refine wpAnyH_take (i := 15) (v := ?_) (op_atS (op_atS (op_atS (op_atS (op_atS (op_atS (op_atS (op_atS (op_atS (op_atS (op_atS (op_atS (op_atS (op_atS (op_atS op_at0))))))))))))))) (by kernel_rfl) (by kernel_rfl) (by kernel_rfl) (fun _ _ _ h => h) (Or.inl ⟨by rfl, ?_⟩) (by assumption) ?_
      rotate_left
      focus ((intro w hSw; (try dsimp only at hSw); go_simp) <;> with_reducible rfl)
      all_goals skip
      try simp only [Act.put, List.setIfInBounds_toArray, List.set_cons_zero, List.set_cons_succ]
      refine wpAnyH_take (i := 16) (v := ?_) (op_atS (op_atS (op_atS (op_atS (op_atS (op_atS (op_atS (op_atS (op_atS (op_atS (op_atS (op_atS (op_atS (op_atS (op_atS (op_atS op_at0)))))))))))))))) (by kernel_rfl) (by kernel_rfl) (by kernel_rfl) (fun _ _ _ h => h) (Or.inl ⟨by rfl, ?_⟩) (by assumption) ?_
      rotate_left
      focus ((intro w hSw; (try dsimp only at hSw); go_simp) <;> with_reducible rfl)
      all_goals skip
      try simp only [Act.put, List.setIfInBounds_toArray, List.set_cons_zero, List.set_cons_succ]
      refine wpAnyH_take (i := 17) (v := undef) (op_atS (op_atS (op_atS (op_atS (op_atS (op_atS (op_atS (op_atS (op_atS (op_atS (op_atS (op_atS (op_atS (op_atS (op_atS (op_atS (op_atS op_at0))))))))))))))))) (by kernel_rfl) (by kernel_rfl) (by kernel_rfl) (fun _ _ _ h => h) (Or.inr ⟨by rfl, rfl⟩) (by assumption) ?_
      try simp only [Act.put, List.setIfInBounds_toArray, List.set_cons_zero, List.set_cons_succ]
      refine wpAnyH_take (i := 18) (v := undef) (op_atS (op_atS (op_atS (op_atS (op_atS (op_atS (op_atS (op_atS (op_atS (op_atS (op_atS (op_atS (op_atS (op_atS (op_atS (op_atS (op_atS (op_atS op_at0)))))))))))))))))) (by kernel_rfl) (by kernel_rfl) (by kernel_rfl) (fun _ _ _ h => h) (Or.inr ⟨by rfl, rfl⟩) (by assumption) ?_
      try simp only [Act.put, List.setIfInBounds_toArray, List.set_cons_zero, List.set_cons_succ]
      refine wpAnyH_take (i := 19) (v := undef) (op_atS (op_atS (op_atS (op_atS (op_atS (op_atS (op_atS (op_atS (op_atS (op_atS (op_atS (op_atS (op_atS (op_atS (op_atS (op_atS (op_atS (op_atS (op_atS op_at0))))))))))))))))))) (by kernel_rfl) (by kernel_rfl) (by kernel_rfl) (fun _ _ _ h => h) (Or.inr ⟨by rfl, rfl⟩) (by assumption) ?_
      try simp only [Act.put, List.setIfInBounds_toArray, List.set_cons_zero, List.set_cons_succ]
      refine wpAnyH_take (i := 20) (v := undef) (op_atS (op_atS (op_atS (op_atS (op_atS (op_atS (op_atS (op_atS (op_atS (op_atS (op_atS (op_atS (op_atS (op_atS (op_atS (op_atS (op_atS (op_atS (op_atS (op_atS op_at0)))))))))))))))))))) (by kernel_rfl) (by kernel_rfl) (by kernel_rfl) (fun _ _ _ h => h) (Or.inr ⟨by rfl, rfl⟩) (by assumption) ?_
      try simp only [Act.put, List.setIfInBounds_toArray, List.set_cons_zero, List.set_cons_succ]
      refine wpAnyH_take (i := 21) (v := undef) (op_atS (op_atS (op_atS (op_atS (op_atS (op_atS (op_atS (op_atS (op_atS (op_atS (op_atS (op_atS (op_atS (op_atS (op_atS (op_atS (op_atS (op_atS (op_atS (op_atS (op_atS op_at0))))))))))))))))))))) (by kernel_rfl) (by kernel_rfl) (by kernel_rfl) (fun _ _ _ h => h) (Or.inr ⟨by rfl, rfl⟩) (by assumption) ?_
      try simp only [Act.put, List.setIfInBounds_toArray, List.set_cons_zero, List.set_cons_succ]
      refine wpAnyH_take (i := 22) (v := ?_) (op_atS (op_atS (op_atS (op_atS (op_atS (op_atS (op_atS (op_atS (op_atS (op_atS (op_atS (op_atS (op_atS (op_atS (op_atS (op_atS (op_atS (op_atS (op_atS (op_atS (op_atS (op_atS op_at0)))))))))))))))))))))) (by kernel_rfl) (by kernel_rfl) (by kernel_rfl) (fun _ _ _ h => h) (Or.inl ⟨by rfl, ?_⟩) (by assumption) ?_
      rotate_left
      focus ((intro w hSw; (try dsimp only at hSw); go_simp) <;> with_reducible rfl)
      all_goals skip
      try simp only [Act.put, List.setIfInBounds_toArray, List.set_cons_zero, List.set_cons_succ]
      refine wpAnyH_take (i := 23) (v := ?_) (op_atS (op_atS (op_atS (op_atS (op_atS (op_atS (op_atS (op_atS (op_atS (op_atS (op_atS (op_atS (op_atS (op_atS (op_atS (op_atS (op_atS (op_atS (op_atS (op_atS (op_atS (op_atS (op_atS op_at0))))))))))))))))))))))) (by kernel_rfl) (by kernel_rfl) (by kernel_rfl) (fun _ _ _ h => h) (Or.inl ⟨by rfl, ?_⟩) (by assumption) ?_
      rotate_left
      focus ((intro w hSw; (try dsimp only at hSw); go_simp) <;> with_reducible rfl)
      all_goals skip
      try simp only [Act.put, List.setIfInBounds_toArray, List.set_cons_zero, List.set_cons_succ]
      refine wpAnyH_take (i := 24) (v := undef) (op_atS (op_atS (op_atS (op_atS (op_atS (op_atS (op_atS (op_atS (op_atS (op_atS (op_atS (op_atS (op_atS (op_atS (op_atS (op_atS (op_atS (op_atS (op_atS (op_atS (op_atS (op_atS (op_atS (op_atS op_at0)))))))))))))))))))))))) (by kernel_rfl) (by kernel_rfl) (by kernel_rfl) (fun _ _ _ h => h) (Or.inr ⟨by rfl, rfl⟩) (by assumption) ?_
      try simp only [Act.put, List.setIfInBounds_toArray, List.set_cons_zero, List.set_cons_succ]
      refine wpAnyH_take (i := 25) (v := undef) (op_atS (op_atS (op_atS (op_atS (op_atS (op_atS (op_atS (op_atS (op_atS (op_atS (op_atS (op_atS (op_atS (op_atS (op_atS (op_atS (op_atS (op_atS (op_atS (op_atS (op_atS (op_atS (op_atS (op_atS (op_atS op_at0))))))))))))))))))))))))) (by kernel_rfl) (by kernel_rfl) (by kernel_rfl) (fun _ _ _ h => h) (Or.inr ⟨by rfl, rfl⟩) (by assumption) ?_
      try simp only [Act.put, List.setIfInBounds_toArray, List.set_cons_zero, List.set_cons_succ]
      refine wpAnyH_take (i := 26) (v := undef) (op_atS (op_atS (op_atS (op_atS (op_atS (op_atS (op_atS (op_atS (op_atS (op_atS (op_atS (op_atS (op_atS (op_atS (op_atS (op_atS (op_atS (op_atS (op_atS (op_atS (op_atS (op_atS (op_atS (op_atS (op_atS (op_atS op_at0)))))))))))))))))))))))))) (by kernel_rfl) (by kernel_rfl) (by kernel_rfl) (fun _ _ _ h => h) (Or.inr ⟨by rfl, rfl⟩) (by assumption) ?_
      try simp only [Act.put, List.setIfInBounds_toArray, List.set_cons_zero, List.set_cons_succ]
      refine wpAnyH_take (i := 27) (v := undef) (op_atS (op_atS (op_atS (op_atS (op_atS (op_atS (op_atS (op_atS (op_atS (op_atS (op_atS (op_atS (op_atS (op_atS (op_atS (op_atS (op_atS (op_atS (op_atS (op_atS (op_atS (op_atS (op_atS (op_atS (op_atS (op_atS (op_atS op_at0))))))))))))))))))))))))))) (by kernel_rfl) (by kernel_rfl) (by kernel_rfl) (fun _ _ _ h => h) (Or.inr ⟨by rfl, rfl⟩) (by assumption) ?_
      try simp only [Act.put, List.setIfInBounds_toArray, List.set_cons_zero, List.set_cons_succ]
      refine wpAnyH_take (i := 28) (v := undef) (op_atS (op_atS (op_atS (op_atS (op_atS (op_atS (op_atS (op_atS (op_atS (op_atS (op_atS (op_atS (op_atS (op_atS (op_atS (op_atS (op_atS (op_atS (op_atS (op_atS (op_atS (op_atS (op_atS (op_atS (op_atS (op_atS (op_atS (op_atS op_at0)))))))))))))))))))))))))))) (by kernel_rfl) (by kernel_rfl) (by kernel_rfl) (fun _ _ _ h => h) (Or.inr ⟨by rfl, rfl⟩) (by assumption) ?_
      try simp only [Act.put, List.setIfInBounds_toArray, List.set_cons_zero, List.set_cons_succ]
      refine wpAnyH_take (i := 29) (v := undef) (op_atS (op_atS (op_atS (op_atS (op_atS (op_atS (op_atS (op_atS (op_atS (op_atS (op_atS (op_atS (op_atS (op_atS (op_atS (op_atS (op_atS (op_atS (op_atS (op_atS (op_atS (op_atS (op_atS (op_atS (op_atS (op_atS (op_atS (op_atS (op_atS op_at0))))))))))))))))))))))))))))) (by kernel_rfl) (by kernel_rfl) (by kernel_rfl) (fun _ _ _ h => h) (Or.inr ⟨by rfl, rfl⟩) (by assumption) ?_
      try simp only [Act.put, List.setIfInBounds_toArray, List.set_cons_zero, List.set_cons_succ]
      refine wpAnyH_take (i := 30) (v := undef) (op_atS (op_atS (op_atS (op_atS (op_atS (op_atS (op_atS (op_atS (op_atS (op_atS (op_atS (op_atS (op_atS (op_atS (op_atS (op_atS (op_atS (op_atS (op_atS (op_atS (op_atS (op_atS (op_atS (op_atS (op_atS (op_atS (op_atS (op_atS (op_atS (op_atS op_at0)))))))))))))))))))))))))))))) (by kernel_rfl) (by kernel_rfl) (by kernel_rfl) (fun _ _ _ h => h) (Or.inr ⟨by rfl, rfl⟩) (by assumption) ?_
      try simp only [Act.put, List.setIfInBounds_toArray, List.set_cons_zero, List.set_cons_succ]
      refine wpAnyH_take (i := 31) (v := undef) (op_atS (op_atS (op_atS (op_atS (op_atS (op_atS (op_atS (op_atS (op_atS (op_atS (op_atS (op_atS (op_atS (op_atS (op_atS (op_atS (op_atS (op_atS (op_atS (op_atS (op_atS (op_atS (op_atS (op_atS (op_atS (op_atS (op_atS (op_atS (op_atS (op_atS (op_atS op_at0))))))))))))))))))))))))))))))) (by kernel_rfl) (by kernel_rfl) (by kernel_rfl) (fun _ _ _ h => h) (Or.inr ⟨by rfl, rfl⟩) (by assumption) ?_
      try simp only [Act.put, List.setIfInBounds_toArray, List.set_cons_zero, List.set_cons_succ]
      refine wpAnyH_take (i := 32) (v := undef) (op_atS (op_atS (op_atS (op_atS (op_atS (op_atS (op_atS (op_atS (op_atS (op_atS (op_atS (op_atS (op_atS (op_atS (op_atS (op_atS (op_atS (op_atS (op_atS (op_atS (op_atS (op_atS (op_atS (op_atS (op_atS (op_atS (op_atS (op_atS (op_atS (op_atS (op_atS (op_atS op_at0)))))))))))))))))))))))))))))))) (by kernel_rfl) (by kernel_rfl) (by kernel_rfl) (fun _ _ _ h => h) (Or.inr ⟨by rfl, rfl⟩) (by assumption) ?_
      try simp only [Act.put, List.setIfInBounds_toArray, List.set_cons_zero, List.set_cons_succ]
      refine wpAnyH_take (i := 33) (v := undef) (op_atS (op_atS (op_atS (op_atS (op_atS (op_atS (op_atS (op_atS (op_atS (op_atS (op_atS (op_atS (op_atS (op_atS (op_atS (op_atS (op_atS (op_atS (op_atS (op_atS (op_atS (op_atS (op_atS (op_atS (op_atS (op_atS (op_atS (op_atS (op_atS (op_atS (op_atS (op_atS (op_atS op_at0))))))))))))))))))))))))))))))))) (by kernel_rfl) (by kernel_rfl) (by kernel_rfl) (fun _ _ _ h => h) (Or.inr ⟨by rfl, rfl⟩) (by assumption) ?_
      try simp only [Act.put, List.setIfInBounds_toArray, List.set_cons_zero, List.set_cons_succ]
      refine wpAnyH_take (i := 34) (v := undef) (op_atS (op_atS (op_atS (op_atS (op_atS (op_atS (op_atS (op_atS (op_atS (op_atS (op_atS (op_atS (op_atS (op_atS (op_atS (op_atS (op_atS (op_atS (op_atS (op_atS (op_atS (op_atS (op_atS (op_atS (op_atS (op_atS (op_atS (op_atS (op_atS (op_atS (op_atS (op_atS (op_atS (op_atS op_at0)))))))))))))))))))))))))))))))))) (by kernel_rfl) (by kernel_rfl) (by kernel_rfl) (fun _ _ _ h => h) (Or.inr ⟨by rfl, rfl⟩) (by assumption) ?_
      try simp only [Act.put, List.setIfInBounds_toArray, List.set_cons_zero, List.set_cons_succ]
      refine wpAnyH_take (i := 35) (v := ?_) (op_atS (op_atS (op_atS (op_atS (op_atS (op_atS (op_atS (op_atS (op_atS (op_atS (op_atS (op_atS (op_atS (op_atS (op_atS (op_atS (op_atS (op_atS (op_atS (op_atS (op_atS (op_atS (op_atS (op_atS (op_atS (op_atS (op_atS (op_atS (op_atS (op_atS (op_atS (op_atS (op_atS (op_atS (op_atS op_at0))))))))))))))))))))))))))))))))))) (by kernel_rfl) (by kernel_rfl) (by kernel_rfl) (fun _ _ _ h => h) (Or.inl ⟨by rfl, ?_⟩) (by assumption) ?_
      rotate_left
      focus ((intro w hSw; (try dsimp only at hSw); go_simp) <;> with_reducible rfl)
      all_goals skip
      try simp only [Act.put, List.setIfInBounds_toArray, List.set_cons_zero, List.set_cons_succ]
      refine wpAnyH_take (i := 36) (v := ?_) (op_atS (op_atS (op_atS (op_atS (op_atS (op_atS (op_atS (op_atS (op_atS (op_atS (op_atS (op_atS (op_atS (op_atS (op_atS (op_atS (op_atS (op_atS (op_atS (op_atS (op_atS (op_atS (op_atS (op_atS (op_atS (op_atS (op_atS (op_atS (op_atS (op_atS (op_atS (op_atS (op_atS (op_atS (op_atS (op_atS op_at0)))))))))))))))))))))))))))))))))))) (by kernel_rfl) (by kernel_rfl) (by kernel_rfl) (fun _ _ _ h => h) (Or.inl ⟨by rfl, ?_⟩) (by assumption) ?_
      rotate_left
      focus ((intro w hSw; (try dsimp only at hSw); go_simp) <;> with_reducible rfl)
      all_goals skip
      try simp only [Act.put, List.setIfInBounds_toArray, List.set_cons_zero, List.set_cons_succ]
      refine wpAnyH_done (by kernel_rfl) ?_ _
      go_wp2
      go_ret
      exact ⟨by rw [HP.out]; rfl, hmA⟩
    · clear hcase hfin
      go_enter Tryd.func102, Tryd.ntmps102
      go_upto_region 1 with fail
      refine wp_region_held_drew (S := (fun X => (X.cell? (a.add (i * (3 + 1))) = some (.int .i32 r) ∧ X.cell? ⟨(a.add (i * (3 + 1))).block, (a.add (i * (3 + 1))).off + (0 + 1), none⟩ = some (.int .u8 fg) ∧ X.cell? ⟨(a.add (i * (3 + 1))).block, (a.add (i * (3 + 1))).off + (1 + 1), none⟩ = some (.int .u8 bg) ∧ X.cell? ⟨(a.add (i * (3 + 1))).block, (a.add (i * (3 + 1))).off + (2 + 1), none⟩ = some (.int .u8 (at'.val : Int))) ∧ X.cell? (a.add ((i + 1) * (3 + 1))) = some (.int .i32 dr) ∧ X.cell? ⟨(a.add ((i + 1) * (3 + 1))).block, (a.add ((i + 1) * (3 + 1))).off + (0 + 1), none⟩ = some (.int .u8 df) ∧ X.cell? ⟨(a.add ((i + 1) * (3 + 1))).block, (a.add ((i + 1) * (3 + 1))).off + (1 + 1), none⟩ = some (.int .u8 db) ∧ X.cell? ⟨(a.add ((i + 1) * (3 + 1))).block, (a.add ((i + 1) * (3 + 1))).off + (2 + 1), none⟩ = some (.int .u8 (da.val : Int)))) (by kernel_rfl) ?_ (fun hHeld => ?_)
      focus ((try dsimp only); with_reducible exact KA _ hMW.out.drew)
      refine wpAnyH_take (i := 0) (v := ?_) op_at0 (by kernel_rfl) (by kernel_rfl) (by kernel_rfl) (fun _ _ _ h => h) (Or.inl ⟨by rfl, ?_⟩) (by assumption) ?_
      rotate_left
      focus ((intro w hSw; (try dsimp only at hSw); go_simp) <;> with_reducible rfl)
      all_goals skip
      try simp only [Act.put, List.setIfInBounds_toArray, List.set_cons_zero, List.set_cons_succ]
      refine wpAnyH_take (i := 1) (v := ?_) (op_atS op_at0) (by kernel_rfl) (by kernel_rfl) (by kernel_rfl) (fun _ _ _ h => h) (Or.inl ⟨by rfl, ?_⟩) (by assumption) ?_
      rotate_left
      focus ((intro w hSw; (try dsimp only at hSw); go_simp) <;> with_reducible rfl)
      all_goals skip
      try simp only [Act.put, List.setIfInBounds_toArray, List.set_cons_zero, List.set_cons_succ]
      refine wpAnyH_take (i := 2) (v := ?_) (op_atS (op_atS op_at0)) (by kernel_rfl) (by kernel_rfl) (by kernel_rfl) (fun _ _ _ h => h) (Or.inl ⟨by rfl, ?_⟩) (by assumption) ?_
      rotate_left
      focus ((intro w hSw; (try dsimp only at hSw); go_simp) <;> with_reducible rfl)
      all_goals skip
      try simp only [Act.put, List.setIfInBounds_toArray, List.set_cons_zero, List.set_cons_succ]
      refine wpAnyH_take (i := 3) (v := ?_) (op_atS (op_atS (op_atS op_at0))) (by kernel_rfl) (by kernel_rfl) (by kernel_rfl) (fun _ _ _ h => h) (Or.inl ⟨by rfl, ?_⟩) (by assumption) ?_
      rotate_left
      focus ((intro w hSw; (try dsimp only at hSw); go_simp) <;> with_reducible rfl)
      all_goals skip
      try simp only [Act.put, List.setIfInBounds_toArray, List.set_cons_zero, List.set_cons_succ]
      refine wpAnyH_take (i := 4) (v := ?_) (op_atS (op_atS (op_atS (op_atS op_at0)))) (by kernel_rfl) (by kernel_rfl) (by kernel_rfl) (fun _ _ _ h => h) (Or.inl ⟨by rfl, ?_⟩) (by assumption) ?_
      rotate_left
      focus ((intro w hSw; (try dsimp only at hSw); go_simp) <;> with_reducible rfl)
      all_goals skip
      try simp only [Act.put, List.setIfInBounds_toArray, List.set_cons_zero, List.set_cons_succ]
      refine wpAnyH_take (i := 5) (v := ?_) (op_atS (op_atS (op_atS (op_atS (op_atS op_at0))))) (by kernel_rfl) (by kernel_rfl) (by kernel_rfl) (fun _ _ _ h => h) (Or.inl ⟨by rfl, ?_⟩) (by assumption) ?_
      rotate_left
      focus ((intro w hSw; (try dsimp only at hSw); go_simp) <;> with_reducible rfl)
      all_goals skip
      try simp only [Act.put, List.setIfInBounds_toArray, List.set_cons_zero, List.set_cons_succ]
      refine wpAnyH_take (i := 6) (v := ?_) (op_atS (op_atS (op_atS (op_atS (op_atS (op_atS op_at0)))))) (by kernel_rfl) (by kernel_rfl) (by kernel_rfl) (fun _ _ _ h => h) (Or.inl ⟨by rfl, ?_⟩) (by assumption) ?_
      rotate_left
      focus ((intro w hSw; (try dsimp only at hSw); go_simp) <;> with_reducible rfl)
      all_goals skip
      try simp only [Act.put, List.setIfInBounds_toArray, List.set_cons_zero, List.set_cons_succ]
      refine wpAnyH_take (i := 7) (v := ?_) (op_atS (op_atS (op_atS (op_atS (op_atS (op_atS (op_atS op_at0))))))) (by kernel_rfl) (by kernel_rfl) (by kernel_rfl) (fun _ _ _ h => h) (Or.inl ⟨by rfl, ?_⟩) (by assumption) ?_
      rotate_left
      focus ((intro w hSw; (try dsimp only at hSw); go_simp) <;> with_reducible rfl)
      all_goals skip
      try simp only [Act.put, List.setIfInBounds_toArray, List.set_cons_zero, List.set_cons_succ]
      refine wpAnyH_take (i := 8) (v := ?_) (op_atS (op_atS (op_atS (op_atS (op_atS (op_atS (op_atS (op_atS op_at0)))))))) (by kernel_rfl) (by kernel_rfl) (by kernel_rfl) (fun _ _ _ h => h) (Or.inl ⟨by rfl, ?_⟩) (by assumption) ?_
      rotate_left
      focus ((intro w hSw; (try dsimp only at hSw); go_simp) <;> with_reducible rfl)
      all_goals skip
      try simp only [Act.put, List.setIfInBounds_toArray, List.set_cons_zero, List.set_cons_succ]
      refine wpAnyH_take (i := 9) (v := ?_) (op_atS (op_atS (op_atS (op_atS (op_atS (op_atS (op_atS (op_atS (op_atS op_at0))))))))) (by kernel_rfl) (by kernel_rfl) (by kernel_rfl) (fun _ _ _ h => h) (Or.inl ⟨by rfl, ?_⟩) (by assumption) ?_
      rotate_left
      focus ((intro w hSw; (try dsimp only at hSw); go_simp) <;> with_reducible rfl)
      all_goals skip
      try simp only [Act.put, List.setIfInBounds_toArray, List.set_cons_zero, List.set_cons_succ]
      refine wpAnyH_take (i := 10) (v := ?_) (op_atS (op_atS (op_atS (op_atS (op_atS (op_atS (op_atS (op_atS (op_atS (op_atS op_at0)))))))))) (by kernel_rfl) (by kernel_rfl) (by kernel_rfl) (fun _ _ _ h => h) (Or.inl ⟨by rfl, ?_⟩) (by assumption) ?_
      rotate_left
      focus ((intro w hSw; (try dsimp only at hSw); go_simp) <;> with_reducible rfl)
      all_goals skip
      try simp only [Act.put, List.setIfInBounds_toArray, List.set_cons_zero, List.set_cons_succ]
      refine wpAnyH_take (i := 11) (v := ?_) (op_atS (op_atS (op_atS (op_atS (op_atS (op_atS (op_atS (op_atS (op_atS (op_atS (op_atS op_at0))))))))))) (by kernel_rfl) (by kernel_rfl) (by kernel_rfl) (fun _ _ _ h => h) (Or.inl ⟨by rfl, ?_⟩) (by assumption) ?_
      rotate_left
      focus ((intro w hSw; (try dsimp only at hSw); go_simp) <;> with_reducible rfl)
      all_goals skip
      try simp only [Act.put, List.setIfInBounds_toArray, List.set_cons_zero, List.set_cons_succ]
      refine wpAnyH_take (i := 12) (v := ?_) (op_atS (op_atS (op_atS (op_atS (op_atS (op_atS (op_atS (op_atS (op_atS (op_atS (op_atS (op_atS op_at0)))))))))))) (by kernel_rfl) (by kernel_rfl) (by kernel_rfl) (fun _ _ _ h => h) (Or.inl ⟨by rfl, ?_⟩) (by assumption) ?_
      rotate_left
      focus ((intro w hSw; (try dsimp only at hSw); go_simp) <;> with_reducible rfl)
      all_goals skip
      try simp only [Act.put, List.setIfInBounds_toArray, List.set_cons_zero, List.set_cons_succ]
      refine wpAnyH_take (i := 13) (v := ?_) (op_atS (op_atS (op_atS (op_atS (op_atS (op_atS (op_atS (op_atS (op_atS (op_atS (op_atS (op_atS (op_atS op_at0))))))))))))) (by kernel_rfl) (by kernel_rfl) (by kernel_rfl) (fun _ _ _ h => h) (Or.inl ⟨by rfl, ?_⟩) (by assumption) ?_
      rotate_left
      focus ((intro w hSw; (try dsimp only at hSw); go_simp) <;> with_reducible rfl)
      all_goals skip
      try simp only [Act.put, List.setIfInBounds_toArray, List.set_cons_zero, List.set_cons_succ]
      refine wpAnyH_ready (rs := [14]) (by kernel_rfl) (by simp) ?_
      refine AllReadyH.cons (op_atS (op_atS (op_atS (op_atS (op_atS (op_atS (op_atS (op_atS (op_atS (op_atS (op_atS (op_atS (op_atS (op_atS op_at0)))))))))))))) (fun K hK => ?_) AllReadyH.nil
      go_simp
      ((go_at_call 100; refine (K1.out _).mono ?_; rintro e w1 ⟨rfl, hm1⟩; have hmA : Mods [] w w1 := hMW.out.drew.trans hm1))
      try go_wp2_with fail
      refine hK.out _ _ ?_ (fun hHeld2 => ?_)
      focus ((try dsimp only); with_reducible exact KA _ hmA)
      clear hK K hHeld
      have hHeld := hHeld2
      clear hHeld2
      try simp only [Act.put, List.setIfInBounds_toArray, List.set_cons_zero, List.set_cons_succ]
      refine wpAnyH_take (i := 15) (v := ?_) (op_atS (op_atS (op_atS (op_atS (op_atS (op_atS (op_atS (op_atS (op_atS (op_atS (op_atS (op_atS (op_atS (op_atS (op_atS op_at0))))))))))))))) (by kernel_rfl) (by kernel_rfl) (by kernel_rfl) (fun _ _ _ h => h) (Or.inl ⟨by rfl, ?_⟩) (by assumption) ?_
      rotate_left
      focus ((intro w hSw; (try dsimp only at hSw); go_simp) <;> with_reducible rfl)
      all_goals skip
      try simp only [Act.put, List.setIfInBounds_toArray, List.set_cons_zero, List.set_cons_succ]
      refine wpAnyH_take (i := 16) (v := ?_) (op_atS (op_atS (op_atS (op_atS (op_atS (op_atS (op_atS (op_atS (op_atS (op_atS (op_atS (op_atS (op_atS (op_atS (op_atS (op_atS op_at0)))))))))))))))) (by kernel_rfl) (by kernel_rfl) (by kernel_rfl) (fun _ _ _ h => h) (Or.inl ⟨by rfl, ?_⟩) (by assumption) ?_
      rotate_left
      focus ((intro w hSw; (try dsimp only at hSw); go_simp) <;> with_reducible rfl)
      all_goals skip
      try simp only [Act.put, List.setIfInBounds_toArray, List.set_cons_zero, List.set_cons_succ]
      refine wpAnyH_take (i := 17) (v := undef) (op_atS (op_atS (op_atS (op_atS (op_atS (op_atS (op_atS (op_atS (op_atS (op_atS (op_atS (op_atS (op_atS (op_atS (op_atS (op_atS (op_atS op_at0))))))))))))))))) (by kernel_rfl) (by kernel_rfl) (by kernel_rfl) (fun _ _ _ h => h) (Or.inr ⟨by rfl, rfl⟩) (by assumption) ?_
      try simp only [Act.put, List.setIfInBounds_toArray, List.set_cons_zero, List.set_cons_succ]
      refine wpAnyH_take (i := 18) (v := undef) (op_atS (op_atS (op_atS (op_atS (op_atS (op_atS (op_atS (op_atS (op_atS (op_atS (op_atS (op_atS (op_atS (op_atS (op_atS (op_atS (op_atS (op_atS op_at0)))))))))))))))))) (by kernel_rfl) (by kernel_rfl) (by kernel_rfl) (fun _ _ _ h => h) (Or.inr ⟨by rfl, rfl⟩) (by assumption) ?_
      try simp only [Act.put, List.setIfInBounds_toArray, List.set_cons_zero, List.set_cons_succ]
      refine wpAnyH_take (i := 19) (v := undef) (op_atS (op_atS (op_atS (op_atS (op_atS (op_atS (op_atS (op_atS (op_atS (op_atS (op_atS (op_atS (op_atS (op_atS (op_atS (op_atS (op_atS (op_atS (op_atS op_at0))))))))))))))))))) (by kernel_rfl) (by kernel_rfl) (by kernel_rfl) (fun _ _ _ h => h) (Or.inr ⟨by rfl, rfl⟩) (by assumption) ?_
      try simp only [Act.put, List.setIfInBounds_toArray, List.set_cons_zero, List.set_cons_succ]
      refine wpAnyH_take (i := 20) (v := undef) (op_atS (op_atS (op_atS (op_atS (op_atS (op_atS (op_atS (op_atS (op_atS (op_atS (op_atS (op_atS (op_atS (op_atS (op_atS (op_atS (op_atS (op_atS (op_atS (op_atS op_at0)))))))))))))))))))) (by kernel_rfl) (by kernel_rfl) (by kernel_rfl) (fun _ _ _ h => h) (Or.inr ⟨by rfl, rfl⟩) (by assumption) ?_
      try simp only [Act.put, List.setIfInBounds_toArray, List.set_cons_zero, List.set_cons_succ]
      refine wpAnyH_take (i := 21) (v := undef) (op_atS (op_atS (op_atS (op_atS (op_atS (op_atS (op_atS (op_atS (op_atS (op_atS (op_atS (op_atS (op_atS (op_atS (op_atS (op_atS (op_atS (op_atS (op_atS (op_atS (op_atS op_at0))))))))))))))))))))) (by kernel_rfl) (by kernel_rfl) (by kernel_rfl) (fun _ _ _ h => h) (Or.inr ⟨by rfl, rfl⟩) (by assumption) ?_
      try simp only [Act.put, List.setIfInBounds_toArray, List.set_cons_zero, List.set_cons_succ]
      refine wpAnyH_take (i := 22) (v := ?_) (op_atS (op_atS (op_atS (op_atS (op_atS (op_atS (op_atS (op_atS (op_atS (op_atS (op_atS (op_atS (op_atS (op_atS (op_atS (op_atS (op_atS (op_atS (op_atS (op_atS (op_atS (op_atS op_at0)))))))))))))))))))))) (by kernel_rfl) (by kernel_rfl) (by kernel_rfl) (fun _ _ _ h => h) (Or.inl ⟨by rfl, ?_⟩) (by assumption) ?_
      rotate_left
      focus ((intro w hSw; (try dsimp only at hSw); go_simp) <;> with_reducible rfl)
      all_goals skip
      try simp only [Act.put, List.setIfInBounds_toArray, List.set_cons_zero, List.set_cons_succ]
      refine wpAnyH_take (i := 23) (v := ?_) (op_atS (op_atS (op_atS (op_atS (op_atS (op_atS (op_atS (op_atS (op_atS (op_atS (op_atS (op_atS (op_atS (op_atS (op_atS (op_atS (op_atS (op_atS (op_atS (op_atS (op_atS (op_atS (op_atS op_at0))))))))))))))))))))))) (by kernel_rfl) (by kernel_rfl) (by kernel_rfl) (fun _ _ _ h => h) (Or.inl ⟨by rfl, ?_⟩) (by assumption) ?_
      rotate_left
      focus ((intro w hSw; (try dsimp only at hSw); go_simp) <;> with_reducible rfl)
      all_goals skip
      try simp only [Act.put, List.setIfInBounds_toArray, List.set_cons_zero, List.set_cons_succ]
      refine wpAnyH_take (i := 24) (v := undef) (op_atS (op_atS (op_atS (op_atS (op_atS (op_atS (op_atS (op_atS (op_atS (op_atS (op_atS (op_atS (op_atS (op_atS (op_atS (op_atS (op_atS (op_atS (op_atS (op_atS (op_atS (op_atS (op_atS (op_atS op_at0)))))))))))))))))))))))) (by kernel_rfl) (by kernel_rfl) (by kernel_rfl) (fun _ _ _ h => h) (Or.inr ⟨by rfl, rfl⟩) (by assumption) ?_
      try simp only [Act.put, List.setIfInBounds_toArray, List.set_cons_zero, List.set_cons_succ]
      refine wpAnyH_take (i := 25) (v := undef) (op_atS (op_atS (op_atS (op_atS (op_atS (op_atS (op_atS (op_atS (op_atS (op_atS (op_atS (op_atS (op_atS (op_atS (op_atS (op_atS (op_atS (op_atS (op_atS (op_atS (op_atS (op_atS (op_atS (op_atS (op_atS op_at0))))))))))))))))))))))))) (by kernel_rfl) (by kernel_rfl) (by kernel_rfl) (fun _ _ _ h => h) (Or.inr ⟨by rfl, rfl⟩) (by assumption) ?_
      try simp only [Act.put, List.setIfInBounds_toArray, List.set_cons_zero, List.set_cons_succ]
      refine wpAnyH_take (i := 26) (v := undef) (op_atS (op_atS (op_atS (op_atS (op_atS (op_atS (op_atS (op_atS (op_atS (op_atS (op_atS (op_atS (op_atS (op_atS (op_atS (op_atS (op_atS (op_atS (op_atS (op_atS (op_atS (op_atS (op_atS (op_atS (op_atS (op_atS op_at0)))))))))))))))))))))))))) (by kernel_rfl) (by kernel_rfl) (by kernel_rfl) (fun _ _ _ h => h) (Or.inr ⟨by rfl, rfl⟩) (by assumption) ?_
      try simp only [Act.put, List.setIfInBounds_toArray, List.set_cons_zero, List.set_cons_succ]
      refine wpAnyH_take (i := 27) (v := undef) (op_atS (op_atS (op_atS (op_atS (op_atS (op_atS (op_atS (op_atS (op_atS (op_atS (op_atS (op_atS (op_atS (op_atS (op_atS (op_atS (op_atS (op_atS (op_atS (op_atS (op_atS (op_atS (op_atS (op_atS (op_atS (op_atS (op_atS op_at0))))))))))))))))))))))))))) (by kernel_rfl) (by kernel_rfl) (by kernel_rfl) (fun _ _ _ h => h) (Or.inr ⟨by rfl, rfl⟩) (by assumption) ?_
      try simp only [Act.put, List.setIfInBounds_toArray, List.set_cons_zero, List.set_cons_succ]
      refine wpAnyH_take (i := 28) (v := undef) (op_atS (op_atS (op_atS (op_atS (op_atS (op_atS (op_atS (op_atS (op_atS (op_atS (op_atS (op_atS (op_atS (op_atS (op_atS (op_atS (op_atS (op_atS (op_atS (op_atS (op_atS (op_atS (op_atS (op_atS (op_atS (op_atS (op_atS (op_atS op_at0)))))))))))))))))))))))))))) (by kernel_rfl) (by kernel_rfl) (by kernel_rfl) (fun _ _ _ h => h) (Or.inr ⟨by rfl, rfl⟩) (by assumption) ?_
      try simp only [Act.put, List.setIfInBounds_toArray, List.set_cons_zero, List.set_cons_succ]
      refine wpAnyH_take (i := 29) (v := undef) (op_atS (op_atS (op_atS (op_atS (op_atS (op_atS (op_atS (op_atS (op_atS (op_atS (op_atS (op_atS (op_atS (op_atS (op_atS (op_atS (op_atS (op_atS (op_atS (op_atS (op_atS (op_atS (op_atS (op_atS (op_atS (op_atS (op_atS (op_atS (op_atS op_at0))))))))))))))))))))))))))))) (by kernel_rfl) (by kernel_rfl) (by kernel_rfl) (fun _ _ _ h => h) (Or.inr ⟨by rfl, rfl⟩) (by assumption) ?_
      try simp only [Act.put, List.setIfInBounds_toArray, List.set_cons_zero, List.set_cons_succ]
      refine wpAnyH_take (i := 30) (v := undef) (op_atS (op_atS (op_atS (op_atS (op_atS (op_atS (op_atS (op_atS (op_atS (op_atS (op_atS (op_atS (op_atS (op_atS (op_atS (op_atS (op_atS (op_atS (op_atS (op_atS (op_atS (op_atS (op_atS (op_atS (op_atS (op_atS (op_atS (op_atS (op_atS (op_atS op_at0)))))))))))))))))))))))))))))) (by kernel_rfl) (by kernel_rfl) (by kernel_rfl) (fun _ _ _ h => h) (Or.inr ⟨by rfl, rfl⟩) (by assumption) ?_
      try simp only [Act.put, List.setIfInBounds_toArray, List.set_cons_zero, List.set_cons_succ]
      refine wpAnyH_take (i := 31) (v := undef) (op_atS (op_atS (op_atS (op_atS (op_atS (op_atS (op_atS (op_atS (op_atS (op_atS (op_atS (op_atS (op_atS (op_atS (op_atS (op_atS (op_atS (op_atS (op_atS (op_atS (op_atS (op_atS (op_atS (op_atS (op_atS (op_atS (op_atS (op_atS (op_atS (op_atS (op_atS op_at0))))))))))))))))))))))))))))))) (by kernel_rfl) (by kernel_rfl) (by kernel_rfl) (fun _ _ _ h => h) (Or.inr ⟨by rfl, rfl⟩) (by assumption) ?_
      try simp only [Act.put, List.setIfInBounds_toArray, List.set_cons_zero, List.set_cons_succ]
      refine wpAnyH_take (i := 32) (v := undef) (op_atS (op_atS (op_atS (op_atS (op_atS (op_atS (op_atS (op_atS (op_atS (op_atS (op_atS (op_atS (op_atS (op_atS (op_atS (op_atS (op_atS (op_atS (op_atS (op_atS (op_atS (op_atS (op_atS (op_atS (op_atS (op_atS (op_atS (op_atS (op_atS (op_atS (op_atS (op_atS op_at0)))))))))))))))))))))))))))))))) (by kernel_rfl) (by kernel_rfl) (by kernel_rfl) (fun _ _ _ h => h) (Or.inr ⟨by rfl, rfl⟩) (by assumption) ?_
      try simp only [Act.put, List.setIfInBounds_toArray, List.set_cons_zero, List.set_cons_succ]
      refine wpAnyH_take (i := 33) (v := undef) (op_atS (op_atS (op_atS (op_atS (op_atS (op_atS (op_atS (op_atS (op_atS (op_atS (op_atS (op_atS (op_atS (op_atS (op_atS (op_atS (op_atS (op_atS (op_atS (op_atS (op_atS (op_atS (op_atS (op_atS (op_atS (op_atS (op_atS (op_atS (op_atS (op_atS (op_atS (op_atS (op_atS op_at0))))))))))))))))))))))))))))))))) (by kernel_rfl) (by kernel_rfl) (by kernel_rfl) (fun _ _ _ h => h) (Or.inr ⟨by rfl, rfl⟩) (by assumption) ?_
      try simp only [Act.put, List.setIfInBounds_toArray, List.set_cons_zero, List.set_cons_succ]
      refine wpAnyH_take (i := 34) (v := undef) (op_atS (op_atS (op_atS (op_atS (op_atS (op_atS (op_atS (op_atS (op_atS (op_atS (op_atS (op_atS (op_atS (op_atS (op_atS (op_atS (op_atS (op_atS (op_atS (op_atS (op_atS (op_atS (op_atS (op_atS (op_atS (op_atS (op_atS (op_atS (op_atS (op_atS (op_atS (op_atS (op_atS (op_atS op_at0)))))))))))))))))))))))))))))))))) (by kernel_rfl) (by kernel_rfl) (by kernel_rfl) (fun _ _ _ h => h) (Or.inr ⟨by rfl, rfl⟩) (by assumption) ?_
      try simp only [Act.put, List.setIfInBounds_toArray, List.set_cons_zero, List.set_cons_succ]
      refine wpAnyH_take (i := 35) (v := ?_) (op_atS (op_atS (op_atS (op_atS (op_atS (op_atS (op_atS (op_atS (op_atS (op_atS (op_atS (op_atS (op_atS (op_atS (op_atS (op_atS (op_atS (op_atS (op_atS (op_atS (op_atS (op_atS (op_atS (op_atS (op_atS (op_atS (op_atS (op_atS (op_atS (op_atS (op_atS (op_atS (op_atS (op_atS (op_atS op_at0))))))))))))))))))))))))))))))))))) (by kernel_rfl) (by kernel_rfl) (by kernel_rfl) (fun _ _ _ h => h) (Or.inl ⟨by rfl, ?_⟩) (by assumption) ?_
      rotate_left
      focus ((intro w hSw; (try dsimp only at hSw); go_simp) <;> with_reducible rfl)
      all_goals skip
      try simp only [Act.put, List.setIfInBounds_toArray, List.set_cons_zero, List.set_cons_succ]
      refine wpAnyH_take (i := 36) (v := ?_) (op_atS (op_atS (op_atS (op_atS (op_atS (op_atS (op_atS (op_atS (op_atS (op_atS (op_atS (op_atS (op_atS (op_atS (op_atS (op_atS (op_atS (op_atS (op_atS (op_atS (op_atS (op_atS (op_atS (op_atS (op_atS (op_atS (op_atS (op_atS (op_atS (op_atS (op_atS (op_atS (op_atS (op_atS (op_atS (op_atS op_at0)))))))))))))))))))))))))))))))))))) (by kernel_rfl) (by kernel_rfl) (by kernel_rfl) (fun _ _ _ h => h) (Or.inl ⟨by rfl, ?_⟩) (by assumption) ?_
      rotate_left
      focus ((intro w hSw; (try dsimp only at hSw); go_simp) <;> with_reducible rfl)
      all_goals skip
      try simp only [Act.put, List.setIfInBounds_toArray, List.set_cons_zero, List.set_cons_succ]
      refine wpAnyH_done (by kernel_rfl) ?_ _
      go_wp2
      go_ret
      exact ⟨by rw [HP.out]; rfl, hmA⟩
    · clear hcase hfin
      go_enter Tryd.func102, Tryd.ntmps102
      go_upto_region 1 with fail
      refine wp_region_held_drew (S := (fun X => (X.cell? (a.add (i * (3 + 1))) = some (.int .i32 r) ∧ X.cell? ⟨(a.add (i * (3 + 1))).block, (a.add (i * (3 + 1))).off + (0 + 1), none⟩ = some (.int .u8 fg) ∧ X.cell? ⟨(a.add (i * (3 + 1))).block, (a.add (i * (3 + 1))).off + (1 + 1), none⟩ = some (.int .u8 bg) ∧ X.cell? ⟨(a.add (i * (3 + 1))).block, (a.add (i * (3 + 1))).off + (2 + 1), none⟩ = some (.int .u8 (at'.val : Int))) ∧ X.cell? (a.add ((i + 1) * (3 + 1))) = some (.int .i32 dr) ∧ X.cell? ⟨(a.add ((i + 1) * (3 + 1))).block, (a.add ((i + 1) * (3 + 1))).off + (0 + 1), none⟩ = some (.int .u8 df) ∧ X.cell? ⟨(a.add ((i + 1) * (3 + 1))).block, (a.add ((i + 1) * (3 + 1))).off + (1 + 1), none⟩ = some (.int .u8 db) ∧ X.cell? ⟨(a.add ((i + 1) * (3 + 1))).block, (a.add ((i + 1) * (3 + 1))).off + (2 + 1), none⟩ = some (.int .u8 (da.val : Int)))) (by kernel_rfl) ?_ (fun hHeld => ?_)
      focus ((try dsimp only); with_reducible exact KA _ hMW.out.drew)
      refine wpAnyH_take (i := 0) (v := ?_) op_at0 (by kernel_rfl) (by kernel_rfl) (by kernel_rfl) (fun _ _ _ h => h) (Or.inl ⟨by rfl, ?_⟩) (by assumption) ?_
      rotate_left
      focus ((intro w hSw; (try dsimp only at hSw); go_simp) <;> with_reducible rfl)
      all_goals skip
      try simp only [Act.put, List.setIfInBounds_toArray, List.set_cons_zero, List.set_cons_succ]
      refine wpAnyH_take (i := 1) (v := ?_) (op_atS op_at0) (by kernel_rfl) (by kernel_rfl) (by kernel_rfl) (fun _ _ _ h => h) (Or.inl ⟨by rfl, ?_⟩) (by assumption) ?_
      rotate_left
      focus ((intro w hSw; (try dsimp only at hSw); go_simp) <;> with_reducible rfl)
      all_goals skip
      try simp only [Act.put, List.setIfInBounds_toArray, List.set_cons_zero, List.set_cons_succ]
      refine wpAnyH_take (i := 2) (v := ?_) (op_atS (op_atS op_at0)) (by kernel_rfl) (by kernel_rfl) (by kernel_rfl) (fun _ _ _ h => h) (Or.inl ⟨by rfl, ?_⟩) (by assumption) ?_
      rotate_left
      focus ((intro w hSw; (try dsimp only at hSw); go_simp) <;> with_reducible rfl)
      all_goals skip
      try simp only [Act.put, List.setIfInBounds_toArray, List.set_cons_zero, List.set_cons_succ]
      refine wpAnyH_take (i := 3) (v := ?_) (op_atS (op_atS (op_atS op_at0))) (by kernel_rfl) (by kernel_rfl) (by kernel_rfl) (fun _ _ _ h => h) (Or.inl ⟨by rfl, ?_⟩) (by assumption) ?_
      rotate_left
      focus ((intro w hSw; (try dsimp only at hSw); go_simp) <;> with_reducible rfl)
      all_goals skip
      try simp only [Act.put, List.setIfInBounds_toArray, List.set_cons_zero, List.set_cons_succ]
      refine wpAnyH_take (i := 4) (v := ?_) (op_atS (op_atS (op_atS (op_atS op_at0)))) (by kernel_rfl) (by kernel_rfl) (by kernel_rfl) (fun _ _ _ h => h) (Or.inl ⟨by rfl, ?_⟩) (by assumption) ?_
      rotate_left
      focus ((intro w hSw; (try dsimp only at hSw); go_simp) <;> with_reducible rfl)
      all_goals skip
      try simp only [Act.put, List.setIfInBounds_toArray, List.set_cons_zero, List.set_cons_succ]
      refine wpAnyH_take (i := 5) (v := ?_) (op_atS (op_atS (op_atS (op_atS (op_atS op_at0))))) (by kernel_rfl) (by kernel_rfl) (by kernel_rfl) (fun _ _ _ h => h) (Or.inl ⟨by rfl, ?_⟩) (by assumption) ?_
      rotate_left
      focus ((intro w hSw; (try dsimp only at hSw); go_simp) <;> with_reducible rfl)
      all_goals skip
      try simp only [Act.put, List.setIfInBounds_toArray, List.set_cons_zero, List.set_cons_succ]
      refine wpAnyH_take (i := 6) (v := ?_) (op_atS (op_atS (op_atS (op_atS (op_atS (op_atS op_at0)))))) (by kernel_rfl) (by kernel_rfl) (by kernel_rfl) (fun _ _ _ h => h) (Or.inl ⟨by rfl, ?_⟩) (by assumption) ?_
      rotate_left
      focus ((intro w hSw; (try dsimp only at hSw); go_simp) <;> with_reducible rfl)
      all_goals skip
      try simp only [Act.put, List.setIfInBounds_toArray, List.set_cons_zero, List.set_cons_succ]
      refine wpAnyH_take (i := 7) (v := ?_) (op_atS (op_atS (op_atS (op_atS (op_atS (op_atS (op_atS op_at0))))))) (by kernel_rfl) (by kernel_rfl) (by kernel_rfl) (fun _ _ _ h => h) (Or.inl ⟨by rfl, ?_⟩) (by assumption) ?_
      rotate_left
      focus ((intro w hSw; (try dsimp only at hSw); go_simp) <;> with_reducible rfl)
      all_goals skip
      try simp only [Act.put, List.setIfInBounds_toArray, List.set_cons_zero, List.set_cons_succ]
      refine wpAnyH_take (i := 8) (v := ?_) (op_atS (op_atS (op_atS (op_atS (op_atS (op_atS (op_atS (op_atS op_at0)))))))) (by kernel_rfl) (by kernel_rfl) (by kernel_rfl) (fun _ _ _ h => h) (Or.inl ⟨by rfl, ?_⟩) (by assumption) ?_
      rotate_left
      focus ((intro w hSw; (try dsimp only at hSw); go_simp) <;> with_reducible rfl)
      all_goals skip
      try simp only [Act.put, List.setIfInBounds_toArray, List.set_cons_zero, List.set_cons_succ]
      refine wpAnyH_take (i := 9) (v := ?_) (op_atS (op_atS (op_atS (op_atS (op_atS (op_atS (op_atS (op_atS (op_atS op_at0))))))))) (by kernel_rfl) (by kernel_rfl) (by kernel_rfl) (fun _ _ _ h => h) (Or.inl ⟨by rfl, ?_⟩) (by assumption) ?_
      rotate_left
      focus ((intro w hSw; (try dsimp only at hSw); go_simp) <;> with_reducible rfl)
      all_goals skip
      try simp only [Act.put, List.setIfInBounds_toArray, List.set_cons_zero, List.set_cons_succ]
      refine wpAnyH_take (i := 10) (v := ?_) (op_atS (op_atS (op_atS (op_atS (op_atS (op_atS (op_atS (op_atS (op_atS (op_atS op_at0)))))))))) (by kernel_rfl) (by kernel_rfl) (by kernel_rfl) (fun _ _ _ h => h) (Or.inl ⟨by rfl, ?_⟩) (by assumption) ?_
      rotate_left
      focus ((intro w hSw; (try dsimp only at hSw); go_simp) <;> with_reducible rfl)
      all_goals skip
      try simp only [Act.put, List.setIfInBounds_toArray, List.set_cons_zero, List.set_cons_succ]
      refine wpAnyH_take (i := 11) (v := ?_) (op_atS (op_atS (op_atS (op_atS (op_atS (op_atS (op_atS (op_atS (op_atS (op_atS (op_atS op_at0))))))))))) (by kernel_rfl) (by kernel_rfl) (by kernel_rfl) (fun _ _ _ h => h) (Or.inl ⟨by rfl, ?_⟩) (by assumption) ?_
      rotate_left
      focus ((intro w hSw; (try dsimp only at hSw); go_simp) <;> with_reducible rfl)
      all_goals skip
      try simp only [Act.put, List.setIfInBounds_toArray, List.set_cons_zero, List.set_cons_succ]
      refine wpAnyH_take (i := 12) (v := ?_) (op_atS (op_atS (op_atS (op_atS (op_atS (op_atS (op_atS (op_atS (op_atS (op_atS (op_atS (op_atS op_at0)))))))))))) (by kernel_rfl) (by kernel_rfl) (by kernel_rfl) (fun _ _ _ h => h) (Or.inl ⟨by rfl, ?_⟩) (by assumption) ?_
      rotate_left
      focus ((intro w hSw; (try dsimp only at hSw); go_simp) <;> with_reducible rfl)
      all_goals skip
      try simp only [Act.put, List.setIfInBounds_toArray, List.set_cons_zero, List.set_cons_succ]
      refine wpAnyH_take (i := 13) (v := ?_) (op_atS (op_atS (op_atS (op_atS (op_atS (op_atS (op_atS (op_atS (op_atS (op_atS (op_atS (op_atS (op_atS op_at0))))))))))))) (by kernel_rfl) (by kernel_rfl) (by kernel_rfl) (fun _ _ _ h => h) (Or.inl ⟨by rfl, ?_⟩) (by assumption) ?_
      rotate_left
      focus ((intro w hSw; (try dsimp only at hSw); go_simp) <;> with_reducible rfl)
      all_goals skip
      try simp only [Act.put, List.setIfInBounds_toArray, List.set_cons_zero, List.set_cons_succ]
      refine wpAnyH_ready (rs := [14]) (by kernel_rfl) (by simp) ?_
      refine AllReadyH.cons (op_atS (op_atS (op_atS (op_atS (op_atS (op_atS (op_atS (op_atS (op_atS (op_atS (op_atS (op_atS (op_atS (op_atS op_at0)))))))))))))) (fun K hK => ?_) AllReadyH.nil
      go_simp
      ((go_at_call 100; refine (K1.out _).mono ?_; rintro e w1 ⟨rfl, hm1⟩; have hmA : Mods [] w w1 := hMW.out.drew.trans hm1))
      try go_wp2_with fail
      refine hK.out _ _ ?_ (fun hHeld2 => ?_)
      focus ((try dsimp only); with_reducible exact KA _ hmA)
      clear hK K hHeld
      have hHeld := hHeld2
      clear hHeld2
      try simp only [Act.put, List.setIfInBounds_toArray, List.set_cons_zero, List.set_cons_succ]
      refine wpAnyH_take (i := 15) (v := ?_) (op_atS (op_atS (op_atS (op_atS (op_atS (op_atS (op_atS (op_atS (op_atS (op_atS (op_atS (op_atS (op_atS (op_atS (op_atS op_at0))))))))))))))) (by kernel_rfl) (by kernel_rfl) (by kernel_rfl) (fun _ _ _ h => h) (Or.inl ⟨by rfl, ?_⟩) (by assumption) ?_
      rotate_left
      focus ((intro w hSw; (try dsimp only at hSw); go_simp) <;> with_reducible rfl)
      all_goals skip
      try simp only [Act.put, List.setIfInBounds_toArray, List.set_cons_zero, List.set_cons_succ]
      refine wpAnyH_take (i := 16) (v := ?_) (op_atS (op_atS (op_atS (op_atS (op_atS (op_atS (op_atS (op_atS (op_atS (op_atS (op_atS (op_atS (op_atS (op_atS (op_atS (op_atS op_at0)))))))))))))))) (by kernel_rfl) (by kernel_rfl) (by kernel_rfl) (fun _ _ _ h => h) (Or.inl ⟨by rfl, ?_⟩) (by assumption) ?_
      rotate_left
      focus ((intro w hSw; (try dsimp only at hSw); go_simp) <;> with_reducible rfl)
      all_goals skip
      try simp only [Act.put, List.setIfInBounds_toArray, List.set_cons_zero, List.set_cons_succ]
      refine wpAnyH_take (i := 17) (v := ?_) (op_atS (op_atS (op_atS (op_atS (op_atS (op_atS (op_atS (op_atS (op_atS (op_atS (op_atS (op_atS (op_atS (op_atS (op_atS (op_atS (op_atS op_at0))))))))))))))))) (by kernel_rfl) (by kernel_rfl) (by kernel_rfl) (fun _ _ _ h => h) (Or.inl ⟨by rfl, ?_⟩) (by assumption) ?_
      rotate_left
      focus ((intro w hSw; (try dsimp only at hSw); go_simp) <;> with_reducible rfl)
      all_goals skip
      try simp only [Act.put, List.setIfInBounds_toArray, List.set_cons_zero, List.set_cons_succ]
      refine wpAnyH_take (i := 18) (v := ?_) (op_atS (op_atS (op_atS (op_atS (op_atS (op_atS (op_atS (op_atS (op_atS (op_atS (op_atS (op_atS (op_atS (op_atS (op_atS (op_atS (op_atS (op_atS op_at0)))))))))))))))))) (by kernel_rfl) (by kernel_rfl) (by kernel_rfl) (fun _ _ _ h => h) (Or.inl ⟨by rfl, ?_⟩) (by assumption) ?_
      rotate_left
      focus ((intro w hSw; (try dsimp only at hSw); go_simp) <;> with_reducible rfl)
      all_goals skip
      try simp only [Act.put, List.setIfInBounds_toArray, List.set_cons_zero, List.set_cons_succ]
      refine wpAnyH_take (i := 19) (v := ?_) (op_atS (op_atS (op_atS (op_atS (op_atS (op_atS (op_atS (op_atS (op_atS (op_atS (op_atS (op_atS (op_atS (op_atS (op_atS (op_atS (op_atS (op_atS (op_atS op_at0))))))))))))))))))) (by kernel_rfl) (by kernel_rfl) (by kernel_rfl) (fun _ _ _ h => h) (Or.inl ⟨by rfl, ?_⟩) (by assumption) ?_
      rotate_left
      focus ((intro w hSw; (try dsimp only at hSw); go_simp) <;> with_reducible rfl)
      all_goals skip
      try simp only [Act.put, List.setIfInBounds_toArray, List.set_cons_zero, List.set_cons_succ]
      refine wpAnyH_take (i := 20) (v := ?_) (op_atS (op_atS (op_atS (op_atS (op_atS (op_atS (op_atS (op_atS (op_atS (op_atS (op_atS (op_atS (op_atS (op_atS (op_atS (op_atS (op_atS (op_atS (op_atS (op_atS op_at0)))))))))))))))))))) (by kernel_rfl) (by kernel_rfl) (by kernel_rfl) (fun _ _ _ h => h) (Or.inl ⟨by rfl, ?_⟩) (by assumption) ?_
      rotate_left
      focus ((intro w hSw; (try dsimp only at hSw); go_simp) <;> with_reducible rfl)
      all_goals skip
      try simp only [Act.put, List.setIfInBounds_toArray, List.set_cons_zero, List.set_cons_succ]
      refine wpAnyH_ready (rs := [21]) (by kernel_rfl) (by simp) ?_
      refine AllReadyH.cons (op_atS (op_atS (op_atS (op_atS (op_atS (op_atS (op_atS (op_atS (op_atS (op_atS (op_atS (op_atS (op_atS (op_atS (op_atS (op_atS (op_atS (op_atS (op_atS (op_atS (op_atS op_at0))))))))))))))))))))) (fun K hK => ?_) AllReadyH.nil
      go_simp
      ((go_at_call 101; refine (W1.out _).mono ?_; rintro e w2 ⟨rfl, hm2⟩; have hmB : Mods [] w w2 := hmA.trans hm2))
      try go_wp2_with fail
      refine hK.out _ _ ?_ (fun hHeld2 => ?_)
      focus ((try dsimp only); with_reducible exact KA _ hmB)
      clear hK K hHeld
      have hHeld := hHeld2
      clear hHeld2
      try simp only [Act.put, List.setIfInBounds_toArray, List.set_cons_zero, List.set_cons_succ]
      refine wpAnyH_take (i := 22) (v := ?_) (op_atS (op_atS (op_atS (op_atS (op_atS (op_atS (op_atS (op_atS (op_atS (op_atS (op_atS (op_atS (op_atS (op_atS (op_atS (op_atS (op_atS (op_atS (op_atS (op_atS (op_atS (op_atS op_at0)))))))))))))))))))))) (by kernel_rfl) (by kernel_rfl) (by kernel_rfl) (fun _ _ _ h => h) (Or.inl ⟨by rfl, ?_⟩) (by assumption) ?_
      rotate_left
      focus ((intro w hSw; (try dsimp only at hSw); go_simp) <;> with_reducible rfl)
      all_goals skip
      try simp only [Act.put, List.setIfInBounds_toArray, List.set_cons_zero, List.set_cons_succ]
      refine wpAnyH_take (i := 23) (v := ?_) (op_atS (op_atS (op_atS (op_atS (op_atS (op_atS (op_atS (op_atS (op_atS (op_atS (op_atS (op_atS (op_atS (op_atS (op_atS (op_atS (op_atS (op_atS (op_atS (op_atS (op_atS (op_atS (op_atS op_at0))))))))))))))))))))))) (by kernel_rfl) (by kernel_rfl) (by kernel_rfl) (fun _ _ _ h => h) (Or.inl ⟨by rfl, ?_⟩) (by assumption) ?_
      rotate_left
      focus ((intro w hSw; (try dsimp only at hSw); go_simp) <;> with_reducible rfl)
      all_goals skip
      try simp only [Act.put, List.setIfInBounds_toArray, List.set_cons_zero, List.set_cons_succ]
      refine wpAnyH_take (i := 24) (v := undef) (op_atS (op_atS (op_atS (op_atS (op_atS (op_atS (op_atS (op_atS (op_atS (op_atS (op_atS (op_atS (op_atS (op_atS (op_atS (op_atS (op_atS (op_atS (op_atS (op_atS (op_atS (op_atS (op_atS (op_atS op_at0)))))))))))))))))))))))) (by kernel_rfl) (by kernel_rfl) (by kernel_rfl) (fun _ _ _ h => h) (Or.inr ⟨by rfl, rfl⟩) (by assumption) ?_
      try simp only [Act.put, List.setIfInBounds_toArray, List.set_cons_zero, List.set_cons_succ]
      refine wpAnyH_take (i := 25) (v := undef) (op_atS (op_atS (op_atS (op_atS (op_atS (op_atS (op_atS (op_atS (op_atS (op_atS (op_atS (op_atS (op_atS (op_atS (op_atS (op_atS (op_atS (op_atS (op_atS (op_atS (op_atS (op_atS (op_atS (op_atS (op_atS op_at0))))))))))))))))))))))))) (by kernel_rfl) (by kernel_rfl) (by kernel_rfl) (fun _ _ _ h => h) (Or.inr ⟨by rfl, rfl⟩) (by assumption) ?_
      try simp only [Act.put, List.setIfInBounds_toArray, List.set_cons_zero, List.set_cons_succ]
      refine wpAnyH_take (i := 26) (v := undef) (op_atS (op_atS (op_atS (op_atS (op_atS (op_atS (op_atS (op_atS (op_atS (op_atS (op_atS (op_atS (op_atS (op_atS (op_atS (op_atS (op_atS (op_atS (op_atS (op_atS (op_atS (op_atS (op_atS (op_atS (op_atS (op_atS op_at0)))))))))))))))))))))))))) (by kernel_rfl) (by kernel_rfl) (by kernel_rfl) (fun _ _ _ h => h) (Or.inr ⟨by rfl, rfl⟩) (by assumption) ?_
      try simp only [Act.put, List.setIfInBounds_toArray, List.set_cons_zero, List.set_cons_succ]
      refine wpAnyH_take (i := 27) (v := undef) (op_atS (op_atS (op_atS (op_atS (op_atS (op_atS (op_atS (op_atS (op_atS (op_atS (op_atS (op_atS (op_atS (op_atS (op_atS (op_atS (op_atS (op_atS (op_atS (op_atS (op_atS (op_atS (op_atS (op_atS (op_atS (op_atS (op_atS op_at0))))))))))))))))))))))))))) (by kernel_rfl) (by kernel_rfl) (by kernel_rfl) (fun _ _ _ h => h) (Or.inr ⟨by rfl, rfl⟩) (by assumption) ?_
      try simp only [Act.put, List.setIfInBounds_toArray, List.set_cons_zero, List.set_cons_succ]
      refine wpAnyH_take (i := 28) (v := undef) (op_atS (op_atS (op_atS (op_atS (op_atS (op_atS (op_atS (op_atS (op_atS (op_atS (op_atS (op_atS (op_atS (op_atS (op_atS (op_atS (op_atS (op_atS (op_atS (op_atS (op_atS (op_atS (op_atS (op_atS (op_atS (op_atS (op_atS (op_atS op_at0)))))))))))))))))))))))))))) (by kernel_rfl) (by kernel_rfl) (by kernel_rfl) (fun _ _ _ h => h) (Or.inr ⟨by rfl, rfl⟩) (by assumption) ?_
      try simp only [Act.put, List.setIfInBounds_toArray, List.set_cons_zero, List.set_cons_succ]
      refine wpAnyH_take (i := 29) (v := undef) (op_atS (op_atS (op_atS (op_atS (op_atS (op_atS (op_atS (op_atS (op_atS (op_atS (op_atS (op_atS (op_atS (op_atS (op_atS (op_atS (op_atS (op_atS (op_atS (op_atS (op_atS (op_atS (op_atS (op_atS (op_atS (op_atS (op_atS (op_atS (op_atS op_at0))))))))))))))))))))))))))))) (by kernel_rfl) (by kernel_rfl) (by kernel_rfl) (fun _ _ _ h => h) (Or.inr ⟨by rfl, rfl⟩) (by assumption) ?_
      try simp only [Act.put, List.setIfInBounds_toArray, List.set_cons_zero, List.set_cons_succ]
      refine wpAnyH_take (i := 30) (v := undef) (op_atS (op_atS (op_atS (op_atS (op_atS (op_atS (op_atS (op_atS (op_atS (op_atS (op_atS (op_atS (op_atS (op_atS (op_atS (op_atS (op_atS (op_atS (op_atS (op_atS (op_atS (op_atS (op_atS (op_atS (op_atS (op_atS (op_atS (op_atS (op_atS (op_atS op_at0)))))))))))))))))))))))))))))) (by kernel_rfl) (by kernel_rfl) (by kernel_rfl) (fun _ _ _ h => h) (Or.inr ⟨by rfl, rfl⟩) (by assumption) ?_
      try simp only [Act.put, List.setIfInBounds_toArray, List.set_cons_zero, List.set_cons_succ]
      refine wpAnyH_take (i := 31) (v := undef) (op_atS (op_atS (op_atS (op_atS (op_atS (op_atS (op_atS (op_atS (op_atS (op_atS (op_atS (op_atS (op_atS (op_atS (op_atS (op_atS (op_atS (op_atS (op_atS (op_atS (op_atS (op_atS (op_atS (op_atS (op_atS (op_atS (op_atS (op_atS (op_atS (op_atS (op_atS op_at0))))))))))))))))))))))))))))))) (by kernel_rfl) (by kernel_rfl) (by kernel_rfl) (fun _ _ _ h => h) (Or.inr ⟨by rfl, rfl⟩) (by assumption) ?_
      try simp only [Act.put, List.setIfInBounds_toArray, List.set_cons_zero, List.set_cons_succ]
      refine wpAnyH_take (i := 32) (v := undef) (op_atS (op_atS (op_atS (op_atS (op_atS (op_atS (op_atS (op_atS (op_atS (op_atS (op_atS (op_atS (op_atS (op_atS (op_atS (op_atS (op_atS (op_atS (op_atS (op_atS (op_atS (op_atS (op_atS (op_atS (op_atS (op_atS (op_atS (op_atS (op_atS (op_atS (op_atS (op_atS op_at0)))))))))))))))))))))))))))))))) (by kernel_rfl) (by kernel_rfl) (by kernel_rfl) (fun _ _ _ h => h) (Or.inr ⟨by rfl, rfl⟩) (by assumption) ?_
      try simp only [Act.put, List.setIfInBounds_toArray, List.set_cons_zero, List.set_cons_succ]
      refine wpAnyH_take (i := 33) (v := undef) (op_atS (op_atS (op_atS (op_atS (op_atS (op_atS (op_atS (op_atS (op_atS (op_atS (op_atS (op_atS (op_atS (op_atS (op_atS (op_atS (op_atS (op_atS (op_atS (op_atS (op_atS (op_atS (op_atS (op_atS (op_atS (op_atS (op_atS (op_atS (op_atS (op_atS (op_atS (op_atS (op_atS op_at0))))))))))))))))))))))))))))))))) (by kernel_rfl) (by kernel_rfl) (by kernel_rfl) (fun _ _ _ h => h) (Or.inr ⟨by rfl, rfl⟩) (by assumption) ?_
      try simp only [Act.put, List.setIfInBounds_toArray, List.set_cons_zero, List.set_cons_succ]
      refine wpAnyH_take (i := 34) (v := undef) (op_atS (op_atS (op_atS (op_atS (op_atS (op_atS (op_atS (op_atS (op_atS (op_atS (op_atS (op_atS (op_atS (op_atS (op_atS (op_atS (op_atS (op_atS (op_atS (op_atS (op_atS (op_atS (op_atS (op_atS (op_atS (op_atS (op_atS (op_atS (op_atS (op_atS (op_atS (op_atS (op_atS (op_atS op_at0)))))))))))))))))))))))))))))))))) (by kernel_rfl) (by kernel_rfl) (by kernel_rfl) (fun _ _ _ h => h) (Or.inr ⟨by rfl, rfl⟩) (by assumption) ?_
      try simp only [Act.put, List.setIfInBounds_toArray, List.set_cons_zero, List.set_cons_succ]
      refine wpAnyH_take (i := 35) (v := ?_) (op_atS (op_atS (op_atS (op_atS (op_atS (op_atS (op_atS (op_atS (op_atS (op_atS (op_atS (op_atS (op_atS (op_atS (op_atS (op_atS (op_atS (op_atS (op_atS (op_atS (op_atS (op_atS (op_atS (op_atS (op_atS (op_atS (op_atS (op_atS (op_atS (op_atS (op_atS (op_atS (op_atS (op_atS (op_atS op_at0))))))))))))))))))))))))))))))))))) (by kernel_rfl) (by kernel_rfl) (by kernel_rfl) (fun _ _ _ h => h) (Or.inl ⟨by rfl, ?_⟩) (by assumption) ?_
      rotate_left
      focus ((intro w hSw; (try dsimp only at hSw); go_simp) <;> with_reducible rfl)
      all_goals skip
      try simp only [Act.put, List.setIfInBounds_toArray, List.set_cons_zero, List.set_cons_succ]
      refine wpAnyH_take (i := 36) (v := ?_) (op_atS (op_atS (op_atS (op_atS (op_atS (op_atS (op_atS (op_atS (op_atS (op_atS (op_atS (op_atS (op_atS (op_atS (op_atS (op_atS (op_atS (op_atS (op_atS (op_atS (op_atS (op_atS (op_atS (op_atS (op_atS (op_atS (op_atS (op_atS (op_atS (op_atS (op_atS (op_atS (op_atS (op_atS (op_atS (op_atS op_at0)))))))))))))))))))))))))))))))))))) (by kernel_rfl) (by kernel_rfl) (by kernel_rfl) (fun _ _ _ h => h) (Or.inl ⟨by rfl, ?_⟩) (by assumption) ?_
      rotate_left
      focus ((intro w hSw; (try dsimp only at hSw); go_simp) <;> with_reducible rfl)
      all_goals skip
      try simp only [Act.put, List.setIfInBounds_toArray, List.set_cons_zero, List.set_cons_succ]
      refine wpAnyH_done (by kernel_rfl) ?_ _
      go_wp2
      go_ret
      exact ⟨by rw [HP.out]; rfl, hmB⟩
    · go_enter Tryd.func102, Tryd.ntmps102
      go_upto_region 1 with fail
      refine wp_region_held_drew (S := (fun X => (X.cell? (a.add (i * (3 + 1))) = some (.int .i32 r) ∧ X.cell? ⟨(a.add (i * (3 + 1))).block, (a.add (i * (3 + 1))).off + (0 + 1), none⟩ = some (.int .u8 fg) ∧ X.cell? ⟨(a.add (i * (3 + 1))).block, (a.add (i * (3 + 1))).off + (1 + 1), none⟩ = some (.int .u8 bg) ∧ X.cell? ⟨(a.add (i * (3 + 1))).block, (a.add (i * (3 + 1))).off + (2 + 1), none⟩ = some (.int .u8 (at'.val : Int))) ∧ X.cell? (a.add ((i + 1) * (3 + 1))) = some (.int .i32 dr) ∧ X.cell? ⟨(a.add ((i + 1) * (3 + 1))).block, (a.add ((i + 1) * (3 + 1))).off + (0 + 1), none⟩ = some (.int .u8 df) ∧ X.cell? ⟨(a.add ((i + 1) * (3 + 1))).block, (a.add ((i + 1) * (3 + 1))).off + (1 + 1), none⟩ = some (.int .u8 db) ∧ X.cell? ⟨(a.add ((i + 1) * (3 + 1))).block, (a.add ((i + 1) * (3 + 1))).off + (2 + 1), none⟩ = some (.int .u8 (da.val : Int)))) (by kernel_rfl) ?_ (fun hHeld => ?_)
      focus ((try dsimp only); with_reducible exact KA _ hMW.out.drew)
      refine wpAnyH_take (i := 0) (v := ?_) op_at0 (by kernel_rfl) (by kernel_rfl) (by kernel_rfl) (fun _ _ _ h => h) (Or.inl ⟨by rfl, ?_⟩) (by assumption) ?_
      rotate_left
      focus ((intro w hSw; (try dsimp only at hSw); go_simp) <;> with_reducible rfl)
      all_goals skip
      try simp only [Act.put, List.setIfInBounds_toArray, List.set_cons_zero, List.set_cons_succ]
      refine wpAnyH_take (i := 1) (v := ?_) (op_atS op_at0) (by kernel_rfl) (by kernel_rfl) (by kernel_rfl) (fun _ _ _ h => h) (Or.inl ⟨by rfl, ?_⟩) (by assumption) ?_
      rotate_left
      focus ((intro w hSw; (try dsimp only at hSw); go_simp) <;> with_reducible rfl)
      all_goals skip
      try simp only [Act.put, List.setIfInBounds_toArray, List.set_cons_zero, List.set_cons_succ]
      refine wpAnyH_take (i := 2) (v := ?_) (op_atS (op_atS op_at0)) (by kernel_rfl) (by kernel_rfl) (by kernel_rfl) (fun _ _ _ h => h) (Or.inl ⟨by rfl, ?_⟩) (by assumption) ?_
      rotate_left
      focus ((intro w hSw; (try dsimp only at hSw); go_simp) <;> with_reducible rfl)
      all_goals skip
      try simp only [Act.put, List.setIfInBounds_toArray, List.set_cons_zero, List.set_cons_succ]
      refine wpAnyH_take (i := 3) (v := ?_) (op_atS (op_atS (op_atS op_at0))) (by kernel_rfl) (by kernel_rfl) (by kernel_rfl) (fun _ _ _ h => h) (Or.inl ⟨by rfl, ?_⟩) (by assumption) ?_
      rotate_left
      focus ((intro w hSw; (try dsimp only at hSw); go_simp) <;> with_reducible rfl)
      all_goals skip
      try simp only [Act.put, List.setIfInBounds_toArray, List.set_cons_zero, List.set_cons_succ]
      refine wpAnyH_take (i := 4) (v := ?_) (op_atS (op_atS (op_atS (op_atS op_at0)))) (by kernel_rfl) (by kernel_rfl) (by kernel_rfl) (fun _ _ _ h => h) (Or.inl ⟨by rfl, ?_⟩) (by assumption) ?_
      rotate_left
      focus ((intro w hSw; (try dsimp only at hSw); go_simp) <;> with_reducible rfl)
      all_goals skip
      try simp only [Act.put, List.setIfInBounds_toArray, List.set_cons_zero, List.set_cons_succ]
      refine wpAnyH_take (i := 5) (v := ?_) (op_atS (op_atS (op_atS (op_atS (op_atS op_at0))))) (by kernel_rfl) (by kernel_rfl) (by kernel_rfl) (fun _ _ _ h => h) (Or.inl ⟨by rfl, ?_⟩) (by assumption) ?_
      rotate_left
      focus ((intro w hSw; (try dsimp only at hSw); go_simp) <;> with_reducible rfl)
      all_goals skip
      try simp only [Act.put, List.setIfInBounds_toArray, List.set_cons_zero, List.set_cons_succ]
      refine wpAnyH_take (i := 6) (v := ?_) (op_atS (op_atS (op_atS (op_atS (op_atS (op_atS op_at0)))))) (by kernel_rfl) (by kernel_rfl) (by kernel_rfl) (fun _ _ _ h => h) (Or.inl ⟨by rfl, ?_⟩) (by assumption) ?_
      rotate_left
      focus ((intro w hSw; (try dsimp only at hSw); go_simp) <;> with_reducible rfl)
      all_goals skip
      try simp only [Act.put, List.setIfInBounds_toArray, List.set_cons_zero, List.set_cons_succ]
      refine wpAnyH_take (i := 7) (v := ?_) (op_atS (op_atS (op_atS (op_atS (op_atS (op_atS (op_atS op_at0))))))) (by kernel_rfl) (by kernel_rfl) (by kernel_rfl) (fun _ _ _ h => h) (Or.inl ⟨by rfl, ?_⟩) (by assumption) ?_
      rotate_left
      focus ((intro w hSw; (try dsimp only at hSw); go_simp) <;> with_reducible rfl)
      all_goals skip
      try simp only [Act.put, List.setIfInBounds_toArray, List.set_cons_zero, List.set_cons_succ]
      refine wpAnyH_take (i := 8) (v := ?_) (op_atS (op_atS (op_atS (op_atS (op_atS (op_atS (op_atS (op_atS op_at0)))))))) (by kernel_rfl) (by kernel_rfl) (by kernel_rfl) (fun _ _ _ h => h) (Or.inl ⟨by rfl, ?_⟩) (by assumption) ?_
      rotate_left
      focus ((intro w hSw; (try dsimp only at hSw); go_simp) <;> with_reducible rfl)
      all_goals skip
      try simp only [Act.put, List.setIfInBounds_toArray, List.set_cons_zero, List.set_cons_succ]
      refine wpAnyH_take (i := 9) (v := ?_) (op_atS (op_atS (op_atS (op_atS (op_atS (op_atS (op_atS (op_atS (op_atS op_at0))))))))) (by kernel_rfl) (by kernel_rfl) (by kernel_rfl) (fun _ _ _ h => h) (Or.inl ⟨by rfl, ?_⟩) (by assumption) ?_
      rotate_left
      focus ((intro w hSw; (try dsimp only at hSw); go_simp) <;> with_reducible rfl)
      all_goals skip
      try simp only [Act.put, List.setIfInBounds_toArray, List.set_cons_zero, List.set_cons_succ]
      refine wpAnyH_take (i := 10) (v := ?_) (op_atS (op_atS (op_atS (op_atS (op_atS (op_atS (op_atS (op_atS (op_atS (op_atS op_at0)))))))))) (by kernel_rfl) (by kernel_rfl) (by kernel_rfl) (fun _ _ _ h => h) (Or.inl ⟨by rfl, ?_⟩) (by assumption) ?_
      rotate_left
      focus ((intro w hSw; (try dsimp only at hSw); go_simp) <;> with_reducible rfl)
      all_goals skip
      try simp only [Act.put, List.setIfInBounds_toArray, List.set_cons_zero, List.set_cons_succ]
      refine wpAnyH_take (i := 11) (v := ?_) (op_atS (op_atS (op_atS (op_atS (op_atS (op_atS (op_atS (op_atS (op_atS (op_atS (op_atS op_at0))))))))))) (by kernel_rfl) (by kernel_rfl) (by kernel_rfl) (fun _ _ _ h => h) (Or.inl ⟨by rfl, ?_⟩) (by assumption) ?_
      rotate_left
      focus ((intro w hSw; (try dsimp only at hSw); go_simp) <;> with_reducible rfl)
      all_goals skip
      try simp only [Act.put, List.setIfInBounds_toArray, List.set_cons_zero, List.set_cons_succ]
      refine wpAnyH_take (i := 12) (v := ?_) (op_atS (op_atS (op_atS (op_atS (op_atS (op_atS (op_atS (op_atS (op_atS (op_atS (op_atS (op_atS op_at0)))))))))))) (by kernel_rfl) (by kernel_rfl) (by kernel_rfl) (fun _ _ _ h => h) (Or.inl ⟨by rfl, ?_⟩) (by assumption) ?_
      rotate_left
      focus ((intro w hSw; (try dsimp only at hSw); go_simp) <;> with_reducible rfl)
      all_goals skip
      try simp only [Act.put, List.setIfInBounds_toArray, List.set_cons_zero, List.set_cons_succ]
      refine wpAnyH_take (i := 13) (v := ?_) (op_atS (op_atS (op_atS (op_atS (op_atS (op_atS (op_atS (op_atS (op_atS (op_atS (op_atS (op_atS (op_atS op_at0))))))))))))) (by kernel_rfl) (by kernel_rfl) (by kernel_rfl) (fun _ _ _ h => h) (Or.inl ⟨by rfl, ?_⟩) (by assumption) ?_
      rotate_left
      focus ((intro w hSw; (try dsimp only at hSw); go_simp) <;> with_reducible rfl)
      all_goals skip
      try simp only [Act.put, List.setIfInBounds_toArray, List.set_cons_zero, List.set_cons_succ]
      refine wpAnyH_ready (rs := [14]) (by kernel_rfl) (by simp) ?_
      refine AllReadyH.cons (op_atS (op_atS (op_atS (op_atS (op_atS (op_atS (op_atS (op_atS (op_atS (op_atS (op_atS (op_atS (op_atS (op_atS op_at0)))))))))))))) (fun K hK => ?_) AllReadyH.nil
      go_simp
      ((go_at_call 100; refine (K1.out _).mono ?_; rintro e w1 ⟨rfl, hm1⟩; have hmA : Mods [] w w1 := hMW.out.drew.trans hm1))
      try go_wp2_with fail
      refine hK.out _ _ ?_ (fun hHeld2 => ?_)
      focus ((try dsimp only); with_reducible exact KA _ hmA)
      clear hK K hHeld
      have hHeld := hHeld2
      clear hHeld2
      try simp only [Act.put, List.setIfInBounds_toArray, List.set_cons_zero, List.set_cons_succ]
      refine wpAnyH_take (i := 15) (v := ?_) (op_atS (op_atS (op_atS (op_atS (op_atS (op_atS (op_atS (op_atS (op_atS (op_atS (op_atS (op_atS (op_atS (op_atS (op_atS op_at0))))))))))))))) (by kernel_rfl) (by kernel_rfl) (by kernel_rfl) (fun _ _ _ h => h) (Or.inl ⟨by rfl, ?_⟩) (by assumption) ?_
      rotate_left
      focus ((intro w hSw; (try dsimp only at hSw); go_simp) <;> with_reducible rfl)
      all_goals skip
      try simp only [Act.put, List.setIfInBounds_toArray, List.set_cons_zero, List.set_cons_succ]
      refine wpAnyH_take (i := 16) (v := ?_) (op_atS (op_atS (op_atS (op_atS (op_atS (op_atS (op_atS (op_atS (op_atS (op_atS (op_atS (op_atS (op_atS (op_atS (op_atS (op_atS op_at0)))))))))))))))) (by kernel_rfl) (by kernel_rfl) (by kernel_rfl) (fun _ _ _ h => h) (Or.inl ⟨by rfl, ?_⟩) (by assumption) ?_
      rotate_left
      focus ((intro w hSw; (try dsimp only at hSw); go_simp) <;> with_reducible rfl)
      all_goals skip
      try simp only [Act.put, List.setIfInBounds_toArray, List.set_cons_zero, List.set_cons_succ]
      refine wpAnyH_take (i := 17) (v := ?_) (op_atS (op_atS (op_atS (op_atS (op_atS (op_atS (op_atS (op_atS (op_atS (op_atS (op_atS (op_atS (op_atS (op_atS (op_atS (op_atS (op_atS op_at0))))))))))))))))) (by kernel_rfl) (by kernel_rfl) (by kernel_rfl) (fun _ _ _ h => h) (Or.inl ⟨by rfl, ?_⟩) (by assumption) ?_
      rotate_left
      focus ((intro w hSw; (try dsimp only at hSw); go_simp) <;> with_reducible rfl)
      all_goals skip
      try simp only [Act.put, List.setIfInBounds_toArray, List.set_cons_zero, List.set_cons_succ]
      refine wpAnyH_take (i := 18) (v := ?_) (op_atS (op_atS (op_atS (op_atS (op_atS (op_atS (op_atS (op_atS (op_atS (op_atS (op_atS (op_atS (op_atS (op_atS (op_atS (op_atS (op_atS (op_atS op_at0)))))))))))))))))) (by kernel_rfl) (by kernel_rfl) (by kernel_rfl) (fun _ _ _ h => h) (Or.inl ⟨by rfl, ?_⟩) (by assumption) ?_
      rotate_left
      focus ((intro w hSw; (try dsimp only at hSw); go_simp) <;> with_reducible rfl)
      all_goals skip
      try simp only [Act.put, List.setIfInBounds_toArray, List.set_cons_zero, List.set_cons_succ]
      refine wpAnyH_take (i := 19) (v := ?_) (op_atS (op_atS (op_atS (op_atS (op_atS (op_atS (op_atS (op_atS (op_atS (op_atS (op_atS (op_atS (op_atS (op_atS (op_atS (op_atS (op_atS (op_atS (op_atS op_at0))))))))))))))))))) (by kernel_rfl) (by kernel_rfl) (by kernel_rfl) (fun _ _ _ h => h) (Or.inl ⟨by rfl, ?_⟩) (by assumption) ?_
      rotate_left
      focus ((intro w hSw; (try dsimp only at hSw); go_simp) <;> with_reducible rfl)
      all_goals skip
      try simp only [Act.put, List.setIfInBounds_toArray, List.set_cons_zero, List.set_cons_succ]
      refine wpAnyH_take (i := 20) (v := ?_) (op_atS (op_atS (op_atS (op_atS (op_atS (op_atS (op_atS (op_atS (op_atS (op_atS (op_atS (op_atS (op_atS (op_atS (op_atS (op_atS (op_atS (op_atS (op_atS (op_atS op_at0)))))))))))))))))))) (by kernel_rfl) (by kernel_rfl) (by kernel_rfl) (fun _ _ _ h => h) (Or.inl ⟨by rfl, ?_⟩) (by assumption) ?_
      rotate_left
      focus ((intro w hSw; (try dsimp only at hSw); go_simp) <;> with_reducible rfl)
      all_goals skip
      try simp only [Act.put, List.setIfInBounds_toArray, List.set_cons_zero, List.set_cons_succ]
      refine wpAnyH_ready (rs := [21]) (by kernel_rfl) (by simp) ?_
      refine AllReadyH.cons (op_atS (op_atS (op_atS (op_atS (op_atS (op_atS (op_atS (op_atS (op_atS (op_atS (op_atS (op_atS (op_atS (op_atS (op_atS (op_atS (op_atS (op_atS (op_atS (op_atS (op_atS op_at0))))))))))))))))))))) (fun K hK => ?_) AllReadyH.nil
      go_simp
      ((go_at_call 101; refine (W1.out _).mono ?_; rintro e w2 ⟨rfl, hm2⟩; have hmB : Mods [] w w2 := hmA.trans hm2))
      try go_wp2_with fail
      refine hK.out _ _ ?_ (fun hHeld2 => ?_)
      focus ((try dsimp only); with_reducible exact KA _ hmB)
      clear hK K hHeld
      have hHeld := hHeld2
      clear hHeld2
      try simp only [Act.put, List.setIfInBounds_toArray, List.set_cons_zero, List.set_cons_succ]
      refine wpAnyH_take (i := 22) (v := ?_) (op_atS (op_atS (op_atS (op_atS (op_atS (op_atS (op_atS (op_atS (op_atS (op_atS (op_atS (op_atS (op_atS (op_atS (op_atS (op_atS (op_atS (op_atS (op_atS (op_atS (op_atS (op_atS op_at0)))))))))))))))))))))) (by kernel_rfl) (by kernel_rfl) (by kernel_rfl) (fun _ _ _ h => h) (Or.inl ⟨by rfl, ?_⟩) (by assumption) ?_
      rotate_left
      focus ((intro w hSw; (try dsimp only at hSw); go_simp) <;> with_reducible rfl)
      all_goals skip
      try simp only [Act.put, List.setIfInBounds_toArray, List.set_cons_zero, List.set_cons_succ]
      refine wpAnyH_take (i := 23) (v := ?_) (op_atS (op_atS (op_atS (op_atS (op_atS (op_atS (op_atS (op_atS (op_atS (op_atS (op_atS (op_atS (op_atS (op_atS (op_atS (op_atS (op_atS (op_atS (op_atS (op_atS (op_atS (op_atS (op_atS op_at0))))))))))))))))))))))) (by kernel_rfl) (by kernel_rfl) (by kernel_rfl) (fun _ _ _ h => h) (Or.inl ⟨by rfl, ?_⟩) (by assumption) ?_
      rotate_left
      focus ((intro w hSw; (try dsimp only at hSw); go_simp) <;> with_reducible rfl)
      all_goals skip
      try simp only [Act.put, List.setIfInBounds_toArray, List.set_cons_zero, List.set_cons_succ]
      refine wpAnyH_take (i := 24) (v := ?_) (op_atS (op_atS (op_atS (op_atS (op_atS (op_atS (op_atS (op_atS (op_atS (op_atS (op_atS (op_atS (op_atS (op_atS (op_atS (op_atS (op_atS (op_atS (op_atS (op_atS (op_atS (op_atS (op_atS (op_atS op_at0)))))))))))))))))))))))) (by kernel_rfl) (by kernel_rfl) (by kernel_rfl) (fun _ _ _ h => h) (Or.inl ⟨by rfl, ?_⟩) (by assumption) ?_
      rotate_left
      focus ((intro w hSw; (try dsimp only at hSw); go_simp) <;> with_reducible rfl)
      all_goals skip
      try simp only [Act.put, List.setIfInBounds_toArray, List.set_cons_zero, List.set_cons_succ]
      refine wpAnyH_take (i := 25) (v := ?_) (op_atS (op_atS (op_atS (op_atS (op_atS (op_atS (op_atS (op_atS (op_atS (op_atS (op_atS (op_atS (op_atS (op_atS (op_atS (op_atS (op_atS (op_atS (op_atS (op_atS (op_atS (op_atS (op_atS (op_atS (op_atS op_at0))))))))))))))))))))))))) (by kernel_rfl) (by kernel_rfl) (by kernel_rfl) (fun _ _ _ h => h) (Or.inl ⟨by rfl, ?_⟩) (by assumption) ?_
      rotate_left
      focus ((intro w hSw; (try dsimp only at hSw); go_simp) <;> with_reducible rfl)
      all_goals skip
      try simp only [Act.put, List.setIfInBounds_toArray, List.set_cons_zero, List.set_cons_succ]
      refine wpAnyH_take (i := 26) (v := ?_) (op_atS (op_atS (op_atS (op_atS (op_atS (op_atS (op_atS (op_atS (op_atS (op_atS (op_atS (op_atS (op_atS (op_atS (op_atS (op_atS (op_atS (op_atS (op_atS (op_atS (op_atS (op_atS (op_atS (op_atS (op_atS (op_atS op_at0)))))))))))))))))))))))))) (by kernel_rfl) (by kernel_rfl) (by kernel_rfl) (fun _ _ _ h => h) (Or.inl ⟨by rfl, ?_⟩) (by assumption) ?_
      rotate_left
      focus ((intro w hSw; (try dsimp only at hSw); go_simp) <;> with_reducible rfl)
      all_goals skip
      try simp only [Act.put, List.setIfInBounds_toArray, List.set_cons_zero, List.set_cons_succ]
      refine wpAnyH_take (i := 27) (v := ?_) (op_atS (op_atS (op_atS (op_atS (op_atS (op_atS (op_atS (op_atS (op_atS (op_atS (op_atS (op_atS (op_atS (op_atS (op_atS (op_atS (op_atS (op_atS (op_atS (op_atS (op_atS (op_atS (op_atS (op_atS (op_atS (op_atS (op_atS op_at0))))))))))))))))))))))))))) (by kernel_rfl) (by kernel_rfl) (by kernel_rfl) (fun _ _ _ h => h) (Or.inl ⟨by rfl, ?_⟩) (by assumption) ?_
      rotate_left
      focus ((intro w hSw; (try dsimp only at hSw); go_simp) <;> with_reducible rfl)
      all_goals skip
      try simp only [Act.put, List.setIfInBounds_toArray, List.set_cons_zero, List.set_cons_succ]
      refine wpAnyH_take (i := 28) (v := ?_) (op_atS (op_atS (op_atS (op_atS (op_atS (op_atS (op_atS (op_atS (op_atS (op_atS (op_atS (op_atS (op_atS (op_atS (op_atS (op_atS (op_atS (op_atS (op_atS (op_atS (op_atS (op_atS (op_atS (op_atS (op_atS (op_atS (op_atS (op_atS op_at0)))))))))))))))))))))))))))) (by kernel_rfl) (by kernel_rfl) (by kernel_rfl) (fun _ _ _ h => h) (Or.inl ⟨by rfl, ?_⟩) (by assumption) ?_
      rotate_left
      focus ((intro w hSw; (try dsimp only at hSw); go_simp) <;> with_reducible rfl)
      all_goals skip
      try simp only [Act.put, List.setIfInBounds_toArray, List.set_cons_zero, List.set_cons_succ]
      refine wpAnyH_take (i := 29) (v := ?_) (op_atS (op_atS (op_atS (op_atS (op_atS (op_atS (op_atS (op_atS (op_atS (op_atS (op_atS (op_atS (op_atS (op_atS (op_atS (op_atS (op_atS (op_atS (op_atS (op_atS (op_atS (op_atS (op_atS (op_atS (op_atS (op_atS (op_atS (op_atS (op_atS op_at0))))))))))))))))))))))))))))) (by kernel_rfl) (by kernel_rfl) (by kernel_rfl) (fun _ _ _ h => h) (Or.inl ⟨by rfl, ?_⟩) (by assumption) ?_
      rotate_left
      focus ((intro w hSw; (try dsimp only at hSw); go_simp) <;> with_reducible rfl)
      all_goals skip
      try simp only [Act.put, List.setIfInBounds_toArray, List.set_cons_zero, List.set_cons_succ]
      refine wpAnyH_take (i := 30) (v := ?_) (op_atS (op_atS (op_atS (op_atS (op_atS (op_atS (op_atS (op_atS (op_atS (op_atS (op_atS (op_atS (op_atS (op_atS (op_atS (op_atS (op_atS (op_atS (op_atS (op_atS (op_atS (op_atS (op_atS (op_atS (op_atS (op_atS (op_atS (op_atS (op_atS (op_atS op_at0)))))))))))))))))))))))))))))) (by kernel_rfl) (by kernel_rfl) (by kernel_rfl) (fun _ _ _ h => h) (Or.inl ⟨by rfl, ?_⟩) (by assumption) ?_
      rotate_left
      focus ((intro w hSw; (try dsimp only at hSw); go_simp) <;> with_reducible rfl)
      all_goals skip
      try simp only [Act.put, List.setIfInBounds_toArray, List.set_cons_zero, List.set_cons_succ]
      refine wpAnyH_take (i := 31) (v := ?_) (op_atS (op_atS (op_atS (op_atS (op_atS (op_atS (op_atS (op_atS (op_atS (op_atS (op_atS (op_atS (op_atS (op_atS (op_atS (op_atS (op_atS (op_atS (op_atS (op_atS (op_atS (op_atS (op_atS (op_atS (op_atS (op_atS (op_atS (op_atS (op_atS (op_atS (op_atS op_at0))))))))))))))))))))))))))))))) (by kernel_rfl) (by kernel_rfl) (by kernel_rfl) (fun _ _ _ h => h) (Or.inl ⟨by rfl, ?_⟩) (by assumption) ?_
      rotate_left
      focus ((intro w hSw; (try dsimp only at hSw); go_simp) <;> with_reducible rfl)
      all_goals skip
      try simp only [Act.put, List.setIfInBounds_toArray, List.set_cons_zero, List.set_cons_succ]
      refine wpAnyH_take (i := 32) (v := ?_) (op_atS (op_atS (op_atS (op_atS (op_atS (op_atS (op_atS (op_atS (op_atS (op_atS (op_atS (op_atS (op_atS (op_atS (op_atS (op_atS (op_atS (op_atS (op_atS (op_atS (op_atS (op_atS (op_atS (op_atS (op_atS (op_atS (op_atS (op_atS (op_atS (op_atS (op_atS (op_atS op_at0)))))))))))))))))))))))))))))))) (by kernel_rfl) (by kernel_rfl) (by kernel_rfl) (fun _ _ _ h => h) (Or.inl ⟨by rfl, ?_⟩) (by assumption) ?_
      rotate_left
      focus ((intro w hSw; (try dsimp only at hSw); go_simp) <;> with_reducible rfl)
      all_goals skip
      try simp only [Act.put, List.setIfInBounds_toArray, List.set_cons_zero, List.set_cons_succ]
      refine wpAnyH_ready (rs := [33]) (by kernel_rfl) (by simp) ?_
      refine AllReadyH.cons (op_atS (op_atS (op_atS (op_atS (op_atS (op_atS (op_atS (op_atS (op_atS (op_atS (op_atS (op_atS (op_atS (op_atS (op_atS (op_atS (op_atS (op_atS (op_atS (op_atS (op_atS (op_atS (op_atS (op_atS (op_atS (op_atS (op_atS (op_atS (op_atS (op_atS (op_atS (op_atS (op_atS op_at0))))))))))))))))))))))))))))))))) (fun K hK => ?_) AllReadyH.nil
      go_simp
      ((go_at_call 69; refine (B1.out _).mono ?_; rintro e w3 ⟨rfl, hm3⟩; have hmC : Mods [] w w3 := hmB.trans hm3))
      try go_wp2_with fail
      refine hK.out _ _ ?_ (fun hHeld2 => ?_)
      focus ((try dsimp only); with_reducible exact KA _ hmC)
      clear hK K hHeld
      have hHeld := hHeld2
      clear hHeld2
      try simp only [Act.put, List.setIfInBounds_toArray, List.set_cons_zero, List.set_cons_succ]
      have hrow : pairC row i = decide (dr = 0 ∧ df = fg ∧ db = bg ∧ da = tailOf at') := by
        rw [HP.out]; simp [Cell.behind]
      have HROW := Lib.hid hrow
      clear hrow
      rcases hcase with ⟨q1, q2, q3, q4⟩ | q1 | ⟨q1, q2⟩ | ⟨q1, q2, q3⟩ | ⟨q1, q2, q3, q4⟩
      all_goals
        try have q5 := mt hfin.1 q4
        clear hfin
        refine wpAnyH_take (i := 34) (v := ?_) (op_atS (op_atS (op_atS (op_atS (op_atS (op_atS (op_atS (op_atS (op_atS (op_atS (op_atS (op_atS (op_atS (op_atS (op_atS (op_atS (op_atS (op_atS (op_atS (op_atS (op_atS (op_atS (op_atS (op_atS (op_atS (op_atS (op_atS (op_atS (op_atS (op_atS (op_atS (op_atS (op_atS (op_atS op_at0)))))))))))))))))))))))))))))))))) (by kernel_rfl) (by kernel_rfl) (by kernel_rfl) (fun _ _ _ h => h) (Or.inl ⟨by rfl, ?_⟩) (by assumption) ?_
        rotate_left
        focus ((intro w hSw; (try dsimp only at hSw); go_simp) <;> with_reducible rfl)
        all_goals skip
        try simp only [Act.put, List.setIfInBounds_toArray, List.set_cons_zero, List.set_cons_succ]
        refine wpAnyH_take (i := 35) (v := ?_) (op_atS (op_atS (op_atS (op_atS (op_atS (op_atS (op_atS (op_atS (op_atS (op_atS (op_atS (op_atS (op_atS (op_atS (op_atS (op_atS (op_atS (op_atS (op_atS (op_atS (op_atS (op_atS (op_atS (op_atS (op_atS (op_atS (op_atS (op_atS (op_atS (op_atS (op_atS (op_atS (op_atS (op_atS (op_atS op_at0))))))))))))))))))))))))))))))))))) (by kernel_rfl) (by kernel_rfl) (by kernel_rfl) (fun _ _ _ h => h) (Or.inl ⟨by rfl, ?_⟩) (by assumption) ?_
        rotate_left
        focus ((intro w hSw; (try dsimp only at hSw); go_simp) <;> with_reducible rfl)
        all_goals skip
        try simp only [Act.put, List.setIfInBounds_toArray, List.set_cons_zero, List.set_cons_succ]
        refine wpAnyH_take (i := 36) (v := ?_) (op_atS (op_atS (op_atS (op_atS (op_atS (op_atS (op_atS (op_atS (op_atS (op_atS (op_atS (op_atS (op_atS (op_atS (op_atS (op_atS (op_atS (op_atS (op_atS (op_atS (op_atS (op_atS (op_atS (op_atS (op_atS (op_atS (op_atS (op_atS (op_atS (op_atS (op_atS (op_atS (op_atS (op_atS (op_atS (op_atS op_at0)))))))))))))))))))))))))))))))))))) (by kernel_rfl) (by kernel_rfl) (by kernel_rfl) (fun _ _ _ h => h) (Or.inl ⟨by rfl, ?_⟩) (by assumption) ?_
        rotate_left
        focus ((intro w hSw; (try dsimp only at hSw); go_simp) <;> with_reducible rfl)
        all_goals skip
        try simp only [Act.put, List.setIfInBounds_toArray, List.set_cons_zero, List.set_cons_succ]
        refine wpAnyH_done (by kernel_rfl) ?_ _
        go_wp2
        go_ret
        exact ⟨by rw [HROW.out]; simp [*], hmC⟩
  · have hd : row[i + 1]? = none := List.getElem?_eq_none (by rw [hl]; omega)
    have hp : pairC row i = false := by unfold pairC; rw [hd, hc]
    have HP := Lib.hid hp
    have g1 : decide ((i : Int) + 1 < (n : Int)) = false := by simp; omega
    clear hp hd hc hl h hb
    go_enter Tryd.func102, Tryd.ntmps102
    go_upto_region 1 with fail
    go_quiet (fail)
    go_wp2
    go_ret
    exact ⟨by rw [HP.out]; rfl, (Mods.refl _ _).drewN _⟩
end Go.Proofs.YtldjmacnokkjdaaDoor
