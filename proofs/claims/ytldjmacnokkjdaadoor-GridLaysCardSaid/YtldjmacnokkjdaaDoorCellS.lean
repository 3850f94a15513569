/- How many places are taken by what stands at one. -/
import Derived.Test.YtldjmacnokkjdaaDoorCellF
import Derived.Laws.StructEq
namespace Go.Proofs.YtldjmacnokkjdaaDoor
open Go.RowKit
set_option linter.unusedVariables false
set_option linter.unusedSimpArgs false

theorem run_eql_cell (W : World) (c d : Cell) : (binOp .eql 27 c.val d.val).run Tryd.prog W = .ok (.bool (decide (c = d))) W := by
  have u1 : Tryd.prog.underlying 27 = some (.struct (Tryd.prog.fieldsOf 27)) := by kernel_rfl
  have u2 : Tryd.prog.stoodInHeld 27 = false := by kernel_rfl
  have u3 : (Tryd.prog.fieldsOf 27).toList = [{ name := "R", type := 21, offset := 0, embedded := false, tag := "", pkgPath := "", byteOffset := 0 }, { name := "Fg", type := 5, offset := 1, embedded := false, tag := "", pkgPath := "", byteOffset := 4 }, { name := "Bg", type := 5, offset := 2, embedded := false, tag := "", pkgPath := "", byteOffset := 5 }, { name := "Attr", type := 5, offset := 3, embedded := false, tag := "", pkgPath := "", byteOffset := 6 }] := by kernel_rfl
  obtain ⟨r, fg, bg, a⟩ := c
  obtain ⟨r', fg', bg', a'⟩ := d
  simp only [Cell.val]
  rw [run_eql_struct, show (10000 : Nat) = 9999 + 1 from rfl, run_equalIn_agg _ _ _ _ _ u1 u2, u3]
  have v1 := Tryd.underlying21
  have v2 := Tryd.underlying5
  simp [go_sem]
  have ha : ((a.val : Int) = (a'.val : Int)) ↔ a = a' := by rw [Fin.ext_iff]; omega
  by_cases h1 : r = r' <;> by_cases h2 : fg = fg' <;> by_cases h3 : bg = bg' <;> by_cases h4 : a = a' <;> simp [h1, h2, h3, h4, ha]

def sizeC : List Cell → Nat
  | [] => 0
  | c :: rest => if !c.ok || c.tail then 0 else if !c.wide then 1 else if rest.head? = some c.behind then 2 else 0

set_option maxHeartbeats 1000000 in
theorem cell_size (w : World) (A : Option Addr) (n cap i : Nat) (row : List Cell) (h : ReadsRows w A n 4 Cell.vals row) (hi : i < n) :
    Calls Tryd.prog 66 #[.slice A n cap, .int .i64 i] w fun e w' => e = .returned (.int .i64 (sizeC (row.drop i))) ∧ Mods [] w w' := by
  have hn := h.2.1
  unfold maxLen at hn
  have hl := h.1
  obtain ⟨c, hc⟩ : ∃ c, row[i]? = some c := ⟨_, List.getElem?_eq_getElem (by rw [hl]; exact hi)⟩
  obtain ⟨a, rfl, c0, hcs⟩ := h.row hc
  have c1 := hcs 0 (by omega)
  have c2 := hcs 1 (by omega)
  have c3 := hcs 2 (by omega)
  clear hcs
  have hd : row.drop i = c :: row.drop (i + 1) := by rw [List.drop_eq_getElem?_toList_append, hc]; rfl
  have hsz : sizeC (row.drop i) = if !c.ok || c.tail then 0 else if !c.wide then 1 else if row[i + 1]? = some c.behind then 2 else 0 := by
    rw [hd]; simp [sizeC]
  have HSZ := Lib.hid hsz
  have HH := Lib.hid h
  have HC := Lib.hid hc
  have HL := Lib.hid hl
  clear hd hsz h hc hl
  have K0 : ∀ w, Calls Tryd.prog 62 #[c.val] w fun e w' => e = .returned (.bool c.ok) ∧ Mods [] w w' := fun w => cell_Check w c
  have T0 : ∀ w, Calls Tryd.prog 63 #[c.val] w fun e w' => e = .returned (.bool c.tail) ∧ Mods [] w w' := fun w => cell_tail w c
  have W0 : ∀ w, Calls Tryd.prog 76 #[c.val] w fun e w' => e = .returned (.bool c.wide) ∧ Mods [] w w' := fun w => cell_wide w c
  have B0 : ∀ w, Calls Tryd.prog 84 #[c.val] w fun e w' => e = .returned c.behind.val ∧ Mods [] w w' := fun w => cell_behind w c
  have K1 := Lib.hid K0
  have T1 := Lib.hid T0
  have W1 := Lib.hid W0
  have B1 := Lib.hid B0
  clear K0 T0 W0 B0
  have hX := Mods.refl [] (w.alloc (.cells c.vals.toArray 27))
  have hM := (Mods.refl [] w).alloc (.cells c.vals.toArray 27)
  have C := kept_cells hX
  obtain ⟨r, fg, bg, at'⟩ := c
  simp only [Cell.vals, Cell.val] at c0 c1 c2 c3 hX C hM K1 T1 W1
  cases hk : Cell.ok ⟨r, fg, bg, at'⟩ <;> cases ht : Cell.tail ⟨r, fg, bg, at'⟩ <;> cases hw : Cell.wide ⟨r, fg, bg, at'⟩
  all_goals
    rw [hk, ht, hw] at HSZ
    rw [hk] at K1
    rw [ht] at T1
    rw [hw] at W1
    clear hk ht hw
    go_enter Tryd.func66, Tryd.ntmps66
    go_upto_region 6 with (first
      | (go_at_call 62; go_must (refine (K1.out _).mono ?_); rintro e w1 ⟨rfl, hm⟩; have hY := hX.trans hm; clear hX hm; have hX := hY; clear hY; have C := kept_cells hX)
      | (go_at_call 63; go_must (refine (T1.out _).mono ?_); rintro e w1 ⟨rfl, hm⟩; have hY := hX.trans hm; clear hX hm; have hX := hY; clear hY; have C := kept_cells hX)
      | (go_at_call 76; go_must (refine (W1.out _).mono ?_); rintro e w1 ⟨rfl, hm⟩; have hY := hX.trans hm; clear hX hm; have hX := hY; clear hY; have C := kept_cells hX))
    try
      go_ret
      exact ⟨by rw [HSZ.out]; rfl, hM.trans hX⟩
  have hXs := hX.size
  simp only [World.size_alloc] at hXs
  clear K1 T1 W1
  by_cases h1 : i + 1 < n
  · obtain ⟨d, hd⟩ : ∃ d, row[i + 1]? = some d := ⟨_, List.getElem?_eq_getElem (by rw [HL.out]; exact h1)⟩
    have hX0 := hM.trans hX
    have hr1 := HH.out.keepsM (fun _ => rfl) hX0 (by simp)
    obtain ⟨a', ha', d0, hcs⟩ := hr1.row hd
    simp only [Option.some.injEq] at ha'
    subst ha'
    have d1 := hcs 0 (by omega)
    have d2 := hcs 1 (by omega)
    have d3 := hcs 2 (by omega)
    clear hcs hr1
    rw [hd] at HSZ
    clear hd HH HC HL c0 c1 c2 c3
    obtain ⟨dr, df, db, da⟩ := d
    simp only [Cell.vals, List.getElem?_cons_zero, List.getElem?_cons_succ] at d0 d1 d2 d3
    have l0 := C 0
    have l1 := C 1
    have l2 := C 2
    have l3 := C 3
    simp only [List.getElem?_toArray, List.getElem?_cons_zero, List.getElem?_cons_succ] at l0 l1 l2 l3
    have e1 : IntKind.i64.wrap ((i : Int) + 1) = (i : Int) + 1 := IntWalk.i64_in _ (by omega)
    have e2 : ((i : Int) + 1).toNat = i + 1 := by omega
    have e3 : (0 : Int) ≤ (i : Int) + 1 := by omega
    have e4 : (i : Int) + 1 < (n : Int) := by omega
    clear C
    have hcase : (dr = 0 ∧ df = fg ∧ db = bg ∧ da = tailOf at') ∨ dr ≠ 0 ∨ (dr = 0 ∧ df ≠ fg) ∨ (dr = 0 ∧ df = fg ∧ db ≠ bg) ∨ (dr = 0 ∧ df = fg ∧ db = bg ∧ da ≠ tailOf at') := by
      by_cases q1 : dr = 0 <;> by_cases q2 : df = fg <;> by_cases q3 : db = bg <;> by_cases q4 : da = tailOf at' <;> simp [q1, q2, q3, q4]
    have hrow : sizeC (row.drop i) = if (dr = 0 ∧ df = fg ∧ db = bg ∧ da = tailOf at') then 2 else 0 := by
      rw [HSZ.out]; simp [Cell.behind]
    have HROW := Lib.hid hrow
    have hfin : ((da.val : Int) = ((tailOf at').val : Int)) ↔ da = tailOf at' := by rw [Fin.ext_iff]; omega
    clear hrow HSZ
    simp only [Cell.behind, Cell.val] at B1
    have hX2 := hM.trans hX
    rcases hcase with ⟨q1, q2, q3, q4⟩ | q1 | ⟨q1, q2⟩ | ⟨q1, q2, q3⟩ | ⟨q1, q2, q3, q4⟩
    all_goals
      try have q5 := mt hfin.1 q4
      clear hfin
      go_region_held3 (fun W => (W.cell? (a.add ((i + 1) * (3 + 1))) = some (.int .i32 dr) ∧ W.cell? ⟨(a.add ((i + 1) * (3 + 1))).block, (a.add ((i + 1) * (3 + 1))).off + (0 + 1), none⟩ = some (.int .u8 df) ∧ W.cell? ⟨(a.add ((i + 1) * (3 + 1))).block, (a.add ((i + 1) * (3 + 1))).off + (1 + 1), none⟩ = some (.int .u8 db) ∧ W.cell? ⟨(a.add ((i + 1) * (3 + 1))).block, (a.add ((i + 1) * (3 + 1))).off + (2 + 1), none⟩ = some (.int .u8 (da.val : Int))) ∧
          W.cell? ⟨w.heap.size, 0, none⟩ = some (.int .i32 r) ∧ W.cell? ⟨w.heap.size, 1, none⟩ = some (.int .u8 fg) ∧ W.cell? ⟨w.heap.size, 2, none⟩ = some (.int .u8 bg) ∧ W.cell? ⟨w.heap.size, 3, none⟩ = some (.int .u8 (at'.val : Int)))
        (first
          | exact ⟨⟨d0, d1, d2, d3⟩, l0, l1, l2, l3⟩
          | exact ⟨⟨hm.cell d0 (by simp), hm.cell d1 (by simp), hm.cell d2 (by simp), hm.cell d3 (by simp)⟩, hm.cell l0 (by simp), hm.cell l1 (by simp), hm.cell l2 (by simp), hm.cell l3 (by simp)⟩)
        (first | (go_at_call 84; refine (B1.out _).mono ?_; rintro e w2 ⟨rfl, hm⟩))
      go_wp2
      go_ret
      exact ⟨by rw [HROW.out]; simp [*], (hX2.drew).trans hm⟩
  · have hd : row[i + 1]? = none := List.getElem?_eq_none (by rw [HL.out]; omega)
    rw [hd] at HSZ
    have g1 : decide ((i : Int) + 1 < (n : Int)) = false := by simp; omega
    go_quiet (fail)
    go_wp2
    go_ret
    exact ⟨by rw [HSZ.out]; rfl, (hM.trans hX).drewN _⟩
end Go.Proofs.YtldjmacnokkjdaaDoor
