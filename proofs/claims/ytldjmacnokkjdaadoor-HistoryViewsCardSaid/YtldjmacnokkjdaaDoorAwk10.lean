/- The chapter's example of layer 10. -/
import Derived.Test.YtldjmacnokkjdaaDoorGb
import Derived.Test.YtldjmacnokkjdaaDoorGc
namespace Go.Proofs.YtldjmacnokkjdaaDoor
open Go.RowKit
set_option linter.unusedVariables false
set_option linter.unusedSimpArgs false

theorem int_reads (w : World) (n : Int) : ReadsRows (w.alloc (.cells #[.int .i64 n] 3)) (some ⟨w.heap.size, 0, none⟩) 1 1 intV [n] :=
  rows_of_block (size := 1) (rd := intV) (xs := [n]) (blk_new w _) (by omega) (fun _ => rfl) rfl (by simp [maxLen])
def abc (n : Int) : List Cell := [⟨n, 0, 0, 0⟩]
theorem lettersC_one : lettersC [0] = abc 97 ∧ lettersC [1] = abc 98 ∧ lettersC [2] = abc 99 := by decide +kernel
theorem awk_push : [abc 97, abc 98, abc 99].foldl (pushS 2) (0, []) = (1, [abc 99, abc 98]) := by decide +kernel
theorem awk10_text : textB (abc 98) = [98] ∧ textB (abc 99) = [99] := by decide +kernel
/-- A row of the call's own, as one that is pushed. -/
theorem own_prow {w : World} {base : Nat} {bad : List Nat} {e : TypeId} {A : Option Addr} {c : Nat} {row : List Cell} (h : w.ownsRow base e 4 (.slice A row.length c) row.length (row.flatMap Cell.vals)) (hn : row.length ≤ 1000000) (hb : ∀ b, base ≤ b → b ∉ bad) :
    row.length ≤ c ∧ row.length ≤ 1000000 ∧ ReadsRows w A row.length 4 Cell.vals row ∧ ∀ a, A = some a → a.block < w.heap.size ∧ a.block ∉ bad := by
  obtain ⟨h1, h2, _, h4⟩ := own_reads h rfl hn
  exact ⟨h2, hn, h1, fun a ha => ⟨(h4 a ha).2, hb _ (h4 a ha).1⟩⟩
set_option maxHeartbeats 1000000 in
theorem law10_awake (w : World) : Calls Tryd.prog 9 #[] w fun e w' => e = .returned (.bool true) ∧ Mods [] w w' := by
  obtain ⟨l1, l2, l3⟩ := lettersC_one
  have L1 := Lib.hid l1
  have L2 := Lib.hid l2
  have L3 := Lib.hid l3
  clear l1 l2 l3
  go_enter Tryd.func9, Tryd.ntmps9
  go_wp2_with fail
  refine (history_New _ 2).mono ?_
  rintro e w1 ⟨hb, rfl, hh, hm1⟩
  have HH := Lib.hid hh
  clear hh
  go_wp2_with fail
  refine (law10_letters _ _ 1 1 [0] (int_reads _ 0)).mono ?_
  rw [L1.out]
  rintro e w2 ⟨v1, rfl, hv1, hm2⟩
  obtain ⟨A1, c1, rfl, _, _, _⟩ := own_slice' hv1
  have HV1 := Lib.hid hv1
  clear hv1
  go_wp2_with fail
  refine (law10_letters _ _ 1 1 [1] (int_reads _ 1)).mono ?_
  rw [L2.out]
  rintro e w3 ⟨v2, rfl, hv2, hm3⟩
  obtain ⟨A2, c2, rfl, _, _, _⟩ := own_slice' hv2
  have HV2 := Lib.hid hv2
  clear hv2
  go_wp2_with fail
  refine (law10_letters _ _ 1 1 [2] (int_reads _ 2)).mono ?_
  rw [L3.out]
  rintro e w4 ⟨v3, rfl, hv3, hm4⟩
  obtain ⟨A3, c3, rfl, _, _, _⟩ := own_slice' hv3
  have HV3 := Lib.hid hv3
  clear hv3
  go_wp2_with fail
  have s1 := heap_lt HH.out.head
  have s2 := hm2.size
  have s3 := hm3.size
  have s4 := hm4.size
  simp only [World.size_alloc] at s2 s3 s4
  have p2 := (Mods.refl [] w1).alloc (.cells #[.int .i64 0] 3) |>.trans hm2
  have p3 := (Mods.refl [] w2).alloc (.cells #[.int .i64 1] 3) |>.trans hm3
  have p4 := (Mods.refl [] w3).alloc (.cells #[.int .i64 2] 3) |>.trans hm4
  have p5 := (Mods.refl [] w4).alloc (.cells #[.slice A1 (abc 97).length c1, .slice A2 (abc 98).length c2, .slice A3 (abc 99).length c3] 28)
  obtain ⟨q11, q12, q13, q14⟩ := own_prow (bad := [hb]) (own_mods HV1.out (p3.trans (p4.trans p5)) (by simp)) (by decide) (by intro b hb'; simp at hb' ⊢; omega)
  obtain ⟨q21, q22, q23, q24⟩ := own_prow (bad := [hb]) (own_mods HV2.out (p4.trans p5) (by simp)) (by decide) (by intro b hb'; simp at hb' ⊢; omega)
  obtain ⟨q31, q32, q33, q34⟩ := own_prow (bad := [hb]) (own_mods HV3.out p5 (by simp)) (by decide) (by intro b hb'; simp at hb' ⊢; omega)
  have hG := blk_new w4 (.cells #[.slice A1 (abc 97).length c1, .slice A2 (abc 98).length c2, .slice A3 (abc 99).length c3] 28)
  have hg := heap_lt hG
  have hP : PRow (w4.alloc (.cells #[.slice A1 (abc 97).length c1, .slice A2 (abc 98).length c2, .slice A3 (abc 99).length c3] 28)) [hb] w4.heap.size [abc 97, abc 98, abc 99] := by
    intro i x hx
    have hi : i = 0 ∨ i = 1 ∨ i = 2 := by
      have := (List.getElem?_eq_some_iff.1 hx).1
      simp at this; omega
    rcases hi with rfl | rfl | rfl <;> simp at hx <;> subst hx
    · exact ⟨A1, c1, blk_cell hG 0, q11, q12, q13, ⟨hg, by simp; omega⟩, q14⟩
    · exact ⟨A2, c2, blk_cell hG 1, q21, q22, q23, ⟨hg, by simp; omega⟩, q24⟩
    · exact ⟨A3, c3, blk_cell hG 2, q31, q32, q33, ⟨hg, by simp; omega⟩, q34⟩
  have hM5 := hm1.trans (p2.trans (p3.trans (p4.trans p5)))
  have hH5 := HH.out.keeps (p2.trans (p3.trans (p4.trans p5)))
  have e2 : (mn (mx 2 0) 500).toNat = 2 := by decide
  rw [e2] at hH5
  refine (history_Push _ w hb _ _ 2 0 [] [] _ 3 3 [abc 97, abc 98, abc 99] rfl (by omega) hH5 (by simpa [Value.ownBlock] using hP) hM5 (Nat.le_refl _) hM5.size).mono ?_
  rw [awk_push]
  clear q11 q12 q13 q14 q21 q22 q23 q24 q31 q32 q33 q34 hG hP hM5 hH5 p2 p3 p4 p5 hm1 hm2 hm3 hm4 HV1 HV2 HV3 HH
  rintro e w5 ⟨rfl, ⟨lv, vs, hh5, _⟩, hm5, _⟩
  have HH := Lib.hid hh5
  clear hh5
  go_wp2_with fail
  refine (history_Len _ hb _ _ _ _ _ _ HH.out).mono ?_
  rintro e w6 ⟨rfl, rfl⟩
  go_wp2_with fail
  refine (history_Row _ hb _ _ 2 1 [abc 99, abc 98] vs HH.out 0 (by decide) (by intro r hr; simp at hr; rcases hr with rfl | rfl <;> decide)).mono ?_
  rintro e w6 ⟨v6, r6, rfl, hr6, hown6, hm6⟩
  have e6 : r6 = abc 98 := by simpa [atF] using hr6.symm
  subst e6
  clear hr6
  obtain ⟨A6, c6, rfl, _, _, _⟩ := own_slice' hown6
  obtain ⟨t1, t2, _, _⟩ := own_reads hown6 rfl (by decide)
  have HT := Lib.hid t1
  clear t1
  go_wp2_with fail
  refine (cell_Text _ A6 _ c6 (abc 98) HT.out (by decide) (by decide)).mono ?_
  rw [awk10_text.1]
  rintro e w7 ⟨rfl, hm7⟩
  have HH7 := Lib.hid (HH.out.keeps (hm6.trans hm7))
  go_wp2_with fail
  refine (history_Row _ hb _ _ 2 1 [abc 99, abc 98] vs HH7.out 1 (by decide) (by intro r hr; simp at hr; rcases hr with rfl | rfl <;> decide)).mono ?_
  rintro e w8 ⟨v8, r8, rfl, hr8, hown8, hm8⟩
  have e8 : r8 = abc 99 := by simpa [atF] using hr8.symm
  subst e8
  clear hr8
  obtain ⟨A8, c8, rfl, _, _, _⟩ := own_slice' hown8
  obtain ⟨t1, t2, _, _⟩ := own_reads hown8 rfl (by decide)
  have HT := Lib.hid t1
  clear t1
  go_wp2_with fail
  refine (cell_Text _ A8 _ c8 (abc 99) HT.out (by decide) (by decide)).mono ?_
  rw [awk10_text.2]
  rintro e w9 ⟨rfl, hm9⟩
  go_wp2_with fail
  go_ret
  exact ⟨rfl, hm5.trans ((hm6.trans hm7).trans (hm8.trans hm9))⟩
end Go.Proofs.YtldjmacnokkjdaaDoor
