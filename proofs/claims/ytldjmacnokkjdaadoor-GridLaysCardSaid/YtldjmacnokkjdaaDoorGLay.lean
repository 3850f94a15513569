/- A grid that is laid on another one, and one that is cut: the plain law. -/
import Derived.Test.YtldjmacnokkjdaaDoorGScr
namespace Go.Proofs.YtldjmacnokkjdaaDoor
set_option linter.unusedVariables false
set_option linter.unusedSimpArgs false

theorem span0 (a b : Nat) (ha : 1 ≤ a) (hb : 1 ≤ b) : spanF 0 (a : Int) b = (0, ((min a b : Nat) : Int)) := by
  unfold spanF mn
  rw [if_neg (by omega), if_neg (by omega)]
  congr 1
  split <;> omega
theorem rightG_of {w h : Nat} {L : List Cell} (hr : ∀ y, y < h → rightC (rowC w y L) = true) : rightG w h L = true := by
  unfold rightG
  rw [List.all_eq_true]
  intro y hy
  exact hr y (by simpa using hy)
/-- A row of a grid on which another one is laid, at the upper left. -/
theorem rowC_blit0 {w h n w2 h2 n2 : Nat} {L L2 : List Cell} (hl : L.length = n) (hn : n = w * h) (hl2 : L2.length = n2) (hn2 : n2 = w2 * h2) (h1 : 1 ≤ w) (h1' : 1 ≤ h) (h3 : 1 ≤ w2) (h4 : 1 ≤ h2) {y : Nat} (hy : y < h) :
    rowC w y (blitG w h L w2 h2 L2 0 0) = if y < h2 then mend (layRow 0 (min w2 w) (rowC w2 y L2) (rowC w y L)) else rowC w y L := by
  unfold blitG
  rw [span0 _ _ h3 h1, span0 _ _ h4 h1']
  simp only
  rw [if_neg (by omega)]
  have hF : ∀ (y' : Nat) (r : List Cell), (0 : Int) ≤ (y' : Int) → y' < min h2 h → r.length = w → (blitRow w2 0 (min w2 w) 0 0 L2 y' r).length = w := fun y' r _ hy' hr => blitRow_len hr (by omega) (by omega) (by omega) hl2 hn2 (by omega)
  rw [changedC_congr (G := fun y' r => if y' < min h2 h then blitRow w2 0 (min w2 w) 0 0 L2 y' r else r) (by omega) (fun y' r _ hy' => by rw [if_pos (by omega)]; simp)]
  rw [rowC_changed (fun y' r hr => by split; exact hF y' r (by omega) (by omega) hr; exact hr) L hl hn (by omega) hy]
  by_cases hyy : y < h2
  · rw [if_pos (by omega), if_pos hyy, if_pos (by omega)]
    unfold blitRow
    simp
  · rw [if_neg (by omega), if_neg hyy]
theorem blitG_len0 {w h n w2 h2 n2 : Nat} {L L2 : List Cell} (hl : L.length = n) (hn : n = w * h) (hl2 : L2.length = n2) (hn2 : n2 = w2 * h2) (h1 : 1 ≤ w) (h1' : 1 ≤ h) (h3 : 1 ≤ w2) (h4 : 1 ≤ h2) :
    (blitG w h L w2 h2 L2 0 0).length = n := by
  unfold blitG
  rw [span0 _ _ h3 h1, span0 _ _ h4 h1']
  simp only
  rw [if_neg (by omega)]
  have hF : ∀ (y' : Nat) (r : List Cell), (0 : Int) ≤ (y' : Int) → y' < min h2 h → r.length = w → (blitRow w2 0 (min w2 w) 0 0 L2 y' r).length = w := fun y' r _ hy' hr => blitRow_len hr (by omega) (by omega) (by omega) hl2 hn2 (by omega)
  rw [changedC_congr (G := fun y' r => if y' < min h2 h then blitRow w2 0 (min w2 w) 0 0 L2 y' r else r) (by omega) (fun y' r _ hy' => by rw [if_pos (by omega)]; simp)]
  exact changed_len (fun y' r hr => by split; exact hF y' r (by omega) (by omega) hr; exact hr) L hl hn (by omega)
theorem layRow_all {w : Nat} {s r : List Cell} (hs : s.length = w) (hr : r.length = w) : layRow 0 w s r = s := by
  unfold layRow
  simp [List.take_of_length_le (Nat.le_of_eq hs), List.drop_of_length_le (Nat.le_of_eq hr)]
/-- One that is laid on another one of the same size is there whole. -/
theorem blit_same {w h n : Nat} {L F : List Cell} (hl : L.length = n) (hf : F.length = n) (hn : n = w * h) (hr : rightG w h F = true) (h1 : 1 ≤ w) (h1' : 1 ≤ h) : blitG w h L w h F 0 0 = F := by
  refine grid_ext (blitG_len0 hl hn hf hn h1 h1' h1 h1') hf hn fun y hy => ?_
  rw [rowC_blit0 hl hn hf hn h1 h1' h1 h1' hy, if_pos hy, Nat.min_self, layRow_all (rowC_len hf hn hy) (rowC_len hl hn hy)]
  exact mend_right _ (rightG_row hr hy)
theorem rowC_blanks {w h y : Nat} (hy : y < h) : rowC w y (List.replicate (w * h) blankC) = List.replicate w blankC := by
  have hle : y * w + w ≤ w * h := row_le rfl hy
  unfold rowC
  rw [List.drop_replicate, List.take_replicate]
  congr 1
  omega
theorem fillG_row {w h : Nat} {c : Cell} (h1 : 1 ≤ w) (h2 : 1 ≤ h) (hc : (c.ok && decide (c.attr.val < 64)) = true) {y : Nat} (hy : y < h) :
    rowC w y (fillC w h (List.replicate (w * h) blankC) 0 0 w h c) = List.replicate w c := by
  unfold fillC
  rw [span0 _ _ h1 h1, span0 _ _ h2 h2]
  simp only [Nat.min_self]
  rw [if_neg (by omega), rowC_changed (fun _ r hr => fillRow_len hr (by omega) (by simp)) _ (by simp) rfl (by simp) hy, if_pos (by simpa using hy), rowC_blanks hy]
  simp only [Int.toNat_zero, Int.toNat_natCast, Int.ofNat_zero]
  rw [fillRow_all (by simp)]
  exact mend_right _ (right_fill c hc w)
theorem blank_r (c : Cell) : c.blank.r = 32 := rfl
/-- A place of a row that is cut, or made longer. -/
theorem resize_at {w w' i : Nat} {r : List Cell} {c a : Cell} (hr : r.length = w) (hright : rightC r = true) (hc : (c.ok && decide (c.attr.val < 64)) = true) (hiw' : i < w') (hiw : i < w) (ha : r[i]? = some a) :
    ∃ b, (mend (layRow 0 (min w w') r (List.replicate w' c)))[i]? = some b ∧ (b = a ∨ (i + 1 = w' ∧ 64 ≤ a.attr.val ∧ b.r = 32)) := by
  obtain ⟨p1, p2, p3⟩ := plain_no c hc
  have G := fun j => layRow_get (s := r) (r := List.replicate w' c) (l := 0) (rt := min w w') (w := w') (by simp) (by omega) (by omega) (by omega) j
  have hmr : mendAt r i a = a := by
    have h1 := mendR_get ha
    rw [mendR_mend, mend_right r hright, ha] at h1
    exact (Option.some.inj h1).symm
  generalize layRow 0 (min w w') r (List.replicate w' c) = R at *
  have hg : R[i]? = some a := by rw [G i, if_pos (by omega), Nat.sub_zero, ha]
  refine ⟨mendAt R i a, by rw [← mendR_mend, mendR_get hg], ?_⟩
  have hP : pairP R i = pairP r i := by
    unfold pairP
    by_cases h1 : 1 ≤ i
    · simp only [h1, decide_true, Bool.true_and]
      exact pairC_congr (by rw [G (i - 1), if_pos (by omega)]; simp) (by rw [show i - 1 + 1 = i by omega, hg, ha])
    · simp [h1]
  by_cases e1 : pairC R i = pairC r i
  · left
    have : mendAt R i a = mendAt r i a := by unfold mendAt; rw [e1, hP]
    rw [this, hmr]
  · by_cases hi : i + 1 < min w w'
    · exact absurd (pairC_congr (by rw [hg, ha]) (by rw [G (i + 1), if_pos (by omega)]; simp)) e1
    · by_cases hw : i + 1 = w'
      · have hRn : R[i + 1]? = none := by rw [G (i + 1), if_neg (by omega)]; simp; omega
        have hR0 : pairC R i = false := by unfold pairC; rw [hRn]; cases R[i]? <;> rfl
        have hr1 : pairC r i = true := by cases h : pairC r i; exact absurd (hR0.trans h.symm) e1; rfl
        by_cases hcase : pairP R i || (a.ok && !a.wide && !a.tail)
        · left
          unfold mendAt
          rw [hR0, Bool.false_or, if_pos hcase]
        · right
          refine ⟨hw, attr_wide a (pairC_wide ha hr1), ?_⟩
          unfold mendAt
          rw [hR0, Bool.false_or, if_neg hcase]
          exact blank_r a
      · have hrn : r[i + 1]? = none := by rw [List.getElem?_eq_none]; omega
        have hr0 : pairC r i = false := by unfold pairC; rw [hrn]; cases r[i]? <;> rfl
        have hRc : R[i + 1]? = some c := by rw [G (i + 1), if_neg (by omega), List.getElem?_replicate, if_pos (by omega)]
        exfalso
        apply e1
        rw [hr0]
        cases h : pairC R i
        · rfl
        · rw [pairC_tail hRc h] at p3; cases p3
theorem fillB_len {w h : Nat} {c : Cell} {x y rw' rh : Int} : (fillC w h (List.replicate (w * h) blankC) x y rw' rh c).length = w * h := fillC_len (by simp) rfl
/-- GridLays, of lists: what is cut. -/
theorem resize_law {w h n w' v : Nat} {L : List Cell} {c : Cell} (hl : L.length = n) (hn : n = w * h) (hr : rightG w h L = true) (hc : (c.ok && decide (c.attr.val < 64)) = true) (h1 : 1 ≤ w) (h2 : 1 ≤ h) (h3 : 1 ≤ w') (h4 : 1 ≤ v) :
    (resizeG w h L w' v c).length = w' * v ∧ rightG w' v (resizeG w h L w' v c) = true ∧
    ∀ y i, y < v → y < h → i < w' → i < w → ∃ a b, (rowC w y L)[i]? = some a ∧ (rowC w' y (resizeG w h L w' v c))[i]? = some b ∧ (b = a ∨ (i + 1 = w' ∧ 64 ≤ a.attr.val ∧ b.r = 32)) := by
  unfold resizeG
  have hrow := fun {y : Nat} (hy : y < v) => rowC_blit0 (L := fillC w' v (List.replicate (w' * v) blankC) 0 0 w' v c) fillB_len rfl hl hn h3 h4 h1 h2 hy
  refine ⟨blitG_len0 fillB_len rfl hl hn h3 h4 h1 h2, rightG_of fun y hy => ?_, fun y i hy hy2 hi hi2 => ?_⟩
  · rw [hrow hy]
    split
    · exact right_mend _
    · rw [fillG_row h3 h4 hc hy]; exact right_fill c hc _
  · obtain ⟨a, ha⟩ : ∃ a, (rowC w y L)[i]? = some a := ⟨_, List.getElem?_eq_getElem (by rw [rowC_len hl hn hy2]; exact hi2)⟩
    obtain ⟨b, hb1, hb2⟩ := resize_at (w' := w') (rowC_len hl hn hy2) (rightG_row hr hy2) hc hi hi2 ha
    refine ⟨a, b, ha, ?_, hb2⟩
    rw [hrow hy, if_pos hy2, fillG_row h3 h4 hc hy]
    exact hb1
/-- One that is resized to the size that it has is the same. -/
theorem resize_same {w h n : Nat} {L : List Cell} {c : Cell} (hl : L.length = n) (hn : n = w * h) (hr : rightG w h L = true) (h1 : 1 ≤ w) (h2 : 1 ≤ h) : resizeG w h L w h c = L := by
  unfold resizeG
  exact blit_same (fillB_len.trans hn.symm) hl hn hr h1 h2
end Go.Proofs.YtldjmacnokkjdaaDoor
