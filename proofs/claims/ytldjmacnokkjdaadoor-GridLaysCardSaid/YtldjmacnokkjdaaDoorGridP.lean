/- Grids as rows: what a change of some rows leaves. -/
import Derived.Test.YtldjmacnokkjdaaDoorChg
namespace Go.Proofs.YtldjmacnokkjdaaDoor
set_option linter.unusedVariables false
set_option linter.unusedSimpArgs false

theorem setRow_len {w y : Nat} {r L : List Cell} (hr : r.length = w) (hy : y * w + w ≤ L.length) : (setRow w y r L).length = L.length := by unfold setRow; simp [hr]; omega
theorem rowC_setRow {w y : Nat} {r L : List Cell} (hr : r.length = w) (hy : y * w + w ≤ L.length) : rowC w y (setRow w y r L) = r := by
  unfold rowC setRow
  rw [List.append_assoc, List.drop_append_of_le_length (by simp; omega), List.drop_of_length_le (by simp; omega), List.nil_append, List.take_left' hr]
theorem rowC_get {w y x : Nat} {L : List Cell} (hx : x < w) : (rowC w y L)[x]? = L[y * w + x]? := by
  unfold rowC; rw [List.getElem?_take, if_pos hx, List.getElem?_drop]
theorem setRow_get {w y : Nat} {r L : List Cell} (hr : r.length = w) (hy : y * w + w ≤ L.length) (i : Nat) : (setRow w y r L)[i]? = if y * w ≤ i ∧ i < y * w + w then r[i - y * w]? else L[i]? := by
  unfold setRow
  have e1 : (L.take (y * w)).length = y * w := by simp; omega
  by_cases h1 : i < y * w
  · rw [if_neg (by omega), List.append_assoc, List.getElem?_append_left (by omega), List.getElem?_take, if_pos h1]
  · by_cases h2 : i < y * w + w
    · rw [if_pos (by omega), List.append_assoc, List.getElem?_append_right (by omega), List.getElem?_append_left (by omega), e1]
    · rw [if_neg (by omega), List.getElem?_append_right (by simp; omega), List.getElem?_drop]
      congr 1
      simp [hr]; omega
theorem row_ne {w y y' x : Nat} (hx : x < w) (h : y' ≠ y) : ¬ (y * w ≤ y' * w + x ∧ y' * w + x < y * w + w) := by
  rcases Nat.lt_or_gt_of_ne h with h | h
  · have : (y' + 1) * w ≤ y * w := Nat.mul_le_mul_right _ h
    rw [Nat.add_mul] at this; omega
  · have : (y + 1) * w ≤ y' * w := Nat.mul_le_mul_right _ h
    rw [Nat.add_mul] at this; omega
theorem rowC_ext {w : Nat} {a b : List Cell} {y : Nat} (ha : y * w + w ≤ a.length) (hb : y * w + w ≤ b.length) (h : ∀ x, x < w → a[y * w + x]? = b[y * w + x]?) : rowC w y a = rowC w y b := by
  apply List.ext_getElem?
  intro x
  by_cases hx : x < w
  · rw [rowC_get hx, rowC_get hx, h x hx]
  · rw [List.getElem?_eq_none (by unfold rowC; simp; omega), List.getElem?_eq_none (by unfold rowC; simp; omega)]
theorem rowC_setRow_ne {w y y' : Nat} {r L : List Cell} (hr : r.length = w) (hy : y * w + w ≤ L.length) (hy' : y' * w + w ≤ L.length) (h : y' ≠ y) : rowC w y' (setRow w y r L) = rowC w y' L := by
  refine rowC_ext (by rw [setRow_len hr hy]; exact hy') hy' (fun x hx => ?_)
  rw [setRow_get hr hy, if_neg (row_ne hx h)]
theorem mend_len (l : List Cell) : (mend l).length = l.length := by
  have key : ∀ k (l : List Cell), l.length ≤ k → (mend l).length = l.length := by
    intro k
    induction k with
    | zero => intro l h; have : l = [] := List.eq_nil_of_length_eq_zero (by omega); subst this; rfl
    | succ k ih =>
      intro l h
      cases l with
      | nil => rfl
      | cons c l =>
        simp at h
        rcases sizeC_cases c l with h1 | h1 | ⟨h1, d, l', rfl⟩
        · rw [mend_0 h1, List.length_cons, ih l h, List.length_cons]
        · rw [mend_1 h1, List.length_cons, ih l h, List.length_cons]
        · simp at h
          rw [mend_2 h1, List.length_cons, List.length_cons, ih l' (by omega), List.length_cons, List.length_cons]
  exact key _ l (Nat.le_refl _)
theorem blank_size (c : Cell) (l : List Cell) : sizeC (c.blank :: l) = 1 := by
  have h1 : Cell.ok c.blank = true := by
    have : width 32 = 1 := by decide +kernel
    simp [Cell.ok, Cell.blank, Cell.tail, Cell.wide, tailA, wideA, this]
  have h2 : c.blank.tail = false := by simp [Cell.blank, Cell.tail, tailA]
  have h3 : c.blank.wide = false := by simp [Cell.blank, Cell.wide, wideA]
  have hu : sizeC (c.blank :: l) = if !c.blank.ok || c.blank.tail then 0 else if !c.blank.wide then 1 else if l.head? = some c.blank.behind then 2 else 0 := rfl
  rw [hu, h1, h2, h3]; rfl
theorem sizeC_same1 {c : Cell} {l : List Cell} (h : sizeC (c :: l) = 1) (l' : List Cell) : sizeC (c :: l') = 1 := by
  have hu : ∀ l, sizeC (c :: l) = if !c.ok || c.tail then 0 else if !c.wide then 1 else if l.head? = some c.behind then 2 else 0 := fun _ => rfl
  rw [hu] at h ⊢
  by_cases h1 : (!c.ok || c.tail) = true
  · rw [if_pos h1] at h; cases h
  · rw [if_neg h1] at h ⊢
    by_cases h2 : (!c.wide) = true
    · rw [if_pos h2]
    · rw [if_neg h2] at h; split at h <;> cases h
theorem sizeC_same2 {c d : Cell} {l : List Cell} (h : sizeC (c :: d :: l) = 2) (l' : List Cell) : sizeC (c :: d :: l') = 2 := h
/-- A mended row is right. -/
theorem right_mend (l : List Cell) : rightC (mend l) = true := by
  have key : ∀ k (l : List Cell), l.length ≤ k → rightC (mend l) = true := by
    intro k
    induction k with
    | zero => intro l h; have : l = [] := List.eq_nil_of_length_eq_zero (by omega); subst this; rfl
    | succ k ih =>
      intro l h
      cases l with
      | nil => rfl
      | cons c l =>
        simp at h
        rcases sizeC_cases c l with h1 | h1 | ⟨h1, d, l', rfl⟩
        · rw [mend_0 h1, rightC_1 (blank_size c _), ih l h]
        · rw [mend_1 h1, rightC_1 (sizeC_same1 h1 _), ih l h]
        · simp at h
          rw [mend_2 h1, rightC_2 (sizeC_same2 h1 _), ih l' (by omega)]
  exact key _ l (Nat.le_refl _)
/-- A right row is mended to itself. -/
theorem mend_right (l : List Cell) (hr : rightC l = true) : mend l = l := by
  have key : ∀ k (l : List Cell), l.length ≤ k → rightC l = true → mend l = l := by
    intro k
    induction k with
    | zero => intro l h _; have : l = [] := List.eq_nil_of_length_eq_zero (by omega); subst this; rfl
    | succ k ih =>
      intro l h hr
      cases l with
      | nil => rfl
      | cons c l =>
        simp at h
        rcases sizeC_cases c l with h1 | h1 | ⟨h1, d, l', rfl⟩
        · rw [rightC_0 h1] at hr; cases hr
        · rw [rightC_1 h1] at hr; rw [mend_1 h1, ih l h hr]
        · simp at h
          rw [rightC_2 h1] at hr; rw [mend_2 h1, ih l' (by omega) hr]
  exact key _ l (Nat.le_refl _) hr
section
variable {w h n : Nat} {F : Nat → List Cell → List Cell} (hF : ∀ y r, r.length = w → (F y r).length = w)
include hF
theorem chg1_len {L : List Cell} {y : Nat} (hl : L.length = n) (hn : n = w * h) (hy : y < h) : (chg1 w F L y).length = n := by
  unfold chg1
  rw [setRow_len (by rw [mend_len]; exact hF _ _ (rowC_len hl hn hy)) (by rw [hl]; exact row_le hn hy), hl]
theorem changed_foldl (L : List Cell) (hl : L.length = n) (hn : n = w * h) (lo : Nat) : ∀ k, lo + k ≤ h → ((List.range' lo k).foldl (chg1 w F) L).length = n ∧
    ∀ y, y < h → rowC w y ((List.range' lo k).foldl (chg1 w F) L) = if lo ≤ y ∧ y < lo + k then mend (F y (rowC w y L)) else rowC w y L := by
  intro k
  induction k with
  | zero => intro _; exact ⟨hl, fun y _ => by rw [if_neg (by omega)]; rfl⟩
  | succ k ih =>
    intro hk
    obtain ⟨h1, h2⟩ := ih (by omega)
    rw [List.range'_concat, List.foldl_append]
    simp only [List.foldl_cons, List.foldl_nil, Nat.one_mul]
    generalize (List.range' lo k).foldl (chg1 w F) L = X at *
    refine ⟨chg1_len hF h1 hn (by omega), fun y hy => ?_⟩
    have hrl : (F (lo + k) (rowC w (lo + k) X)).length = w := hF _ _ (rowC_len h1 hn (by omega))
    by_cases hyk : y = lo + k
    · subst hyk
      rw [if_pos (by omega)]
      unfold chg1
      rw [rowC_setRow (by rw [mend_len]; exact hrl) (by rw [h1]; exact row_le hn (by omega)), h2 _ (by omega), if_neg (by omega)]
    · unfold chg1
      rw [rowC_setRow_ne (by rw [mend_len]; exact hrl) (by rw [h1]; exact row_le hn (by omega)) (by rw [h1]; exact row_le hn hy) hyk, h2 y hy]
      by_cases h3 : lo ≤ y ∧ y < lo + k
      · rw [if_pos h3, if_pos (by omega)]
      · rw [if_neg h3, if_neg (by omega)]
theorem changed_len (L : List Cell) (hl : L.length = n) (hn : n = w * h) {lo hi : Nat} (hh : hi ≤ h) : (changedC w lo hi F L).length = n := by
  by_cases hlo : lo ≤ hi
  · exact (changed_foldl hF L hl hn lo (hi - lo) (by omega)).1
  · unfold changedC; rw [show hi - lo = 0 by omega]; exact hl
theorem rowC_changed (L : List Cell) (hl : L.length = n) (hn : n = w * h) {lo hi : Nat} (hh : hi ≤ h) {y : Nat} (hy : y < h) : rowC w y (changedC w lo hi F L) = if lo ≤ y ∧ y < hi then mend (F y (rowC w y L)) else rowC w y L := by
  by_cases hlo : lo ≤ hi
  · have := (changed_foldl hF L hl hn lo (hi - lo) (by omega)).2 y hy
    unfold changedC
    rw [this]
    by_cases h3 : lo ≤ y ∧ y < hi
    · rw [if_pos h3, if_pos (by omega)]
    · rw [if_neg h3, if_neg (by omega)]
  · unfold changedC; rw [show hi - lo = 0 by omega, if_neg (by omega)]; rfl
theorem right_changed (L : List Cell) (hl : L.length = n) (hn : n = w * h) {lo hi : Nat} (hh : hi ≤ h) (hr : rightG w h L = true) : rightG w h (changedC w lo hi F L) = true := by
  unfold rightG at hr ⊢
  rw [List.all_eq_true] at hr ⊢
  intro y hy
  have hy' : y < h := by simpa using hy
  rw [rowC_changed hF L hl hn hh hy']
  split
  · exact right_mend _
  · exact hr y hy
end
/-- Grids whose rows are the same are the same. -/
theorem grid_ext {w h n : Nat} {a b : List Cell} (ha : a.length = n) (hb : b.length = n) (hn : n = w * h) (hr : ∀ y, y < h → rowC w y a = rowC w y b) : a = b := by
  apply List.ext_getElem?
  intro i
  by_cases hi : i < n
  · have hw : 0 < w := by rcases Nat.eq_zero_or_pos w with h0 | h0; · rw [h0] at hn; omega
                          · exact h0
    have hy : i / w < h := by rw [Nat.div_lt_iff_lt_mul hw, Nat.mul_comm]; omega
    have hx : i % w < w := Nat.mod_lt _ hw
    have e := congrArg (fun l => l[i % w]?) (hr (i / w) hy)
    simp only [rowC_get hx] at e
    have e2 : i / w * w + i % w = i := by rw [Nat.mul_comm]; exact Nat.div_add_mod i w
    rwa [e2] at e
  · rw [List.getElem?_eq_none (by omega), List.getElem?_eq_none (by omega)]
/-! ### the ways in which a row is changed -/
def fillRow (l x : Nat) (c : Cell) (r : List Cell) : List Cell := r.take l ++ List.replicate (x - l) c ++ r.drop x
theorem fillRow_len {l x w : Nat} {c : Cell} {r : List Cell} (hr : r.length = w) (hl : l ≤ x) (hx : x ≤ w) : (fillRow l x c r).length = w := by unfold fillRow; simp [hr]; omega
theorem fillRow_get {l x w : Nat} {c : Cell} {r : List Cell} (hr : r.length = w) (hl : l ≤ x) (hx : x ≤ w) (i : Nat) : (fillRow l x c r)[i]? = if l ≤ i ∧ i < x then some c else r[i]? := by
  unfold fillRow
  have e1 : (r.take l).length = l := by simp; omega
  by_cases h1 : i < l
  · rw [if_neg (by omega), List.append_assoc, List.getElem?_append_left (by omega), List.getElem?_take, if_pos h1]
  · by_cases h2 : i < x
    · rw [if_pos (by omega), List.append_assoc, List.getElem?_append_right (by omega), List.getElem?_append_left (by simp; omega), e1, List.getElem?_replicate, if_pos (by omega)]
    · rw [if_neg (by omega), List.getElem?_append_right (by simp; omega), List.getElem?_drop]
      congr 1
      simp; omega
theorem fillRow_set {l x w : Nat} {c : Cell} {r : List Cell} (hr : r.length = w) (hl : l ≤ x) (hx : x < w) : (fillRow l x c r).set x c = fillRow l (x + 1) c r := by
  apply List.ext_getElem?
  intro i
  rw [List.getElem?_set, fillRow_get hr hl (by omega), fillRow_get hr (by omega) (by omega), fillRow_len hr hl (by omega)]
  by_cases h : x = i
  · subst h; rw [if_pos rfl, if_pos hx, if_pos (by omega)]
  · rw [if_neg h]
    by_cases h2 : l ≤ i ∧ i < x
    · rw [if_pos h2, if_pos (by omega)]
    · rw [if_neg h2, if_neg (by omega)]
theorem fillRow_self {l : Nat} {c : Cell} {r : List Cell} : fillRow l l c r = r := by unfold fillRow; simp
theorem setRow_set {w y x : Nat} {r L : List Cell} {c : Cell} (hr : r.length = w) (hy : y * w + w ≤ L.length) (hx : x < w) : (setRow w y r L).set (y * w + x) c = setRow w y (r.set x c) L := by
  apply List.ext_getElem?
  intro i
  rw [List.getElem?_set, setRow_get hr hy, setRow_get (by simpa using hr) hy, setRow_len hr hy, List.getElem?_set]
  by_cases h : y * w + x = i
  · subst h
    rw [if_pos rfl, if_pos (by omega), if_pos (by omega), if_pos (by omega), if_pos (by omega)]
  · rw [if_neg h]
    split
    · rw [if_neg (by omega)]
    · rfl
theorem setRow_self {w y : Nat} {L : List Cell} (hy : y * w + w ≤ L.length) : setRow w y (rowC w y L) L = L := by
  apply List.ext_getElem?
  intro i
  rw [setRow_get (by unfold rowC; simp; omega) hy]
  split
  · rename_i h
    rw [rowC_get (by omega)]
    congr 1; omega
  · rfl
end Go.Proofs.YtldjmacnokkjdaaDoor
