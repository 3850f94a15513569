/- HistoryViews: the plain law. -/
import Derived.Test.YtldjmacnokkjdaaDoorView
import Derived.Test.YtldjmacnokkjdaaDoorGf
namespace Go.Proofs.YtldjmacnokkjdaaDoor
set_option linter.unusedVariables false
set_option linter.unusedSimpArgs false

def abcC (z : Int) : Cell := ⟨97 + z % 8, 0, 0, 0⟩
def dashC : Cell := ⟨45, 0, 0, 0⟩
def rowAbc (z : Int) : List Cell := [abcC z, dashC, dashC]
theorem abc_size (z : Int) (l : List Cell) : sizeC (abcC z :: l) = 1 := by
  have h1 : 0 ≤ z % 8 := Int.emod_nonneg _ (by omega)
  have h2 : z % 8 < 8 := Int.emod_lt_of_pos _ (by omega)
  have key : ∀ k : Fin 8, Cell.ok ⟨97 + (k.val : Int), 0, 0, 0⟩ = true := by decide +kernel
  have h3 := key ⟨(z % 8).toNat, by omega⟩
  have h4 : (((z % 8).toNat : Nat) : Int) = z % 8 := by omega
  simp only [h4] at h3
  have hk : (abcC z).ok = true := h3
  have hw : (abcC z).wide = false := by show wideA 0 = false; decide
  have ht : (abcC z).tail = false := by show tailA 0 = false; decide
  unfold sizeC
  simp [hk, hw, ht]
theorem dash_size (l : List Cell) : sizeC (dashC :: l) = 1 := plain_size dashC (by decide +kernel) l
theorem mend_rowAbc (z : Int) : mend (rowAbc z) = rowAbc z := by
  unfold rowAbc
  rw [mend_1 (abc_size z _), mend_1 (dash_size _), mend_1 (dash_size _)]
  rfl
theorem fit_rowAbc (z : Int) : fitC 3 (rowAbc z) = rowAbc z := by
  have : (rowAbc z).take 3 ++ List.replicate (3 - min (rowAbc z).length 3) blankC = rowAbc z := by simp [rowAbc]
  unfold fitC
  rw [this, mend_rowAbc]
theorem fit_right {w : Nat} {r : List Cell} (hl : r.length = w) (hr : rightC r = true) : fitC w r = r := by
  unfold fitC
  rw [hl, Nat.min_self, Nat.sub_self, List.take_of_length_le (by omega), List.replicate_zero, List.append_nil]
  exact mend_right r hr
theorem rowC_view {w gh m : Nat} {R : List (List Cell)} {L : List Cell} {fr y : Nat} (hy : y < gh) : rowC w y (viewL w gh m R L fr) = rowV w m R L (fr + y) := by
  have key : ∀ (l : List Nat) (y : Nat) (f : Nat → List Cell), (∀ j, (f j).length = w) → (h : y < l.length) → ((l.flatMap f).drop (y * w)).take w = f (l[y]) := by
    intro l
    induction l with
    | nil => intro y f _ h; simp at h
    | cons x l ih =>
      intro y f hf h
      cases y with
      | zero =>
        rw [Nat.zero_mul, List.drop_zero, List.flatMap_cons, List.take_append_of_le_length (by rw [hf]; omega), List.take_of_length_le (by rw [hf]; omega)]
        rfl
      | succ y =>
        rw [List.flatMap_cons, Nat.succ_mul, List.drop_append, List.drop_of_length_le (by rw [hf]; omega), List.nil_append, hf, show y * w + w - w = y * w by omega, ih y f hf (by simpa using h)]
        rfl
  unfold rowC viewL
  rw [key _ y _ (fun j => rowV_len _ _ _ _ _) (by simpa using hy)]
  simp
/-- As far back as 0 a view is the grid. -/
theorem view_zero {w gh n m : Nat} {R : List (List Cell)} {L : List Cell} (hl : L.length = n) (hn : n = w * gh) (hr : rightG w gh L = true) : viewL w gh m R L m = L := by
  refine grid_ext (n := n) (by rw [viewL_len, hn, Nat.mul_comm]) hl hn fun y hy => ?_
  rw [rowC_view hy]
  unfold rowV
  rw [if_neg (by omega), show m + y - m = y by omega]
  exact fit_right (rowC_len hl hn hy) (rightG_row hr hy)
/-- A place of a view. -/
theorem view_law {l : List Int} {n gh N k : Nat} {L : List Cell} (hn : n ≤ l.length) (hl : L.length = N) (hN : N = 3 * gh) (hr : rightG 3 gh L = true) (hk : k ≤ n) (y x : Nat) (hy : y < gh) (hx : x < 3) :
    ∃ d, (rowC 3 y (viewL 3 gh n ((l.take n).map rowAbc) L (n - k)))[x]? = some d ∧
      (n - k + y < n → ∃ z, l[n - k + y]? = some z ∧ d = if x = 0 then abcC z else dashC) ∧
      (n ≤ n - k + y → n - k + y - n < gh ∧ (rowC 3 (n - k + y - n) L)[x]? = some d) := by
  have hlen : (rowC 3 y (viewL 3 gh n ((l.take n).map rowAbc) L (n - k))).length = 3 := by rw [rowC_view hy]; exact rowV_len _ _ _ _ _
  obtain ⟨d, hd⟩ : ∃ d, (rowC 3 y (viewL 3 gh n ((l.take n).map rowAbc) L (n - k)))[x]? = some d := ⟨_, List.getElem?_eq_getElem (by omega)⟩
  refine ⟨d, hd, fun h1 => ?_, fun h1 => ?_⟩
  · obtain ⟨z, hz⟩ : ∃ z, l[n - k + y]? = some z := ⟨_, List.getElem?_eq_getElem (by omega)⟩
    refine ⟨z, hz, ?_⟩
    rw [rowC_view hy] at hd
    unfold rowV at hd
    rw [if_pos h1, List.getElem?_map, List.getElem?_take, if_pos h1, hz] at hd
    simp only [Option.map_some, Option.getD_some] at hd
    rw [fit_rowAbc] at hd
    have hx3 : x = 0 ∨ x = 1 ∨ x = 2 := by omega
    rcases hx3 with rfl | rfl | rfl <;> simp [rowAbc] at hd <;> simp [hd]
  · have hlt : n - k + y - n < gh := by omega
    refine ⟨hlt, ?_⟩
    rw [rowC_view hy] at hd
    unfold rowV at hd
    rw [if_neg (by omega), fit_right (rowC_len hl hN hlt) (rightG_row hr hlt)] at hd
    exact hd
theorem span_near (f : Int) (k e : Nat) : (spanF f k e).1.toNat < (spanF f k e).2.toNat → f ≤ ((spanF f k e).1.toNat : Int) ∧ ((spanF f k e).2.toNat : Int) - f ≤ k := by
  obtain ⟨s1, s2, s3⟩ := span_le f k e (by omega)
  unfold spanF at *
  split
  · intro h; simp at h
  · rename_i h1
    split
    · rename_i h2
      unfold mx mn
      simp only
      split <;> split <;> omega
    · rename_i h2
      unfold mn
      simp only
      split <;> omega
theorem putG_len {w h n : Nat} {L s : List Cell} {x y : Int} (hl : L.length = n) (hn : n = w * h) : (putG w h L x y s).length = n := by
  obtain ⟨s1, s2, s3⟩ := span_le x s.length w (by omega)
  unfold putG
  split
  · exact changed_len (fun _ r hr => putRow_len hr (by omega) rfl (span_near x s.length w)) L hl hn (by omega)
  · exact hl
theorem right_putG {w h n : Nat} {L s : List Cell} {x y : Int} (hl : L.length = n) (hn : n = w * h) (hr : rightG w h L = true) : rightG w h (putG w h L x y s) = true := by
  obtain ⟨s1, s2, s3⟩ := span_le x s.length w (by omega)
  unfold putG
  split
  · exact right_changed (fun _ r hr => putRow_len hr (by omega) rfl (span_near x s.length w)) L hl hn (by omega) hr
  · exact hr
theorem hview_zero {α : Type} (rows : List α) : hview 0 rows = rows := by unfold hview; simp
end Go.Proofs.YtldjmacnokkjdaaDoor
