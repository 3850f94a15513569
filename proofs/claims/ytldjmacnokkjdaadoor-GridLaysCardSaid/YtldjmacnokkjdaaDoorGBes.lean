/- What lies beside a rectangle that is filled: the plain law. -/
import Derived.Test.YtldjmacnokkjdaaDoorAwk6
namespace Go.Proofs.YtldjmacnokkjdaaDoor
set_option linter.unusedVariables false
set_option linter.unusedSimpArgs false

theorem span_spec (f m : Int) (e : Nat) (x : Nat) (hx : x < e) : ((spanF f m e).1 ≤ x ∧ (x : Int) < (spanF f m e).2) ↔ (f ≤ x ∧ (x : Int) < f + m) := by
  unfold spanF
  split
  · simp only; omega
  · split
    · unfold mx mn; simp only
      split <;> split <;> omega
    · unfold mn; simp only
      split <;> omega
theorem span_ends (f m : Int) (e : Nat) (h : (spanF f m e).1 < (spanF f m e).2) : ((spanF f m e).1 = f ∨ (spanF f m e).1 = 0) ∧ ((spanF f m e).2 = f + m ∨ (spanF f m e).2 = e) := by
  unfold spanF at h ⊢
  split
  · rename_i h1; rw [if_pos h1] at h; simp at h
  · rename_i h1
    rw [if_neg h1] at h
    split
    · rename_i h2
      rw [if_pos h2] at h
      unfold mx mn at h ⊢
      simp only at h ⊢
      refine ⟨.inr trivial, ?_⟩
      split at h <;> split <;> split <;> omega
    · rename_i h2
      unfold mn
      simp only
      refine ⟨.inl trivial, ?_⟩
      split <;> omega
theorem pairC_wide {row : List Cell} {i : Nat} {c : Cell} (hc : row[i]? = some c) (h : pairC row i = true) : c.wide = true := by
  unfold pairC at h
  rw [hc] at h
  split at h
  · rename_i c' d hc' hd
    cases hc'
    simp at h
    exact h.1.2
  · cases h
theorem pairC_tail {row : List Cell} {i : Nat} {d : Cell} (hd : row[i + 1]? = some d) (h : pairC row i = true) : d.tail = true := by
  unfold pairC at h
  rw [hd] at h
  split at h
  · rename_i c d' hc hd'
    cases hd'
    simp at h
    rw [h.2]; exact behind_tail c
  · cases h
theorem attr_wide (c : Cell) (h : c.wide = true) : 64 ≤ c.attr.val := by
  have : ∀ a : Fin 256, wideA a = true → 64 ≤ a.val := by decide +kernel
  exact this c.attr h
theorem attr_tail (c : Cell) (h : c.tail = true) : 64 ≤ c.attr.val := by
  have : ∀ a : Fin 256, tailA a = true → 64 ≤ a.val := by decide +kernel
  exact this c.attr h
theorem plain_no (c : Cell) (h : (c.ok && decide (c.attr.val < 64)) = true) : c.ok = true ∧ c.wide = false ∧ c.tail = false := by
  simp at h
  refine ⟨h.1, ?_, ?_⟩
  · cases hw : c.wide
    · rfl
    · have := attr_wide c hw; omega
  · cases hw : c.tail
    · rfl
    · have := attr_tail c hw; omega
theorem pairC_congr {r r' : List Cell} {i : Nat} (h1 : r[i]? = r'[i]?) (h2 : r[i + 1]? = r'[i + 1]?) : pairC r i = pairC r' i := by unfold pairC; rw [h1, h2]
/-- A row of cells, some of them filled, mended: place by place. -/
theorem fill_at {w l rt x : Nat} {r : List Cell} {c a : Cell} (hr : r.length = w) (hright : rightC r = true) (hc : (c.ok && decide (c.attr.val < 64)) = true) (hlr : l < rt) (hrw : rt ≤ w) (hx : x < w) (ha : r[x]? = some a) :
    ∃ b, (mend (fillRow l rt c r))[x]? = some b ∧ (l ≤ x ∧ x < rt → b = c) ∧ (¬ (l ≤ x ∧ x < rt) → a = b ∨ (64 ≤ a.attr.val ∧ (x + 1 = l ∨ x = rt))) := by
  obtain ⟨p1, p2, p3⟩ := plain_no c hc
  have G := fun i => fillRow_get (c := c) hr (Nat.le_of_lt hlr) hrw i
  have hmr : mendAt r x a = a := by
    have h1 := mendR_get ha
    rw [mendR_mend, mend_right r hright, ha] at h1
    exact (Option.some.inj h1).symm
  by_cases hin : l ≤ x ∧ x < rt
  · have hg : (fillRow l rt c r)[x]? = some c := by rw [G x, if_pos hin]
    refine ⟨c, ?_, fun _ => rfl, fun h => absurd hin h⟩
    rw [← mendR_mend, mendR_get hg]
    simp [mendAt, p1, p2, p3]
  · have hg : (fillRow l rt c r)[x]? = some a := by rw [G x, if_neg hin, ha]
    refine ⟨mendAt (fillRow l rt c r) x a, by rw [← mendR_mend, mendR_get hg], fun h => absurd h hin, fun _ => ?_⟩
    have hC : x + 1 ≠ l → pairC (fillRow l rt c r) x = pairC r x := fun h => pairC_congr (by rw [hg, ha]) (by rw [G (x + 1), if_neg (by omega)])
    have hP : x ≠ rt → pairP (fillRow l rt c r) x = pairP r x := by
      intro h
      unfold pairP
      by_cases h1 : 1 ≤ x
      · simp only [h1, decide_true, Bool.true_and]
        exact pairC_congr (by rw [G (x - 1), if_neg (by omega)]) (by rw [show x - 1 + 1 = x by omega, hg, ha])
      · simp [h1]
    by_cases e1 : x + 1 = l
    · cases hw : a.wide
      · left
        have q1 : pairC (fillRow l rt c r) x = false := by
          cases h : pairC (fillRow l rt c r) x
          · rfl
          · rw [pairC_wide hg h] at hw; cases hw
        have q2 : pairC r x = false := by
          cases h : pairC r x
          · rfl
          · rw [pairC_wide ha h] at hw; cases hw
        have : mendAt (fillRow l rt c r) x a = mendAt r x a := by unfold mendAt; rw [q1, q2, hP (by omega)]
        rw [this, hmr]
      · exact .inr ⟨attr_wide a hw, .inl e1⟩
    · by_cases e2 : x = rt
      · cases ht : a.tail
        · left
          have hx1 : x - 1 + 1 = x := by omega
          have q1 : pairP (fillRow l rt c r) x = false := by
            unfold pairP
            cases h : pairC (fillRow l rt c r) (x - 1)
            · simp
            · have := pairC_tail (d := a) (by rw [hx1]; exact hg) h
              rw [this] at ht; cases ht
          have q2 : pairP r x = false := by
            unfold pairP
            cases h : pairC r (x - 1)
            · simp
            · have := pairC_tail (d := a) (by rw [hx1]; exact ha) h
              rw [this] at ht; cases ht
          have : mendAt (fillRow l rt c r) x a = mendAt r x a := by unfold mendAt; rw [q1, q2, hC e1]
          rw [this, hmr]
        · exact .inr ⟨attr_tail a ht, .inr e2⟩
      · left
        have : mendAt (fillRow l rt c r) x a = mendAt r x a := by unfold mendAt; rw [hC e1, hP e2]
        rw [this, hmr]
/-- GridBeside, of lists. -/
theorem beside_law {w h n : Nat} {L : List Cell} {c : Cell} {x y rw' rh : Int} (hl : L.length = n) (hn : n = w * h) (hr : rightG w h L = true) (hc : (c.ok && decide (c.attr.val < 64)) = true) (y0 x0 : Nat) (hy : y0 < h) (hx : x0 < w) :
    ∃ a b, L[y0 * w + x0]? = some a ∧ (fillC w h L x y rw' rh c)[y0 * w + x0]? = some b ∧
      ((x ≤ x0 ∧ x0 < x + rw' ∧ y ≤ y0 ∧ y0 < y + rh) → b = c) ∧
      (¬ (x ≤ x0 ∧ x0 < x + rw' ∧ y ≤ y0 ∧ y0 < y + rh) → a = b ∨ (y ≤ y0 ∧ y0 < y + rh ∧ 64 ≤ a.attr.val ∧ ((x0 : Int) = x - 1 ∨ (x0 : Int) = x + rw'))) := by
  have hle := row_le hn hy
  obtain ⟨a, ha⟩ : ∃ a, L[y0 * w + x0]? = some a := ⟨_, List.getElem?_eq_getElem (by omega)⟩
  have sx := span_spec x rw' w x0 hx
  have sy := span_spec y rh h y0 hy
  obtain ⟨s1, s2, s3⟩ := span_le x rw' w (by omega)
  obtain ⟨t1, t2, t3⟩ := span_le y rh h (by omega)
  unfold fillC
  split
  · rename_i he
    refine ⟨a, a, ha, ha, fun hin => ?_, fun _ => .inl rfl⟩
    exfalso; omega
  · rename_i he
    have hlt : (spanF x rw' w).1 < (spanF x rw' w).2 := by omega
    have hends := span_ends x rw' w hlt
    have hrow := rowC_changed (fun _ r hr => fillRow_len (c := c) hr (by omega) (by omega)) L hl hn (lo := (spanF y rh h).1.toNat) (hi := (spanF y rh h).2.toNat) (F := fun _ r => fillRow (spanF x rw' w).1.toNat (spanF x rw' w).2.toNat c r) (by omega) hy
    have hget : (rowC w y0 (changedC w (spanF y rh h).1.toNat (spanF y rh h).2.toNat (fun _ r => fillRow (spanF x rw' w).1.toNat (spanF x rw' w).2.toNat c r) L))[x0]? = (changedC w (spanF y rh h).1.toNat (spanF y rh h).2.toNat (fun _ r => fillRow (spanF x rw' w).1.toNat (spanF x rw' w).2.toNat c r) L)[y0 * w + x0]? := rowC_get hx
    by_cases hyin : y ≤ y0 ∧ (y0 : Int) < y + rh
    · have hy2 := sy.2 hyin
      rw [if_pos (by omega)] at hrow
      have hrr : rightC (rowC w y0 L) = true := by
        unfold rightG at hr
        rw [List.all_eq_true] at hr
        exact hr y0 (by simpa using hy)
      obtain ⟨b, hb1, hb2, hb3⟩ := fill_at (l := (spanF x rw' w).1.toNat) (rt := (spanF x rw' w).2.toNat) (rowC_len hl hn hy) hrr hc (by omega) (by omega) hx (by rw [rowC_get hx]; exact ha)
      rw [← hget, hrow]
      refine ⟨a, b, ha, hb1, fun hin => hb2 (by have := sx.2 ⟨hin.1, hin.2.1⟩; omega), fun hin => ?_⟩
      have hnx : ¬ (x ≤ x0 ∧ (x0 : Int) < x + rw') := fun h => hin ⟨h.1, h.2, hyin.1, hyin.2⟩
      have hnx2 := mt sx.1 hnx
      rcases hb3 (by omega) with h1 | ⟨h1, h2⟩
      · exact .inl h1
      · refine .inr ⟨hyin.1, hyin.2, h1, ?_⟩
        obtain ⟨e1, e2⟩ := hends
        omega
    · have hy2 := mt sy.1 hyin
      rw [if_neg (by omega)] at hrow
      rw [← hget, hrow, rowC_get hx]
      exact ⟨a, a, ha, ha, fun hin => absurd ⟨hin.2.2.1, hin.2.2.2⟩ hyin, fun _ => .inl rfl⟩
end Go.Proofs.YtldjmacnokkjdaaDoor
