/- A ring as the list that it holds, in order: what is pushed stands last, and the latest stay. -/
import Derived.Test.YtldjmacnokkjdaaDoorHistU
import Derived.Test.YtldjmacnokkjdaaDoorLet
namespace Go.Proofs.YtldjmacnokkjdaaDoor
set_option linter.unusedVariables false
set_option linter.unusedSimpArgs false

def lastN {α : Type} (n : Nat) (l : List α) : List α := l.drop (l.length - n)
def hview {α : Type} (first : Nat) (rows : List α) : List α := rows.drop first ++ rows.take first
theorem lastN_len {α : Type} (n : Nat) (l : List α) : (lastN n l).length = min n l.length := by unfold lastN; simp; omega
theorem lastN_le {α : Type} {n : Nat} {l : List α} (h : l.length ≤ n) : lastN n l = l := by unfold lastN; rw [show l.length - n = 0 by omega]; rfl
theorem lastN_snoc {α : Type} (n : Nat) (l : List α) (x : α) : lastN n (lastN n l ++ [x]) = lastN n (l ++ [x]) := by
  have e : lastN n l ++ [x] = (l ++ [x]).drop (l.length - n) := by
    unfold lastN; rw [List.drop_append_of_le_length (by omega)]
  rw [e]
  unfold lastN
  rw [List.drop_drop, List.length_drop]
  congr 1
  simp; omega
theorem lastN_get {α : Type} {n : Nat} {l : List α} {k : Nat} : (lastN n l)[k]? = l[l.length - n + k]? := by unfold lastN; rw [List.getElem?_drop]
theorem hview_len {α : Type} (first : Nat) (rows : List α) : (hview first rows).length = rows.length := by unfold hview; simp; omega
theorem hview_get {α : Type} {first : Nat} {rows : List α} {k : Nat} (hf : first = 0 ∨ first < rows.length) (hk : k < rows.length) : rows[atF first k rows.length]? = (hview first rows)[k]? := by
  unfold hview atF
  have hf' : first ≤ rows.length := by omega
  by_cases h : first + k < rows.length
  · rw [Nat.mod_eq_of_lt h, List.getElem?_append_left (by simp; omega), List.getElem?_drop]
  · rw [Nat.mod_eq_sub_mod (by omega), Nat.mod_eq_of_lt (by omega), List.getElem?_append_right (by simp; omega), List.getElem?_take]
    have e : k - (rows.drop first).length = first + k - rows.length := by simp; omega
    rw [e, if_pos (by omega)]
theorem hview_push {room first : Nat} {rows : List (List Cell)} (x : List Cell) (hl : rows.length ≤ room) (hf : first = 0 ∨ (rows.length = room ∧ first < room)) :
    hview (putF room first rows) (putR room first rows x) = lastN room (hview first rows ++ [x]) := by
  unfold putF putR
  by_cases h0 : room = 0
  · subst h0
    have : rows = [] := List.eq_nil_of_length_eq_zero (by omega)
    subst this
    have : first = 0 := by omega
    subst this
    simp [hview, lastN]
  · rw [if_neg h0, if_neg h0]
    by_cases h1 : rows.length < room
    · have : first = 0 := by omega
      subst this
      rw [if_pos h1, if_pos h1, lastN_le (by simp [hview]; omega)]
      simp [hview]
    · have hr : rows.length = room := by omega
      have hlt : first < room := by omega
      rw [if_neg h1, if_neg h1]
      have key : (rows.drop (first + 1) ++ (rows.take first ++ [x])) = lastN room (hview first rows ++ [x]) := by
        unfold lastN hview
        have e : (rows.drop first ++ rows.take first ++ [x]).length - room = 1 := by simp; omega
        rw [e, List.append_assoc, List.drop_append_of_le_length (by simp; omega), List.drop_drop]
      rw [← key]
      unfold hview
      by_cases h2 : first + 1 < room
      · rw [Nat.mod_eq_of_lt h2, List.drop_set_of_lt (by omega)]
        congr 1
        rw [List.take_set, List.take_add_one, List.set_append_right _ _ (by simp; omega)]
        have : rows[first]?.toList = [rows[first]'(by omega)] := by rw [List.getElem?_eq_getElem (by omega)]; rfl
        rw [this]
        have e : first - (rows.take first).length = 0 := by simp; omega
        rw [e]; rfl
      · have e : first + 1 = room := by omega
        rw [e, Nat.mod_self, List.drop_zero, List.take_zero, List.append_nil, List.drop_of_length_le (by omega), List.nil_append]
        have e1 : rows.take (first + 1) = rows.take first ++ [rows[first]'(by omega)] := by rw [List.take_add_one, List.getElem?_eq_getElem (by omega)]; rfl
        have e2 : rows = rows.take first ++ [rows[first]'(by omega)] := (List.take_of_length_le (by omega)).symm.trans e1
        have e3 : rows.set first x = (rows.take first ++ [rows[first]'(by omega)]).set first x := congrArg (fun l => l.set first x) e2
        rw [e3, List.set_append_right _ _ (by simp; omega)]
        have e4 : first - (rows.take first).length = 0 := by simp; omega
        rw [e4]; rfl
theorem hview_pushS {room : Nat} {st : Nat × List (List Cell)} (x : List Cell) (hl : st.2.length ≤ room) (hf : st.1 = 0 ∨ (st.2.length = room ∧ st.1 < room)) :
    hview (pushS room st x).1 (pushS room st x).2 = lastN room (hview st.1 st.2 ++ [mend x]) := hview_push (mend x) hl hf

/-! ### rows that were made of characters are right -/
theorem wide_mod64 (a : Fin 256) : wideA (mod64 a) = false := by revert a; decide +kernel
theorem tail_mod64 (a : Fin 256) : tailA (mod64 a) = false := by revert a; decide +kernel
theorem wide_wide64 (a : Fin 256) : wideA (wide64 a) = true := by revert a; decide +kernel
theorem tail_wide64 (a : Fin 256) : tailA (wide64 a) = false := by revert a; decide +kernel
theorem mend_make (r : Int) (pen : Cell) (l : List Cell) : mend (makeC r pen ++ l) = makeC r pen ++ mend l := by
  unfold makeC
  split
  · rename_i h
    have hs : sizeC (⟨r, pen.fg, pen.bg, mod64 pen.attr⟩ :: l) = 1 := by
      simp [sizeC, Cell.ok, Cell.tail, Cell.wide, wide_mod64, tail_mod64, h]
    exact mend_1 hs
  · split
    · rename_i h1 h
      have hs : sizeC (⟨r, pen.fg, pen.bg, wide64 pen.attr⟩ :: ⟨0, pen.fg, pen.bg, tailOf (wide64 pen.attr)⟩ :: l) = 2 := by
        simp [sizeC, Cell.ok, Cell.tail, Cell.wide, wide_wide64, tail_wide64, h, Cell.behind]
      exact mend_2 hs
    · rfl
theorem mend_letters (l : List Int) : mend (l.flatMap letterC) = l.flatMap letterC := by
  induction l with
  | nil => rfl
  | cons x l ih => rw [List.flatMap_cons]; unfold letterC at ih ⊢; rw [mend_make, ih]
theorem mend_lettersC (l : List Int) : mend (lettersC l) = lettersC l := mend_letters _
theorem lettersC_len (l : List Int) : (lettersC l).length ≤ 20 := by
  have := letters_len (l.take 10)
  have h2 : (l.take 10).length ≤ 10 := by simp; omega
  unfold lettersC; omega
end Go.Proofs.YtldjmacnokkjdaaDoor
