/- Layers 4 and 5 as data: how wide a character is, what cells may be; and what the functions of packages runes and cell do. -/
import Derived.Test.YtldjmacnokkjdaaDoorBase
import Derived.Test.YtldjmacnokkjdaaDoorSlices
import Derived.Test.YtldjmacnokkjdaaDoorLawBase
import Derived.Deep.QuietTactic
import Derived.BigQuiet
import Derived.IntWalk
import Derived.Deep.DeepCutAuto
import Derived.Deep.CutBlock
import Derived.Deep.CutRange
namespace Go.Proofs.YtldjmacnokkjdaaDoor
open Go.RowKit
set_option linter.unusedVariables false
set_option linter.unusedSimpArgs false

/-! ### as data -/
structure Cell where
  r : Int
  fg : Int
  bg : Int
  attr : Fin 256
deriving DecidableEq
def Cell.vals (c : Cell) : List Value := [.int .i32 c.r, .int .u8 c.fg, .int .u8 c.bg, .int .u8 (c.attr.val : Int)]
@[reducible] def Cell.val (c : Cell) : Value := .agg #[.int .i32 c.r, .int .u8 c.fg, .int .u8 c.bg, .int .u8 (c.attr.val : Int)]
def inSpans (r : Int) (l : List (Int × Int)) : Bool := l.any fun p => decide (p.1 ≤ r) && decide (r ≤ p.2)
def noneSpans : List (Int × Int) := [(0, 31), (127, 159), (768, 879), (8203, 8207), (65024, 65039)]
def wideSpans : List (Int × Int) := [(4352, 4447), (11904, 12350), (12353, 42191), (44032, 55203), (63744, 64255), (65072, 65135), (65281, 65376), (65504, 65510), (127744, 128591), (129280, 129535), (131072, 262141)]
def validRune (r : Int) : Bool := (decide (0 ≤ r) && decide (r < 55296)) || (decide (57343 < r) && decide (r ≤ 1114111))
def width (r : Int) : Int := if !validRune r || inSpans r noneSpans then 0 else if inSpans r wideSpans then 2 else 1
def wideA (a : Fin 256) : Bool := decide (a.val / 64 % 2 = 1)
def tailA (a : Fin 256) : Bool := decide (128 ≤ a.val)
def Cell.wide (c : Cell) : Bool := wideA c.attr
def Cell.tail (c : Cell) : Bool := tailA c.attr
def Cell.ok (c : Cell) : Bool := if c.tail then !c.wide && decide (c.r = 0) else if c.wide then decide (width c.r = 2) else decide (width c.r = 1)
def tailOf (a : Fin 256) : Fin 256 := ⟨a.val % 64 + 128, by omega⟩
def Cell.behind (c : Cell) : Cell := ⟨0, c.fg, c.bg, tailOf c.attr⟩

theorem and64 (a : Fin 256) : bits .and .u8 (a.val : Int) 64 = if wideA a then 64 else 0 := by revert a; decide +kernel
theorem and128 (a : Fin 256) : bits .and .u8 (a.val : Int) 128 = if tailA a then 128 else 0 := by revert a; decide +kernel
theorem and63or128 (a : Fin 256) : bits .or .u8 (bits .and .u8 (a.val : Int) 63) 128 = ((tailOf a).val : Int) := by revert a; decide +kernel

/-! ### package runes -/
theorem utf8_ValidRune (w : World) (r : Int) : Calls Tryd.prog 91 #[.int .i32 r] w fun e w' => e = .returned (.bool (validRune r)) ∧ w = w' := by
  unfold validRune
  by_cases h1 : 0 ≤ r <;> by_cases h2 : r < 55296 <;> by_cases h3 : 57343 < r <;> by_cases h4 : r ≤ 1114111
  all_goals first
    | (exfalso; omega)
    | (go_enter Tryd.func91, Tryd.ntmps91
       go_wp2
       go_ret
       simp [h1, h2, h3, h4])

def InRel (w : World) (r : Int) (l : List (Int × Int)) (n : Nat) (kk : Nat) (i9 : Value) (wr : World) : Prop :=
  ∃ i : Nat, i9 = .int .i64 i ∧ i ≤ n ∧ inSpans r l = inSpans r (l.drop i) ∧ Mods [] w wr ∧ kk + i = n

def spanVals (p : Int × Int) : List Value := [.int .i32 p.1, .int .i32 p.2]
set_option maxHeartbeats 1000000 in
theorem runes_in (w : World) (r : Int) (A : Option Addr) (n cap : Nat) (l : List (Int × Int)) (h : ReadsRows w A n 2 spanVals l) (hsm : n ≤ 100) :
    Calls Tryd.prog 92 #[.int .i32 r, .slice A n cap] w fun e w' => e = .returned (.bool (inSpans r l)) ∧ Mods [] w w' := by
  have HO := Lib.hid h
  have hln := h.1
  have HLN := Lib.hid hln
  clear h hln
  go_enter Tryd.func92, Tryd.ntmps92
  go_wp2
  go_loopg [9] n (InRel w r l n)
  case atStart => exact ⟨0, rfl, by omega, by rw [List.drop_zero], Mods.refl _ _, by omega⟩
  case round =>
    obtain ⟨i, rfl, hi, hin, hM, hkk⟩ := hrel
    have HIN := Lib.hid hin
    have HKK := Lib.hid hkk
    clear hin hkk
    by_cases hlt : i < n
    · obtain ⟨p, hp⟩ : ∃ p, l[i]? = some p := ⟨_, List.getElem?_eq_getElem (by rw [HLN.out]; exact hlt)⟩
      obtain ⟨a, rfl, c0, hc⟩ := ((HO.out.keepsM (fun _ => rfl) hM (by simp)).row hp)
      have c1 := hc 0 (by omega)
      simp only [spanVals] at c0 c1
      clear hc
      have HD := Lib.hid (show l.drop i = p :: l.drop (i + 1) by rw [List.drop_eq_getElem?_toList_append, hp]; rfl)
      have HP := Lib.hid hp
      clear hp
      obtain ⟨x, y⟩ := p
      have hM2 := hM.alloc (.cells #[Value.int .i32 x, Value.int .i32 y] 124)
      have hk2 := HKK.out
      by_cases h1 : x ≤ r
      · by_cases h2 : r ≤ y
        · go_wp2
          go_ret
          refine ⟨?_, hM2⟩
          rw [HIN.out, HD.out]
          simp [inSpans, h1, h2]
        · go_wp2
          go_roundg (gk - 1)
          case measure => omega
          case rel => exact ⟨i + 1, by go_num, by omega, by rw [HIN.out, HD.out]; simp [inSpans]; intro _ _; omega, hM2, by omega⟩
      · go_wp2
        go_roundg (gk - 1)
        case measure => omega
        case rel => exact ⟨i + 1, by go_num, by omega, by rw [HIN.out, HD.out]; simp [inSpans]; intro _ _; omega, hM2, by omega⟩
    · go_wp2
      go_ret
      refine ⟨?_, hM⟩
      rw [HIN.out, List.drop_of_length_le (by rw [HLN.out]; omega)]
      rfl

/-- A row of pairs that lies in a block from its beginning. -/
theorem rows_of_block {α : Type} {w : World} {g : Nat} {cs : Array Value} {t : TypeId} {fr : Nat × Nat} {size : Nat} {rd : α → List Value} {xs : List α} (h : w.heap[g]? = some (.cells cs t fr)) (hsz : 0 < size) (hrd : ∀ o, (rd o).length = size) (hcs : cs.toList = xs.flatMap rd) (hm : xs.length ≤ maxLen) : ReadsRows w (some ⟨g, 0, none⟩) xs.length size rd xs := by
  refine ⟨rfl, hm, fun i o hi => ⟨_, rfl, fun j hj => ?_⟩⟩
  have e : ((Addr.mk g 0 none).add (i * size)).add j = ⟨g, i * size + j, none⟩ := by
    unfold Addr.add
    simp
    split <;> simp_all <;> split <;> simp_all
  rw [e]; simp only [World.cell?, h, Option.isSome_none, Bool.false_eq_true, if_false]
  have e2 : cs[i * size + j]? = (xs.flatMap rd)[i * size + j]? := by rw [← hcs]; simp
  rw [e2]
  clear e e2 h hcs hm
  induction xs generalizing i with
  | nil => simp at hi
  | cons x xs ih =>
    cases i with
    | zero =>
      simp at hi
      subst hi
      rw [List.flatMap_cons, Nat.zero_mul, Nat.zero_add, List.getElem?_append_left (by rw [hrd]; exact hj)]
    | succ i =>
      rw [List.flatMap_cons, List.getElem?_append_right (by rw [hrd]; rw [Nat.add_mul]; omega), hrd]
      have e : (i + 1) * size + j - size = i * size + j := by rw [Nat.add_mul]; omega
      rw [e]
      exact ih i (by simpa using hi)
def noneArr : Array Value := (noneSpans.flatMap spanVals).toArray
def wideArr : Array Value := (wideSpans.flatMap spanVals).toArray
set_option maxRecDepth 4000 in
set_option maxHeartbeats 1000000 in
theorem runes_Width (w : World) (r : Int) : Calls Tryd.prog 77 #[.int .i32 r] w fun e w' => e = .returned (.int .i64 (width r)) ∧ Mods [] w w' := by
  have R1 := rows_of_block (size := 2) (rd := spanVals) (xs := noneSpans) (blk_alloc (blk_new w (.cells noneArr 125)) (.cells wideArr 126)) (by omega) (fun _ => rfl) rfl (by unfold maxLen; decide)
  have R2 := rows_of_block (size := 2) (rd := spanVals) (xs := wideSpans) (blk_new (w.alloc (.cells noneArr 125)) (.cells wideArr 126)) (by omega) (fun _ => rfl) rfl (by unfold maxLen; decide)
  have HR1 := Lib.hid R1
  rw [show (w.alloc (.cells noneArr 125)).heap.size = w.heap.size + 1 by simp] at R2
  have HR2 := Lib.hid R2
  clear R1 R2
  have hM0 : Mods [] w ((w.alloc (.cells noneArr 125)).alloc (.cells wideArr 126)) := ((Mods.refl _ _).alloc _).alloc _
  have tokA : True := trivial
  have hw : width r = if !validRune r || inSpans r noneSpans then 0 else if inSpans r wideSpans then 2 else 1 := rfl
  have HW := Lib.hid hw
  clear hw
  go_enter Tryd.func77, Tryd.ntmps77
  go_wp2_with (first
    | (refine store_new (p := .tmp 3) (x := .tmp 10) (c' := noneArr) ?_ ?_ ?_ ?_ ?_ ?_ ?_ ?_; (focus rfl); (focus rfl); (focus rfl); (focus rfl); (focus kernel_rfl); (focus rfl); (focus kernel_rfl))
    | (refine store_new (p := .tmp 4) (x := .tmp 22) (c' := wideArr) ?_ ?_ ?_ ?_ ?_ ?_ ?_ ?_; (focus rfl); (focus rfl); go_must ((focus (show Value.pointer (some ⟨w.heap.size + 1, 0, none⟩) = _; rw [show (w.alloc (.cells noneArr 125)).heap.size = w.heap.size + 1 by simp])); (focus rfl); (focus kernel_rfl); (focus rfl); (focus kernel_rfl)))
    | (go_at_call 91; go_must (refine (utf8_ValidRune _ r).mono ?_); rintro e w1 ⟨rfl, rfl⟩; cases hv : validRune r)
    | (go_at_call 92; have _t := tokA; (refine (runes_in _ r _ _ _ noneSpans HR1.out (by decide)).mono ?_); clear tokA _t; have tokB : True := trivial; rintro e w2 ⟨rfl, hm2⟩; cases hn : inSpans r noneSpans)
    | (go_at_call 92; have _t := tokB; go_must (refine (runes_in _ r _ _ _ wideSpans (HR2.out.keepsM (fun _ => rfl) hm2 (by simp)) (by decide)).mono ?_); clear tokB _t; rintro e w3 ⟨rfl, hm3⟩; cases hx : inSpans r wideSpans))
  all_goals
    go_ret
    refine ⟨by rw [HW.out]; simp [*], ?_⟩
    first
      | exact (hM0.trans hm2).trans hm3
      | exact hM0.trans hm2
      | exact hM0
end Go.Proofs.YtldjmacnokkjdaaDoor
