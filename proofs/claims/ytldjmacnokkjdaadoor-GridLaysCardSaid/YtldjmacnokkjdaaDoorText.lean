/- What package runes makes of characters (Encode), and package cell of a row (Text). -/
import Derived.Test.YtldjmacnokkjdaaDoorLib1
import Derived.Test.YtldjmacnokkjdaaDoorRef5M
import Derived.Laws.AppendOwnNone
namespace Go.Proofs.YtldjmacnokkjdaaDoor
open Go.RowKit
set_option linter.unusedVariables false
set_option linter.unusedSimpArgs false

def runeV (r : Int) : List Value := [.int .i32 r]
def encodeL (l : List Int) : List UInt8 := l.flatMap Lib.encodeRune
theorem encodeL_append (a b : List Int) : encodeL (a ++ b) = encodeL a ++ encodeL b := by simp [encodeL]
theorem encodeL_len (l : List Int) : (encodeL l).length ≤ 4 * l.length := by
  induction l with
  | nil => simp [encodeL]
  | cons x l ih =>
    have h4 := Lib.runeCells_le x
    rw [Lib.runeCells_length] at h4
    have e : encodeL (x :: l) = Lib.encodeRune x ++ encodeL l := by simp [encodeL]
    rw [e, List.length_append, List.length_cons]; omega
def EncRel (w : World) (l : List Int) (n : Nat) (kk : Nat) (idx : Value) (wr : World) : Prop :=
  ∃ i : Nat, idx = .int .i64 i ∧ i ≤ n ∧ Lib.IsBuilderF 112 5 w.heap.size w.heap.size (Lib.byteCells (encodeL (l.take i))) wr ∧ Below w.heap.size w wr ∧ kk + i = n

set_option maxHeartbeats 1000000 in
theorem runes_Encode (w : World) (A : Option Addr) (n cap : Nat) (l : List Int) (h : ReadsRows w A n 1 runeV l) (hsm : n ≤ 1000000) (hb : ∀ r ∈ l, -2147483648 ≤ r ∧ r ≤ 2147483647) :
    Calls Tryd.prog 65 #[.slice A n cap] w fun e w' => e = .returned (.string ⟨(encodeL l).toArray⟩) ∧ Mods [] w w' := by
  have HO := Lib.hid h
  have HLN := Lib.hid h.1
  have HB := Lib.hid hb
  clear h hb
  go_enter Tryd.func65, Tryd.ntmps65
  go_wp2
  go_loopg [8] n (EncRel w l n)
  case atStart => exact ⟨0, rfl, by omega, Lib.IsBuilderF.of (Lib.fresh_isBuilder 112 5 w), (Below.refl _ w).alloc (Nat.le_refl _) _, by omega⟩
  case round =>
    obtain ⟨i, rfl, hi, hI, hbw, hkk⟩ := hrel
    have HI := Lib.hid hI
    have HKK := Lib.hid hkk
    have hsz := hbw.size
    clear hI hkk
    by_cases hlt : i < n
    · obtain ⟨r, hr⟩ : ∃ r, l[i]? = some r := ⟨_, List.getElem?_eq_getElem (by rw [HLN.out]; exact hlt)⟩
      obtain ⟨a, rfl, c0, hc⟩ := (HO.out.keepsM (fun _ => rfl) (Mods.of_below hbw) (by simp)).row hr
      clear hc
      simp only [runeV, List.getElem?_cons_zero, Nat.zero_add, Nat.mul_one] at c0
      have hrb := HB.out r (List.mem_of_getElem? hr)
      obtain ⟨hr1, hr2⟩ := hrb
      have ht : l.take (i + 1) = l.take i ++ [r] := by rw [List.take_add_one, hr]; rfl
      have HT := Lib.hid ht
      clear ht hr
      have hlen := encodeL_len (l.take i)
      have hk2 := HKK.out
      have hlt2 : (l.take i).length ≤ i := by simp; omega
      go_wp2_with (go_at_call 82; go_must (refine (Tryd.Builder_WriteRune_k w.heap.size w.heap.size _ r hr1 hr2 _ HI.out (by rw [Lib.byteCells_length]; omega) hsz).mono ?_); rintro e w1 ⟨rfl, hI1, hbw1, _⟩; have HI1 := Lib.hid hI1; clear hI1)
      go_roundg (gk - 1)
      case measure => omega
      case rel => exact ⟨i + 1, by go_num, by omega, by rw [HT.out, encodeL_append, Lib.byteCells_append]; have := HI1.out; rw [← Lib.byteCells_encodeRune] at this; simp only [encodeL, List.flatMap_cons, List.flatMap_nil, List.append_nil] at this ⊢; exact Or.inr this, hbw.trans hbw1, by omega⟩
    · have hin : i = n := by omega
      have HE : Hid (l.take i = l) := Lib.hid (by rw [List.take_of_length_le]; rw [HLN.out]; omega)
      go_wp2_with (go_at_call 83; go_must (refine (Tryd.Builder_String_any_k w.heap.size w.heap.size (encodeL (l.take i)) _ HI.out hsz).mono ?_); rintro e w1 ⟨rfl, _, hbw1, _⟩)
      go_ret
      have he := HE.out
      rw [hin] at he
      exact ⟨by show Ending.returned (Value.string { data := (encodeL (List.take n l)).toArray }) = _; rw [he], .of_below (hbw.trans hbw1)⟩

def textL (row : List Cell) : List Int := row.flatMap fun c => if c.ok then (if c.tail then [] else [c.r]) else [63]
def textB (row : List Cell) : List UInt8 := Lib.trimRightB (encodeL (textL row)) 32
theorem textL_len (row : List Cell) : (textL row).length ≤ row.length := by
  induction row with
  | nil => simp [textL]
  | cons c row ih =>
    have e : textL (c :: row) = (if c.ok then (if c.tail then [] else [c.r]) else [63]) ++ textL row := by simp [textL]
    rw [e, List.length_append, List.length_cons]
    split
    · split <;> simp <;> omega
    · simp; omega
theorem textL_snoc (row : List Cell) (c : Cell) : textL (row ++ [c]) = textL row ++ (if c.ok then (if c.tail then [] else [c.r]) else [63]) := by simp [textL]
theorem runeV_len (l : List Int) : (l.flatMap runeV).length = l.length := by
  induction l with
  | nil => rfl
  | cons c l ih => rw [List.flatMap_cons, List.length_append, ih]; simp [runeV]; omega
theorem runeV_one (l : List Int) : ∀ u ∈ l.flatMap runeV, u.oneCell' = true := by
  intro u hu
  obtain ⟨c, _, hc⟩ := List.mem_flatMap.1 hu
  simp only [runeV, List.mem_cons, List.not_mem_nil, or_false] at hc
  rcases hc with rfl; rfl
def TextRel (w : World) (row : List Cell) (n : Nat) (kk : Nat) (out idx : Value) (wr : World) : Prop :=
  ∃ i : Nat, idx = .int .i64 i ∧ i ≤ n ∧ wr.ownsRow w.heap.size 21 1 out (textL (row.take i)).length ((textL (row.take i)).flatMap runeV) ∧ Mods [] w wr ∧ kk + i = n
/-- A row of the call's own, of elements of one cell each, as one that can be read. -/
theorem own_reads1 {α : Type} {rd : α → List Value} (hrd : ∀ o, (rd o).length = 1) {w : World} {base : Nat} {e : TypeId} {A : Option Addr} {n c : Nat} {row : List α} (h : w.ownsRow base e 1 (.slice A n c) n (row.flatMap rd)) (hl : row.length = n) (hn : n ≤ maxLen) :
    ReadsRows w A n 1 rd row ∧ n ≤ c ∧ (A = none → c = 0) ∧ ∀ a, A = some a → base ≤ a.block ∧ a.block < w.heap.size := by
  rcases own_slice h with ⟨e1, rfl⟩ | ⟨g, cap, e1, h1, h2⟩
  · simp at e1
    obtain ⟨rfl, rfl⟩ := e1
    have : row = [] := List.eq_nil_of_length_eq_zero hl
    subst this
    exact ⟨⟨rfl, hn, fun i o h => by simp at h⟩, Nat.le_refl _, fun _ => rfl, fun a ha => by cases ha⟩
  · simp at e1
    obtain ⟨rfl, rfl⟩ := e1
    refine ⟨⟨hl, hn, fun i o hi => ⟨_, rfl, fun j hj => ?_⟩⟩, h1, (by simp), fun a ha => ?_⟩
    · have e2 : ((Addr.mk g 0 none).add (i * 1)).add j = ⟨g, i * 1 + j, none⟩ := by
        unfold Addr.add
        simp
        split <;> simp_all <;> split <;> simp_all
      have hf := flat_get (rd := rd) (size := 1) hrd hi hj
      obtain ⟨u, hu⟩ : ∃ u, (rd o)[j]? = some u := ⟨_, List.getElem?_eq_getElem (by rw [hrd]; exact hj)⟩
      rw [e2, own_cells h _ (hf.trans hu), hu]
    · cases ha
      exact ⟨own_base h g rfl, own_lt h g rfl⟩

set_option maxHeartbeats 2000000 in
theorem cell_Text (w : World) (A : Option Addr) (n cap : Nat) (row : List Cell) (h : ReadsRows w A n 4 Cell.vals row) (hsm : n ≤ 1000000) (hb : ∀ c ∈ row, -2147483648 ≤ c.r ∧ c.r ≤ 2147483647) :
    Calls Tryd.prog 32 #[.slice A n cap] w fun e w' => e = .returned (.string ⟨(textB row).toArray⟩) ∧ Mods [] w w' := by
  have HO := Lib.hid h
  have HLN := Lib.hid h.1
  have HB := Lib.hid hb
  clear h hb
  go_enter Tryd.func32, Tryd.ntmps32
  go_wp2
  go_loopg [3, 8] n (TextRel w row n)
  case atStart => exact ⟨0, rfl, by omega, own_nil _ _ _ _, Mods.refl _ _, by omega⟩
  case round =>
    obtain ⟨i, rfl, hi, hown, hM, hkk⟩ := hrel
    have HOWN := Lib.hid hown
    have HKK := Lib.hid hkk
    have hsz := hM.size
    clear hown hkk
    by_cases hlt : i < n
    · obtain ⟨c, hc⟩ : ∃ c, row[i]? = some c := ⟨_, List.getElem?_eq_getElem (by rw [HLN.out]; exact hlt)⟩
      obtain ⟨a, rfl, c0, hcs⟩ := (HO.out.keepsM (fun _ => rfl) hM (by simp)).row hc
      have c1 := hcs 0 (by omega)
      have c2 := hcs 1 (by omega)
      have c3 := hcs 2 (by omega)
      clear hcs
      have ht : textL (row.take (i + 1)) = textL (row.take i) ++ (if c.ok then (if c.tail then [] else [c.r]) else [63]) := by rw [← textL_snoc]; congr 1; rw [List.take_add_one, hc]; rfl
      have hl1 := textL_len (row.take i)
      have hl2 : (row.take i).length ≤ i := by simp; omega
      have K0 : ∀ w, Calls Tryd.prog 62 #[c.val] w fun e w' => e = .returned (.bool c.ok) ∧ Mods [] w w' := fun w => cell_Check w c
      have T0 : ∀ w, Calls Tryd.prog 63 #[c.val] w fun e w' => e = .returned (.bool c.tail) ∧ Mods [] w w' := fun w => cell_tail w c
      have hX := Mods.refl [] (wr.alloc (.cells c.vals.toArray 27))
      have hM1 := hM.alloc (.cells c.vals.toArray 27)
      have HO1 := Lib.hid (HOWN.out.alloc (.cells c.vals.toArray 27))
      have hk2 := HKK.out
      clear hc
      obtain ⟨r, fg, bg, at'⟩ := c
      have C := kept_cells hX
      simp only [Cell.vals, Cell.val] at c0 c1 c2 c3 hX C hM1 HO1 K0 T0 ht
      have K1 := Lib.hid K0
      have T1 := Lib.hid T0
      clear K0 T0 HOWN
      cases hk : Cell.ok ⟨r, fg, bg, at'⟩ <;> cases htl : Cell.tail ⟨r, fg, bg, at'⟩
      all_goals
        rw [hk, htl] at ht
        rw [hk] at K1
        rw [htl] at T1
        have HT := Lib.hid ht
        clear hk htl ht
        simp only [Bool.false_eq_true, if_false, if_true] at HT
        go_wp2_with (first
          | (go_at_call 62; go_must (refine (K1.out _).mono ?_); rintro e w1 ⟨rfl, hm⟩; have hY := hX.trans hm; clear hX hm; have hX := hY; clear hY; have C := kept_cells hX)
          | (go_at_call 63; go_must (refine (T1.out _).mono ?_); rintro e w1 ⟨rfl, hm⟩; have hY := hX.trans hm; clear hX hm; have hX := hY; clear hY; have C := kept_cells hX)
          | (at_builtin; have hXs := hX.size; simp only [World.size_alloc] at hXs; refine append_one (w := w) (S := []) w.heap.size rfl (.tmp 16) (.tmp 17) 88 21 (.int .i32 0) 1 4 rfl Tryd.underlying88 (by kernel_rfl) rfl (by decide) (by decide) _ (textL (row.take i)).length _ [.int .i32 63] rfl rfl rfl (by simp [Value.oneCell']) (own_mods HO1.out hX (by simp)) (hM1.trans hX) (by omega) (Nat.le_refl _) (by omega) ?_; intro v1 w2 hown2 hM2 _ _; have HOWN2 := Lib.hid hown2; clear hown2)
          | (at_builtin; have hXs := hX.size; simp only [World.size_alloc] at hXs; refine append_one (w := w) (S := []) w.heap.size rfl (.tmp 23) (.tmp 26) 88 21 (.int .i32 0) 1 4 rfl Tryd.underlying88 (by kernel_rfl) rfl (by decide) (by decide) _ (textL (row.take i)).length _ [.int .i32 r] rfl rfl rfl (by simp [Value.oneCell']) (own_mods HO1.out hX (by simp)) (hM1.trans hX) (by omega) (Nat.le_refl _) (by omega) ?_; intro v1 w2 hown2 hM2 _ _; have HOWN2 := Lib.hid hown2; clear hown2))
        go_roundg (gk - 1)
        case measure => omega
        case rel => first
          | exact ⟨i + 1, by go_num, by omega, by rw [HT.out, List.length_append, List.flatMap_append]; exact HOWN2.out, hM2, by omega⟩
          | exact ⟨i + 1, by go_num, by omega, by rw [HT.out, List.append_nil]; exact own_mods HO1.out hX (by simp), hM1.trans hX, by omega⟩
    · have hin : i = n := by omega
      subst hin
      have he : row.take i = row := by rw [List.take_of_length_le]; rw [HLN.out]; omega
      rw [he] at HOWN
      have hl1 := textL_len row
      rw [HLN.out] at hl1
      obtain ⟨A1, c1, rfl, q1, q2, q3⟩ := own_slice' HOWN.out
      obtain ⟨r1, r2, r3, r4⟩ := own_reads1 (rd := runeV) (fun _ => rfl) HOWN.out rfl (by unfold maxLen; omega)
      have hrb : ∀ r ∈ textL row, -2147483648 ≤ r ∧ r ≤ 2147483647 := by
        intro r hr
        obtain ⟨c, hc, hm⟩ := List.mem_flatMap.1 hr
        split at hm
        · split at hm
          · simp at hm
          · simp at hm; subst hm; exact HB.out c hc
        · simp at hm; omega
      have HRB := Lib.hid hrb
      have HR1 := Lib.hid r1
      have hl4 := encodeL_len (textL row)
      clear r1 r3 r4 hrb he q3
      go_wp2_with (first
        | (go_at_call 65; go_must (refine (runes_Encode _ A1 _ c1 (textL row) HR1.out (by omega) HRB.out).mono ?_); rintro e w1 ⟨rfl, hm⟩)
        | (go_at_call 64; go_must (refine (Tryd.strings_TrimRight_one ⟨(encodeL (textL row)).toArray⟩ 32 (by decide) _ (by rw [Lib.size_mk]; omega)).mono ?_); rintro e w2 ⟨rfl, rfl⟩))
      go_ret
      exact ⟨rfl, hM.trans hm⟩
end Go.Proofs.YtldjmacnokkjdaaDoor
