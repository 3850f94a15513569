/- A part of the library on package lyceum: Text, CBlk, GridF. -/
import Derived.Test.YtldjmacnokkjdaaDoorLib1
import Derived.Test.YtldjmacnokkjdaaDoorGb
import Derived.Laws.AppendOwnNone
import Derived.Laws.CopyRow
import Derived.Laws.IdiomCopy
import Derived.Deep.MidRow
import Derived.Deep.RegionLaw
import Derived.OwnWalkIn
/- What package runes makes of characters (Encode), and package cell of a row (Text). -/
namespace Go.Proofs.YtldjmacnokkjdaaDoor
open Go.RowKit
set_option linter.unusedVariables false
set_option linter.unusedSimpArgs false

def runeV (r : Int) : List Value := [.int .i32 r]
def encodeL (l : List Int) : List UInt8 := l.flatMap Lib.encodeRune
theorem encodeL_append (a b : List Int) : encodeL (a ++ b) = encodeL a ++ encodeL b := by simp [encodeL]
theorem encodeL_len (l : List Int) : (encodeL l).length ≤ 4 * l.length := by
  induction l with
  | nil => simp [encodeL]
  | cons x l ih =>
    have h4 := Lib.runeCells_le x
    rw [Lib.runeCells_length] at h4
    have e : encodeL (x :: l) = Lib.encodeRune x ++ encodeL l := by simp [encodeL]
    rw [e, List.length_append, List.length_cons]; omega
def EncRel (w : World) (l : List Int) (n : Nat) (kk : Nat) (idx : Value) (wr : World) : Prop :=
  ∃ i : Nat, idx = .int .i64 i ∧ i ≤ n ∧ Lib.IsBuilderF 112 5 w.heap.size w.heap.size (Lib.byteCells (encodeL (l.take i))) wr ∧ Below w.heap.size w wr ∧ kk + i = n

set_option maxHeartbeats 1000000 in
theorem runes_Encode (w : World) (A : Option Addr) (n cap : Nat) (l : List Int) (h : ReadsRows w A n 1 runeV l) (hsm : n ≤ 1000000) (hb : ∀ r ∈ l, -2147483648 ≤ r ∧ r ≤ 2147483647) :
    Calls Tryd.prog 65 #[.slice A n cap] w fun e w' => e = .returned (.string ⟨(encodeL l).toArray⟩) ∧ Mods [] w w' := by
  have HO := Lib.hid h
  have HLN := Lib.hid h.1
  have HB := Lib.hid hb
  clear h hb
  go_enter Tryd.func65, Tryd.ntmps65
  go_wp2
  go_loopg [8] n (EncRel w l n)
  case atStart => exact ⟨0, rfl, by omega, Lib.IsBuilderF.of (Lib.fresh_isBuilder 112 5 w), (Below.refl _ w).alloc (Nat.le_refl _) _, by omega⟩
  case round =>
    obtain ⟨i, rfl, hi, hI, hbw, hkk⟩ := hrel
    have HI := Lib.hid hI
    have HKK := Lib.hid hkk
    have hsz := hbw.size
    clear hI hkk
    by_cases hlt : i < n
    · obtain ⟨r, hr⟩ : ∃ r, l[i]? = some r := ⟨_, List.getElem?_eq_getElem (by rw [HLN.out]; exact hlt)⟩
      obtain ⟨a, rfl, c0, hc⟩ := (HO.out.keepsM (fun _ => rfl) (Mods.of_below hbw) (by simp)).row hr
      clear hc
      simp only [runeV, List.getElem?_cons_zero, Nat.zero_add, Nat.mul_one] at c0
      have hrb := HB.out r (List.mem_of_getElem? hr)
      obtain ⟨hr1, hr2⟩ := hrb
      have ht : l.take (i + 1) = l.take i ++ [r] := by rw [List.take_add_one, hr]; rfl
      have HT := Lib.hid ht
      clear ht hr
      have hlen := encodeL_len (l.take i)
      have hk2 := HKK.out
      have hlt2 : (l.take i).length ≤ i := by simp; omega
      go_wp2_with (go_at_call 82; go_must (refine (Tryd.Builder_WriteRune_k w.heap.size w.heap.size _ r hr1 hr2 _ HI.out (by rw [Lib.byteCells_length]; omega) hsz).mono ?_); rintro e w1 ⟨rfl, hI1, hbw1, _⟩; have HI1 := Lib.hid hI1; clear hI1)
      go_roundg (gk - 1)
      case measure => omega
      case rel => exact ⟨i + 1, by go_num, by omega, by rw [HT.out, encodeL_append, Lib.byteCells_append]; have := HI1.out; rw [← Lib.byteCells_encodeRune] at this; simp only [encodeL, List.flatMap_cons, List.flatMap_nil, List.append_nil] at this ⊢; exact Or.inr this, hbw.trans hbw1, by omega⟩
    · have hin : i = n := by omega
      have HE : Hid (l.take i = l) := Lib.hid (by rw [List.take_of_length_le]; rw [HLN.out]; omega)
      go_wp2_with (go_at_call 83; go_must (refine (Tryd.Builder_String_any_k w.heap.size w.heap.size (encodeL (l.take i)) _ HI.out hsz).mono ?_); rintro e w1 ⟨rfl, _, hbw1, _⟩)
      go_ret
      have he := HE.out
      rw [hin] at he
      exact ⟨by show Ending.returned (Value.string { data := (encodeL (List.take n l)).toArray }) = _; rw [he], .of_below (hbw.trans hbw1)⟩

def textL (row : List Cell) : List Int := row.flatMap fun c => if c.ok then (if c.tail then [] else [c.r]) else [63]
def textB (row : List Cell) : List UInt8 := Lib.trimRightB (encodeL (textL row)) 32
theorem textL_len (row : List Cell) : (textL row).length ≤ row.length := by
  induction row with
  | nil => simp [textL]
  | cons c row ih =>
    have e : textL (c :: row) = (if c.ok then (if c.tail then [] else [c.r]) else [63]) ++ textL row := by simp [textL]
    rw [e, List.length_append, List.length_cons]
    split
    · split <;> simp <;> omega
    · simp; omega
theorem textL_snoc (row : List Cell) (c : Cell) : textL (row ++ [c]) = textL row ++ (if c.ok then (if c.tail then [] else [c.r]) else [63]) := by simp [textL]
theorem runeV_len (l : List Int) : (l.flatMap runeV).length = l.length := by
  induction l with
  | nil => rfl
  | cons c l ih => rw [List.flatMap_cons, List.length_append, ih]; simp [runeV]; omega
theorem runeV_one (l : List Int) : ∀ u ∈ l.flatMap runeV, u.oneCell' = true := by
  intro u hu
  obtain ⟨c, _, hc⟩ := List.mem_flatMap.1 hu
  simp only [runeV, List.mem_cons, List.not_mem_nil, or_false] at hc
  rcases hc with rfl; rfl
def TextRel (w : World) (row : List Cell) (n : Nat) (kk : Nat) (out idx : Value) (wr : World) : Prop :=
  ∃ i : Nat, idx = .int .i64 i ∧ i ≤ n ∧ wr.ownsRow w.heap.size 21 1 out (textL (row.take i)).length ((textL (row.take i)).flatMap runeV) ∧ Mods [] w wr ∧ kk + i = n
/-- A row of the call's own, of elements of one cell each, as one that can be read. -/
theorem own_reads1 {α : Type} {rd : α → List Value} (hrd : ∀ o, (rd o).length = 1) {w : World} {base : Nat} {e : TypeId} {A : Option Addr} {n c : Nat} {row : List α} (h : w.ownsRow base e 1 (.slice A n c) n (row.flatMap rd)) (hl : row.length = n) (hn : n ≤ maxLen) :
    ReadsRows w A n 1 rd row ∧ n ≤ c ∧ (A = none → c = 0) ∧ ∀ a, A = some a → base ≤ a.block ∧ a.block < w.heap.size := by
  rcases own_slice h with ⟨e1, rfl⟩ | ⟨g, cap, e1, h1, h2⟩
  · simp at e1
    obtain ⟨rfl, rfl⟩ := e1
    have : row = [] := List.eq_nil_of_length_eq_zero hl
    subst this
    exact ⟨⟨rfl, hn, fun i o h => by simp at h⟩, Nat.le_refl _, fun _ => rfl, fun a ha => by cases ha⟩
  · simp at e1
    obtain ⟨rfl, rfl⟩ := e1
    refine ⟨⟨hl, hn, fun i o hi => ⟨_, rfl, fun j hj => ?_⟩⟩, h1, (by simp), fun a ha => ?_⟩
    · have e2 : ((Addr.mk g 0 none).add (i * 1)).add j = ⟨g, i * 1 + j, none⟩ := by
        unfold Addr.add
        simp
        split <;> simp_all <;> split <;> simp_all
      have hf := flat_get (rd := rd) (size := 1) hrd hi hj
      obtain ⟨u, hu⟩ : ∃ u, (rd o)[j]? = some u := ⟨_, List.getElem?_eq_getElem (by rw [hrd]; exact hj)⟩
      rw [e2, own_cells h _ (hf.trans hu), hu]
    · cases ha
      exact ⟨own_base h g rfl, own_lt h g rfl⟩

set_option maxHeartbeats 2000000 in
theorem cell_Text (w : World) (A : Option Addr) (n cap : Nat) (row : List Cell) (h : ReadsRows w A n 4 Cell.vals row) (hsm : n ≤ 1000000) (hb : ∀ c ∈ row, -2147483648 ≤ c.r ∧ c.r ≤ 2147483647) :
    Calls Tryd.prog 32 #[.slice A n cap] w fun e w' => e = .returned (.string ⟨(textB row).toArray⟩) ∧ Mods [] w w' := by
  have HO := Lib.hid h
  have HLN := Lib.hid h.1
  have HB := Lib.hid hb
  clear h hb
  go_enter Tryd.func32, Tryd.ntmps32
  go_wp2
  go_loopg [3, 8] n (TextRel w row n)
  case atStart => exact ⟨0, rfl, by omega, own_nil _ _ _ _, Mods.refl _ _, by omega⟩
  case round =>
    obtain ⟨i, rfl, hi, hown, hM, hkk⟩ := hrel
    have HOWN := Lib.hid hown
    have HKK := Lib.hid hkk
    have hsz := hM.size
    clear hown hkk
    by_cases hlt : i < n
    · obtain ⟨c, hc⟩ : ∃ c, row[i]? = some c := ⟨_, List.getElem?_eq_getElem (by rw [HLN.out]; exact hlt)⟩
      obtain ⟨a, rfl, c0, hcs⟩ := (HO.out.keepsM (fun _ => rfl) hM (by simp)).row hc
      have c1 := hcs 0 (by omega)
      have c2 := hcs 1 (by omega)
      have c3 := hcs 2 (by omega)
      clear hcs
      have ht : textL (row.take (i + 1)) = textL (row.take i) ++ (if c.ok then (if c.tail then [] else [c.r]) else [63]) := by rw [← textL_snoc]; congr 1; rw [List.take_add_one, hc]; rfl
      have hl1 := textL_len (row.take i)
      have hl2 : (row.take i).length ≤ i := by simp; omega
      have K0 : ∀ w, Calls Tryd.prog 62 #[c.val] w fun e w' => e = .returned (.bool c.ok) ∧ Mods [] w w' := fun w => cell_Check w c
      have T0 : ∀ w, Calls Tryd.prog 63 #[c.val] w fun e w' => e = .returned (.bool c.tail) ∧ Mods [] w w' := fun w => cell_tail w c
      have hX := Mods.refl [] (wr.alloc (.cells c.vals.toArray 27))
      have hM1 := hM.alloc (.cells c.vals.toArray 27)
      have HO1 := Lib.hid (HOWN.out.alloc (.cells c.vals.toArray 27))
      have hk2 := HKK.out
      clear hc
      obtain ⟨r, fg, bg, at'⟩ := c
      have C := kept_cells hX
      simp only [Cell.vals, Cell.val] at c0 c1 c2 c3 hX C hM1 HO1 K0 T0 ht
      have K1 := Lib.hid K0
      have T1 := Lib.hid T0
      clear K0 T0 HOWN
      cases hk : Cell.ok ⟨r, fg, bg, at'⟩ <;> cases htl : Cell.tail ⟨r, fg, bg, at'⟩
      all_goals
        rw [hk, htl] at ht
        rw [hk] at K1
        rw [htl] at T1
        have HT := Lib.hid ht
        clear hk htl ht
        simp only [Bool.false_eq_true, if_false, if_true] at HT
        go_wp2_with (first
          | (go_at_call 62; go_must (refine (K1.out _).mono ?_); rintro e w1 ⟨rfl, hm⟩; have hY := hX.trans hm; clear hX hm; have hX := hY; clear hY; have C := kept_cells hX)
          | (go_at_call 63; go_must (refine (T1.out _).mono ?_); rintro e w1 ⟨rfl, hm⟩; have hY := hX.trans hm; clear hX hm; have hX := hY; clear hY; have C := kept_cells hX)
          | (at_builtin; have hXs := hX.size; simp only [World.size_alloc] at hXs; refine append_one (w := w) (S := []) w.heap.size rfl (.tmp 16) (.tmp 17) 88 21 (.int .i32 0) 1 4 rfl Tryd.underlying88 (by kernel_rfl) rfl (by decide) (by decide) _ (textL (row.take i)).length _ [.int .i32 63] rfl rfl rfl (by simp [Value.oneCell']) (own_mods HO1.out hX (by simp)) (hM1.trans hX) (by omega) (Nat.le_refl _) (by omega) ?_; intro v1 w2 hown2 hM2 _ _; have HOWN2 := Lib.hid hown2; clear hown2)
          | (at_builtin; have hXs := hX.size; simp only [World.size_alloc] at hXs; refine append_one (w := w) (S := []) w.heap.size rfl (.tmp 23) (.tmp 26) 88 21 (.int .i32 0) 1 4 rfl Tryd.underlying88 (by kernel_rfl) rfl (by decide) (by decide) _ (textL (row.take i)).length _ [.int .i32 r] rfl rfl rfl (by simp [Value.oneCell']) (own_mods HO1.out hX (by simp)) (hM1.trans hX) (by omega) (Nat.le_refl _) (by omega) ?_; intro v1 w2 hown2 hM2 _ _; have HOWN2 := Lib.hid hown2; clear hown2))
        go_roundg (gk - 1)
        case measure => omega
        case rel => first
          | exact ⟨i + 1, by go_num, by omega, by rw [HT.out, List.length_append, List.flatMap_append]; exact HOWN2.out, hM2, by omega⟩
          | exact ⟨i + 1, by go_num, by omega, by rw [HT.out, List.append_nil]; exact own_mods HO1.out hX (by simp), hM1.trans hX, by omega⟩
    · have hin : i = n := by omega
      subst hin
      have he : row.take i = row := by rw [List.take_of_length_le]; rw [HLN.out]; omega
      rw [he] at HOWN
      have hl1 := textL_len row
      rw [HLN.out] at hl1
      obtain ⟨A1, c1, rfl, q1, q2, q3⟩ := own_slice' HOWN.out
      obtain ⟨r1, r2, r3, r4⟩ := own_reads1 (rd := runeV) (fun _ => rfl) HOWN.out rfl (by unfold maxLen; omega)
      have hrb : ∀ r ∈ textL row, -2147483648 ≤ r ∧ r ≤ 2147483647 := by
        intro r hr
        obtain ⟨c, hc, hm⟩ := List.mem_flatMap.1 hr
        split at hm
        · split at hm
          · simp at hm
          · simp at hm; subst hm; exact HB.out c hc
        · simp at hm; omega
      have HRB := Lib.hid hrb
      have HR1 := Lib.hid r1
      have hl4 := encodeL_len (textL row)
      clear r1 r3 r4 hrb he q3
      go_wp2_with (first
        | (go_at_call 65; go_must (refine (runes_Encode _ A1 _ c1 (textL row) HR1.out (by omega) HRB.out).mono ?_); rintro e w1 ⟨rfl, hm⟩)
        | (go_at_call 64; go_must (refine (Tryd.strings_TrimRight_one ⟨(encodeL (textL row)).toArray⟩ 32 (by decide) _ (by rw [Lib.size_mk]; omega)).mono ?_); rintro e w2 ⟨rfl, rfl⟩))
      go_ret
      exact ⟨rfl, hM.trans hm⟩
end Go.Proofs.YtldjmacnokkjdaaDoor
/- Rows of cells that lie in a block from its beginning: what they read as, what a copy and a store make of them. -/
namespace Go.Proofs.YtldjmacnokkjdaaDoor
open Go.RowKit
set_option linter.unusedVariables false
set_option linter.unusedSimpArgs false

def CellB (W : World) (g n cap : Nat) (L : List Cell) : Prop :=
  ∃ cur : Array Value, W.heap[g]? = some (.cells cur 27 (0, 0)) ∧ L.length = n ∧ n ≤ cap ∧ cap ≤ maxLen ∧ cur.size = cap * 4 ∧ cur.toList.take (n * 4) = L.flatMap Cell.vals
theorem CellB.own {W : World} {g n cap base : Nat} {L : List Cell} (h : CellB W g n cap L) (hb : base ≤ g) : W.ownsRow base 27 4 (.slice (some ⟨g, 0, none⟩) n cap) n (L.flatMap Cell.vals) := by
  obtain ⟨cur, h1, h2, h3, h4, h5, h6⟩ := h
  exact ⟨by rw [vals_len, h2], .inr ⟨g, cap, cur, rfl, hb, h1, h3, h4, h5, h6⟩⟩
theorem CellB.of_own {W : World} {g n cap base : Nat} {L : List Cell} (h : W.ownsRow base 27 4 (.slice (some ⟨g, 0, none⟩) n cap) n (L.flatMap Cell.vals)) (hl : L.length = n) : CellB W g n cap L ∧ base ≤ g := by
  obtain ⟨_, h2⟩ := h
  rcases h2 with ⟨h2, _⟩ | ⟨g', cap', cur, hv, hb, h1, h3, h4, h5, h6⟩
  · cases h2
  · simp only [Value.slice.injEq, Option.some.injEq, Addr.mk.injEq, true_and, and_true] at hv
    obtain ⟨rfl, rfl⟩ := hv
    exact ⟨⟨cur, h1, hl, h3, h4, h5, h6⟩, hb⟩
theorem CellB.len {W : World} {g n cap : Nat} {L : List Cell} (h : CellB W g n cap L) : L.length = n := by obtain ⟨cur, h1, h2, _⟩ := h; exact h2
theorem CellB.lt {W : World} {g n cap : Nat} {L : List Cell} (h : CellB W g n cap L) : g < W.heap.size := by obtain ⟨cur, h1, _⟩ := h; exact heap_lt h1
theorem CellB.keeps {W W' : World} {S : List Nat} {g n cap : Nat} {L : List Cell} (h : CellB W g n cap L) (hm : Mods S W W') (hg : g ∉ S) : CellB W' g n cap L := by
  obtain ⟨cur, h1, r⟩ := h
  exact ⟨cur, hm.at h1 hg, r⟩
theorem CellB.cell {W : World} {g n cap : Nat} {L : List Cell} (h : CellB W g n cap L) {i j : Nat} {c : Cell} (hi : L[i]? = some c) (hj : j < 4) : W.cell? ⟨g, i * 4 + j, none⟩ = c.vals[j]? := by
  obtain ⟨cur, h1, h2, h3, h4, h5, h6⟩ := h
  have hf := flat_get (rd := Cell.vals) (size := 4) (fun _ => rfl) hi hj
  have hlt : i < n := by rw [← h2]; exact (List.getElem?_eq_some_iff.1 hi).1
  rw [blk_cell h1, ← hf, ← h6, List.getElem?_take, if_pos (by omega)]
  simp
theorem CellB.frozen {W : World} {g n cap : Nat} {L : List Cell} (h : CellB W g n cap L) (i : Nat) : W.frozen? ⟨g, i, none⟩ = false := by
  obtain ⟨cur, h1, _⟩ := h
  exact blk_frozen h1 i
theorem addr_at (g o j : Nat) : (Addr.mk g o none).add j = ⟨g, o + j, none⟩ := by unfold Addr.add; split <;> simp_all
theorem CellB.reads_at {W : World} {g n cap : Nat} {L : List Cell} (h : CellB W g n cap L) (o k : Nat) (ho : o + k ≤ n) : ReadsRows W (some ⟨g, o * 4, none⟩) k 4 Cell.vals ((L.drop o).take k) := by
  obtain ⟨cur, h1, h2, h3, h4, h5, h6⟩ := id h
  refine ⟨by simp; omega, by omega, fun i c hi => ⟨_, rfl, fun j hj => ?_⟩⟩
  rw [List.getElem?_take] at hi
  split at hi
  · rw [List.getElem?_drop] at hi
    rw [addr_at, addr_at, ← h.cell hi hj]
    congr 2; omega
  · cases hi
theorem CellB.reads {W : World} {g n cap : Nat} {L : List Cell} (h : CellB W g n cap L) : ReadsRows W (some ⟨g, 0, none⟩) n 4 Cell.vals L := by
  have := h.reads_at 0 n (by omega)
  have hl := h.len
  simpa [List.take_of_length_le, hl] using this
/-- A part of what can be read. -/
theorem ReadsRows.cut {w : World} {a : Addr} {n : Nat} {L : List Cell} (h : ReadsRows w (some a) n 4 Cell.vals L) (o k : Nat) (ho : o + k ≤ n) : ReadsRows w (some (a.add (o * 4))) k 4 Cell.vals ((L.drop o).take k) := by
  have hl := h.1
  refine ⟨by simp; omega, by have := h.2.1; omega, fun i c hi => ⟨_, rfl, fun j hj => ?_⟩⟩
  rw [List.getElem?_take] at hi
  split at hi
  · rw [List.getElem?_drop] at hi
    obtain ⟨a', ha, hc⟩ := h.2.2 _ _ hi
    cases ha
    rw [← hc j hj]
    congr 1
    unfold Addr.add
    split <;> split <;> split <;> (try split) <;> (try split) <;> simp_all <;> omega
  · cases hi
theorem ReadsRows.first {w : World} {A : Option Addr} {n : Nat} {L : List Cell} (h : ReadsRows w A n 4 Cell.vals L) (k : Nat) (hk : k ≤ n) : ReadsRows w A k 4 Cell.vals (L.take k) := by
  have hl := h.1
  refine ⟨by simp; omega, by have := h.2.1; omega, fun i c hi => ?_⟩
  rw [List.getElem?_take] at hi
  split at hi
  · exact h.2.2 _ _ hi
  · cases hi
theorem flat_take (L : List Cell) (k : Nat) : (L.flatMap Cell.vals).take (k * 4) = (L.take k).flatMap Cell.vals := by
  induction L generalizing k with
  | nil => simp
  | cons c L ih =>
    cases k with
    | zero => simp
    | succ k =>
      rw [List.flatMap_cons, List.take_succ_cons, List.flatMap_cons, ← ih k]
      have : (k + 1) * 4 = (Cell.vals c).length + k * 4 := by simp [Cell.vals]; omega
      rw [this, List.take_length_add_append]
theorem flat_drop (L : List Cell) (k : Nat) : (L.flatMap Cell.vals).drop (k * 4) = (L.drop k).flatMap Cell.vals := by
  induction L generalizing k with
  | nil => simp
  | cons c L ih =>
    cases k with
    | zero => simp
    | succ k =>
      rw [List.flatMap_cons, List.drop_succ_cons, ← ih k]
      have : (k + 1) * 4 = (Cell.vals c).length + k * 4 := by simp [Cell.vals]; omega
      rw [this, List.drop_length_add_append]
theorem Mods.setRow {S : List Nat} {a w : World} (h : Mods S a w) (g : Nat) (cs : Array Value) (hg : g ∈ S ∨ a.heap.size ≤ g) : Mods S a (w.setRow g cs) :=
  h.then (S' := [g]) ⟨rfl, rfl, rfl, by simp [World.setRow], fun k _ hm => setRow_other w g k cs (by simpa using hm)⟩ (by simpa using hg)
/-- Cells laid over the row from a place on. -/
theorem CellB.setRow {W : World} {g n cap : Nat} {L : List Cell} (h : CellB W g n cap L) (o : Nat) (S : List Cell) (ho : o + S.length ≤ n) {cur : Array Value} (hc : W.heap[g]? = some (.cells cur 27 (0, 0))) :
    CellB (W.setRow g (cur.toList.take (o * 4) ++ S.flatMap Cell.vals ++ cur.toList.drop (o * 4 + (S.flatMap Cell.vals).length)).toArray) g n cap (L.take o ++ S ++ L.drop (o + S.length)) := by
  obtain ⟨cur', h1, h2, h3, h4, h5, h6⟩ := h
  rw [hc] at h1
  cases h1
  have hs : cur.toList.length = cap * 4 := by simpa using h5
  have hvl := vals_len S
  have hL : (L.take o ++ S ++ L.drop (o + S.length)).flatMap Cell.vals = (L.take o).flatMap Cell.vals ++ S.flatMap Cell.vals ++ (L.drop (o + S.length)).flatMap Cell.vals := by simp
  generalize S.flatMap Cell.vals = V at *
  refine ⟨_, setRow_heap W g _ _ _ _ hc, by simp; omega, h3, h4, by simp [hvl]; omega, ?_⟩
  rw [hL, hvl]
  have e1 : cur.toList.take (o * 4) = (L.take o).flatMap Cell.vals := by
    rw [← flat_take, ← h6, List.take_take]; congr 1; omega
  have e2 : (cur.toList.drop (o * 4 + S.length * 4)).take ((n - (o + S.length)) * 4) = (L.drop (o + S.length)).flatMap Cell.vals := by
    rw [← flat_drop, ← h6, List.drop_take]
    congr 1
    · omega
    · congr 1; omega
  show List.take (n * 4) (_ ++ _ ++ _) = _
  rw [← e1, ← e2, List.take_append, List.take_of_length_le (by simp [hvl]; omega)]
  congr 2
  simp [hvl]; omega
theorem setCells_row {P : Program} {w : World} {g o : Nat} {cur : Array Value} {t : TypeId} {vs : List Value} (hg : w.heap[g]? = some (.cells cur t (0, 0))) (ho : o + vs.length ≤ cur.size) (h1 : ∀ v ∈ vs, v.oneCell' = true) :
    w.setCells g o vs = w.setRow g (cur.toList.take o ++ vs ++ cur.toList.drop (o + vs.length)).toArray := by
  have e1 := run_storeCells_cells (P := P) g o vs 0 w (fun j hj => by simp [World.cell?, hg]; omega) (fun j hj => by simp [World.frozen?, hg]) h1
  have e2 := run_storeCells_at P g o t vs 0 cur w hg (by simpa using ho) h1
  rw [e1] at e2
  simpa using e2

theorem add_zero_addr (a : Addr) : a.add 0 = a := by unfold Addr.add; split <;> simp_all
theorem CellB.cast_len {W : World} {g n cap o k : Nat} {L S : List Cell} (h : CellB W g n cap (L.take o ++ S ++ L.drop (o + S.length))) (hk : S.length = k) : CellB W g n cap (L.take o ++ S ++ L.drop (o + k)) := by rw [← hk]; exact h
/-- 'copy' into such a row. -/
theorem copy_run {P : Program} {t e : TypeId} (ty : TypeId) (hu : P.underlying t = some (.slice e)) (hs : (P.info? e).map (·.size) = some 4) {W : World} {g n cap : Nat} {L : List Cell} (hB : CellB W g n cap L)
    (o dLen dCap sLen sCap : Nat) (dp sA : Option Addr) (S : List Cell) (hS : ReadsRows W sA sLen 4 Cell.vals S) (hfit : o + min sLen dLen ≤ n) (hdp : 0 < min sLen dLen → dp = some ⟨g, o * 4, none⟩) :
    ∃ W', (Builtin.copy_ #[t, t] ty #[.slice dp dLen dCap, .slice sA sLen sCap]).run P W = .ok (.int .i64 ((min sLen dLen : Nat) : Int)) W' ∧ CellB W' g n cap (L.take o ++ S.take (min sLen dLen) ++ L.drop (o + min sLen dLen)) ∧ Mods [g] W W' := by
  obtain ⟨cur, h1, h2, h3, h4, h5, h6⟩ := id hB
  cases hq : P.info? e with
  | none => simp [hq] at hs
  | some i =>
    have hi : i.size = 4 := by simpa [hq] using hs
    by_cases h0 : min sLen dLen = 0
    · have hl : ∀ (x : Addr), (loadCells x 0).run P W = .ok #[] W := fun x => by simpa using run_loadCells_list (P := P) W x [] (by simp)
      refine ⟨W, ?_, by simpa [h0] using hB, Mods.refl _ _⟩
      cases dp <;> cases sA <;> simp [Builtin.copy_, run_underlying hu, Builtin.lenOf, Builtin.firstCells, sizeOf, typeInfo, hq, hi, show Nat.min sLen dLen = 0 from h0, h0, storeCells, hl, goInt]
    · obtain rfl := hdp (by omega)
      have hSl := hS.1
      obtain ⟨c0, hc0⟩ : ∃ c, S[0]? = some c := ⟨_, List.getElem?_eq_getElem (by omega)⟩
      obtain ⟨a, rfl, _⟩ := hS.2.2 0 c0 hc0
      have hk : (S.take (min sLen dLen)).length = min sLen dLen := by simp; omega
      have hf := hS.first (min sLen dLen) (by omega)
      have hn := rows_news hf 0 (S.take (min sLen dLen)) [] (by simp)
      have hn' : ∀ j u, ((S.take (min sLen dLen)).flatMap Cell.vals)[j]? = some u → W.cell? (a.add j) = some u := fun j u hj => by
        have := hn j u hj
        rwa [Nat.zero_mul, add_zero_addr] at this
      have hl := run_loadCells_list (P := P) W a _ hn'
      have hst := run_storeCells_at P g (o * 4) 27 _ 0 cur W h1 (by rw [vals_len, hk, h5]; omega) (vals_one (S.take (min sLen dLen)))
      rw [vals_len, hk] at hl
      refine ⟨_, ?_, hB.setRow o (S.take (min sLen dLen)) (by rw [hk]; exact hfit) h1 |>.cast_len hk, (Mods.refl [g] W).setRow g _ (.inl (by simp))⟩
      simp only [Nat.add_zero] at hst
      simp [Builtin.copy_, run_underlying hu, Builtin.lenOf, Builtin.firstCells, sizeOf, typeInfo, hq, hi, show Nat.min sLen dLen = min sLen dLen from rfl, hl, hst, goInt]

section
variable {P : Program} {ops : Array Oper} {Q : Exit → Act → World → Prop} {a : Act} {rest : List Oper} {o : Oper}
/-- 'copy(d, s)' into such a row, as a step of a walk. -/
theorem copy_own {W : World} {g n cap : Nat} {L : List Cell} (hB : CellB W g n cap L) (hgd : o.guard = none) (d s : Operand) (t e : TypeId)
    (ho : o.op = .call { callee := .builtin .copy, args := #[d, s], argTypes := #[t, t] }) (hu : P.underlying t = some (.slice e)) (hs : (P.info? e).map (·.size) = some 4)
    (off dLen dCap sLen sCap : Nat) (dp sA : Option Addr) (hd : a.eval d = .slice dp dLen dCap) (hsv : a.eval s = .slice sA sLen sCap) (S : List Cell) (hS : ReadsRows W sA sLen 4 Cell.vals S) (hfit : off + min sLen dLen ≤ n) (hdp : 0 < min sLen dLen → dp = some ⟨g, off * 4, none⟩)
    (h : ∀ W', CellB W' g n cap (L.take off ++ S.take (min sLen dLen) ++ L.drop (off + min sLen dLen)) → Mods [g] W W' → wpList P ops Q rest (a.put o.dst (.int .i64 ((min sLen dLen : Nat) : Int))) W') :
    wpList P ops Q (o :: rest) a W := by
  refine wpList_plain hgd fun K hK => ?_
  obtain ⟨W', hrun, h1, h2⟩ := copy_run (P := P) o.type hu hs hB off dLen dCap sLen sCap dp sA S hS hfit hdp
  unfold Oper.wp
  simp only [execOp, ho, resolve, invoke, builtin, Sem.run_bind, Sem.run_pure, Result.andThen_ok, List.map_toArray, List.map_cons, List.map_nil, hd, hsv, hrun]
  exact hK _ _ (h W' h1 h2)
theorem step_copy_own {K : Act → World → Prop} {E : Prop} {W : World} {g n cap : Nat} {L : List Cell} (hB : CellB W g n cap L) (hgd : o.guard = none) (d s : Operand) (t e : TypeId)
    (ho : o.op = .call { callee := .builtin .copy, args := #[d, s], argTypes := #[t, t] }) (hu : P.underlying t = some (.slice e)) (hs : (P.info? e).map (·.size) = some 4)
    (off dLen dCap sLen sCap : Nat) (dp sA : Option Addr) (hd : a.eval d = .slice dp dLen dCap) (hsv : a.eval s = .slice sA sLen sCap) (S : List Cell) (hS : ReadsRows W sA sLen 4 Cell.vals S) (hfit : off + min sLen dLen ≤ n) (hdp : 0 < min sLen dLen → dp = some ⟨g, off * 4, none⟩)
    (h : ∀ W', CellB W' g n cap (L.take off ++ S.take (min sLen dLen) ++ L.drop (off + min sLen dLen)) → Mods [g] W W' → K (a.put o.dst (.int .i64 ((min sLen dLen : Nat) : Int))) W') :
    if Region.wanted o (yielded ops a.tmps) = true then Oper.wp P o a W K Q else E := by
  have hw : Region.wanted o (yielded ops a.tmps) = true := by simp [Region.wanted, hgd]
  rw [if_pos hw]
  obtain ⟨W', hrun, h1, h2⟩ := copy_run (P := P) o.type hu hs hB off dLen dCap sLen sCap dp sA S hS hfit hdp
  unfold Oper.wp
  simp only [execOp, ho, resolve, invoke, builtin, Sem.run_bind, Sem.run_pure, Result.andThen_ok, List.map_toArray, List.map_cons, List.map_nil, hd, hsv, hrun]
  exact h W' h1 h2
theorem copy_in {F : Fence} {m : Nat} {W : World} {g n cap : Nat} {L : List Cell} (hB : CellB W g n cap L) (hgd : o.guard = none) (d s : Operand) (t e : TypeId)
    (ho : o.op = .call { callee := .builtin .copy, args := #[d, s], argTypes := #[t, t] }) (hu : P.underlying t = some (.slice e)) (hs : (P.info? e).map (·.size) = some 4)
    (off dLen dCap sLen sCap : Nat) (dp sA : Option Addr) (hd : a.eval d = .slice dp dLen dCap) (hsv : a.eval s = .slice sA sLen sCap) (S : List Cell) (hS : ReadsRows W sA sLen 4 Cell.vals S) (hfit : off + min sLen dLen ≤ n) (hdp : 0 < min sLen dLen → dp = some ⟨g, off * 4, none⟩)
    (h : ∀ W', CellB W' g n cap (L.take off ++ S.take (min sLen dLen) ++ L.drop (off + min sLen dLen)) → Mods [g] W W' → wpListIn F m P ops Q rest (a.put o.dst (.int .i64 ((min sLen dLen : Nat) : Int))) W') :
    wpListIn F m P ops Q (o :: rest) a W := by
  refine wpListIn_plain hgd fun K hK => ?_
  obtain ⟨W', hrun, h1, h2⟩ := copy_run (P := P) o.type hu hs hB off dLen dCap sLen sCap dp sA S hS hfit hdp
  unfold Oper.wpIn
  refine ⟨?_, ?_⟩
  · simp [Oper.about, ho, resolve, Target.leads, Sem.run_pure]
  · rw [Oper.semAt_plain F _ _ (by rw [ho]; intro c hc'; cases hc')]
    simp only [execOp, ho, resolve, invoke, builtin, Sem.run_bind, Sem.run_pure, Result.andThen_ok, List.map_toArray, List.map_cons, List.map_nil, hd, hsv, hrun]
    exact hK _ _ (h W' h1 h2)
/-- A whole cell stored into such a row. -/
theorem store_cell {W : World} {g n cap : Nat} {L : List Cell} (hB : CellB W g n cap L) (hgd : o.guard = none) (p x : Operand) (T : TypeId) (ho : o.op = .store T p x) (hi : (P.info? T).map (·.size) = some 4)
    (i off : Nat) (hoff : off = i * 4) (c : Cell) (hp : a.eval p = .pointer (some ⟨g, off, none⟩)) (hx : a.eval x = c.val) (hlt : i < n)
    (h : ∀ W', CellB W' g n cap (L.set i c) → Mods [g] W W' → wpList P ops Q rest (a.put o.dst undef) W') : wpList P ops Q (o :: rest) a W := by
  subst hoff
  refine wpList_plain hgd fun K hK => ?_
  obtain ⟨cur, h1, h2, h3, h4, h5, h6⟩ := id hB
  have hrun := run_storeAt_mid (P := P) W g (i * 4) T c.vals.toArray (fun j hj => ⟨by simp [World.cell?, h1]; simp [Cell.vals] at hj; omega, by simp [World.frozen?, h1]⟩) (by simpa [Cell.vals] using hi) (by simp [Cell.vals, Value.oneCell'])
  rw [setCells_row (P := P) h1 (by simp [Cell.vals]; omega) (by simpa using vals_one [c])] at hrun
  have hB2 := hB.setRow i [c] (by simp; omega) h1
  have e1 : [c].flatMap Cell.vals = c.vals := by simp
  rw [e1] at hB2
  have e2 : L.take i ++ [c] ++ L.drop (i + [c].length) = L.set i c := by
    rw [List.set_eq_take_append_cons_drop, if_pos (by omega)]; simp
  rw [e2] at hB2
  have hx' : a.eval x = .agg c.vals.toArray := hx
  unfold Oper.wp
  simp only [List.toList_toArray] at hrun
  simp [execOp, ho, hp, hx', hrun, Result.andThen]
  exact hK _ _ (h _ (by simpa [List.append_assoc] using hB2) ((Mods.refl [g] W).setRow g _ (.inl (by simp))))
/-- A whole struct stored into the block that holds it alone. -/
theorem store_blk {W : World} {g : Nat} {cs c' : Array Value} {t : TypeId} (hb : W.heap[g]? = some (.cells cs t (0, 0))) (hgd : o.guard = none) (p x : Operand) (T : TypeId) (ho : o.op = .store T p x) (hi : (P.info? T).map (·.size) = some c'.size)
    (hp : a.eval p = .pointer (some ⟨g, 0, none⟩)) (hx : a.eval x = .agg c') (hs : cs.size = c'.size) (h1 : c'.all (·.oneCell') = true)
    (h : ∀ W', W'.heap[g]? = some (.cells c' t (0, 0)) → Mods [g] W W' → wpList P ops Q rest (a.put o.dst undef) W') : wpList P ops Q (o :: rest) a W := by
  refine wpList_plain hgd fun K hK => ?_
  have h1' : ∀ v ∈ c'.toList, v.oneCell' = true := by intro v hv; rw [Array.all_eq_true'] at h1; exact h1 v (by simpa using hv)
  have hrun := run_storeAt_mid (P := P) W g 0 T c' (fun j hj => ⟨by simp [World.cell?, hb]; omega, by simp [World.frozen?, hb]⟩) hi h1
  rw [setCells_row (P := P) hb (by simp; omega) h1'] at hrun
  have e2 : cs.toList.take 0 ++ c'.toList ++ cs.toList.drop (0 + c'.toList.length) = c'.toList := by
    rw [List.take_zero, List.nil_append, Nat.zero_add, List.drop_of_length_le (by simp; omega), List.append_nil]
  rw [e2] at hrun
  unfold Oper.wp
  simp [execOp, ho, hp, hx, hrun, Result.andThen]
  exact hK _ _ (h _ (by simpa using setRow_heap W g _ c'.toList.toArray _ _ hb) ((Mods.refl [g] W).setRow g _ (.inl (by simp))))
end
end Go.Proofs.YtldjmacnokkjdaaDoor
/- Package cell: Right, Blank; package grid: what tells of sizes, places and rows. -/
namespace Go.Proofs.YtldjmacnokkjdaaDoor
open Go.RowKit
set_option linter.unusedVariables false
set_option linter.unusedSimpArgs false
attribute [local go_sem] max2_mx min2_mn max_two min_two

def rightC : List Cell → Bool
  | [] => true
  | [c] => decide (sizeC [c] = 1)
  | c :: d :: l => if sizeC (c :: d :: l) = 0 then false else if sizeC (c :: d :: l) = 1 then rightC (d :: l) else rightC l
theorem rightC_0 {c : Cell} {l : List Cell} (h : sizeC (c :: l) = 0) : rightC (c :: l) = false := by
  cases l with
  | nil => simp [rightC, h]
  | cons d l => simp [rightC, h]
theorem rightC_1 {c : Cell} {l : List Cell} (h : sizeC (c :: l) = 1) : rightC (c :: l) = rightC l := by
  cases l with
  | nil => simp [rightC, h]
  | cons d l => simp [rightC, h]
theorem rightC_2 {c d : Cell} {l : List Cell} (h : sizeC (c :: d :: l) = 2) : rightC (c :: d :: l) = rightC l := by
  simp [rightC, h]
theorem rightC_split (row : List Cell) (i : Nat) (hi : i < row.length) : (sizeC (row.drop i) = 0 ∧ rightC (row.drop i) = false) ∨ ∃ k, sizeC (row.drop i) = k ∧ 1 ≤ k ∧ k ≤ 2 ∧ i + k ≤ row.length ∧ rightC (row.drop i) = rightC (row.drop (i + k)) := by
  obtain ⟨c, l, hl⟩ : ∃ c l, row.drop i = c :: l := by
    cases h : row.drop i with
    | nil => simp at h; omega
    | cons c l => exact ⟨c, l, rfl⟩
  have hlen : l.length + 1 = row.length - i := by have := congrArg List.length hl; simp at this; omega
  rw [hl]
  rcases sizeC_cases c l with h | h | ⟨h, d, l', rfl⟩
  · exact .inl ⟨h, rightC_0 h⟩
  · refine .inr ⟨1, h, by omega, by omega, by omega, ?_⟩
    rw [← List.drop_drop, hl, rightC_1 h]; rfl
  · refine .inr ⟨2, h, by omega, by omega, by simp at hlen; omega, ?_⟩
    rw [← List.drop_drop, hl, rightC_2 h]; rfl
def blankC : Cell := ⟨32, 0, 0, 0⟩
theorem cell_Blank (w : World) : Calls Tryd.prog 72 #[] w fun e w' => e = .returned (.agg #[.int .i32 32, .int .u8 0, .int .u8 0, .int .u8 0]) ∧ Mods [] w w' := by
  go_enter Tryd.func72, Tryd.ntmps72
  go_wp2
  exact bodyPost_ret (v := blankC.val) (by simp [results, Tryd.results72, go_sem, blankC]) rfl ⟨rfl, (Mods.refl _ _).alloc _⟩
def RightRel (w : World) (row : List Cell) (n : Nat) (kk : Nat) (idx : Value) (wr : World) : Prop :=
  ∃ i : Nat, idx = .int .i64 i ∧ i ≤ n ∧ rightC (row.drop i) = rightC row ∧ Mods [] w wr ∧ kk + i = n
theorem cell_Right (w : World) (A : Option Addr) (n cap : Nat) (row : List Cell) (h : ReadsRows w A n 4 Cell.vals row) (hsm : n ≤ 1000000) :
    Calls Tryd.prog 61 #[.slice A n cap] w fun e w' => e = .returned (.bool (rightC row)) ∧ Mods [] w w' := by
  have HO := Lib.hid h
  have HLN := Lib.hid h.1
  clear h
  go_enter Tryd.func61, Tryd.ntmps61
  go_wp2
  go_loopg [3] n (RightRel w row n)
  case atStart => exact ⟨0, rfl, by omega, rfl, Mods.refl _ _, by omega⟩
  case round =>
    obtain ⟨i, rfl, hi, hr, hM, hkk⟩ := hrel
    have HR := Lib.hid hr
    have HKK := Lib.hid hkk
    clear hr hkk
    by_cases hlt : i < n
    · have hk2 := HKK.out
      rcases rightC_split row i (by rw [HLN.out]; exact hlt) with ⟨h1, h2⟩ | ⟨k, h1, h2, h3, h4, h5⟩
      · have HS := Lib.hid h1
        have H2 := Lib.hid h2
        clear h1 h2
        go_wp2_with fail
        with_reducible refine (cell_size _ A n cap i row (HO.out.keepsM (fun _ => rfl) hM (by simp)) hlt).mono ?_
        rw [HS.out]
        rintro e w1 ⟨rfl, hm1⟩
        go_wp2
        go_ret
        exact ⟨by show Ending.returned (.bool false) = _; rw [← HR.out, H2.out], hM.trans hm1⟩
      · have HS := Lib.hid h1
        have H5 := Lib.hid h5
        rw [HLN.out] at h4
        clear h1 h5
        go_wp2_with fail
        with_reducible refine (cell_size _ A n cap i row (HO.out.keepsM (fun _ => rfl) hM (by simp)) hlt).mono ?_
        rw [HS.out]
        rintro e w1 ⟨rfl, hm1⟩
        have hb : ((k : Int) == 0) = false := by simp; omega
        go_wp2
        clear hb
        go_roundg (gk - k)
        case measure => omega
        case rel => exact ⟨i + k, by go_num, by omega, by rw [← HR.out, ← H5.out], hM.trans hm1, by omega⟩
    · have hin : i = n := by omega
      subst hin
      go_wp2
      go_ret
      refine ⟨?_, hM⟩
      rw [← HR.out, List.drop_of_length_le (by rw [HLN.out]; exact Nat.le_refl _)]
      rfl
theorem grid_may (w : World) (x y : Int) : Calls Tryd.prog 59 #[.int .i64 x, .int .i64 y] w fun e w' => e = .returned (.bool (decide (1 ≤ x ∧ x ≤ 200 ∧ 1 ≤ y ∧ y ≤ 60))) ∧ w = w' := by
  by_cases h1 : 1 ≤ x <;> by_cases h2 : x ≤ 200 <;> by_cases h3 : 1 ≤ y <;> by_cases h4 : y ≤ 60
  all_goals
    go_enter Tryd.func59, Tryd.ntmps59
    go_wp2
    go_ret
    simp [h1, h2, h3, h4]

/-- A grid's value. -/
@[reducible] def gridV (w h : Int) (A : Option Addr) (n c : Nat) : Value := .agg #[.int .i64 w, .int .i64 h, .slice A n c]
set_option maxHeartbeats 1000000 in
theorem grid_row (W : World) (w h n c : Nat) (a : Addr) (y : Nat) (hw1 : 1 ≤ w) (hw2 : w ≤ 200) (hh1 : 1 ≤ h) (hh2 : h ≤ 60) (hn : n = w * h) (hc : n ≤ c) (hy : y < h) :
    Calls Tryd.prog 48 #[gridV w h (some a) n c, .int .i64 (y : Int)] W fun e W' => e = .returned (.slice (some (a.add (y * w * 4))) w w) ∧ Mods [] W W' := by
  have hle : y * w + w ≤ n := by rw [hn]; calc y * w + w = (y + 1) * w := by rw [Nat.add_mul]; omega
      _ ≤ h * w := Nat.mul_le_mul_right _ hy
      _ = w * h := Nat.mul_comm _ _
  have hq : (n : Int).tdiv (w : Int) = (h : Int) := by
    rw [hn, ← Int.ofNat_tdiv, Nat.mul_div_cancel_left _ (by omega)]
  have hn2 : n ≤ 12000 := by rw [hn]; exact Nat.mul_le_mul hw2 hh2
  have hm : IntKind.i64.wrap ((y : Int) * (w : Int)) = ((y * w : Nat) : Int) := by rw [← Int.natCast_mul]; exact IntWalk.i64_in _ (by omega)
  generalize y * w = K at *
  have hk : IntKind.i64.wrap ((K : Int) + (w : Int)) = (K : Int) + (w : Int) := IntWalk.i64_in _ (by omega)
  have hw0 : ((w : Int) == 0) = false := by simp; omega
  have d1 : decide ((y : Int) < 0) = false := by simp
  have d2 : decide (h ≤ y) = false := by simp; omega
  have d3 : decide (w < 1) = false := by simp; omega
  have d3' : decide ((w : Int) < 1) = false := by simp; omega
  have hq2 : (n : Int) / (w : Int) = (h : Int) := by rw [← Int.natCast_tdiv_eq_ediv]; exact hq
  have hq3 : n / w = h := by rw [hn]; exact Nat.mul_div_cancel_left _ (by omega)
  clear hn
  go_enter Tryd.func48, Tryd.ntmps48
  go_upto_region 1 with fail
  go_quiet (fail)
  go_upto_region 3 with fail
  go_quiet (fail)
  go_wp2
  go_ret
  exact ⟨by show Ending.returned (.slice _ (K + w - K) (K + w - K)) = _; rw [Nat.add_sub_cancel_left], ((Mods.refl [] W).alloc _).drewN _⟩
theorem grid_row_none (W : World) (w h n c : Nat) (A : Option Addr) (y : Int) (hy : y < 0 ∨ (h : Int) ≤ y) :
    Calls Tryd.prog 48 #[gridV w h A n c, .int .i64 y] W fun e W' => e = .returned (.slice none 0 0) ∧ Mods [] W W' := by
  have h3 : y < 0 ∨ (¬ y < 0 ∧ (h : Int) ≤ y) := by omega
  clear hy
  rcases h3 with h1 | ⟨h1, h2⟩
  · have d1 : decide (y < 0) = true := by simp; omega
    go_enter Tryd.func48, Tryd.ntmps48
    go_upto_region 1 with fail
    go_quiet (fail)
    go_wp2
    go_ret
    exact ⟨rfl, ((Mods.refl [] W).alloc _).drewN _⟩
  · have d1 : decide (y < 0) = false := by simp; omega
    have d2 : decide (y ≥ (h : Int)) = true := by simp; omega
    go_enter Tryd.func48, Tryd.ntmps48
    go_upto_region 1 with fail
    go_quiet (fail)
    go_wp2
    go_ret
    exact ⟨rfl, ((Mods.refl [] W).alloc _).drewN _⟩
theorem grid_plain (W : World) (c : Cell) : Calls Tryd.prog 54 #[c.val] W fun e W' => e = .returned (.bool (c.ok && decide (c.attr.val < 64))) ∧ Mods [] W W' := by
  obtain ⟨r, fg, bg, at'⟩ := c
  have K0 : ∀ w, Calls Tryd.prog 62 #[.agg #[.int .i32 r, .int .u8 fg, .int .u8 bg, .int .u8 (at'.val : Int)]] w fun e w' => e = .returned (.bool (Cell.ok ⟨r, fg, bg, at'⟩)) ∧ Mods [] w w' := fun w => cell_Check w ⟨r, fg, bg, at'⟩
  have K1 := Lib.hid K0
  have hM := (Mods.refl [] W).alloc (.cells #[Value.int .i32 r, Value.int .u8 fg, Value.int .u8 bg, Value.int .u8 (at'.val : Int)] 27)
  have hl : ((at'.val : Int) < 64) ↔ at'.val < 64 := by omega
  have HL := Lib.hid hl
  clear K0 hl
  cases hk : Cell.ok ⟨r, fg, bg, at'⟩ <;> by_cases h6 : (at'.val : Int) < 64
  all_goals
    rw [hk] at K1
    clear hk
    have d6 := h6
    rw [HL.out] at d6
    have D6 := Lib.hid d6
    clear d6
    go_enter Tryd.func54, Tryd.ntmps54
    have hX := Mods.refl [] (W.alloc (.cells #[Value.int .i32 r, Value.int .u8 fg, Value.int .u8 bg, Value.int .u8 (at'.val : Int)] 27))
    go_wp2_with (go_at_call 62; go_must (refine (K1.out _).mono ?_); rintro e w1 ⟨rfl, hm⟩; have hY := hX.trans hm; clear hX hm; have hX := hY; clear hY; have C := kept_cells hX)
    go_ret
    exact ⟨by have := D6.out; simp [this] <;> omega, hM.trans hX⟩
def spanF (from' many end' : Int) : Int × Int := if many ≤ 0 ∨ end' ≤ from' then (0, 0) else if from' < 0 then (0, mx (mn (from' + many) end') 0) else (from', from' + mn many (end' - from'))
theorem grid_span (W : World) (f m e : Int) (h1 : -1000000 ≤ f ∧ f ≤ 1000000) (h2 : -1000000 ≤ m ∧ m ≤ 1000000) (h3 : 0 ≤ e ∧ e ≤ 1000000) :
    Calls Tryd.prog 42 #[.int .i64 f, .int .i64 m, .int .i64 e] W fun r W' => r = .returned (.tuple #[.int .i64 (spanF f m e).1, .int .i64 (spanF f m e).2]) ∧ W = W' := by
  obtain ⟨a1, a2⟩ := h1
  obtain ⟨b1, b2⟩ := h2
  obtain ⟨c1, c2⟩ := h3
  have hmn : mn m (e - f) ≤ m := by unfold mn; split <;> omega
  have hmn2 : mn m (e - f) = m ∨ mn m (e - f) = e - f := by unfold mn; split <;> simp
  have hmn3 : -2000000 ≤ mn m (e - f) := by omega
  clear hmn2
  by_cases q1 : m ≤ 0
  · go_enter Tryd.func42, Tryd.ntmps42
    go_wp2
    go_ret2
    exact ⟨by unfold spanF; rw [if_pos (.inl (by omega))]; rfl, rfl⟩
  · by_cases q2 : e ≤ f
    · have d : decide (f ≥ e) = true := by simp; omega
      go_enter Tryd.func42, Tryd.ntmps42
      go_wp2
      go_ret2
      exact ⟨by unfold spanF; rw [if_pos (.inr (by omega))]; rfl, rfl⟩
    · have d : decide (f ≥ e) = false := by simp; omega
      have hn : ¬ (m ≤ 0 ∨ e ≤ f) := by omega
      have HN := Lib.hid hn
      clear hn
      by_cases q3 : f < 0
      · go_enter Tryd.func42, Tryd.ntmps42
        go_wp2
        go_ret2
        exact ⟨by unfold spanF; rw [if_neg HN.out, if_pos (by omega)]; rfl, rfl⟩
      · go_enter Tryd.func42, Tryd.ntmps42
        go_wp2
        go_ret2
        exact ⟨by unfold spanF; rw [if_neg HN.out, if_neg (by omega)]; rfl, rfl⟩
def movedF (at' by' f e : Int) : Int := at' + mn (mx by' (f - e)) (e - f)
theorem grid_moved (W : World) (x b f e : Int) (h0 : 0 ≤ x ∧ x ≤ 1000000) (hb : -9223372036854775808 ≤ b ∧ b ≤ 9223372036854775807) (h1 : 0 ≤ f ∧ f ≤ 1000000) (h2 : 0 ≤ e ∧ e ≤ 1000000) :
    Calls Tryd.prog 57 #[.int .i64 x, .int .i64 b, .int .i64 f, .int .i64 e] W fun r W' => r = .returned (.tuple #[.int .i64 (movedF x b f e), .bool (decide (f ≤ movedF x b f e ∧ movedF x b f e < e))]) ∧ W = W' := by
  obtain ⟨x1, x2⟩ := h0
  obtain ⟨a1, a2⟩ := h1
  obtain ⟨c1, c2⟩ := h2
  have k1 : -1000000 ≤ mn (mx b (f - e)) (e - f) := by unfold mn mx; split <;> split <;> omega
  have k2 : mn (mx b (f - e)) (e - f) ≤ 1000000 := by unfold mn mx; split <;> split <;> omega
  by_cases q1 : f ≤ x + mn (mx b (f - e)) (e - f) <;> by_cases q2 : x + mn (mx b (f - e)) (e - f) < e
  all_goals
    go_enter Tryd.func57, Tryd.ntmps57
    go_wp2
    go_ret2
    exact ⟨by unfold movedF; simp [q1, q2], rfl⟩
/-- A row of cells of its own grid; a place in it. -/
def rowC (w y : Nat) (L : List Cell) : List Cell := (L.drop (y * w)).take w
theorem rowC_len {w h n y : Nat} {L : List Cell} (hl : L.length = n) (hn : n = w * h) (hy : y < h) : (rowC w y L).length = w := by
  have hle : y * w + w ≤ n := by rw [hn]; calc y * w + w = (y + 1) * w := by rw [Nat.add_mul]; omega
      _ ≤ h * w := Nat.mul_le_mul_right _ hy
      _ = w * h := Nat.mul_comm _ _
  unfold rowC; simp; omega
theorem row_le {w h n y : Nat} (hn : n = w * h) (hy : y < h) : y * w + w ≤ n := by
  rw [hn]; calc y * w + w = (y + 1) * w := by rw [Nat.add_mul]; omega
    _ ≤ h * w := Nat.mul_le_mul_right _ hy
    _ = w * h := Nat.mul_comm _ _
theorem ReadsRows.row_of {W : World} {a : Addr} {w h n y : Nat} {L : List Cell} (hL : ReadsRows W (some a) n 4 Cell.vals L) (hn : n = w * h) (hy : y < h) : ReadsRows W (some (a.add (y * w * 4))) w 4 Cell.vals (rowC w y L) :=
  hL.cut (y * w) w (row_le hn hy)
def GridOk (w h n c : Nat) : Prop := 1 ≤ w ∧ w ≤ 200 ∧ 1 ≤ h ∧ h ≤ 60 ∧ n = w * h ∧ n ≤ c
def rightG (w h : Nat) (L : List Cell) : Bool := (List.range h).all fun y => rightC (rowC w y L)
def CheckRel (W : World) (w h : Nat) (L : List Cell) (kk : Nat) (idx : Value) (wr : World) : Prop :=
  ∃ i : Nat, idx = .int .i64 i ∧ i ≤ h ∧ ((List.range i).all fun y => rightC (rowC w y L)) = true ∧ Mods [] W wr ∧ kk + i = h
set_option maxHeartbeats 1000000 in
theorem grid_Check (W : World) (w h n c : Nat) (a : Addr) (L : List Cell) (hg : GridOk w h n c) (hL : ReadsRows W (some a) n 4 Cell.vals L) :
    Calls Tryd.prog 31 #[gridV w h (some a) n c] W fun e W' => e = .returned (.bool (rightG w h L)) ∧ Mods [] W W' := by
  obtain ⟨hw1, hw2, hh1, hh2, hn, hc⟩ := hg
  have hn2 : n ≤ 12000 := by rw [hn]; exact Nat.mul_le_mul hw2 hh2
  have HN := Lib.hid hn
  have HL := Lib.hid hL
  have hm : wrap64 ((w : Int) * (h : Int)) = (n : Int) := by rw [hn, ← Int.natCast_mul]; exact IntWalk.wrap64_in _ (by omega)
  have hb0 : ((n : Int) != wrap64 ((w : Int) * (h : Int))) = false := by rw [hm]; simp
  have hM0 := (Mods.refl [] W).alloc (.cells #[.int .i64 (w : Int), .int .i64 (h : Int), .slice (some a) n c] 38)
  have hG := Lib.hid (blk_new W (.cells #[.int .i64 (w : Int), .int .i64 (h : Int), .slice (some a) n c] 38))
  clear hn hL hm
  go_enter Tryd.func31, Tryd.ntmps31
  go_wp2_with fail
  refine (grid_may _ _ _).mono ?_
  have hd : decide (1 ≤ (w : Int) ∧ (w : Int) ≤ 200 ∧ 1 ≤ (h : Int) ∧ (h : Int) ≤ 60) = true := by simp; omega
  rw [hd]
  clear hd
  rintro e w1 ⟨rfl, rfl⟩
  go_wp2
  clear hb0
  generalize W.alloc (.cells #[.int .i64 (w : Int), .int .i64 (h : Int), .slice (some a) n c] 38) = W0 at *
  go_loopg [23] h (CheckRel W0 w h L)
  case atStart => exact ⟨0, rfl, by omega, by simp, Mods.refl _ _, by omega⟩
  case round =>
    obtain ⟨i, rfl, hi, hall, hM, hkk⟩ := hrel
    have HA := Lib.hid hall
    have HKK := Lib.hid hkk
    clear hall hkk
    by_cases hlt : i < h
    · have hb := hM.at hG.out (by simp)
      have C := fun j => blk_cell hb j
      have HR := Lib.hid (HL.out.row_of HN.out hlt)
      clear hb
      go_wp2_with fail
      with_reducible refine (grid_row _ w h n c a i hw1 hw2 hh1 hh2 HN.out hc hlt).mono ?_
      rintro e w2 ⟨rfl, hm2⟩
      go_wp2_with fail
      have hM2 := hM0.trans (hM.trans hm2)
      with_reducible refine (cell_Right _ _ w w (rowC w i L) (HR.out.keepsM (fun _ => rfl) hM2 (by simp)) (by omega)).mono ?_
      have hk2 := HKK.out
      cases hr : rightC (rowC w i L)
      all_goals
        have HRR := Lib.hid hr
        clear hr
        rintro e w3 ⟨rfl, hm3⟩
        clear C
        go_wp2
      · go_ret
        refine ⟨?_, hM2.trans hm3⟩
        have : rightG w h L = false := by
          unfold rightG
          rw [List.all_eq_false]
          exact ⟨i, by simpa using hlt, by rw [HRR.out]; simp⟩
        rw [this]; rfl
      · go_roundg (gk - 1)
        case measure => omega
        case rel => exact ⟨i + 1, by go_num, by omega, by rw [List.range_succ, List.all_append, HA.out]; simp [HRR.out], (hM.trans hm2).trans hm3, by omega⟩
    · have hin : i = h := by omega
      subst hin
      go_wp2
      go_ret
      exact ⟨by unfold rightG; rw [HA.out]; rfl, hM0.trans hM⟩
def EqRel (w : World) (xs ys : List Cell) (n : Nat) (kk : Nat) (idx : Value) (wr : World) : Prop :=
  ∃ (i m : Nat), idx = .int .i64 i ∧ i ≤ n ∧ xs.take i = ys.take i ∧ wr = w.drewN m ∧ kk + i = n
set_option maxHeartbeats 1000000 in
theorem slices_Equal (w : World) (A B : Option Addr) (n m ca cb : Nat) (xs ys : List Cell) (hx : ReadsRows w A n 4 Cell.vals xs) (hy : ReadsRows w B m 4 Cell.vals ys) :
    Calls Tryd.prog 60 #[.slice A n ca, .slice B m cb] w fun e w' => e = .returned (.bool (decide (xs = ys))) ∧ ∃ k, w' = w.drewN k := by
  have hn := hx.2.1
  have hm := hy.2.1
  unfold maxLen at hn hm
  have HX := Lib.hid hx
  have HY := Lib.hid hy
  have LX := Lib.hid hx.1
  have LY := Lib.hid hy.1
  clear hx hy
  by_cases hnm : n = m
  · have hb : ((n : Int) != (m : Int)) = false := by simp [hnm]
    have HNM := Lib.hid hnm
    clear hnm
    go_enter Tryd.func60, Tryd.ntmps60
    go_wp2
    clear hb
    go_loopg [13] n (EqRel w xs ys n)
    case atStart => exact ⟨0, 0, rfl, by omega, rfl, rfl, by omega⟩
    case round =>
      obtain ⟨i, k, rfl, hi, htk, rfl, hkk⟩ := hrel
      have HTK := Lib.hid htk
      have HKK := Lib.hid hkk
      have hk2 := hkk
      clear htk hkk
      by_cases hlt : i < n
      · obtain ⟨c, hc⟩ : ∃ c, xs[i]? = some c := ⟨_, List.getElem?_eq_getElem (by rw [LX.out]; exact hlt)⟩
        obtain ⟨d, hd⟩ : ∃ d, ys[i]? = some d := ⟨_, List.getElem?_eq_getElem (by rw [LY.out, ← HNM.out]; exact hlt)⟩
        obtain ⟨a, rfl, c0, hcs⟩ := HX.out.row hc
        obtain ⟨b, rfl, d0, hds⟩ := HY.out.row hd
        have c1 := hcs 0 (by omega)
        have c2 := hcs 1 (by omega)
        have c3 := hcs 2 (by omega)
        have d1 := hds 0 (by omega)
        have d2 := hds 1 (by omega)
        have d3 := hds 2 (by omega)
        clear hcs hds
        obtain ⟨r, fg, bg, at'⟩ := c
        obtain ⟨r', fg', bg', bt⟩ := d
        simp only [Cell.vals, List.getElem?_cons_zero, List.getElem?_cons_succ] at c0 c1 c2 c3 d0 d1 d2 d3
        have HXC := Lib.hid hc
        have HYD := Lib.hid hd
        clear hc hd
        have hlm : (i : Int) < (m : Int) := by have := HNM.out; omega
        have hln : (i : Int) < (n : Int) := by omega
        rcases cell_cases r r' fg fg' bg bg' at' bt with hq | hq
        · obtain ⟨q1, q2, q3, q4⟩ := hq
          have hab : at' = bt := by rw [Fin.ext_iff]; omega
          subst q1 q2 q3 hab
          have hts : xs.take (i + 1) = ys.take (i + 1) := by rw [List.take_add_one, List.take_add_one, HTK.out, HXC.out, HYD.out]
          have HTS := Lib.hid hts
          clear hts q4
          go_upto_region 6 with fail
          go_quiet (fail)
          go_wp2
          go_roundg (gk - 1)
          case measure => omega
          case rel => exact ⟨i + 1, _, by go_num, by omega, HTS.out, rfl, by omega⟩
        · have hne := cell_ne hq
          have hxy : xs ≠ ys := by
            intro e; subst e
            have := HXC.out.symm.trans HYD.out
            simp only [Option.some.injEq] at this
            exact hne this
          have HXY := Lib.hid hxy
          clear hne hxy
          rcases hq with q1 | ⟨rfl, q2⟩ | ⟨rfl, rfl, q3⟩ | ⟨rfl, rfl, rfl, q4⟩
          all_goals
            go_upto_region 6 with fail
            go_quiet (fail)
            go_wp2
            go_ret
            exact ⟨by show Ending.returned (.bool false) = _; rw [decide_eq_false HXY.out], _, World.drewN_drewN _ _ _⟩
      · have hin : i = n := by omega
        have hxy : xs = ys := by
          have h1 := HTK.out
          rwa [List.take_of_length_le (by rw [LX.out]; omega), List.take_of_length_le (by rw [LY.out, ← HNM.out]; omega)] at h1
        have HXY := Lib.hid hxy
        clear hxy
        go_wp2
        go_ret
        exact ⟨by show Ending.returned (.bool true) = _; rw [decide_eq_true HXY.out], _, rfl⟩
  · have hb : ((n : Int) != (m : Int)) = true := by simp; omega
    have hxy : xs ≠ ys := by intro e; exact hnm (by rw [← LX.out, ← LY.out, e])
    have HXY := Lib.hid hxy
    clear hxy
    go_enter Tryd.func60, Tryd.ntmps60
    go_wp2
    go_ret
    exact ⟨by show Ending.returned (.bool false) = _; rw [decide_eq_false HXY.out], 0, rfl⟩
theorem grid_Same (W : World) (w h w' h' : Int) (A B : Option Addr) (n m ca cb : Nat) (xs ys : List Cell) (hx : ReadsRows W A n 4 Cell.vals xs) (hy : ReadsRows W B m 4 Cell.vals ys) :
    Calls Tryd.prog 30 #[gridV w h A n ca, gridV w' h' B m cb] W fun e W' => e = .returned (.bool (decide (w = w' ∧ h = h' ∧ xs = ys))) ∧ Mods [] W W' := by
  have hM0 := ((Mods.refl [] W).alloc (.cells #[.int .i64 w, .int .i64 h, .slice A n ca] 38)).alloc (.cells #[.int .i64 w', .int .i64 h', .slice B m cb] 38)
  have HX := Lib.hid (hx.keepsM (fun _ => rfl) hM0 (by simp))
  have HY := Lib.hid (hy.keepsM (fun _ => rfl) hM0 (by simp))
  clear hx hy
  by_cases h1 : w = w'
  · by_cases h2 : h = h'
    · subst h1 h2
      go_enter Tryd.func30, Tryd.ntmps30
      go_wp2_with fail
      with_reducible refine (slices_Equal _ _ _ _ _ _ _ _ _ HX.out HY.out).mono ?_
      rintro e w1 ⟨rfl, k, rfl⟩
      go_wp2
      go_ret
      exact ⟨by simp, hM0.drewN _⟩
    · have d : (h == h') = false := by simpa using h2
      have H2 := Lib.hid h2
      clear h2
      subst h1
      go_enter Tryd.func30, Tryd.ntmps30
      go_wp2
      go_ret
      exact ⟨by have := H2.out; simp [this], hM0⟩
  · have d : (w == w') = false := by simpa using h1
    have H1 := Lib.hid h1
    clear h1
    go_enter Tryd.func30, Tryd.ntmps30
    go_wp2
    go_ret
    exact ⟨by have := H1.out; simp [this], hM0⟩
end Go.Proofs.YtldjmacnokkjdaaDoor
