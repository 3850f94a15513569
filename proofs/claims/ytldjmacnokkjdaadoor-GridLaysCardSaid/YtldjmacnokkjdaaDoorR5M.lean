/- The document's answers of layer 5: Mend, Right. -/
import Derived.Test.YtldjmacnokkjdaaDoorR5
namespace Go.Proofs.YtldjmacnokkjdaaDoor
open Go.RowKit
set_option linter.unusedVariables false
set_option linter.unusedSimpArgs false

def pairP (row : List Cell) (i : Nat) : Bool := decide (1 ≤ i) && pairC row (i - 1)
def mendAt (row : List Cell) (i : Nat) (c : Cell) : Cell := if pairC row i || pairP row i || (c.ok && !c.wide && !c.tail) then c else c.blank
def mendR (row : List Cell) : List Cell := row.mapIdx (mendAt row)
theorem mendR_len (row : List Cell) : (mendR row).length = row.length := by simp [mendR]
theorem mendR_get {row : List Cell} {i : Nat} {c : Cell} (h : row[i]? = some c) : (mendR row)[i]? = some (mendAt row i c) := by simp [mendR, h]
theorem mendR_take {row : List Cell} {i : Nat} {c : Cell} (h : row[i]? = some c) : (mendR row).take (i + 1) = (mendR row).take i ++ [mendAt row i c] := by
  rw [List.take_add_one, mendR_get h]; rfl
def Small (row : List Cell) : Prop := ∀ c ∈ row, -2147483648 ≤ c.r ∧ c.r ≤ 2147483647
theorem ref5_pair_prev (w : World) (A : Option Addr) (n cap i : Nat) (row : List Cell) (h : ReadsRows w A n 4 Cell.vals row) (hi : i < n) (hb : Small row) :
    Calls Tryd.prog 102 #[.slice A n cap, .int .i64 ((i : Int) - 1)] w fun e w' => e = .returned (.bool (pairP row i)) ∧ Mods [] w w' := by
  cases i with
  | zero => exact ref5_pair_neg w A n cap
  | succ i =>
    have := ref5_pair w A n cap i row h (by omega) hb
    rw [show ((i + 1 : Nat) : Int) - 1 = (i : Int) by omega]
    rwa [show pairP row (i + 1) = pairC row i by simp [pairP]]
def MendR (W : World) (row : List Cell) (n : Nat) (kk : Nat) (out idx : Value) (wr : World) : Prop :=
  ∃ i : Nat, idx = .int .i64 (i : Int) ∧ i ≤ n ∧ wr.ownsRow W.heap.size 27 4 out i (((mendR row).take i).flatMap Cell.vals) ∧ Mods [] W wr ∧ kk + i = n
set_option maxRecDepth 100000 in
set_option maxHeartbeats 4000000 in
theorem ref5_Mend (W : World) (A : Option Addr) (n cap : Nat) (row : List Cell) (h : ReadsRows W A n 4 Cell.vals row) (hb : Small row) (hsm : n ≤ 1000000) :
    Calls Tryd.prog 90 #[.slice A n cap] W fun e W' => ∃ v, e = .returned v ∧ W'.ownsRow W.heap.size 27 4 v n ((mendR row).flatMap Cell.vals) ∧ Mods [] W W' := by
  have HO := Lib.hid h
  have HLN := Lib.hid h.1
  have HB := Lib.hid hb
  clear h hb
  go_enter Tryd.func90, Tryd.ntmps90
  go_wp2
  go_loopg [3, 4] n (MendR W row n)
  case atStart => exact ⟨0, rfl, by omega, own_nil _ _ _ _, Mods.refl _ _, by omega⟩
  case round =>
    obtain ⟨i, rfl, hi, hown, hM, hkk⟩ := hrel
    have HKK := Lib.hid hkk
    have HOWN := Lib.hid hown
    obtain ⟨OA, oc, rfl, hoc1, hoc2, hoc3⟩ := own_slice' hown
    clear hown hkk
    by_cases hlt : i < n
    · obtain ⟨c, hc⟩ : ∃ c, row[i]? = some c := ⟨_, List.getElem?_eq_getElem (by rw [HLN.out]; exact hlt)⟩
      have HR := Lib.hid (HO.out.keepsM (fun _ => rfl) hM (by simp))
      obtain ⟨a, rfl, c0, hcs⟩ := HR.out.row hc
      have c1 := hcs 0 (by omega)
      have c2 := hcs 1 (by omega)
      have c3 := hcs 2 (by omega)
      have hbc := HB.out c (List.mem_of_getElem? hc)
      have HMT := Lib.hid (mendR_take hc)
      have i1 : (i : Int) < (n : Int) := by omega
      have i0 : (0 : Int) ≤ (i : Int) := by omega
      have e1 : IntKind.i64.wrap ((i : Int) - 1) = (i : Int) - 1 := IntWalk.i64_in _ (by omega)
      clear hcs hc
      have K0 : ∀ w, Calls Tryd.prog 100 #[c.val] w fun e w' => e = .returned (.bool c.ok) ∧ Mods [] w w' := fun w => ref5_Check w c hbc
      have W0 : ∀ w, Calls Tryd.prog 101 #[c.val] w fun e w' => e = .returned (.bool c.wide) ∧ Mods [] w w' := fun w => ref5_wide w c
      have T0 : ∀ w, Calls Tryd.prog 103 #[c.val] w fun e w' => e = .returned (.bool c.tail) ∧ Mods [] w w' := fun w => ref5_tail w c
      have K1 := Lib.hid K0
      have W1 := Lib.hid W0
      have T1 := Lib.hid T0
      have hma : mendAt row i c = if pairC row i || pairP row i || (c.ok && !c.wide && !c.tail) then c else c.blank := rfl
      have HMA := Lib.hid hma
      clear K0 W0 T0 hbc hma
      obtain ⟨r, fg, bg, at'⟩ := c
      simp only [Cell.vals, List.getElem?_cons_zero, List.getElem?_cons_succ] at c0 c1 c2 c3
      simp only [Cell.val] at K1 W1 T1
      go_wp2_with fail
      clear c0 c1 c2 c3
      have hbx := blk_new wr (.cells #[.int .i32 r, .int .u8 fg, .int .u8 bg, .int .u8 (at'.val : Int)] 27)
      have hm0 := (Mods.refl [] wr).alloc (.cells #[.int .i32 r, .int .u8 fg, .int .u8 bg, .int .u8 (at'.val : Int)] 27)
      have hsz : (wr.alloc (.cells #[.int .i32 r, .int .u8 fg, .int .u8 bg, .int .u8 (at'.val : Int)] 27)).heap.size = wr.heap.size + 1 := by simp
      generalize wr.alloc (.cells #[.int .i32 r, .int .u8 fg, .int .u8 bg, .int .u8 (at'.val : Int)] 27) = X0 at *
      have BX := Lib.hid hbx
      have HM0 := Lib.hid hm0
      have HSZ := Lib.hid hsz
      clear hbx hm0 hsz
      refine (K1.out _).mono ?_
      rintro e w1 ⟨rfl, hm1⟩
      go_wp2_with fail
      refine (ref5_pair w1 (some a) n cap i row (HR.out.keepsM (fun _ => rfl) (HM0.out.trans hm1) (by simp)) hlt HB.out).mono ?_
      rintro e w2 ⟨rfl, hm2⟩
      go_wp2_with fail
      refine (ref5_pair_prev w2 (some a) n cap i row (HR.out.keepsM (fun _ => rfl) (HM0.out.trans (hm1.trans hm2)) (by simp)) hlt HB.out).mono ?_
      rintro e w3 ⟨rfl, hm3⟩
      have hm123 := (hm1.trans hm2).trans hm3
      clear hm1 hm2 hm3 e1
      have BX3 := Lib.hid (hm123.at BX.out (by simp))
      generalize pairC row i = p1 at *
      generalize pairP row i = p2 at *
      generalize Cell.ok ⟨r, fg, bg, at'⟩ = b0 at *
      generalize Cell.wide ⟨r, fg, bg, at'⟩ = b1 at *
      generalize Cell.tail ⟨r, fg, bg, at'⟩ = b2 at *
      clear K1
      go_upto_region 9 with fail
      go_cut [45] from 28 to 54 (fun s45 wx => s45 = .bool (!(p1 || p2 || b0 && !b1 && !b2)) ∧ Mods [] w3 wx)
      case first =>
        have C := fun i => blk_cell BX3.out i
        cases p1
        case true =>
          go_wp2_with fail
          go_meet
          exact ⟨rfl, Mods.refl _ _⟩
        case false =>
        cases p2
        case true =>
          go_wp2_with fail
          go_meet
          exact ⟨rfl, Mods.refl _ _⟩
        case false =>
        cases b0
        case false =>
          go_wp2_with fail
          go_meet
          exact ⟨rfl, Mods.refl _ _⟩
        case true =>
          go_wp2_with fail
          refine (W1.out _).mono ?_
          rintro e w4 ⟨rfl, hm4⟩
          clear C
          have C := fun i => blk_cell (hm4.at BX3.out (by simp)) i
          cases b1
          case true =>
            go_wp2_with fail
            go_meet
            exact ⟨rfl, hm4⟩
          case false =>
            go_wp2_with fail
            refine (T1.out _).mono ?_
            rintro e w5 ⟨rfl, hm5⟩
            clear C
            cases b2
            all_goals
              go_wp2_with fail
              go_meet
              exact ⟨rfl, hm4.trans hm5⟩
      case rest =>
        obtain ⟨rfl, hm4⟩ := hcut
        have hMX := HM0.out.trans (hm123.trans hm4)
        have BX4 := Lib.hid (hm4.at BX3.out (by simp))
        have hown4 := own_mods HOWN.out hMX (by simp)
        have hMW := hM.trans hMX
        have hsz2 := HSZ.out
        have hsz3 := hm123.size
        have hsz4 := hm4.size
        have hszr := hM.size
        generalize hpb : (p1 || p2 || b0 && !b1 && !b2) = pb at *
        have hk2 := HKK.out
        cases pb
        · simp only [Bool.false_eq_true, if_false] at HMA
          have C := fun i => blk_cell BX4.out i
          have hl := HMT.out
          rw [HMA.out] at hl
          have HMT2 := Lib.hid hl
          clear hl HMT HMA
          go_wp2_with (first
            | (refine store_blk BX4.out rfl (.tmp 5) (.tmp 50) 27 rfl (c' := #[.int .i32 32, .int .u8 fg, .int .u8 bg, .int .u8 0]) (by kernel_rfl) rfl rfl rfl (by simp [Value.oneCell']) ?_; intro w6 hb6 hm6; have C6 := fun i => blk_cell hb6 i; clear hb6 C; have hown6 := own_mods hown4 hm6 (fun k hk => by have := own_lt HOWN.out k hk; simp; omega); have hM6 := hMW.then hm6 (fun k hk => .inr (by simp at hk; omega)); have hsz6 := hm6.size)
            | (at_builtin; go_must (refine append_one (w := W) (S := []) W.heap.size rfl (.tmp 51) (.tmp 53) 28 27 (.agg #[.int .i32 0, .int .u8 0, .int .u8 0, .int .u8 0]) 4 8 rfl Tryd.underlying28 (by kernel_rfl) rfl (by decide) (by decide) _ i (((mendR row).take i).flatMap Cell.vals) (Cell.vals (Cell.blank ⟨r, fg, bg, at'⟩)) rfl rfl rfl (by simp [Cell.vals, Cell.blank, Value.oneCell']) hown6 hM6 (by omega) (Nat.le_refl _) (by omega) ?_); intro v1 w7 hown7 hM7 hgr hblk; clear hgr hblk hown4 hown6; have HOWN7 := Lib.hid hown7; clear hown7))
          go_roundg (gk - 1)
          case measure => omega
          case rel => exact ⟨i + 1, by go_num, by omega, by rw [HMT2.out, List.flatMap_append]; simpa using HOWN7.out, hM7, by omega⟩
        · simp only [if_true] at HMA
          have C := fun i => blk_cell BX4.out i
          have hl := HMT.out
          rw [HMA.out] at hl
          have HMT2 := Lib.hid hl
          clear hl HMT HMA
          go_wp2_with (at_builtin; go_must (refine append_one (w := W) (S := []) W.heap.size rfl (.tmp 51) (.tmp 53) 28 27 (.agg #[.int .i32 0, .int .u8 0, .int .u8 0, .int .u8 0]) 4 8 rfl Tryd.underlying28 (by kernel_rfl) rfl (by decide) (by decide) _ i (((mendR row).take i).flatMap Cell.vals) (Cell.vals ⟨r, fg, bg, at'⟩) rfl rfl rfl (by simp [Cell.vals, Value.oneCell']) hown4 hMW (by omega) (Nat.le_refl _) (by omega) ?_); intro v1 w6 hown6 hM6 hgr hblk; clear hgr hblk hown4; have HOWN6 := Lib.hid hown6; clear hown6)
          go_roundg (gk - 1)
          case measure => omega
          case rel => exact ⟨i + 1, by go_num, by omega, by rw [HMT2.out, List.flatMap_append]; simpa using HOWN6.out, hM6, by omega⟩
    · have hin : i = n := by omega
      subst hin
      go_wp2
      go_ret
      exact ⟨_, rfl, by have := HOWN.out; rwa [List.take_of_length_le (by rw [mendR_len, HLN.out]; exact Nat.le_refl _)] at this, hM⟩
/-! ### the same as the program's own -/
def pairH : List Cell → Bool
  | c :: d :: _ => c.ok && c.wide && decide (d = c.behind)
  | _ => false
theorem pairC_cons (c : Cell) (l : List Cell) (i : Nat) : pairC (c :: l) (i + 1) = pairC l i := by simp [pairC]
theorem pairC_zero (c : Cell) (l : List Cell) : pairC (c :: l) 0 = pairH (c :: l) := by cases l <;> simp [pairC, pairH]
def mendA : Bool → List Cell → List Cell
  | _, [] => []
  | p, c :: l => (if pairH (c :: l) || p || (c.ok && !c.wide && !c.tail) then c else c.blank) :: mendA (pairH (c :: l)) l
theorem mendA_get (l : List Cell) : ∀ (p : Bool) (i : Nat), (mendA p l)[i]? = (l[i]?).map fun c => if pairC l i || (if i = 0 then p else pairC l (i - 1)) || (c.ok && !c.wide && !c.tail) then c else c.blank := by
  induction l with
  | nil => intro p i; simp [mendA]
  | cons c l ih =>
    intro p i
    cases i with
    | zero => simp [mendA, pairC_zero]
    | succ i =>
      simp only [mendA, List.getElem?_cons_succ, ih, pairC_cons]
      cases i with
      | zero => simp [pairC_zero]
      | succ i => simp [pairC_cons]
theorem mendR_A (l : List Cell) : mendR l = mendA false l := by
  apply List.ext_getElem?
  intro i
  rw [mendA_get]
  simp only [mendR, List.getElem?_mapIdx]
  congr 1
  funext c
  unfold mendAt pairP
  cases i with
  | zero => simp
  | succ i => simp
theorem behind_tail (c : Cell) : c.behind.tail = true := by
  have : ∀ a : Fin 256, tailA (tailOf a) = true := by decide +kernel
  exact this c.attr
theorem behind_wide (c : Cell) : c.behind.wide = false := by
  have : ∀ a : Fin 256, wideA (tailOf a) = false := by decide +kernel
  exact this c.attr
theorem wide_tail_no (c : Cell) (h : c.tail = true) (hok : c.ok = true) : c.wide = false := by
  unfold Cell.ok at hok
  rw [if_pos h] at hok
  simp at hok
  exact hok.1
theorem mendA_mend (l : List Cell) : mendA false l = mend l := by
  have key : ∀ k (l : List Cell), l.length ≤ k → mendA false l = mend l := by
    intro k
    induction k with
    | zero => intro l h; have : l = [] := List.eq_nil_of_length_eq_zero (by omega); subst this; rfl
    | succ k ih =>
      intro l h
      cases l with
      | nil => rfl
      | cons c l =>
        simp at h
        have hu : sizeC (c :: l) = if !c.ok || c.tail then 0 else if !c.wide then 1 else if l.head? = some c.behind then 2 else 0 := rfl
        have hph : pairH (c :: l) = (c.ok && c.wide && decide (l.head? = some c.behind)) := by cases l <;> simp [pairH]
        cases hok : c.ok
        · have hs : sizeC (c :: l) = 0 := by rw [hu]; simp [hok]
          rw [mend_0 hs]
          simp only [mendA, hph, hok, Bool.false_and, Bool.or_false, Bool.false_eq_true, if_false]
          rw [ih l (by omega)]
        · cases ht : c.tail
          · cases hw : c.wide
            · have hs : sizeC (c :: l) = 1 := by rw [hu]; simp [hok, ht, hw]
              rw [mend_1 hs]
              simp only [mendA, hph, hok, ht, hw, Bool.true_and, Bool.and_false, Bool.false_and, Bool.or_false, Bool.not_false, Bool.and_true, Bool.or_true, if_true]
              rw [ih l (by omega)]
            · by_cases hb : l.head? = some c.behind
              · obtain ⟨l', rfl⟩ : ∃ l', l = c.behind :: l' := by cases l with
                  | nil => simp at hb
                  | cons d l' => simp at hb; exact ⟨l', by rw [hb]⟩
                have hs : sizeC (c :: c.behind :: l') = 2 := by rw [hu]; simp [hok, ht, hw]
                rw [mend_2 hs]
                have hph2 : pairH (c.behind :: l') = false := by cases l' <;> simp [pairH, behind_wide]
                simp at h
                simp only [mendA, hph, hok, hw, List.head?_cons, decide_true, Bool.true_and, Bool.or_false, Bool.true_or, Bool.or_true, if_true, hph2]
                rw [ih l' (by omega)]
              · have hs : sizeC (c :: l) = 0 := by rw [hu]; simp [hok, ht, hw, hb]
                rw [mend_0 hs]
                simp only [mendA, hph, hok, ht, hw, hb, decide_false, Bool.and_false, Bool.not_true, Bool.false_and, Bool.or_false, Bool.false_eq_true, if_false]
                rw [ih l (by omega)]
          · have hw := wide_tail_no c ht hok
            have hs : sizeC (c :: l) = 0 := by rw [hu]; simp [ht]
            rw [mend_0 hs]
            simp only [mendA, hph, hok, ht, hw, Bool.and_false, Bool.not_true, Bool.false_and, Bool.or_false, Bool.false_eq_true, if_false]
            rw [ih l (by omega)]
  exact key _ l (Nat.le_refl _)
theorem mendR_mend (l : List Cell) : mendR l = mend l := (mendR_A l).trans (mendA_mend l)
/-- The cells of a right row are small. -/
theorem ok_small (c : Cell) (h : c.ok = true) : -2147483648 ≤ c.r ∧ c.r ≤ 2147483647 := by
  unfold Cell.ok at h
  split at h
  · simp at h
    rw [h.2]; decide
  · have hv : validRune c.r = true := by
      cases hv : validRune c.r
      · have : width c.r = 0 := by unfold width; rw [hv]; rfl
        rw [this] at h
        split at h <;> simp at h
      · rfl
    unfold validRune at hv
    simp at hv
    omega
theorem right_small (l : List Cell) (h : rightC l = true) : Small l := by
  have key : ∀ k (l : List Cell), l.length ≤ k → rightC l = true → Small l := by
    intro k
    induction k with
    | zero => intro l h _; have : l = [] := List.eq_nil_of_length_eq_zero (by omega); subst this; intro c hc; cases hc
    | succ k ih =>
      intro l h hr
      cases l with
      | nil => intro c hc; cases hc
      | cons c l =>
        simp at h
        have hu : sizeC (c :: l) = if !c.ok || c.tail then 0 else if !c.wide then 1 else if l.head? = some c.behind then 2 else 0 := rfl
        have hok : sizeC (c :: l) ≠ 0 → c.ok = true := by
          intro h0
          cases hk : c.ok
          · exfalso; apply h0; rw [hu, hk]; rfl
          · rfl
        rcases sizeC_cases c l with h1 | h1 | ⟨h1, d, l', rfl⟩
        · rw [rightC_0 h1] at hr; cases hr
        · rw [rightC_1 h1] at hr
          intro x hx
          rcases List.mem_cons.1 hx with rfl | hx
          · exact ok_small _ (hok (by omega))
          · exact ih l (by omega) hr x hx
        · rw [rightC_2 h1] at hr
          simp at h
          intro x hx
          rcases List.mem_cons.1 hx with rfl | hx
          · exact ok_small _ (hok (by omega))
          · rcases List.mem_cons.1 hx with rfl | hx
            · have hd : x = c.behind := by
                rw [hu] at h1
                split at h1
                · cases h1
                · split at h1
                  · cases h1
                  · split at h1
                    · rename_i h3; simpa using h3
                    · cases h1
              rw [hd]; simp [Cell.behind]
            · exact ih l' (by omega) hr x hx
  exact key _ l (Nat.le_refl _) h
end Go.Proofs.YtldjmacnokkjdaaDoor
