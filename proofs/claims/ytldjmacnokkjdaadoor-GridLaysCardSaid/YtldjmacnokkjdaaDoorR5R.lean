/- The document's answers of layers 5 and 6: Right, size, Row, Check. -/
import Derived.Test.YtldjmacnokkjdaaDoorR5M
namespace Go.Proofs.YtldjmacnokkjdaaDoor
open Go.RowKit
set_option linter.unusedVariables false
set_option linter.unusedSimpArgs false

def Right5Rel (W : World) (n : Nat) (kk : Nat) (idx : Value) (wr : World) : Prop := ∃ i : Nat, idx = .int .i64 (i : Int) ∧ i ≤ n ∧ Mods [] W wr ∧ kk + i = n
set_option maxRecDepth 4000 in
set_option maxHeartbeats 4000000 in
theorem ref5_Right (W : World) (A : Option Addr) (n cap : Nat) (row : List Cell) (h : ReadsRows W A n 4 Cell.vals row) (hb : Small row) (hsm : n ≤ 1000000) :
    Calls Tryd.prog 89 #[.slice A n cap] W fun e W' => ∃ b, e = .returned (.bool b) ∧ Mods [] W W' := by
  have HO := Lib.hid h
  have HLN := Lib.hid h.1
  have HB := Lib.hid hb
  clear h hb
  go_enter Tryd.func89, Tryd.ntmps89
  go_wp2
  go_loopg [3] n (Right5Rel W n)
  case atStart => exact ⟨0, rfl, by omega, Mods.refl _ _, by omega⟩
  case round =>
    obtain ⟨i, rfl, hi, hM, hkk⟩ := hrel
    have HKK := Lib.hid hkk
    clear hkk
    by_cases hlt : i < n
    · obtain ⟨c, hc⟩ : ∃ c, row[i]? = some c := ⟨_, List.getElem?_eq_getElem (by rw [HLN.out]; exact hlt)⟩
      have HRW : Hid (∀ X, Mods [] wr X → ReadsRows X A n 4 Cell.vals row) := Lib.hid (fun X hX => HO.out.keepsM (fun _ => rfl) (hM.trans hX) (by simp))
      obtain ⟨a, rfl, c0, hcs⟩ := (HRW.out _ (Mods.refl _ _)).row hc
      have c1 := hcs 0 (by omega)
      have c2 := hcs 1 (by omega)
      have c3 := hcs 2 (by omega)
      have hbc := HB.out c (List.mem_of_getElem? hc)
      have i1 : (i : Int) < (n : Int) := by omega
      have i0 : (0 : Int) ≤ (i : Int) := by omega
      have e1 : IntKind.i64.wrap ((i : Int) - 1) = (i : Int) - 1 := IntWalk.i64_in _ (by omega)
      have hk2 := HKK.out
      clear hcs hc
      have K0 : ∀ w, Calls Tryd.prog 100 #[c.val] w fun e w' => e = .returned (.bool c.ok) ∧ Mods [] w w' := fun w => ref5_Check w c hbc
      have W0 : ∀ w, Calls Tryd.prog 101 #[c.val] w fun e w' => e = .returned (.bool c.wide) ∧ Mods [] w w' := fun w => ref5_wide w c
      have T0 : ∀ w, Calls Tryd.prog 103 #[c.val] w fun e w' => e = .returned (.bool c.tail) ∧ Mods [] w w' := fun w => ref5_tail w c
      generalize c.ok = b0 at *
      generalize c.wide = b1 at *
      generalize c.tail = b2 at *
      have K1 := Lib.hid K0
      have W1 := Lib.hid W0
      have T1 := Lib.hid T0
      clear K0 W0 T0 hbc
      obtain ⟨r, fg, bg, at'⟩ := c
      simp only [Cell.vals, List.getElem?_cons_zero, List.getElem?_cons_succ] at c0 c1 c2 c3
      simp only [Cell.val] at K1 W1 T1
      have KA : ∀ X, Mods [] wr X → X.cell? (a.add (i * (3 + 1))) = some (.int .i32 r) ∧ X.cell? ⟨(a.add (i * (3 + 1))).block, (a.add (i * (3 + 1))).off + (0 + 1), none⟩ = some (.int .u8 fg) ∧ X.cell? ⟨(a.add (i * (3 + 1))).block, (a.add (i * (3 + 1))).off + (1 + 1), none⟩ = some (.int .u8 bg) ∧ X.cell? ⟨(a.add (i * (3 + 1))).block, (a.add (i * (3 + 1))).off + (2 + 1), none⟩ = some (.int .u8 (at'.val : Int)) := fun X hX => ⟨hX.cell c0 (by simp), hX.cell c1 (by simp), hX.cell c2 (by simp), hX.cell c3 (by simp)⟩
      have HKA := Lib.hid KA
      clear KA
      go_wp2_with fail
      clear c0 c1 c2 c3
      refine (K1.out _).mono ?_
      rintro e w1 ⟨rfl, hm1⟩
      obtain ⟨c0, c1, c2, c3⟩ := HKA.out _ hm1
      cases b0
      case false =>
        go_wp2
        go_ret
        exact ⟨false, rfl, hM.trans hm1⟩
      case true =>
        go_wp2_with fail
        clear c0 c1 c2 c3
        refine (W1.out _).mono ?_
        rintro e w2 ⟨rfl, hm2⟩
        have hm12 := hm1.trans hm2
        cases b1
        case false =>
          obtain ⟨c0, c1, c2, c3⟩ := HKA.out _ hm12
          go_wp2_with fail
          clear c0 c1 c2 c3
          refine (T1.out _).mono ?_
          rintro e w4 ⟨rfl, hm4⟩
          have hm14 := hm12.trans hm4
          cases b2
          case false =>
            go_wp2
            go_roundg (gk - 1)
            case measure => omega
            case rel => exact ⟨i + 1, by go_num, by omega, hM.trans hm14, by omega⟩
          case true =>
            go_wp2_with fail
            refine (ref5_pair_prev w4 (some a) n cap i row (HRW.out _ hm14) hlt HB.out).mono ?_
            generalize pairP row i = p2
            rintro e w5 ⟨rfl, hm5⟩
            cases p2
            case false =>
              go_wp2
              go_ret
              exact ⟨false, rfl, hM.trans (hm14.trans hm5)⟩
            case true =>
              go_wp2
              go_roundg (gk - 1)
              case measure => omega
              case rel => exact ⟨i + 1, by go_num, by omega, hM.trans (hm14.trans hm5), by omega⟩
        case true =>
          go_wp2_with fail
          refine (ref5_pair w2 (some a) n cap i row (HRW.out _ hm12) hlt HB.out).mono ?_
          generalize pairC row i = p1
          rintro e w3 ⟨rfl, hm3⟩
          have hm13 := hm12.trans hm3
          cases p1
          case false =>
            go_wp2
            go_ret
            exact ⟨false, rfl, hM.trans hm13⟩
          case true =>
            obtain ⟨c0, c1, c2, c3⟩ := HKA.out _ hm13
            go_wp2_with fail
            clear c0 c1 c2 c3
            refine (T1.out _).mono ?_
            rintro e w4 ⟨rfl, hm4⟩
            have hm14 := hm13.trans hm4
            cases b2
            case false =>
              go_wp2
              go_roundg (gk - 1)
              case measure => omega
              case rel => exact ⟨i + 1, by go_num, by omega, hM.trans hm14, by omega⟩
            case true =>
              go_wp2_with fail
              refine (ref5_pair_prev w4 (some a) n cap i row (HRW.out _ hm14) hlt HB.out).mono ?_
              generalize pairP row i = p2
              rintro e w5 ⟨rfl, hm5⟩
              cases p2
              case false =>
                go_wp2
                go_ret
                exact ⟨false, rfl, hM.trans (hm14.trans hm5)⟩
              case true =>
                go_wp2
                go_roundg (gk - 1)
                case measure => omega
                case rel => exact ⟨i + 1, by go_num, by omega, hM.trans (hm14.trans hm5), by omega⟩
    · have hin : i = n := by omega
      subst hin
      go_wp2
      go_ret
      exact ⟨true, rfl, hM⟩
theorem ref6_size (W : World) (x y : Int) : Calls Tryd.prog 40 #[.int .i64 x, .int .i64 y] W fun e W' => e = .returned (.bool (decide (1 ≤ x ∧ x ≤ 200 ∧ 1 ≤ y ∧ y ≤ 60))) ∧ W = W' := by
  by_cases h1 : 1 ≤ x <;> by_cases h2 : x ≤ 200 <;> by_cases h3 : 1 ≤ y <;> by_cases h4 : y ≤ 60
  all_goals
    go_enter Tryd.func40, Tryd.ntmps40
    go_wp2
    go_ret
    simp [h1, h2, h3, h4]
end Go.Proofs.YtldjmacnokkjdaaDoor
