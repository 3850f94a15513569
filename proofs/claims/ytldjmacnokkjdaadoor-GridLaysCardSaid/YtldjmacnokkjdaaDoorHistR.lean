/- What the functions of package history that read a ring give, and Push. -/
import Derived.Test.YtldjmacnokkjdaaDoorHistP
import Derived.Test.YtldjmacnokkjdaaDoorCellC
namespace Go.Proofs.YtldjmacnokkjdaaDoor
open Go.RowKit
set_option linter.unusedVariables false
set_option linter.unusedSimpArgs false

theorem ring_Len (w : World) (h lo : Nat) (lv : Value) (room first : Nat) (rows : List (List Cell)) (vs : List Value) (hh : HAt w h lo lv room first rows vs) :
    Calls Tryd.prog 35 #[.pointer (some ⟨h, 0, none⟩)] w fun e w' => e = .returned (.int .i64 (rows.length : Int)) ∧ w = w' := by
  obtain ⟨LA, lc, rfl, hl1, hl2, hl3⟩ := own_slice' hh.own
  have C := fun i => blk_cell hh.head i
  clear hh
  go_enter Tryd.func35, Tryd.ntmps35
  go_wp2
  go_ret
  exact ⟨rfl, rfl⟩
theorem history_Len (w : World) (h lo : Nat) (lv : Value) (room first : Nat) (rows : List (List Cell)) (vs : List Value) (hh : HAt w h lo lv room first rows vs) :
    Calls Tryd.prog 12 #[.pointer (some ⟨h, 0, none⟩)] w fun e w' => e = .returned (.int .i64 (rows.length : Int)) ∧ w = w' := by
  have HH := Lib.hid hh
  clear hh
  go_enter Tryd.func12, Tryd.ntmps12
  go_wp2_with (go_at_call 35; go_must (refine (ring_Len _ h lo lv room first rows vs HH.out).mono ?_); rintro e w1 ⟨rfl, rfl⟩)
  go_ret
  exact ⟨rfl, rfl⟩
/-- The i-th row, in the order of the pushes, lies here. -/
def atF (first i n : Nat) : Nat := (first + i) % n
theorem ring_at (w : World) (h lo : Nat) (lv : Value) (room first : Nat) (rows : List (List Cell)) (vs : List Value) (hh : HAt w h lo lv room first rows vs) (i : Nat) (hi : i < rows.length) :
    Calls Tryd.prog 67 #[.pointer (some ⟨h, 0, none⟩), .int .i64 (i : Int)] w fun e w' => e = .returned (.int .i64 (atF first i rows.length : Int)) ∧ ∃ m, w' = w.drewN m := by
  obtain ⟨LA, lc, rfl, hl1, hl2, hl3⟩ := own_slice' hh.own
  have hr5 := hh.room5
  have hle := hh.le
  have hfst := hh.fst
  have C0 : ∀ n, (w.drewN n).cell? ⟨h, 1, none⟩ = some (.slice LA rows.length lc) := fun _ => blk_cell hh.head 1
  have C2 : ∀ n, (w.drewN n).cell? ⟨h, 2, none⟩ = some (.int .i64 (first : Int)) := fun _ => blk_cell hh.head 2
  have e1 : IntKind.i64.wrap ((first : Int) + (i : Int)) = (first : Int) + (i : Int) := IntWalk.i64_in _ (by omega)
  have e2 : ((rows.length : Int) == 0) = false := by simp; intro e; simp [e] at hi
  clear hh hfst
  go_enter Tryd.func67, Tryd.ntmps67
  go_wp2_with (fail)
  go_quiet (fail)
  go_wp2
  go_ret
  exact ⟨by simp [atF], nq, rfl⟩
theorem atF_lt {first i n : Nat} (h : i < n) : atF first i n < n := Nat.mod_lt _ (by omega)

set_option maxRecDepth 4000 in
theorem history_row (w : World) (h lo : Nat) (lv : Value) (room first : Nat) (rows : List (List Cell)) (vs : List Value) (hh : HAt w h lo lv room first rows vs) (i : Nat) (hi : i < rows.length) :
    Calls Tryd.prog 37 #[.pointer (some ⟨h, 0, none⟩), .int .i64 (i : Int)] w fun e w' => ∃ v r, e = .returned v ∧ (∃ m, w' = w.drewN m) ∧ rows[atF first i rows.length]? = some r ∧ vs[atF first i rows.length]? = some v ∧ HRow w (h :: lv.ownBlock.toList) v r := by
  obtain ⟨LA, lc, hlv, hl1, hl2, hl3⟩ := own_slice' hh.own
  obtain ⟨g, rfl⟩ := hl3 (by omega)
  have hlen := own_len hh.own
  have hlt := atF_lt (first := first) hi
  obtain ⟨v, hv⟩ : ∃ v, vs[atF first i rows.length]? = some v := ⟨_, List.getElem?_eq_getElem (by omega)⟩
  obtain ⟨r, hr⟩ : ∃ r, rows[atF first i rows.length]? = some r := ⟨_, List.getElem?_eq_getElem hlt⟩
  have hrow := hh.row _ v r hv hr
  have hr5 := hh.room5
  have hle := hh.le
  have hown := hh.own
  rw [hlv] at hown
  have C0 : ∀ n, (w.drewN n).cell? ⟨h, 1, none⟩ = some (.slice (some ⟨g, 0, none⟩) rows.length lc) := fun _ => by rw [← hlv]; exact blk_cell hh.head 1
  have G0 : ∀ n, (w.drewN n).cell? ⟨g, atF first i rows.length, none⟩ = some v := fun _ => own_cells hown _ hv
  have hc : ∀ n, Calls Tryd.prog 67 #[.pointer (some ⟨h, 0, none⟩), .int .i64 (i : Int)] (w.drewN n) fun e w' => e = .returned (.int .i64 (atF first i rows.length : Int)) ∧ ∃ m, w' = (w.drewN n).drewN m :=
    fun n => ring_at _ h lo lv room first rows vs (hh.keeps ((Mods.refl [] w).drewN n)) i hi
  have HC := Lib.hid hc
  have HV := Lib.hid hv
  have HR := Lib.hid hr
  have HROW := Lib.hid hrow
  clear hc hv hr hrow hown hh hlen hlv
  obtain ⟨A, cap, rfl, q1, q2, q3⟩ := HROW.out
  clear q1 q2 q3
  have k0 : (0 : Int) ≤ (atF first i rows.length : Int) := by omega
  have k1 : (atF first i rows.length : Int) < (rows.length : Int) := by omega
  generalize atF first i rows.length = K at *
  go_enter Tryd.func37, Tryd.ntmps37
  go_wp2_with (fail)
  go_quiet ((go_at_call 67; exact Calls.quiet_of (HC.out _)))
  go_wp2
  go_ret
  exact ⟨_, r, rfl, ⟨nq, rfl⟩, HR.out, HV.out, HROW.out⟩

theorem history_Row_none (w : World) (h lo : Nat) (lv : Value) (room first : Nat) (rows : List (List Cell)) (vs : List Value) (hh : HAt w h lo lv room first rows vs) (i : Int) (hi : i < 0 ∨ (rows.length : Int) ≤ i) :
    Calls Tryd.prog 13 #[.pointer (some ⟨h, 0, none⟩), .int .i64 i] w fun e w' => e = .returned (.slice none 0 0) ∧ w = w' := by
  have HH := Lib.hid hh
  clear hh
  have h3 : i < 0 ∨ (¬ i < 0 ∧ (rows.length : Int) ≤ i) := by omega
  clear hi
  rcases h3 with h1 | ⟨h1, h2⟩
  all_goals
    go_enter Tryd.func13, Tryd.ntmps13
    go_wp2_with (go_at_call 12; go_must (refine (history_Len _ h lo lv room first rows vs HH.out).mono ?_); rintro e w1 ⟨rfl, rfl⟩)
    go_ret
    exact ⟨rfl, rfl⟩
theorem history_Row (w : World) (h lo : Nat) (lv : Value) (room first : Nat) (rows : List (List Cell)) (vs : List Value) (hh : HAt w h lo lv room first rows vs) (i : Nat) (hi : i < rows.length) (hsm : ∀ r ∈ rows, r.length ≤ 1000000) :
    Calls Tryd.prog 13 #[.pointer (some ⟨h, 0, none⟩), .int .i64 (i : Int)] w fun e w' => ∃ v r, e = .returned v ∧ rows[atF first i rows.length]? = some r ∧ w'.ownsRow w.heap.size 27 4 v r.length (r.flatMap Cell.vals) ∧ Mods [] w w' := by
  have hr5 := hh.room5
  have hle := hh.le
  have HH := Lib.hid hh
  clear hh
  have HS := Lib.hid hsm
  clear hsm
  go_enter Tryd.func13, Tryd.ntmps13
  go_wp2_with (first
    | (go_at_call 12; go_must (refine (history_Len _ h lo lv room first rows vs HH.out).mono ?_); rintro e w1 ⟨rfl, rfl⟩)
    | (go_at_call 37; go_must (refine (history_row _ h lo lv room first rows vs HH.out i hi).mono ?_); rintro e w1 ⟨v, r, rfl, ⟨nd, rfl⟩, hr, hv, A, cap, rfl, ⟨q1, q2⟩, q3, q4⟩; have HR := Lib.hid hr; have HQ3 := Lib.hid q3; have HQ4 := Lib.hid q4; have HQ2 := Lib.hid q2; clear hr hv q2 q3 q4)
    | (go_at_call 36; go_must (refine (clone_cells _ A r.length cap r (HQ3.out.keepsM (fun _ => rfl) ((Mods.refl [] w).drewN nd) (by simp)) q1 (fun e => ⟨by have := HQ2.out e; omega, HQ2.out e⟩) (HS.out r (List.mem_of_getElem? HR.out))).mono ?_); rintro e w2 ⟨v2, rfl, hown, _, hm2⟩))
  go_ret
  exact ⟨v2, r, rfl, HR.out, hown, ((Mods.refl _ w).drewN nd).trans hm2⟩
end Go.Proofs.YtldjmacnokkjdaaDoor
