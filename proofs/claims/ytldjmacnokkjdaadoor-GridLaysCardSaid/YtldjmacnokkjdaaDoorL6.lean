/- Package lyceumlaw06: cells, plain, the grid by numbers. -/
import Derived.Test.YtldjmacnokkjdaaDoorR6P
namespace Go.Proofs.YtldjmacnokkjdaaDoor
open Go.RowKit
theorem l6_and15 (n : Int) : bits .and .i64 n 15 = n % 16 := i64_and_mask n 4 15 (by omega) (by decide)
theorem l6_and3 (n : Int) : bits .and .i64 n 3 = n % 4 := i64_and_mask n 2 3 (by omega) (by decide)
theorem l6_and1 (n : Int) : bits .and .i64 n 1 = n % 2 := i64_and_mask n 1 1 (by omega) (by decide)
attribute [local go_sem] l6_and15 l6_and3 l6_and1
set_option linter.unusedVariables false
set_option linter.unusedSimpArgs false

def chars6 : List Int := [32, 32, 97, 98, 19968, 19969, 99, 32, 8364, 128512, 120, 97, 100, 32, 12354, 35]
def char6 (k : Nat) : Int := chars6.getD k 0
def at6 (n : Int) : Fin 256 := ⟨(n / 64 % 2).toNat, by have := Int.emod_lt_of_pos (n / 64) (b := 2) (by omega); omega⟩
def pen6 (n : Int) : Cell := ⟨0, n / 16 % 4, 0, at6 n⟩
def cell6 (n : Int) : List Cell := makeC (char6 (n % 16).toNat) (pen6 n)
def cells6 (l : List Int) : List Cell := (l.take 80).flatMap cell6
theorem cells6_len (l : List Int) : (l.flatMap cell6).length ≤ 2 * l.length := by
  induction l with
  | nil => simp
  | cons x l ih =>
    rw [List.flatMap_cons, List.length_append, List.length_cons]
    have : (cell6 x).length ≤ 2 := makeC_le _ _
    omega
theorem char6_cases (k : Nat) (hk : k < 16) : (-2147483648 ≤ char6 k ∧ char6 k ≤ 2147483647) ∧ (#[Value.int .i32 32, .int .i32 32, .int .i32 97, .int .i32 98, .int .i32 19968, .int .i32 19969, .int .i32 99, .int .i32 32, .int .i32 8364, .int .i32 128512, .int .i32 120, .int .i32 97, .int .i32 100, .int .i32 32, .int .i32 12354, .int .i32 35] : Array Value)[k]? = some (.int .i32 (char6 k)) := by
  have : k = 0 ∨ k = 1 ∨ k = 2 ∨ k = 3 ∨ k = 4 ∨ k = 5 ∨ k = 6 ∨ k = 7 ∨ k = 8 ∨ k = 9 ∨ k = 10 ∨ k = 11 ∨ k = 12 ∨ k = 13 ∨ k = 14 ∨ k = 15 := by omega
  rcases this with rfl | rfl | rfl | rfl | rfl | rfl | rfl | rfl | rfl | rfl | rfl | rfl | rfl | rfl | rfl | rfl <;> exact ⟨by simp [char6, chars6], rfl⟩
theorem cells6_snoc {l : List Int} {i : Nat} {x : Int} (h : l[i]? = some x) : (l.take (i + 1)).flatMap cell6 = (l.take i).flatMap cell6 ++ cell6 x := by
  rw [List.take_add_one, h]; simp
def Cel6Rel (W0 : World) (l : List Int) (n : Nat) (kk : Nat) (out idx n6 : Value) (wr : World) : Prop :=
  ∃ (i : Nat), idx = .int .i64 i ∧ i ≤ n ∧ i ≤ 80 ∧ wr.ownsRow W0.heap.size 27 4 out ((l.take i).flatMap cell6).length (((l.take i).flatMap cell6).flatMap Cell.vals) ∧ Mods [] W0 wr ∧ kk + i = 80
set_option maxHeartbeats 2000000 in
theorem law06_cells (w : World) (A : Option Addr) (n cap : Nat) (l : List Int) (h : ReadsRows w A n 1 intV l) :
    Calls Tryd.prog 50 #[.slice A n cap] w fun e w' => ∃ v, e = .returned v ∧ w'.ownsRow w.heap.size 27 4 v (cells6 l).length ((cells6 l).flatMap Cell.vals) ∧ Mods [] w w' := by
  have hn := h.2.1
  unfold maxLen at hn
  have HH := Lib.hid h
  have hl := h.1
  have HL := Lib.hid hl
  clear h hl
  have hb := blk_new w (.cells #[Value.int .i32 32, .int .i32 32, .int .i32 97, .int .i32 98, .int .i32 19968, .int .i32 19969, .int .i32 99, .int .i32 32, .int .i32 8364, .int .i32 128512, .int .i32 120, .int .i32 97, .int .i32 100, .int .i32 32, .int .i32 12354, .int .i32 35] 99)
  have HB := Lib.hid hb
  clear hb
  have hM0 := (Mods.refl [] w).alloc (.cells #[Value.int .i32 32, .int .i32 32, .int .i32 97, .int .i32 98, .int .i32 19968, .int .i32 19969, .int .i32 99, .int .i32 32, .int .i32 8364, .int .i32 128512, .int .i32 120, .int .i32 97, .int .i32 100, .int .i32 32, .int .i32 12354, .int .i32 35] 99)
  go_enter Tryd.func50, Tryd.ntmps50
  go_wp2
  generalize w.alloc (.cells #[Value.int .i32 32, .int .i32 32, .int .i32 97, .int .i32 98, .int .i32 19968, .int .i32 19969, .int .i32 99, .int .i32 32, .int .i32 8364, .int .i32 128512, .int .i32 120, .int .i32 97, .int .i32 100, .int .i32 32, .int .i32 12354, .int .i32 35] 99) = W0 at *
  go_loopg [4, 5, 6] 80 (Cel6Rel W0 l n)
  case atStart => exact ⟨0, rfl, by omega, by omega, own_nil _ _ _ _, Mods.refl _ _, by omega⟩
  case round =>
    obtain ⟨i, rfl, hi, hi10, hown, hM, hkk⟩ := hrel
    have HOWN := Lib.hid hown
    have HKK := Lib.hid hkk
    have hsz := hM.size
    have hs0 := heap_lt HB.out
    clear hown hkk
    by_cases hlt : i < n
    · by_cases hlt2 : i < 80
      · obtain ⟨x, hx⟩ : ∃ x, l[i]? = some x := ⟨_, List.getElem?_eq_getElem (by rw [HL.out]; exact hlt)⟩
        obtain ⟨a, rfl, c0, hc⟩ := (HH.out.keepsM (fun _ => rfl) (hM0.trans hM) (by simp)).row hx
        clear hc
        simp only [intV, List.getElem?_cons_zero, Nat.zero_add, Nat.mul_one] at c0
        have hx1 : 0 ≤ x % 16 := Int.emod_nonneg _ (by omega)
        have hx2 : x % 16 < 16 := Int.emod_lt_of_pos _ (by omega)
        obtain ⟨⟨b1, b2⟩, hchr⟩ := char6_cases (x % 16).toNat (by omega)
        have d0 := (blk_cell (hM.at HB.out (by simp)) (x % 16).toNat).trans hchr
        have f1 : IntKind.u8.wrap (x / 16 % 4) = x / 16 % 4 := by
          have h1 := Int.emod_nonneg (x / 16) (b := 4) (by omega)
          have h2 := Int.emod_lt_of_pos (x / 16) (b := 4) (by omega)
          exact IntWalk.u8_in _ (by omega)
        have f2 : IntKind.u8.wrap (x / 64 % 2) = x / 64 % 2 := by
          have h1 := Int.emod_nonneg (x / 64) (b := 2) (by omega)
          have h2 := Int.emod_lt_of_pos (x / 64) (b := 2) (by omega)
          exact IntWalk.u8_in _ (by omega)
        have f3 : ((at6 x).val : Int) = x / 64 % 2 := by
          have h1 := Int.emod_nonneg (x / 64) (b := 2) (by omega)
          simp [at6]; omega
        have HS := Lib.hid (cells6_snoc hx)
        have hll := cells6_len (l.take i)
        have hl2 : (l.take i).length ≤ i := by simp; omega
        have hk2 := HKK.out
        have MK : ∀ W, Calls Tryd.prog 38 #[.int .i32 (char6 (x % 16).toNat), .agg #[.int .i32 0, .int .u8 (x / 16 % 4), .int .u8 0, .int .u8 (x / 64 % 2)]] W fun e w' => ∃ v, e = .returned v ∧ w'.ownsRow W.heap.size 27 4 v (cell6 x).length ((cell6 x).flatMap Cell.vals) ∧ Mods [] W w' := fun W => by
          have := ref5_Make W (char6 (x % 16).toNat) (pen6 x) b1 b2
          unfold pen6 Cell.val at this
          rw [f3] at this
          exact this
        have HMK := Lib.hid MK
        have hm2 : (cell6 x).length ≤ 2 := makeC_le _ _
        clear MK hx hchr f3
        go_wp2_with (first
          | (go_at_call 38; go_must (refine (HMK.out _).mono ?_); rintro e w1 ⟨u, rfl, hu, hm⟩; have HU := Lib.hid hu; have hms := hm.size; clear hu)
          | (at_builtin; go_must (refine append_own_any (w := W0) (S := []) W0.heap.size rfl (.tmp 22) (.tmp 36) 28 27 (.agg #[.int .i32 0, .int .u8 0, .int .u8 0, .int .u8 0]) 4 8 rfl Tryd.underlying28 (by kernel_rfl) rfl (by decide) (by decide) _ ((l.take i).flatMap cell6).length _ u (cell6 x).length _ _ rfl rfl HU.out (vals_one _) (own_mods HOWN.out hm (by simp)) (hM.trans hm) (by omega) (Nat.le_refl _) (by omega) ?_); intro v1 w2 hown2 hM2; have HOWN2 := Lib.hid hown2; clear hown2))
        go_roundg (gk - 1)
        case measure => omega
        case rel => exact ⟨i + 1, by go_num, by omega, by omega, by rw [HS.out, List.length_append, List.flatMap_append]; exact HOWN2.out, hM2, by omega⟩
      · have hin : i = 80 := by omega
        go_wp2
        go_ret
        subst hin
        exact ⟨_, rfl, own_lower HOWN.out hM0.size, hM0.trans hM⟩
    · have hin : i = n := by omega
      go_wp2
      go_ret
      refine ⟨_, rfl, ?_, hM0.trans hM⟩
      have e : cells6 l = (l.take i).flatMap cell6 := by
        unfold cells6
        rw [List.take_of_length_le (by rw [HL.out]; omega), List.take_of_length_le (by rw [HL.out]; omega)]
      rw [e]
      exact own_lower HOWN.out hM0.size
theorem cells6_small (l : List Int) : Small (cells6 l) := by
  intro c hc
  unfold cells6 at hc
  rw [List.mem_flatMap] at hc
  obtain ⟨x, _, hx⟩ := hc
  unfold cell6 makeC at hx
  have hx1 : 0 ≤ x % 16 := Int.emod_nonneg _ (by omega)
  have hx2 : x % 16 < 16 := Int.emod_lt_of_pos _ (by omega)
  obtain ⟨hb, _⟩ := char6_cases (x % 16).toNat (by omega)
  split at hx
  · simp at hx; rw [hx]; exact hb
  · split at hx
    · simp at hx
      rcases hx with rfl | rfl
      · exact hb
      · exact ⟨by show (-2147483648 : Int) ≤ 0; decide, by show (0 : Int) ≤ 2147483647; decide⟩
    · cases hx
theorem cells6_le (l : List Int) : (cells6 l).length ≤ 160 := by
  have := cells6_len (l.take 80)
  have h2 : (l.take 80).length ≤ 80 := by simp; omega
  unfold cells6; omega
end Go.Proofs.YtldjmacnokkjdaaDoor
