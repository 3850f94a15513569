/- A part of the library on package lyceum: L6, L6G, Lines, Awk6, GBes, GScr, GLay. -/
import Derived.Test.YtldjmacnokkjdaaDoorGe
import Derived.StillTailTactics
import Derived.Test.YtldjmacnokkjdaaDoorGc
/- Package lyceumlaw06: cells, plain, the grid by numbers. -/
namespace Go.Proofs.YtldjmacnokkjdaaDoor
open Go.RowKit
theorem l6_and15 (n : Int) : bits .and .i64 n 15 = n % 16 := i64_and_mask n 4 15 (by omega) (by decide)
theorem l6_and3 (n : Int) : bits .and .i64 n 3 = n % 4 := i64_and_mask n 2 3 (by omega) (by decide)
theorem l6_and1 (n : Int) : bits .and .i64 n 1 = n % 2 := i64_and_mask n 1 1 (by omega) (by decide)
attribute [local go_sem] l6_and15 l6_and3 l6_and1
set_option linter.unusedVariables false
set_option linter.unusedSimpArgs false

def chars6 : List Int := [32, 32, 97, 98, 19968, 19969, 99, 32, 8364, 128512, 120, 97, 100, 32, 12354, 35]
def char6 (k : Nat) : Int := chars6.getD k 0
def at6 (n : Int) : Fin 256 := ⟨(n / 64 % 2).toNat, by have := Int.emod_lt_of_pos (n / 64) (b := 2) (by omega); omega⟩
def pen6 (n : Int) : Cell := ⟨0, n / 16 % 4, 0, at6 n⟩
def cell6 (n : Int) : List Cell := makeC (char6 (n % 16).toNat) (pen6 n)
def cells6 (l : List Int) : List Cell := (l.take 80).flatMap cell6
theorem cells6_len (l : List Int) : (l.flatMap cell6).length ≤ 2 * l.length := by
  induction l with
  | nil => simp
  | cons x l ih =>
    rw [List.flatMap_cons, List.length_append, List.length_cons]
    have : (cell6 x).length ≤ 2 := makeC_le _ _
    omega
theorem char6_cases (k : Nat) (hk : k < 16) : (-2147483648 ≤ char6 k ∧ char6 k ≤ 2147483647) ∧ (#[Value.int .i32 32, .int .i32 32, .int .i32 97, .int .i32 98, .int .i32 19968, .int .i32 19969, .int .i32 99, .int .i32 32, .int .i32 8364, .int .i32 128512, .int .i32 120, .int .i32 97, .int .i32 100, .int .i32 32, .int .i32 12354, .int .i32 35] : Array Value)[k]? = some (.int .i32 (char6 k)) := by
  have : k = 0 ∨ k = 1 ∨ k = 2 ∨ k = 3 ∨ k = 4 ∨ k = 5 ∨ k = 6 ∨ k = 7 ∨ k = 8 ∨ k = 9 ∨ k = 10 ∨ k = 11 ∨ k = 12 ∨ k = 13 ∨ k = 14 ∨ k = 15 := by omega
  rcases this with rfl | rfl | rfl | rfl | rfl | rfl | rfl | rfl | rfl | rfl | rfl | rfl | rfl | rfl | rfl | rfl <;> exact ⟨by simp [char6, chars6], rfl⟩
theorem cells6_snoc {l : List Int} {i : Nat} {x : Int} (h : l[i]? = some x) : (l.take (i + 1)).flatMap cell6 = (l.take i).flatMap cell6 ++ cell6 x := by
  rw [List.take_add_one, h]; simp
def Cel6Rel (W0 : World) (l : List Int) (n : Nat) (kk : Nat) (out idx n6 : Value) (wr : World) : Prop :=
  ∃ (i : Nat), idx = .int .i64 i ∧ i ≤ n ∧ i ≤ 80 ∧ wr.ownsRow W0.heap.size 27 4 out ((l.take i).flatMap cell6).length (((l.take i).flatMap cell6).flatMap Cell.vals) ∧ Mods [] W0 wr ∧ kk + i = 80
set_option maxHeartbeats 2000000 in
theorem law06_cells (w : World) (A : Option Addr) (n cap : Nat) (l : List Int) (h : ReadsRows w A n 1 intV l) :
    Calls Tryd.prog 50 #[.slice A n cap] w fun e w' => ∃ v, e = .returned v ∧ w'.ownsRow w.heap.size 27 4 v (cells6 l).length ((cells6 l).flatMap Cell.vals) ∧ Mods [] w w' := by
  have hn := h.2.1
  unfold maxLen at hn
  have HH := Lib.hid h
  have hl := h.1
  have HL := Lib.hid hl
  clear h hl
  have hb := blk_new w (.cells #[Value.int .i32 32, .int .i32 32, .int .i32 97, .int .i32 98, .int .i32 19968, .int .i32 19969, .int .i32 99, .int .i32 32, .int .i32 8364, .int .i32 128512, .int .i32 120, .int .i32 97, .int .i32 100, .int .i32 32, .int .i32 12354, .int .i32 35] 99)
  have HB := Lib.hid hb
  clear hb
  have hM0 := (Mods.refl [] w).alloc (.cells #[Value.int .i32 32, .int .i32 32, .int .i32 97, .int .i32 98, .int .i32 19968, .int .i32 19969, .int .i32 99, .int .i32 32, .int .i32 8364, .int .i32 128512, .int .i32 120, .int .i32 97, .int .i32 100, .int .i32 32, .int .i32 12354, .int .i32 35] 99)
  go_enter Tryd.func50, Tryd.ntmps50
  go_wp2
  generalize w.alloc (.cells #[Value.int .i32 32, .int .i32 32, .int .i32 97, .int .i32 98, .int .i32 19968, .int .i32 19969, .int .i32 99, .int .i32 32, .int .i32 8364, .int .i32 128512, .int .i32 120, .int .i32 97, .int .i32 100, .int .i32 32, .int .i32 12354, .int .i32 35] 99) = W0 at *
  go_loopg [4, 5, 6] 80 (Cel6Rel W0 l n)
  case atStart => exact ⟨0, rfl, by omega, by omega, own_nil _ _ _ _, Mods.refl _ _, by omega⟩
  case round =>
    obtain ⟨i, rfl, hi, hi10, hown, hM, hkk⟩ := hrel
    have HOWN := Lib.hid hown
    have HKK := Lib.hid hkk
    have hsz := hM.size
    have hs0 := heap_lt HB.out
    clear hown hkk
    by_cases hlt : i < n
    · by_cases hlt2 : i < 80
      · obtain ⟨x, hx⟩ : ∃ x, l[i]? = some x := ⟨_, List.getElem?_eq_getElem (by rw [HL.out]; exact hlt)⟩
        obtain ⟨a, rfl, c0, hc⟩ := (HH.out.keepsM (fun _ => rfl) (hM0.trans hM) (by simp)).row hx
        clear hc
        simp only [intV, List.getElem?_cons_zero, Nat.zero_add, Nat.mul_one] at c0
        have hx1 : 0 ≤ x % 16 := Int.emod_nonneg _ (by omega)
        have hx2 : x % 16 < 16 := Int.emod_lt_of_pos _ (by omega)
        obtain ⟨⟨b1, b2⟩, hchr⟩ := char6_cases (x % 16).toNat (by omega)
        have d0 := (blk_cell (hM.at HB.out (by simp)) (x % 16).toNat).trans hchr
        have f1 : IntKind.u8.wrap (x / 16 % 4) = x / 16 % 4 := by
          have h1 := Int.emod_nonneg (x / 16) (b := 4) (by omega)
          have h2 := Int.emod_lt_of_pos (x / 16) (b := 4) (by omega)
          exact IntWalk.u8_in _ (by omega)
        have f2 : IntKind.u8.wrap (x / 64 % 2) = x / 64 % 2 := by
          have h1 := Int.emod_nonneg (x / 64) (b := 2) (by omega)
          have h2 := Int.emod_lt_of_pos (x / 64) (b := 2) (by omega)
          exact IntWalk.u8_in _ (by omega)
        have f3 : ((at6 x).val : Int) = x / 64 % 2 := by
          have h1 := Int.emod_nonneg (x / 64) (b := 2) (by omega)
          simp [at6]; omega
        have HS := Lib.hid (cells6_snoc hx)
        have hll := cells6_len (l.take i)
        have hl2 : (l.take i).length ≤ i := by simp; omega
        have hk2 := HKK.out
        have MK : ∀ W, Calls Tryd.prog 38 #[.int .i32 (char6 (x % 16).toNat), .agg #[.int .i32 0, .int .u8 (x / 16 % 4), .int .u8 0, .int .u8 (x / 64 % 2)]] W fun e w' => ∃ v, e = .returned v ∧ w'.ownsRow W.heap.size 27 4 v (cell6 x).length ((cell6 x).flatMap Cell.vals) ∧ Mods [] W w' := fun W => by
          have := ref5_Make W (char6 (x % 16).toNat) (pen6 x) b1 b2
          unfold pen6 Cell.val at this
          rw [f3] at this
          exact this
        have HMK := Lib.hid MK
        have hm2 : (cell6 x).length ≤ 2 := makeC_le _ _
        clear MK hx hchr f3
        go_wp2_with (first
          | (go_at_call 38; go_must (refine (HMK.out _).mono ?_); rintro e w1 ⟨u, rfl, hu, hm⟩; have HU := Lib.hid hu; have hms := hm.size; clear hu)
          | (at_builtin; go_must (refine append_own_any (w := W0) (S := []) W0.heap.size rfl (.tmp 22) (.tmp 36) 28 27 (.agg #[.int .i32 0, .int .u8 0, .int .u8 0, .int .u8 0]) 4 8 rfl Tryd.underlying28 (by kernel_rfl) rfl (by decide) (by decide) _ ((l.take i).flatMap cell6).length _ u (cell6 x).length _ _ rfl rfl HU.out (vals_one _) (own_mods HOWN.out hm (by simp)) (hM.trans hm) (by omega) (Nat.le_refl _) (by omega) ?_); intro v1 w2 hown2 hM2; have HOWN2 := Lib.hid hown2; clear hown2))
        go_roundg (gk - 1)
        case measure => omega
        case rel => exact ⟨i + 1, by go_num, by omega, by omega, by rw [HS.out, List.length_append, List.flatMap_append]; exact HOWN2.out, hM2, by omega⟩
      · have hin : i = 80 := by omega
        go_wp2
        go_ret
        subst hin
        exact ⟨_, rfl, own_lower HOWN.out hM0.size, hM0.trans hM⟩
    · have hin : i = n := by omega
      go_wp2
      go_ret
      refine ⟨_, rfl, ?_, hM0.trans hM⟩
      have e : cells6 l = (l.take i).flatMap cell6 := by
        unfold cells6
        rw [List.take_of_length_le (by rw [HL.out]; omega), List.take_of_length_le (by rw [HL.out]; omega)]
      rw [e]
      exact own_lower HOWN.out hM0.size
theorem cells6_small (l : List Int) : Small (cells6 l) := by
  intro c hc
  unfold cells6 at hc
  rw [List.mem_flatMap] at hc
  obtain ⟨x, _, hx⟩ := hc
  unfold cell6 makeC at hx
  have hx1 : 0 ≤ x % 16 := Int.emod_nonneg _ (by omega)
  have hx2 : x % 16 < 16 := Int.emod_lt_of_pos _ (by omega)
  obtain ⟨hb, _⟩ := char6_cases (x % 16).toNat (by omega)
  split at hx
  · simp at hx; rw [hx]; exact hb
  · split at hx
    · simp at hx
      rcases hx with rfl | rfl
      · exact hb
      · exact ⟨by show (-2147483648 : Int) ≤ 0; decide, by show (0 : Int) ≤ 2147483647; decide⟩
    · cases hx
theorem cells6_le (l : List Int) : (cells6 l).length ≤ 160 := by
  have := cells6_len (l.take 80)
  have h2 : (l.take 80).length ≤ 80 := by simp; omega
  unfold cells6; omega
end Go.Proofs.YtldjmacnokkjdaaDoor
/- Package lyceumlaw06: plain, the grid by numbers. -/
namespace Go.Proofs.YtldjmacnokkjdaaDoor
open Go.RowKit
attribute [local go_sem] l6_and15 l6_and3 l6_and1 max2_mx min2_mn max_two min_two
set_option linter.unusedVariables false
set_option linter.unusedSimpArgs false

def charsP : List Int := [32, 46, 45, 122]
def charP (k : Nat) : Int := charsP.getD k 0
def atP (n : Int) : Fin 256 := ⟨(n / 16 % 4).toNat, by have := Int.emod_lt_of_pos (n / 16) (b := 4) (by omega); omega⟩
def plainC (n : Int) : Cell := ⟨charP (n % 4).toNat, 0, n / 4 % 4, atP n⟩
theorem charP_cell (k : Nat) (hk : k < 4) : (#[Value.int .i32 32, .int .i32 46, .int .i32 45, .int .i32 122] : Array Value)[k]? = some (.int .i32 (charP k)) := by
  have : k = 0 ∨ k = 1 ∨ k = 2 ∨ k = 3 := by omega
  rcases this with rfl | rfl | rfl | rfl <;> rfl
theorem plainC_ok (n : Int) : ((plainC n).ok && decide ((plainC n).attr.val < 64)) = true := by
  have key : ∀ (k : Fin 4) (a : Fin 4), (Cell.ok ⟨charP k.val, 0, 0, ⟨a.val, by omega⟩⟩ && decide (a.val < 64)) = true := by decide +kernel
  have h1 : 0 ≤ n % 4 := Int.emod_nonneg _ (by omega)
  have h2 : n % 4 < 4 := Int.emod_lt_of_pos _ (by omega)
  have h3 : 0 ≤ n / 16 % 4 := Int.emod_nonneg _ (by omega)
  have h4 : n / 16 % 4 < 4 := Int.emod_lt_of_pos _ (by omega)
  exact key ⟨(n % 4).toNat, by omega⟩ ⟨(n / 16 % 4).toNat, by omega⟩
set_option maxHeartbeats 1000000 in
theorem law06_plain (W : World) (n : Int) : Calls Tryd.prog 26 #[.int .i64 n] W fun e W' => e = .returned (plainC n).val ∧ Mods [] W W' := by
  have h1 : 0 ≤ n % 4 := Int.emod_nonneg _ (by omega)
  have h2 : n % 4 < 4 := Int.emod_lt_of_pos _ (by omega)
  have f1 : IntKind.u8.wrap (n / 4 % 4) = n / 4 % 4 := by
    have h1 := Int.emod_nonneg (n / 4) (b := 4) (by omega)
    have h2 := Int.emod_lt_of_pos (n / 4) (b := 4) (by omega)
    exact IntWalk.u8_in _ (by omega)
  have f2 : IntKind.u8.wrap (n / 16 % 4) = n / 16 % 4 := by
    have h1 := Int.emod_nonneg (n / 16) (b := 4) (by omega)
    have h2 := Int.emod_lt_of_pos (n / 16) (b := 4) (by omega)
    exact IntWalk.u8_in _ (by omega)
  have f3 : ((atP n).val : Int) = n / 16 % 4 := by
    have h1 := Int.emod_nonneg (n / 16) (b := 4) (by omega)
    simp [atP]; omega
  have hbx := blk_new' (W.alloc (.cells #[.int .i32 0, .int .u8 0, .int .u8 0, .int .u8 0] 27)) (.cells #[.int .i32 32, .int .i32 46, .int .i32 45, .int .i32 122] 83) (k := W.heap.size + 1) (by simp)
  have hb0 := blk_alloc (blk_new W (.cells #[.int .i32 0, .int .u8 0, .int .u8 0, .int .u8 0] 27)) (.cells #[.int .i32 32, .int .i32 46, .int .i32 45, .int .i32 122] 83)
  have d0 := (blk_cell hbx (n % 4).toNat).trans (charP_cell (n % 4).toNat (by omega))
  have hM0 : Mods [] W ((W.alloc (.cells #[.int .i32 0, .int .u8 0, .int .u8 0, .int .u8 0] 27)).alloc (.cells #[.int .i32 32, .int .i32 46, .int .i32 45, .int .i32 122] 83)) := ((Mods.refl [] W).alloc _).alloc _
  have HB0 := Lib.hid hb0
  have F3 := Lib.hid f3
  clear hbx hb0 f3
  go_enter Tryd.func26, Tryd.ntmps26
  go_upto_region 2 with fail
  generalize (W.alloc (.cells #[.int .i32 0, .int .u8 0, .int .u8 0, .int .u8 0] 27)).alloc (.cells #[.int .i32 32, .int .i32 46, .int .i32 45, .int .i32 122] 83) = W0 at *
  go_wp2_with (refine store_blk HB0.out rfl (.tmp 2) (.tmp 17) 27 rfl (c' := #[.int .i32 (charP (n % 4).toNat), .int .u8 0, .int .u8 (n / 4 % 4), .int .u8 (n / 16 % 4)]) (by kernel_rfl) rfl rfl rfl (by simp [Value.oneCell']) ?_; intro w5 hb5 hm5; have HB5 := Lib.hid hb5; clear hb5 d0)
  have CF := fun i => blk_cell HB5.out i
  exact bodyPost_ret (v := .agg #[.int .i32 (charP (n % 4).toNat), .int .u8 0, .int .u8 (n / 4 % 4), .int .u8 (n / 16 % 4)]) (by simp [results, Tryd.results26, go_sem, CF]) rfl ⟨by unfold plainC Cell.val; rw [F3.out], hM0.then hm5 (fun k hk => .inr (by simp at hk; omega))⟩
theorem tmod_near (x m : Int) (hm : 0 < m) : (0 ≤ x ∧ x.tmod m = x % m) ∨ (x < 0 ∧ x.tmod m = -((-x) % m)) := by
  rcases Int.lt_or_le x 0 with h | h
  · refine .inr ⟨h, ?_⟩
    have := Int.neg_tmod (-x) m
    rw [Int.neg_neg] at this
    rw [this, Int.tmod_eq_emod_of_nonneg (by omega)]
  · exact .inl ⟨h, Int.tmod_eq_emod_of_nonneg h⟩
theorem mod12 (x : Int) : -11 ≤ x.tmod 12 ∧ x.tmod 12 ≤ 11 ∧ (x.tmod 12 + 12).tmod 12 = x % 12 := by
  rcases tmod_near x 12 (by omega) with ⟨h, e⟩ | ⟨h, e⟩ <;> rw [e]
  · rw [Int.tmod_eq_emod_of_nonneg (by omega)]; omega
  · rw [Int.tmod_eq_emod_of_nonneg (by omega)]; omega
theorem mod6 (x : Int) : -5 ≤ x.tmod 6 ∧ x.tmod 6 ≤ 5 ∧ (x.tmod 6 + 6).tmod 6 = x % 6 := by
  rcases tmod_near x 6 (by omega) with ⟨h, e⟩ | ⟨h, e⟩ <;> rw [e]
  · rw [Int.tmod_eq_emod_of_nonneg (by omega)]; omega
  · rw [Int.tmod_eq_emod_of_nonneg (by omega)]; omega
theorem right_smallG {w h n : Nat} {L : List Cell} (hl : L.length = n) (hn : n = w * h) (hr : rightG w h L = true) : Small L := by
  intro c hc
  obtain ⟨i, hi⟩ := List.getElem?_of_mem hc
  have hin : i < n := by rw [← hl]; exact (List.getElem?_eq_some_iff.1 hi).1
  have hw : 0 < w := by rcases Nat.eq_zero_or_pos w with h0 | h0; · rw [h0] at hn; omega
                        · exact h0
  have hy : i / w < h := by rw [Nat.div_lt_iff_lt_mul hw, Nat.mul_comm]; omega
  unfold rightG at hr
  rw [List.all_eq_true] at hr
  have h1 := right_small _ (hr (i / w) (by simpa using hy))
  refine h1 c ?_
  have e2 : i / w * w + i % w = i := by rw [Nat.mul_comm]; exact Nat.div_add_mod i w
  have h3 : (rowC w (i / w) L)[i % w]? = some c := by rw [rowC_get (Nat.mod_lt _ hw), e2]; exact hi
  exact List.mem_of_getElem? h3
def NumRel (W : World) (w h n gb : Nat) (kk : Nat) (c4 idx k6 : Value) (wr : World) : Prop :=
  ∃ (y cn cc : Nat) (CA : Option Addr) (C L : List Cell) (a : Addr) (c0 : Nat), idx = .int .i64 (y : Int) ∧ y ≤ h ∧ c4 = .slice CA cn cc ∧ cn ≤ cc ∧ (CA = none → cc = 0) ∧ ReadsRows wr CA cn 4 Cell.vals C ∧ (∀ ad, CA = some ad → ad.block ≠ gb ∧ ad.block ≠ W.heap.size + 1) ∧ Small C ∧ cn ≤ 160 ∧
    wr.heap[gb]? = some (.cells #[.int .i64 (w : Int), .int .i64 (h : Int), .slice (some a) n c0] 38 (0, 0)) ∧ wr.heap[W.heap.size + 1]? = some (.cells #[.int .i64 0, .int .i64 0, .slice none 0 0] 38 (0, 0)) ∧ n ≤ c0 ∧ ReadsRows wr (some a) n 4 Cell.vals L ∧ rightG w h L = true ∧ W.heap.size ≤ a.block ∧ a.block ≠ gb ∧ a.block ≠ W.heap.size + 1 ∧ Mods [] W wr ∧ kk + y = h
set_option maxRecDepth 4000 in
set_option maxHeartbeats 2000000 in
theorem num_grid (W : World) (x y : Int) (w h : Nat) (A : Option Addr) (k kc : Nat) (l : List Int) (hl : ReadsRows W A k 1 intV l) (hx : -9223372036854775808 ≤ x ∧ x ≤ 9223372036854775807) (hy : -9223372036854775808 ≤ y ∧ y ≤ 9223372036854775807)
    (hw : (w : Int) = 1 + x % 12) (hh : (h : Int) = 1 + y % 6) :
    Calls Tryd.prog 24 #[.agg #[.int .i64 x, .int .i64 y, .slice A k kc]] W fun e W' =>
      ∃ a' c' L', e = .returned (gridV w h (some a') (w * h) c') ∧ w * h ≤ c' ∧ ReadsRows W' (some a') (w * h) 4 Cell.vals L' ∧ rightG w h L' = true ∧ W.heap.size ≤ a'.block ∧ Mods [] W W' := by
  have HH := Lib.hid hl
  clear hl
  have hx1 : 0 ≤ x % 12 := Int.emod_nonneg _ (by omega)
  have hx2 : x % 12 < 12 := Int.emod_lt_of_pos _ (by omega)
  have hy1 : 0 ≤ y % 6 := Int.emod_nonneg _ (by omega)
  have hy2 : y % 6 < 6 := Int.emod_lt_of_pos _ (by omega)
  have hw1 : 1 ≤ w := by omega
  have hw2 : w ≤ 12 := by omega
  have hh1 : 1 ≤ h := by omega
  have hh2 : h ≤ 6 := by omega
  have hn2 : w * h ≤ 72 := Nat.mul_le_mul hw2 hh2
  obtain ⟨m1, m2, m3⟩ := mod12 x
  obtain ⟨m4, m5, m6⟩ := mod6 y
  have e1 : wrap64 (1 + (wrap64 (x.tmod 12 + 12)).tmod 12) = (w : Int) := by
    rw [IntWalk.wrap64_in (x.tmod 12 + 12) (by omega), m3, IntWalk.wrap64_in _ (by omega), hw]
  have e2 : wrap64 (1 + (wrap64 (y.tmod 6 + 6)).tmod 6) = (h : Int) := by
    rw [IntWalk.wrap64_in (y.tmod 6 + 6) (by omega), m6, IntWalk.wrap64_in _ (by omega), hh]
  have E1 := Lib.hid e1
  have E2 := Lib.hid e2
  obtain ⟨n, hn⟩ : ∃ n, w * h = n := ⟨_, rfl⟩
  have HN := Lib.hid hn.symm
  rw [hn] at hn2
  rw [hn]
  clear e1 e2 m1 m2 m3 m4 m5 m6 hw hh hx1 hx2 hy1 hy2 hn
  go_enter Tryd.func24, Tryd.ntmps24
  go_wp2_with fail
  refine Calls.named fun W0 hW0 => ?_
  obtain ⟨hM0, hb1, hb2, hsz⟩ := boxes2 hW0
  have B1 := Lib.hid hb1
  have B2 := Lib.hid hb2
  have HSZ := Lib.hid hsz
  clear hb1 hb2 hW0
  rw [E1.out, E2.out]
  refine (ref6_New W0 w h hw1 (by omega) hh1 (by omega)).mono ?_
  rintro e w1 ⟨a1, c1, rfl, hc1, hR1, hge1, hm1⟩
  rw [← HN.out] at hc1 hR1 ⊢
  have hm2 := hm1.alloc (.cells #[.int .i64 (w : Int), .int .i64 (h : Int), .slice (some a1) n c1] 38)
  have C1 := fun i => blk_cell (hm2.at B1.out (by simp)) i
  have hbg := blk_new w1 (.cells #[.int .i64 (w : Int), .int .i64 (h : Int), .slice (some a1) n c1] 38)
  have hR2 := hR1.keepsM (fun _ => rfl) ((Mods.refl [] w1).alloc (.cells #[.int .i64 (w : Int), .int .i64 (h : Int), .slice (some a1) n c1] 38)) (by simp)
  go_wp2_with fail
  refine (law06_cells _ A k kc l (HH.out.keepsM (fun _ => rfl) (hM0.trans hm2) (by simp))).mono ?_
  rintro e w3 ⟨v3, rfl, hown3, hm3⟩
  obtain ⟨A3, c3, rfl, q1, q2, q3⟩ := own_slice' hown3
  have hle3 := cells6_le l
  obtain ⟨hR3, _, hnil3, hblk3⟩ := own_reads hown3 rfl (by omega)
  clear C1 hown3 q2 q3
  go_wp2
  have hs1 := hm1.size
  have hs3 := hm3.size
  simp only [World.size_alloc] at hs3 hblk3
  have hbg3 := hm3.at hbg (by simp)
  have hb23 := (hm2.trans hm3).at B2.out (by simp)
  have hRL3 := hR2.keepsM (fun _ => rfl) hm3 (by simp)
  have hMW3 := hM0.trans (hm2.trans hm3)
  have ha1lt : a1.block < w1.heap.size := by
    obtain ⟨c0, hc0⟩ : ∃ c, (List.replicate n blankC)[0]? = some c := ⟨blankC, by rw [List.getElem?_replicate, if_pos (by rw [HN.out]; exact Nat.mul_pos (by omega) (by omega))]⟩
    obtain ⟨a', ha', hcc, _⟩ := hR1.row hc0
    cases ha'
    have := World.block_lt_of_cell? w1 _ hcc
    have hb0 : (a1.add (0 * 4)).block = a1.block := by unfold Addr.add; split <;> rfl
    rw [hb0] at this
    exact this
  clear hR1 hR2 hbg hm2 hm1
  generalize hgb : w1.heap.size = gb at *
  go_loopg [4, 5, 6] h (NumRel W w h n gb)
  case atStart => exact ⟨0, _, _, _, _, _, a1, c1, rfl, by omega, rfl, q1, hnil3, hR3, fun ad had => by have := hblk3 ad had; omega, cells6_small l, hle3, hbg3, hb23, hc1, hRL3, HN.out ▸ rightG_blanks w h, by omega, by omega, by omega, hMW3, by omega⟩
  case round =>
    obtain ⟨y', cn, cc, CA, C, L, a, c0, rfl, hy', rfl, hcc, hnil, hC, hCA, hsm, h160, hbx, hb2, hnc, hL, hr, hge, hag, ha2, hM, hkk⟩ := hrel
    have HKK := Lib.hid hkk
    have HCC := Lib.hid hC
    have HCL := Lib.hid hC.1
    have HCA := Lib.hid hCA
    have HSM := Lib.hid hsm
    have HBX := Lib.hid hbx
    have HB2 := Lib.hid hb2
    have HL := Lib.hid hL
    have HR := Lib.hid hr
    have HNIL := Lib.hid hnil
    have CX := fun i => blk_cell hbx i
    clear hkk hC hCA hsm hb2 hL hr hnil
    by_cases hlt : y' < h
    · have hk2 := HKK.out
      obtain ⟨q, hq⟩ : ∃ q, min cn w = q := ⟨_, rfl⟩
      have hqn : mn (cn : Int) (w : Int) = (q : Int) := by unfold mn; split <;> omega
      have hq1 : q ≤ cn := by omega
      have hq2 : q ≤ w := by omega
      have hq3 : (q : Int) ≤ (cc : Int) := by omega
      have hq0 : (0 : Int) ≤ (q : Int) := by omega
      have hq4 : (q : Int) ≤ (cn : Int) := by omega
      clear hq hbx
      go_upto_region 7 with fail
      clear hqn
      have D0 : wr.drew.cell? ⟨gb, 0, none⟩ = some (.int .i64 (w : Int)) := CX 0
      have D1 : wr.drew.cell? ⟨gb, 1, none⟩ = some (.int .i64 (h : Int)) := CX 1
      have D2 : wr.drew.cell? ⟨gb, 2, none⟩ = some (.slice (some a) n c0) := CX 2
      have hMd : Mods [] wr wr.drew := (Mods.refl [] wr).drew
      clear CX
      go_still_tail 5, (by kernel_rfl)
      change wpList _ _ _ _ _ wr.drew
      generalize wr.drew = wd at *
      go_wp2_with fail
      clear D0 D1 D2
      refine (ref6_Put wd w h n c0 a L y' CA q cc (C.take q) ⟨hw1, by omega, hh1, by omega, HN.out, hnc⟩ (HL.out.keepsM (fun _ => rfl) hMd (by simp)) HR.out (right_smallG HL.out.1 HN.out HR.out) hlt ((HCC.out.keepsM (fun _ => rfl) hMd (by simp)).first q hq1) hq2 (fun c hc => HSM.out c (List.mem_of_mem_take hc))).mono ?_
      rintro e w8 ⟨a8, c8, L8, rfl, hc8, hR8, hr8, hor8, hm8⟩
      have hm18 := hMd.trans hm8
      have HB8 := Lib.hid (hm18.at HBX.out (by simp))
      have hblk8 : W.heap.size ≤ a8.block ∧ a8.block ≠ gb ∧ a8.block ≠ W.heap.size + 1 := by
        have hl1 := heap_lt HBX.out
        have hl2 := heap_lt HB2.out
        have hl3 := hMd.size
        rcases hor8 with rfl | h8
        · exact ⟨hge, hag, ha2⟩
        · omega
      by_cases hcq : cc = q
      · have hz : cn - q = 0 := by omega
        have hC0 : ∀ X, ReadsRows X CA (cn - q) 4 Cell.vals (C.drop q) := fun X => ⟨by rw [List.length_drop, HCL.out], by unfold maxLen; omega, fun i o hi => by rw [List.drop_of_length_le (by rw [HCL.out]; omega)] at hi; cases hi⟩
        have HC0 := Lib.hid hC0
        have HZ := Lib.hid hz
        clear hz hC0
        go_wp2_with (refine store_blk HB8.out rfl (.tmp 3) (.tmp 39) 38 rfl (c' := #[.int .i64 (w : Int), .int .i64 (h : Int), .slice (some a8) n c8]) (by kernel_rfl) rfl rfl rfl (by simp [Value.oneCell']) ?_; intro w9 hb9 hm9; have HB9 := Lib.hid hb9; clear hb9)
        have hm19 : Mods [gb] wr w9 := (hm18.mono (by simp)).trans hm9
        have hb29 := hm19.at HB2.out (by simp; omega)
        have hR9 := hR8.keepsM (fun _ => rfl) hm9 (by intro a' ha'; cases ha'; simpa using hblk8.2.1)
        have hM9 := hM.then hm19 (fun k hk => .inr (by simp at hk; omega))
        have hsd : Small (C.drop q) := fun c hc => HSM.out c (List.mem_of_mem_drop hc)
        go_roundg (gk - 1)
        case measure => omega
        case rel => exact ⟨y' + 1, cn - q, 0, CA, C.drop q, L8, a8, c8, by go_num, by omega, rfl, by have := HZ.out; omega, fun _ => rfl, HC0.out _, HCA.out, hsd, by omega, HB9.out, hb29, hc8, hR9, hr8, hblk8.1, hblk8.2.1, hblk8.2.2, hM9, by omega⟩
      · obtain ⟨ca, rfl⟩ : ∃ ca, CA = some ca := by
          cases CA with
          | none => have := HNIL.out rfl; omega
          | some ca => exact ⟨ca, rfl⟩
        go_wp2_with (refine store_blk HB8.out rfl (.tmp 3) (.tmp 39) 38 rfl (c' := #[.int .i64 (w : Int), .int .i64 (h : Int), .slice (some a8) n c8]) (by kernel_rfl) rfl rfl rfl (by simp [Value.oneCell']) ?_; intro w9 hb9 hm9; have HB9 := Lib.hid hb9; clear hb9)
        have hm19 : Mods [gb] wr w9 := (hm18.mono (by simp)).trans hm9
        have hb29 := hm19.at HB2.out (by simp; omega)
        have hR9 := hR8.keepsM (fun _ => rfl) hm9 (by intro a' ha'; cases ha'; simpa using hblk8.2.1)
        have hM9 := hM.then hm19 (fun k hk => .inr (by simp at hk; omega))
        have hC9 := HCC.out.keepsM (fun _ => rfl) hm19 (by intro a' ha'; simpa using (HCA.out a' ha').1)
        have hCd := hC9.cut q (cn - q) (by omega)
        rw [List.take_of_length_le (by rw [List.length_drop, HCL.out]; exact Nat.le_refl _)] at hCd
        have hsd : Small (C.drop q) := fun c hc => HSM.out c (List.mem_of_mem_drop hc)
        go_roundg (gk - 1)
        case measure => omega
        case rel =>
          have hCA' : ∀ ad, some (ca.add (q * 4)) = some ad → ad.block ≠ gb ∧ ad.block ≠ W.heap.size + 1 := by
            intro ad had
            cases had
            have hb0 : (ca.add (q * 4)).block = ca.block := by unfold Addr.add; split <;> rfl
            rw [hb0]
            exact HCA.out ca rfl
          exact ⟨y' + 1, cn - q, cc - q, some (ca.add (q * 4)), C.drop q, L8, a8, c8, by go_num, by omega, rfl, by omega, (fun h => by cases h), hCd, hCA', hsd, by omega, HB9.out, hb29, hc8, hR9, hr8, hblk8.1, hblk8.2.1, hblk8.2.2, hM9, by omega⟩
    · have hin : y' = h := by omega
      subst hin
      go_wp2_with (refine store_blk HB2.out rfl (.tmp 2) (.tmp 43) 38 rfl (c' := #[.int .i64 (w : Int), .int .i64 (y' : Int), .slice (some a) n c0]) (by kernel_rfl) rfl rfl rfl (by simp [Value.oneCell']) ?_; intro w9 hb9 hm9; have HB9 := Lib.hid hb9; clear hb9)
      have CF := fun i => blk_cell HB9.out i
      have hM9 := hM.then hm9 (fun k hk => .inr (by simp at hk; omega))
      have hR9 := HL.out.keepsM (fun _ => rfl) hm9 (by intro a' ha'; cases ha'; simpa using ha2)
      clear CX
      exact bodyPost_ret (v := gridV w y' (some a) n c0) (by simp [results, Tryd.results24, go_sem, CF]) rfl ⟨a, c0, L, rfl, hnc, hR9, HR.out, hge, hM9⟩
end Go.Proofs.YtldjmacnokkjdaaDoor
/- grid.Lines. -/
namespace Go.Proofs.YtldjmacnokkjdaaDoor
open Go.RowKit
set_option linter.unusedVariables false
set_option linter.unusedSimpArgs false
attribute [local go_sem] max2_mx min2_mn max_two min_two

def lineV (row : List Cell) : List Value := [.string ⟨(textB row).toArray⟩]
/-- The rows of a grid. -/
def rowsG (w h : Nat) (L : List Cell) : List (List Cell) := (List.range h).map fun y => rowC w y L
theorem rowsG_take {w h y : Nat} {L : List Cell} (hy : y < h) : (rowsG w h L).take (y + 1) = (rowsG w h L).take y ++ [rowC w y L] := by
  rw [List.take_add_one]; simp [rowsG, hy]
def LinesRel (W0 : World) (w h : Nat) (L : List Cell) (kk : Nat) (out y4 r5 idx : Value) (wr : World) : Prop :=
  ∃ i : Nat, idx = .int .i64 (i : Int) ∧ i ≤ h ∧ wr.ownsRow W0.heap.size 9 1 out i (((rowsG w h L).take i).flatMap lineV) ∧ Mods [] W0 wr ∧ kk + i = h
set_option maxRecDepth 4000 in
set_option maxHeartbeats 2000000 in
theorem grid_Lines (W : World) (w h n c : Nat) (a : Addr) (L : List Cell) (hg : GridOk w h n c) (hL : ReadsRows W (some a) n 4 Cell.vals L) (hb : Small L) :
    Calls Tryd.prog 51 #[gridV w h (some a) n c] W fun e W' => ∃ v, e = .returned v ∧ W'.ownsRow W.heap.size 9 1 v h ((rowsG w h L).flatMap lineV) ∧ Mods [] W W' := by
  obtain ⟨hw1, hw2, hh1, hh2, hn, hc⟩ := id hg
  have HN := Lib.hid hn
  have HL := Lib.hid hL
  have HB := Lib.hid hb
  have hM0 := (Mods.refl [] W).alloc (.cells #[.int .i64 (w : Int), .int .i64 (h : Int), .slice (some a) n c] 38)
  have hG := Lib.hid (blk_new W (.cells #[.int .i64 (w : Int), .int .i64 (h : Int), .slice (some a) n c] 38))
  have hmx : mx (h : Int) 0 = (h : Int) := by unfold mx; split <;> omega
  clear hn hL hg hb
  go_enter Tryd.func51, Tryd.ntmps51
  go_wp2
  clear hmx
  generalize W.alloc (.cells #[.int .i64 (w : Int), .int .i64 (h : Int), .slice (some a) n c] 38) = W0 at *
  go_loopg [3, 4, 5, 9] h (LinesRel W0 w h L)
  case atStart => exact ⟨0, rfl, by omega, own_nil _ _ _ _, Mods.refl _ _, by omega⟩
  case round =>
    obtain ⟨i, rfl, hi, hown, hM, hkk⟩ := hrel
    have HOWN := Lib.hid hown
    have HKK := Lib.hid hkk
    have hsz := hM.size
    clear hown hkk
    by_cases hlt : i < h
    · have C := fun j => blk_cell (hM.at hG.out (by simp)) j
      have hk2 := HKK.out
      have hMW := hM0.trans hM
      go_wp2_with fail
      clear C
      refine (grid_row _ w h n c a i hw1 hw2 hh1 hh2 HN.out hc hlt).mono ?_
      rintro e w2 ⟨rfl, hm2⟩
      have hnil := Lib.run_eql_slice_nil (P := Tryd.prog) w2 _ _ (some (a.add (i * w * 4))) w w 0 0 Tryd.underlying28
      go_wp2_with fail
      clear hnil
      refine (cell_Text w2 _ w w (rowC w i L) ((HL.out.keepsM (fun _ => rfl) (hMW.trans hm2) (by simp)).row_of HN.out hlt) (by omega) (HB.out.row w i)).mono ?_
      rintro e w3 ⟨rfl, hm3⟩
      have hm23 := hm2.trans hm3
      have hown3 := own_mods HOWN.out hm23 (by simp)
      have hM3 := hM.trans hm23
      have hs3 := hm23.size
      have HT := Lib.hid (rowsG_take (w := w) (L := L) hlt)
      go_wp2_with (at_builtin; go_must (refine append_one (w := W0) (S := []) W0.heap.size rfl (.tmp 17) (.tmp 20) 79 9 (.string ⟨#[]⟩) 1 16 rfl Tryd.underlying79 (by kernel_rfl) rfl (by decide) (by decide) _ i (((rowsG w h L).take i).flatMap lineV) (lineV (rowC w i L)) rfl rfl rfl (by simp [lineV, Value.oneCell']) hown3 hM3 (by omega) (Nat.le_refl _) (by omega) ?_); intro v1 w6 hown6 hM6 hgr hblk; clear hgr hblk hown3; have HOWN6 := Lib.hid hown6; clear hown6)
      go_roundg (gk - 1)
      case measure => omega
      case rel => exact ⟨i + 1, by go_num, by omega, by rw [HT.out, List.flatMap_append]; simpa using HOWN6.out, hM6, by omega⟩
    · have hin : i = h := by omega
      subst hin
      go_wp2
      go_ret
      refine ⟨_, rfl, ?_, hM0.trans hM⟩
      have := own_lower HOWN.out hM0.size
      rwa [List.take_of_length_le (by simp [rowsG])] at this
end Go.Proofs.YtldjmacnokkjdaaDoor
/- lyceumlaw06.awake answers true. -/
namespace Go.Proofs.YtldjmacnokkjdaaDoor
open Go.RowKit
set_option linter.unusedVariables false
set_option linter.unusedSimpArgs false

def awkL1 : List Cell := putG 3 1 (List.replicate 3 blankC) 0 0 (cells6 [2, 3, 6])
def awkL2 : List Cell := shiftG 3 1 awkL1 1 0 1 blankC
theorem awk_r1 : rightG 3 1 awkL1 = true := by decide +kernel
theorem awk_r2 : rightG 3 1 awkL2 = true := by decide +kernel
theorem awk_l1 : awkL1.length = 3 := by decide +kernel
theorem awk_l2 : awkL2.length = 3 := by decide +kernel
theorem awk_text : (rowsG 3 1 awkL2).flatMap lineV = [.string ⟨#[97, 32, 98]⟩] := by
  have : textB (rowC 3 0 awkL2) = [97, 32, 98] := by decide +kernel
  simp [rowsG, lineV, this]
theorem ints_reads {w : World} {g : Nat} {l : List Int} (h : w.heap[g]? = some (.cells (l.flatMap intV).toArray 3 (0, 0))) (hn : l.length ≤ maxLen) : ReadsRows w (some ⟨g, 0, none⟩) l.length 1 intV l := by
  refine ⟨rfl, hn, fun i o hi => ⟨⟨g, 0, none⟩, rfl, fun j hj => ?_⟩⟩
  have h2 := flat_get (rd := intV) (size := 1) (fun _ => rfl) hi hj
  rw [addr_at, addr_at, blk_cell h, Nat.zero_add]
  simpa using h2
set_option maxHeartbeats 2000000 in
theorem law06_awake (W : World) : Calls Tryd.prog 23 #[] W fun e W' => e = .returned (.bool true) ∧ Mods [] W W' := by
  go_enter Tryd.func23, Tryd.ntmps23
  go_wp2_with fail
  refine (grid_New W 3 1 (by omega) (by omega) (by omega) (by omega)).mono ?_
  rintro e w1 ⟨g, rfl, hB1, hge1, hm1⟩
  have hR1 := hB1.reads
  clear hB1
  have HR1 := Lib.hid hR1
  clear hR1
  go_wp2_with fail
  have hi := blk_new w1 (.cells #[.int .i64 2, .int .i64 3, .int .i64 6] 3)
  refine (law06_cells _ (some ⟨w1.heap.size, 0, none⟩) 3 3 [2, 3, 6] (ints_reads (l := [2, 3, 6]) hi (by unfold maxLen; simp))).mono ?_
  rintro e w2 ⟨v2, rfl, hown2, hm2⟩
  obtain ⟨A2, c2, rfl, q1, q2, q3⟩ := own_slice' hown2
  have hle2 := cells6_le [2, 3, 6]
  have hR2 := (own_reads hown2 rfl (by omega)).1
  have hm12 : Mods [] w1 w2 := ((Mods.refl [] w1).alloc _).trans hm2
  have HR2 := Lib.hid hR2
  have HQ1 := Lib.hid q1
  have HLE := Lib.hid hle2
  have gok : GridOk 3 1 3 3 := ⟨by omega, by omega, by omega, by omega, rfl, Nat.le_refl _⟩
  have HGOK := Lib.hid gok
  clear hown2 q1 q2 q3 hle2 hR2 hi gok
  go_wp2_with fail
  refine (grid_Put w2 3 1 3 3 ⟨g, 0, none⟩ (List.replicate 3 blankC) 0 0 A2 (cells6 [2, 3, 6]).length c2 (cells6 [2, 3, 6]) HGOK.out (HR1.out.keepsM (fun _ => rfl) hm12 (by simp)) (rightG_blanks 3 1) (by decide) HR2.out (by have := HLE.out; omega) HQ1.out).mono ?_
  rintro e w3 ⟨a3, c3, rfl, hc3, hR3, _, hm3⟩
  have HR3 := Lib.hid hR3
  have hm4 := hm12.trans hm3
  have C := fun i => blk_cell (blk_new w3 (.cells #[.int .i64 3, .int .i64 1, .slice (some a3) 3 c3] 38)) i
  clear hR3
  go_wp2_with fail
  clear C
  have hm5 : Mods [] w3 (w3.alloc (.cells #[.int .i64 3, .int .i64 1, .slice (some a3) 3 c3] 38)) := (Mods.refl [] w3).alloc _
  refine (grid_Shift _ 3 1 3 c3 a3 awkL1 1 0 1 blankC ⟨by omega, by omega, by omega, by omega, rfl, hc3⟩ (HR3.out.keepsM (fun _ => rfl) hm5 (by simp)) awk_r1 (by omega) (by decide +kernel)).mono ?_
  rintro e w6 ⟨a6, c6, rfl, hc6, hR6, _, hm6⟩
  have HR6 := Lib.hid hR6
  clear hR6
  go_wp2_with fail
  refine (grid_Lines w6 3 1 3 c6 a6 awkL2 ⟨by omega, by omega, by omega, by omega, rfl, hc6⟩ HR6.out (right_smallG awk_l2 rfl awk_r2)).mono ?_
  rintro e w7 ⟨v7, rfl, hown7, hm7⟩
  rw [awk_text] at hown7
  obtain ⟨A7, c7, rfl, q1, q2, q3⟩ := own_slice' hown7
  obtain ⟨g7, rfl⟩ := q3 (by omega)
  have hc := own_cells hown7 0 (u := .string ⟨#[97, 32, 98]⟩) rfl
  clear hown7 q1 q2 q3
  go_wp2
  go_ret
  exact ⟨rfl, hm1.trans (hm4.trans (hm5.trans (hm6.trans hm7)))⟩
end Go.Proofs.YtldjmacnokkjdaaDoor
/- What lies beside a rectangle that is filled: the plain law. -/
namespace Go.Proofs.YtldjmacnokkjdaaDoor
set_option linter.unusedVariables false
set_option linter.unusedSimpArgs false

theorem span_spec (f m : Int) (e : Nat) (x : Nat) (hx : x < e) : ((spanF f m e).1 ≤ x ∧ (x : Int) < (spanF f m e).2) ↔ (f ≤ x ∧ (x : Int) < f + m) := by
  unfold spanF
  split
  · simp only; omega
  · split
    · unfold mx mn; simp only
      split <;> split <;> omega
    · unfold mn; simp only
      split <;> omega
theorem span_ends (f m : Int) (e : Nat) (h : (spanF f m e).1 < (spanF f m e).2) : ((spanF f m e).1 = f ∨ (spanF f m e).1 = 0) ∧ ((spanF f m e).2 = f + m ∨ (spanF f m e).2 = e) := by
  unfold spanF at h ⊢
  split
  · rename_i h1; rw [if_pos h1] at h; simp at h
  · rename_i h1
    rw [if_neg h1] at h
    split
    · rename_i h2
      rw [if_pos h2] at h
      unfold mx mn at h ⊢
      simp only at h ⊢
      refine ⟨.inr trivial, ?_⟩
      split at h <;> split <;> split <;> omega
    · rename_i h2
      unfold mn
      simp only
      refine ⟨.inl trivial, ?_⟩
      split <;> omega
theorem pairC_wide {row : List Cell} {i : Nat} {c : Cell} (hc : row[i]? = some c) (h : pairC row i = true) : c.wide = true := by
  unfold pairC at h
  rw [hc] at h
  split at h
  · rename_i c' d hc' hd
    cases hc'
    simp at h
    exact h.1.2
  · cases h
theorem pairC_tail {row : List Cell} {i : Nat} {d : Cell} (hd : row[i + 1]? = some d) (h : pairC row i = true) : d.tail = true := by
  unfold pairC at h
  rw [hd] at h
  split at h
  · rename_i c d' hc hd'
    cases hd'
    simp at h
    rw [h.2]; exact behind_tail c
  · cases h
theorem attr_wide (c : Cell) (h : c.wide = true) : 64 ≤ c.attr.val := by
  have : ∀ a : Fin 256, wideA a = true → 64 ≤ a.val := by decide +kernel
  exact this c.attr h
theorem attr_tail (c : Cell) (h : c.tail = true) : 64 ≤ c.attr.val := by
  have : ∀ a : Fin 256, tailA a = true → 64 ≤ a.val := by decide +kernel
  exact this c.attr h
theorem plain_no (c : Cell) (h : (c.ok && decide (c.attr.val < 64)) = true) : c.ok = true ∧ c.wide = false ∧ c.tail = false := by
  simp at h
  refine ⟨h.1, ?_, ?_⟩
  · cases hw : c.wide
    · rfl
    · have := attr_wide c hw; omega
  · cases hw : c.tail
    · rfl
    · have := attr_tail c hw; omega
theorem pairC_congr {r r' : List Cell} {i : Nat} (h1 : r[i]? = r'[i]?) (h2 : r[i + 1]? = r'[i + 1]?) : pairC r i = pairC r' i := by unfold pairC; rw [h1, h2]
/-- A row of cells, some of them filled, mended: place by place. -/
theorem fill_at {w l rt x : Nat} {r : List Cell} {c a : Cell} (hr : r.length = w) (hright : rightC r = true) (hc : (c.ok && decide (c.attr.val < 64)) = true) (hlr : l < rt) (hrw : rt ≤ w) (hx : x < w) (ha : r[x]? = some a) :
    ∃ b, (mend (fillRow l rt c r))[x]? = some b ∧ (l ≤ x ∧ x < rt → b = c) ∧ (¬ (l ≤ x ∧ x < rt) → a = b ∨ (64 ≤ a.attr.val ∧ (x + 1 = l ∨ x = rt))) := by
  obtain ⟨p1, p2, p3⟩ := plain_no c hc
  have G := fun i => fillRow_get (c := c) hr (Nat.le_of_lt hlr) hrw i
  have hmr : mendAt r x a = a := by
    have h1 := mendR_get ha
    rw [mendR_mend, mend_right r hright, ha] at h1
    exact (Option.some.inj h1).symm
  by_cases hin : l ≤ x ∧ x < rt
  · have hg : (fillRow l rt c r)[x]? = some c := by rw [G x, if_pos hin]
    refine ⟨c, ?_, fun _ => rfl, fun h => absurd hin h⟩
    rw [← mendR_mend, mendR_get hg]
    simp [mendAt, p1, p2, p3]
  · have hg : (fillRow l rt c r)[x]? = some a := by rw [G x, if_neg hin, ha]
    refine ⟨mendAt (fillRow l rt c r) x a, by rw [← mendR_mend, mendR_get hg], fun h => absurd h hin, fun _ => ?_⟩
    have hC : x + 1 ≠ l → pairC (fillRow l rt c r) x = pairC r x := fun h => pairC_congr (by rw [hg, ha]) (by rw [G (x + 1), if_neg (by omega)])
    have hP : x ≠ rt → pairP (fillRow l rt c r) x = pairP r x := by
      intro h
      unfold pairP
      by_cases h1 : 1 ≤ x
      · simp only [h1, decide_true, Bool.true_and]
        exact pairC_congr (by rw [G (x - 1), if_neg (by omega)]) (by rw [show x - 1 + 1 = x by omega, hg, ha])
      · simp [h1]
    by_cases e1 : x + 1 = l
    · cases hw : a.wide
      · left
        have q1 : pairC (fillRow l rt c r) x = false := by
          cases h : pairC (fillRow l rt c r) x
          · rfl
          · rw [pairC_wide hg h] at hw; cases hw
        have q2 : pairC r x = false := by
          cases h : pairC r x
          · rfl
          · rw [pairC_wide ha h] at hw; cases hw
        have : mendAt (fillRow l rt c r) x a = mendAt r x a := by unfold mendAt; rw [q1, q2, hP (by omega)]
        rw [this, hmr]
      · exact .inr ⟨attr_wide a hw, .inl e1⟩
    · by_cases e2 : x = rt
      · cases ht : a.tail
        · left
          have hx1 : x - 1 + 1 = x := by omega
          have q1 : pairP (fillRow l rt c r) x = false := by
            unfold pairP
            cases h : pairC (fillRow l rt c r) (x - 1)
            · simp
            · have := pairC_tail (d := a) (by rw [hx1]; exact hg) h
              rw [this] at ht; cases ht
          have q2 : pairP r x = false := by
            unfold pairP
            cases h : pairC r (x - 1)
            · simp
            · have := pairC_tail (d := a) (by rw [hx1]; exact ha) h
              rw [this] at ht; cases ht
          have : mendAt (fillRow l rt c r) x a = mendAt r x a := by unfold mendAt; rw [q1, q2, hC e1]
          rw [this, hmr]
        · exact .inr ⟨attr_tail a ht, .inr e2⟩
      · left
        have : mendAt (fillRow l rt c r) x a = mendAt r x a := by unfold mendAt; rw [hC e1, hP e2]
        rw [this, hmr]
/-- GridBeside, of lists. -/
theorem beside_law {w h n : Nat} {L : List Cell} {c : Cell} {x y rw' rh : Int} (hl : L.length = n) (hn : n = w * h) (hr : rightG w h L = true) (hc : (c.ok && decide (c.attr.val < 64)) = true) (y0 x0 : Nat) (hy : y0 < h) (hx : x0 < w) :
    ∃ a b, L[y0 * w + x0]? = some a ∧ (fillC w h L x y rw' rh c)[y0 * w + x0]? = some b ∧
      ((x ≤ x0 ∧ x0 < x + rw' ∧ y ≤ y0 ∧ y0 < y + rh) → b = c) ∧
      (¬ (x ≤ x0 ∧ x0 < x + rw' ∧ y ≤ y0 ∧ y0 < y + rh) → a = b ∨ (y ≤ y0 ∧ y0 < y + rh ∧ 64 ≤ a.attr.val ∧ ((x0 : Int) = x - 1 ∨ (x0 : Int) = x + rw'))) := by
  have hle := row_le hn hy
  obtain ⟨a, ha⟩ : ∃ a, L[y0 * w + x0]? = some a := ⟨_, List.getElem?_eq_getElem (by omega)⟩
  have sx := span_spec x rw' w x0 hx
  have sy := span_spec y rh h y0 hy
  obtain ⟨s1, s2, s3⟩ := span_le x rw' w (by omega)
  obtain ⟨t1, t2, t3⟩ := span_le y rh h (by omega)
  unfold fillC
  split
  · rename_i he
    refine ⟨a, a, ha, ha, fun hin => ?_, fun _ => .inl rfl⟩
    exfalso; omega
  · rename_i he
    have hlt : (spanF x rw' w).1 < (spanF x rw' w).2 := by omega
    have hends := span_ends x rw' w hlt
    have hrow := rowC_changed (fun _ r hr => fillRow_len (c := c) hr (by omega) (by omega)) L hl hn (lo := (spanF y rh h).1.toNat) (hi := (spanF y rh h).2.toNat) (F := fun _ r => fillRow (spanF x rw' w).1.toNat (spanF x rw' w).2.toNat c r) (by omega) hy
    have hget : (rowC w y0 (changedC w (spanF y rh h).1.toNat (spanF y rh h).2.toNat (fun _ r => fillRow (spanF x rw' w).1.toNat (spanF x rw' w).2.toNat c r) L))[x0]? = (changedC w (spanF y rh h).1.toNat (spanF y rh h).2.toNat (fun _ r => fillRow (spanF x rw' w).1.toNat (spanF x rw' w).2.toNat c r) L)[y0 * w + x0]? := rowC_get hx
    by_cases hyin : y ≤ y0 ∧ (y0 : Int) < y + rh
    · have hy2 := sy.2 hyin
      rw [if_pos (by omega)] at hrow
      have hrr : rightC (rowC w y0 L) = true := by
        unfold rightG at hr
        rw [List.all_eq_true] at hr
        exact hr y0 (by simpa using hy)
      obtain ⟨b, hb1, hb2, hb3⟩ := fill_at (l := (spanF x rw' w).1.toNat) (rt := (spanF x rw' w).2.toNat) (rowC_len hl hn hy) hrr hc (by omega) (by omega) hx (by rw [rowC_get hx]; exact ha)
      rw [← hget, hrow]
      refine ⟨a, b, ha, hb1, fun hin => hb2 (by have := sx.2 ⟨hin.1, hin.2.1⟩; omega), fun hin => ?_⟩
      have hnx : ¬ (x ≤ x0 ∧ (x0 : Int) < x + rw') := fun h => hin ⟨h.1, h.2, hyin.1, hyin.2⟩
      have hnx2 := mt sx.1 hnx
      rcases hb3 (by omega) with h1 | ⟨h1, h2⟩
      · exact .inl h1
      · refine .inr ⟨hyin.1, hyin.2, h1, ?_⟩
        obtain ⟨e1, e2⟩ := hends
        omega
    · have hy2 := mt sy.1 hyin
      rw [if_neg (by omega)] at hrow
      rw [← hget, hrow, rowC_get hx]
      exact ⟨a, a, ha, ha, fun hin => absurd ⟨hin.2.2.1, hin.2.2.2⟩ hyin, fun _ => .inl rfl⟩
end Go.Proofs.YtldjmacnokkjdaaDoor
/- Rows that are scrolled, and scrolled back: the plain law. -/
namespace Go.Proofs.YtldjmacnokkjdaaDoor
set_option linter.unusedVariables false
set_option linter.unusedSimpArgs false

theorem plain_size (c : Cell) (hc : (c.ok && decide (c.attr.val < 64)) = true) (l : List Cell) : sizeC (c :: l) = 1 := by
  obtain ⟨p1, p2, p3⟩ := plain_no c hc
  unfold sizeC
  simp [p1, p2, p3]
theorem right_fill (c : Cell) (hc : (c.ok && decide (c.attr.val < 64)) = true) (n : Nat) : rightC (List.replicate n c) = true := by
  induction n with
  | zero => rfl
  | succ n ih =>
    rw [List.replicate_succ, rightC_1, ih]
    exact plain_size c hc _
theorem rightG_row {w h : Nat} {L : List Cell} (hr : rightG w h L = true) {y : Nat} (hy : y < h) : rightC (rowC w y L) = true := by
  unfold rightG at hr
  rw [List.all_eq_true] at hr
  exact hr y (by simpa using hy)
/-- A row behind a scroll. -/
theorem rowC_scroll {w h n : Nat} {L : List Cell} {top en k : Int} {c : Cell} (hl : L.length = n) (hn : n = w * h) (hr : rightG w h L = true) (hc : (c.ok && decide (c.attr.val < 64)) = true) {y : Nat} (hy : y < h) :
    rowC w y (scrollG w h L top en k c) = if (mn (mx top 0) h).toNat ≤ y ∧ y < (mn (mx en 0) h).toNat then scrollRow w (mn (mx top 0) h).toNat (mn (mx en 0) h).toNat k c L y else rowC w y L := by
  obtain ⟨T, hT, hT2⟩ := clampG top h
  obtain ⟨E, hE, hE2⟩ := clampG en h
  unfold scrollG
  rw [hT, hE, Int.toNat_natCast, Int.toNat_natCast]
  rw [rowC_changed (fun y r _ => scrollRow_len hl hn hE2) L hl hn hE2 hy]
  split
  · refine mend_right _ ?_
    unfold scrollRow
    split
    · rename_i h1
      exact rightG_row hr (by omega)
    · exact right_fill c hc w
  · rfl
theorem scrollG_len {w h n : Nat} {L : List Cell} {top en k : Int} {c : Cell} (hl : L.length = n) (hn : n = w * h) : (scrollG w h L top en k c).length = n := by
  obtain ⟨T, hT, hT2⟩ := clampG top h
  obtain ⟨E, hE, hE2⟩ := clampG en h
  unfold scrollG
  rw [hT, hE, Int.toNat_natCast, Int.toNat_natCast]
  exact changed_len (fun y r _ => scrollRow_len hl hn hE2) L hl hn hE2
theorem right_scrollG {w h n : Nat} {L : List Cell} {top en k : Int} {c : Cell} (hl : L.length = n) (hn : n = w * h) (hr : rightG w h L = true) : rightG w h (scrollG w h L top en k c) = true := by
  obtain ⟨T, hT, hT2⟩ := clampG top h
  obtain ⟨E, hE, hE2⟩ := clampG en h
  unfold scrollG
  rw [hT, hE, Int.toNat_natCast, Int.toNat_natCast]
  exact right_changed (fun y r _ => scrollRow_len hl hn hE2) L hl hn hE2 hr
theorem rowC_at {w y x : Nat} {A : List Cell} (hx : x < w) : A[y * w + x]? = (rowC w y A)[x]? := (rowC_get hx).symm
theorem rep_at {w x : Nat} {c : Cell} (hx : x < w) : (List.replicate w c)[x]? = some c := by simp [hx]
/-- GridScrolls, of lists. -/
theorem scroll_law {w h n : Nat} {L : List Cell} {c : Cell} (top en k : Nat) (hl : L.length = n) (hn : n = w * h) (hr : rightG w h L = true) (hc : (c.ok && decide (c.attr.val < 64)) = true) (y x : Nat) (hy : y < h) (hx : x < w) :
    ∃ a b d, L[y * w + x]? = some a ∧ (scrollG w h L top en k c)[y * w + x]? = some b ∧ (scrollG w h (scrollG w h L top en k c) top en (-(k : Int)) c)[y * w + x]? = some d ∧
      ((top ≤ y ∧ y < min en h ∧ y < top + k) → d = c) ∧ (¬ (top ≤ y ∧ y < min en h ∧ y < top + k) → d = a) ∧
      (top ≤ y → y < min en h → y + k < min en h → y + k < h ∧ L[(y + k) * w + x]? = some b) ∧ (top ≤ y → y < min en h → min en h ≤ y + k → b = c) := by
  have hT : (mn (mx (top : Int) 0) h).toNat = min top h := by unfold mn mx; split <;> split <;> omega
  have hE : (mn (mx (en : Int) 0) h).toNat = min en h := by unfold mn mx; split <;> split <;> omega
  obtain ⟨E, hEE⟩ : ∃ E, min en h = E := ⟨_, rfl⟩
  have hEh : E ≤ h := by omega
  have hU := fun {y : Nat} (hy : y < h) => rowC_scroll (top := top) (en := en) (k := k) hl hn hr hc hy
  have hH := fun {y : Nat} (hy : y < h) => rowC_scroll (top := top) (en := en) (k := -(k : Int)) (scrollG_len (top := top) (en := en) (k := k) (c := c) hl hn) hn (right_scrollG (top := top) (en := en) (k := k) (c := c) hl hn hr) hc hy
  have hlU := scrollG_len (top := (top : Int)) (en := en) (k := k) (c := c) hl hn
  have hlH := scrollG_len (top := (top : Int)) (en := en) (k := -(k : Int)) (c := c) hlU hn
  rw [hT, hE] at hU hH
  generalize scrollG w h L top en k c = U at *
  generalize scrollG w h U top en (-(k : Int)) c = H at *
  simp only [hEE] at *
  have hle := row_le hn hy
  obtain ⟨a, ha⟩ : ∃ a, L[y * w + x]? = some a := ⟨_, List.getElem?_eq_getElem (by omega)⟩
  obtain ⟨b, hb⟩ : ∃ a, U[y * w + x]? = some a := ⟨_, List.getElem?_eq_getElem (by omega)⟩
  obtain ⟨d, hd⟩ : ∃ a, H[y * w + x]? = some a := ⟨_, List.getElem?_eq_getElem (by omega)⟩
  have gU := hU hy
  have gH := hH hy
  have ea := ha
  have eb := hb
  have ed := hd
  rw [rowC_at hx] at ea eb ed
  rw [gU] at eb
  rw [gH] at ed
  have mU : ∀ y : Nat, min top h ≤ y → y < E → ((min top h : Nat) : Int) ≤ movedF y k (min top h : Nat) E ∧ (movedF y k (min top h : Nat) E < E ↔ y + k < E) ∧ (y + k < E → movedF y k (min top h : Nat) E = ((y + k : Nat) : Int)) := by
    intro y h1 h2
    unfold movedF mn mx
    split <;> split <;> omega
  have mH : ∀ y : Nat, min top h ≤ y → y < E → movedF y (-(k : Int)) (min top h : Nat) E < E ∧ (((min top h : Nat) : Int) ≤ movedF y (-(k : Int)) (min top h : Nat) E ↔ min top h + k ≤ y) ∧ (min top h + k ≤ y → movedF y (-(k : Int)) (min top h : Nat) E = ((y - k : Nat) : Int)) := by
    intro y h1 h2
    unfold movedF mn mx
    split <;> split <;> omega
  refine ⟨a, b, d, ha, hb, hd, ?_, ?_, ?_, ?_⟩
  · rintro ⟨h1, h2, h3⟩
    rw [if_pos (by omega)] at ed
    unfold scrollRow at ed
    obtain ⟨m1, m2, m3⟩ := mH y (by omega) h2
    rw [if_neg (fun hh => by have := m2.1 hh.1; omega), rep_at hx] at ed
    exact (Option.some.inj ed).symm
  · intro hno
    by_cases hin : min top h ≤ y ∧ y < E
    · rw [if_pos hin] at ed
      unfold scrollRow at ed
      obtain ⟨m1, m2, m3⟩ := mH y hin.1 hin.2
      have hk : min top h + k ≤ y := by omega
      rw [if_pos ⟨m2.2 hk, m1⟩, m3 hk, Int.toNat_natCast, hU (by omega), if_pos (by omega)] at ed
      unfold scrollRow at ed
      obtain ⟨p1, p2, p3⟩ := mU (y - k) (by omega) (by omega)
      rw [if_pos ⟨p1, p2.2 (by omega)⟩, p3 (by omega), Int.toNat_natCast, show y - k + k = y by omega] at ed
      rw [ea] at ed
      exact (Option.some.inj ed).symm
    · rw [if_neg hin, gU, if_neg hin, ea] at ed
      exact (Option.some.inj ed).symm
  · intro h1 h2 h3
    refine ⟨by omega, ?_⟩
    rw [if_pos (by omega)] at eb
    unfold scrollRow at eb
    obtain ⟨p1, p2, p3⟩ := mU y (by omega) h2
    rw [if_pos ⟨p1, p2.2 h3⟩, p3 h3, Int.toNat_natCast] at eb
    rw [rowC_at hx]; exact eb
  · intro h1 h2 h3
    rw [if_pos (by omega)] at eb
    unfold scrollRow at eb
    obtain ⟨p1, p2, p3⟩ := mU y (by omega) h2
    rw [if_neg (fun hh => by have := p2.1 hh.2; omega), rep_at hx] at eb
    exact (Option.some.inj eb).symm
end Go.Proofs.YtldjmacnokkjdaaDoor
/- A grid that is laid on another one, and one that is cut: the plain law. -/
namespace Go.Proofs.YtldjmacnokkjdaaDoor
set_option linter.unusedVariables false
set_option linter.unusedSimpArgs false

theorem span0 (a b : Nat) (ha : 1 ≤ a) (hb : 1 ≤ b) : spanF 0 (a : Int) b = (0, ((min a b : Nat) : Int)) := by
  unfold spanF mn
  rw [if_neg (by omega), if_neg (by omega)]
  congr 1
  split <;> omega
theorem rightG_of {w h : Nat} {L : List Cell} (hr : ∀ y, y < h → rightC (rowC w y L) = true) : rightG w h L = true := by
  unfold rightG
  rw [List.all_eq_true]
  intro y hy
  exact hr y (by simpa using hy)
/-- A row of a grid on which another one is laid, at the upper left. -/
theorem rowC_blit0 {w h n w2 h2 n2 : Nat} {L L2 : List Cell} (hl : L.length = n) (hn : n = w * h) (hl2 : L2.length = n2) (hn2 : n2 = w2 * h2) (h1 : 1 ≤ w) (h1' : 1 ≤ h) (h3 : 1 ≤ w2) (h4 : 1 ≤ h2) {y : Nat} (hy : y < h) :
    rowC w y (blitG w h L w2 h2 L2 0 0) = if y < h2 then mend (layRow 0 (min w2 w) (rowC w2 y L2) (rowC w y L)) else rowC w y L := by
  unfold blitG
  rw [span0 _ _ h3 h1, span0 _ _ h4 h1']
  simp only
  rw [if_neg (by omega)]
  have hF : ∀ (y' : Nat) (r : List Cell), (0 : Int) ≤ (y' : Int) → y' < min h2 h → r.length = w → (blitRow w2 0 (min w2 w) 0 0 L2 y' r).length = w := fun y' r _ hy' hr => blitRow_len hr (by omega) (by omega) (by omega) hl2 hn2 (by omega)
  rw [changedC_congr (G := fun y' r => if y' < min h2 h then blitRow w2 0 (min w2 w) 0 0 L2 y' r else r) (by omega) (fun y' r _ hy' => by rw [if_pos (by omega)]; simp)]
  rw [rowC_changed (fun y' r hr => by split; exact hF y' r (by omega) (by omega) hr; exact hr) L hl hn (by omega) hy]
  by_cases hyy : y < h2
  · rw [if_pos (by omega), if_pos hyy, if_pos (by omega)]
    unfold blitRow
    simp
  · rw [if_neg (by omega), if_neg hyy]
theorem blitG_len0 {w h n w2 h2 n2 : Nat} {L L2 : List Cell} (hl : L.length = n) (hn : n = w * h) (hl2 : L2.length = n2) (hn2 : n2 = w2 * h2) (h1 : 1 ≤ w) (h1' : 1 ≤ h) (h3 : 1 ≤ w2) (h4 : 1 ≤ h2) :
    (blitG w h L w2 h2 L2 0 0).length = n := by
  unfold blitG
  rw [span0 _ _ h3 h1, span0 _ _ h4 h1']
  simp only
  rw [if_neg (by omega)]
  have hF : ∀ (y' : Nat) (r : List Cell), (0 : Int) ≤ (y' : Int) → y' < min h2 h → r.length = w → (blitRow w2 0 (min w2 w) 0 0 L2 y' r).length = w := fun y' r _ hy' hr => blitRow_len hr (by omega) (by omega) (by omega) hl2 hn2 (by omega)
  rw [changedC_congr (G := fun y' r => if y' < min h2 h then blitRow w2 0 (min w2 w) 0 0 L2 y' r else r) (by omega) (fun y' r _ hy' => by rw [if_pos (by omega)]; simp)]
  exact changed_len (fun y' r hr => by split; exact hF y' r (by omega) (by omega) hr; exact hr) L hl hn (by omega)
theorem layRow_all {w : Nat} {s r : List Cell} (hs : s.length = w) (hr : r.length = w) : layRow 0 w s r = s := by
  unfold layRow
  simp [List.take_of_length_le (Nat.le_of_eq hs), List.drop_of_length_le (Nat.le_of_eq hr)]
/-- One that is laid on another one of the same size is there whole. -/
theorem blit_same {w h n : Nat} {L F : List Cell} (hl : L.length = n) (hf : F.length = n) (hn : n = w * h) (hr : rightG w h F = true) (h1 : 1 ≤ w) (h1' : 1 ≤ h) : blitG w h L w h F 0 0 = F := by
  refine grid_ext (blitG_len0 hl hn hf hn h1 h1' h1 h1') hf hn fun y hy => ?_
  rw [rowC_blit0 hl hn hf hn h1 h1' h1 h1' hy, if_pos hy, Nat.min_self, layRow_all (rowC_len hf hn hy) (rowC_len hl hn hy)]
  exact mend_right _ (rightG_row hr hy)
theorem rowC_blanks {w h y : Nat} (hy : y < h) : rowC w y (List.replicate (w * h) blankC) = List.replicate w blankC := by
  have hle : y * w + w ≤ w * h := row_le rfl hy
  unfold rowC
  rw [List.drop_replicate, List.take_replicate]
  congr 1
  omega
theorem fillG_row {w h : Nat} {c : Cell} (h1 : 1 ≤ w) (h2 : 1 ≤ h) (hc : (c.ok && decide (c.attr.val < 64)) = true) {y : Nat} (hy : y < h) :
    rowC w y (fillC w h (List.replicate (w * h) blankC) 0 0 w h c) = List.replicate w c := by
  unfold fillC
  rw [span0 _ _ h1 h1, span0 _ _ h2 h2]
  simp only [Nat.min_self]
  rw [if_neg (by omega), rowC_changed (fun _ r hr => fillRow_len hr (by omega) (by simp)) _ (by simp) rfl (by simp) hy, if_pos (by simpa using hy), rowC_blanks hy]
  simp only [Int.toNat_zero, Int.toNat_natCast, Int.ofNat_zero]
  rw [fillRow_all (by simp)]
  exact mend_right _ (right_fill c hc w)
theorem blank_r (c : Cell) : c.blank.r = 32 := rfl
/-- A place of a row that is cut, or made longer. -/
theorem resize_at {w w' i : Nat} {r : List Cell} {c a : Cell} (hr : r.length = w) (hright : rightC r = true) (hc : (c.ok && decide (c.attr.val < 64)) = true) (hiw' : i < w') (hiw : i < w) (ha : r[i]? = some a) :
    ∃ b, (mend (layRow 0 (min w w') r (List.replicate w' c)))[i]? = some b ∧ (b = a ∨ (i + 1 = w' ∧ 64 ≤ a.attr.val ∧ b.r = 32)) := by
  obtain ⟨p1, p2, p3⟩ := plain_no c hc
  have G := fun j => layRow_get (s := r) (r := List.replicate w' c) (l := 0) (rt := min w w') (w := w') (by simp) (by omega) (by omega) (by omega) j
  have hmr : mendAt r i a = a := by
    have h1 := mendR_get ha
    rw [mendR_mend, mend_right r hright, ha] at h1
    exact (Option.some.inj h1).symm
  generalize layRow 0 (min w w') r (List.replicate w' c) = R at *
  have hg : R[i]? = some a := by rw [G i, if_pos (by omega), Nat.sub_zero, ha]
  refine ⟨mendAt R i a, by rw [← mendR_mend, mendR_get hg], ?_⟩
  have hP : pairP R i = pairP r i := by
    unfold pairP
    by_cases h1 : 1 ≤ i
    · simp only [h1, decide_true, Bool.true_and]
      exact pairC_congr (by rw [G (i - 1), if_pos (by omega)]; simp) (by rw [show i - 1 + 1 = i by omega, hg, ha])
    · simp [h1]
  by_cases e1 : pairC R i = pairC r i
  · left
    have : mendAt R i a = mendAt r i a := by unfold mendAt; rw [e1, hP]
    rw [this, hmr]
  · by_cases hi : i + 1 < min w w'
    · exact absurd (pairC_congr (by rw [hg, ha]) (by rw [G (i + 1), if_pos (by omega)]; simp)) e1
    · by_cases hw : i + 1 = w'
      · have hRn : R[i + 1]? = none := by rw [G (i + 1), if_neg (by omega)]; simp; omega
        have hR0 : pairC R i = false := by unfold pairC; rw [hRn]; cases R[i]? <;> rfl
        have hr1 : pairC r i = true := by cases h : pairC r i; exact absurd (hR0.trans h.symm) e1; rfl
        by_cases hcase : pairP R i || (a.ok && !a.wide && !a.tail)
        · left
          unfold mendAt
          rw [hR0, Bool.false_or, if_pos hcase]
        · right
          refine ⟨hw, attr_wide a (pairC_wide ha hr1), ?_⟩
          unfold mendAt
          rw [hR0, Bool.false_or, if_neg hcase]
          exact blank_r a
      · have hrn : r[i + 1]? = none := by rw [List.getElem?_eq_none]; omega
        have hr0 : pairC r i = false := by unfold pairC; rw [hrn]; cases r[i]? <;> rfl
        have hRc : R[i + 1]? = some c := by rw [G (i + 1), if_neg (by omega), List.getElem?_replicate, if_pos (by omega)]
        exfalso
        apply e1
        rw [hr0]
        cases h : pairC R i
        · rfl
        · rw [pairC_tail hRc h] at p3; cases p3
theorem fillB_len {w h : Nat} {c : Cell} {x y rw' rh : Int} : (fillC w h (List.replicate (w * h) blankC) x y rw' rh c).length = w * h := fillC_len (by simp) rfl
/-- GridLays, of lists: what is cut. -/
theorem resize_law {w h n w' v : Nat} {L : List Cell} {c : Cell} (hl : L.length = n) (hn : n = w * h) (hr : rightG w h L = true) (hc : (c.ok && decide (c.attr.val < 64)) = true) (h1 : 1 ≤ w) (h2 : 1 ≤ h) (h3 : 1 ≤ w') (h4 : 1 ≤ v) :
    (resizeG w h L w' v c).length = w' * v ∧ rightG w' v (resizeG w h L w' v c) = true ∧
    ∀ y i, y < v → y < h → i < w' → i < w → ∃ a b, (rowC w y L)[i]? = some a ∧ (rowC w' y (resizeG w h L w' v c))[i]? = some b ∧ (b = a ∨ (i + 1 = w' ∧ 64 ≤ a.attr.val ∧ b.r = 32)) := by
  unfold resizeG
  have hrow := fun {y : Nat} (hy : y < v) => rowC_blit0 (L := fillC w' v (List.replicate (w' * v) blankC) 0 0 w' v c) fillB_len rfl hl hn h3 h4 h1 h2 hy
  refine ⟨blitG_len0 fillB_len rfl hl hn h3 h4 h1 h2, rightG_of fun y hy => ?_, fun y i hy hy2 hi hi2 => ?_⟩
  · rw [hrow hy]
    split
    · exact right_mend _
    · rw [fillG_row h3 h4 hc hy]; exact right_fill c hc _
  · obtain ⟨a, ha⟩ : ∃ a, (rowC w y L)[i]? = some a := ⟨_, List.getElem?_eq_getElem (by rw [rowC_len hl hn hy2]; exact hi2)⟩
    obtain ⟨b, hb1, hb2⟩ := resize_at (w' := w') (rowC_len hl hn hy2) (rightG_row hr hy2) hc hi hi2 ha
    refine ⟨a, b, ha, ?_, hb2⟩
    rw [hrow hy, if_pos hy2, fillG_row h3 h4 hc hy]
    exact hb1
/-- One that is resized to the size that it has is the same. -/
theorem resize_same {w h n : Nat} {L : List Cell} {c : Cell} (hl : L.length = n) (hn : n = w * h) (hr : rightG w h L = true) (h1 : 1 ≤ w) (h2 : 1 ≤ h) : resizeG w h L w h c = L := by
  unfold resizeG
  exact blit_same (fillB_len.trans hn.symm) hl hn hr h1 h2
end Go.Proofs.YtldjmacnokkjdaaDoor
