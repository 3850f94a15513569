/- slices.Repeat of one cell; grid.New, grid.At, grid.Row. -/
import Derived.Test.YtldjmacnokkjdaaDoorGridF
import Derived.Test.YtldjmacnokkjdaaDoorLib2
import Derived.OwnWalk
namespace Go.Proofs.YtldjmacnokkjdaaDoor
open Go.RowKit
set_option linter.unusedVariables false
set_option linter.unusedSimpArgs false
attribute [local go_sem] max2_mx min2_mn max_two min_two

theorem made_cells (n : Nat) : (madeCells (Value.agg #[.int .i32 0, .int .u8 0, .int .u8 0, .int .u8 0]).cells (n * 4)).toList = (List.replicate n zeroC).flatMap Cell.vals := by
  apply List.ext_getElem?
  intro i
  by_cases hi : i < n * 4
  · have h1 : (List.replicate n zeroC)[i / 4]? = some zeroC := by rw [List.getElem?_replicate, if_pos (by omega)]
    have h2 := flat_get (rd := Cell.vals) (size := 4) (fun _ => rfl) h1 (j := i % 4) (by omega)
    rw [show i / 4 * 4 + i % 4 = i by omega] at h2
    rw [h2]
    have h4 : i % 4 = 0 ∨ i % 4 = 1 ∨ i % 4 = 2 ∨ i % 4 = 3 := by omega
    rcases h4 with h | h | h | h <;> simp [madeCells, Value.cells, hi, h, zeroC, Cell.vals]
  · rw [List.getElem?_eq_none (by simp [madeCells]; omega), List.getElem?_eq_none (by rw [vals_len]; simp; omega)]
def RepRel (W1 : World) (g n : Nat) (c : Cell) (kk : Nat) (idx : Value) (wr : World) : Prop :=
  ∃ k : Nat, idx = .int .i64 k ∧ k ≤ n ∧ (0 < n → 0 < k) ∧ CellB wr g n n (List.replicate k c ++ List.replicate (n - k) zeroC) ∧ Mods [g] W1 wr ∧ kk + k = n + min 1 n
set_option maxRecDepth 100000 in
set_option maxHeartbeats 400000 in
theorem slices_Repeat (w : World) (a : Addr) (n : Nat) (hn : n ≤ 100000) (c : Cell) (h : ReadsRows w (some a) 1 4 Cell.vals [c]) :
    Calls Tryd.prog 71 #[.slice (some a) 1 1, .int .i64 (n : Int)] w fun e w' => ∃ g, e = .returned (.slice (some ⟨g, 0, none⟩) n n) ∧ CellB w' g n n (List.replicate n c) ∧ w.heap.size ≤ g ∧ Mods [] w w' := by
  have HO := Lib.hid h
  clear h
  have u1 : IntKind.u64.wrap (n : Int) = (n : Int) := IntWalk.u64_in _ (by omega)
  have u2 : IntKind.i64.wrap (n : Int) = (n : Int) := IntWalk.i64_in _ (by omega)
  go_enter Tryd.func71, Tryd.ntmps71
  go_wp2_with fail
  refine (Tryd.bits_Mul 1 n (by omega) (by omega) _).mono ?_
  rw [show 1 * n / 18446744073709551616 = 0 by omega, show 1 * n % 18446744073709551616 = n by omega]
  rintro e w1 ⟨rfl, rfl⟩
  obtain ⟨i0, hi, hz0, hz1, hz2⟩ := info_parts (show (Tryd.prog.info? 27).map (fun i => (i.zero, i.size, i.bytes)) = some (some (.agg #[.int .i32 0, .int .u8 0, .int .u8 0, .int .u8 0]), 4, 8) by kernel_rfl)
  have HI := Lib.hid hi
  have HZ0 := Lib.hid hz0
  have HZ1 := Lib.hid hz1
  have HZ2 := Lib.hid hz2
  clear hi hz0 hz1 hz2
  go_wp2_with (first
    | (refine wpList_make_full _ rfl (.tmp 29) (.tmp 29) 28 rfl w1.heap.size 27 i0 _ 4 Tryd.underlying28 HI.out HZ0.out HZ1.out .i64 .i64 _ _ n rfl rfl rfl rfl (by rw [HZ2.out]; omega) (by unfold maxLen; omega) (Nat.le_refl _) ?_; intro w2 hown hgrow; rw [made_cells] at hown; have HOWN := Lib.hid hown; have HG := Lib.hid hgrow; clear hown hgrow)
    | (refine copy_own (L := List.replicate n zeroC) (CellB.of_own HOWN.out (by simp)).1 rfl (.tmp 31) (.tmp 32) 28 27 rfl Tryd.underlying28 (by kernel_rfl) 0 n n 1 1 _ _ rfl rfl [c] (HO.out.keepsM (fun _ => rfl) (S := []) ((Mods.refl [] w1).grown HG.out (fun k e => by cases e)) (by simp)) (by omega) (fun _ => by rw [Nat.zero_mul]) ?_; intro w3 hB3 hM3; have HB3 := Lib.hid hB3; clear hB3))
  have hM2 : Mods [] w1 w2 := (Mods.refl [] w1).grown HG.out (fun k e => by cases e)
  have hs2 : w1.heap.size < w2.heap.size := own_lt HOWN.out _ rfl
  clear HOWN HG HI HZ0 HZ1 HZ2
  go_loopg [8] n (RepRel w2 w1.heap.size n c)
  case atStart =>
    refine ⟨min 1 n, rfl, by omega, by omega, ?_, hM3, ?_⟩
    · have := HB3.out
      have e : List.take 0 (List.replicate n zeroC) ++ List.take (min 1 n) [c] ++ List.drop (0 + min 1 n) (List.replicate n zeroC) = List.replicate (min 1 n) c ++ List.replicate (n - min 1 n) zeroC := by
        rcases Nat.eq_zero_or_pos n with rfl | h0
        · rfl
        · rw [show min 1 n = 1 by omega]; simp
      rw [← e]; exact this
    · rfl
  case round =>
    obtain ⟨k, rfl, hk, hk0, hB, hM, hkk⟩ := hrel
    have HB := Lib.hid hB
    have HKK := Lib.hid hkk
    clear hB hkk
    by_cases hlt : k < n
    · have hk1 : 0 < k := hk0 (by omega)
      have hm0 : 1 ≤ min k (n - k) ∧ k + min k (n - k) ≤ n := by omega
      have HBd : Hid (CellB wr.drew w1.heap.size n n (List.replicate k c ++ List.replicate (n - k) zeroC)) := Lib.hid HB.out
      have hsrc : ReadsRows wr.drew (some ⟨w1.heap.size, 0, none⟩) k 4 Cell.vals ((List.replicate k c ++ List.replicate (n - k) zeroC).take k) := HBd.out.reads.first k hk
      have HSRC := Lib.hid hsrc
      have k0 : (0 : Int) ≤ (k : Int) := by omega
      have k1 : (k : Int) ≤ (n : Int) := by omega
      clear hk0 hsrc
      have s1 : IntKind.i64.wrap ((k : Int) + ((min k (n - k) : Nat) : Int)) = ((k + min k (n - k) : Nat) : Int) := by rw [Int.natCast_add]; exact IntWalk.i64_in _ (by omega)
      go_upto_region 9 with fail
      go_region_law (refine step_copy_own HBd.out rfl (.tmp 41) (.tmp 44) 28 27 rfl Tryd.underlying28 (by kernel_rfl) k (n - k) (n - k) k n (if n = k then some ⟨w1.heap.size, 0, none⟩ else some ⟨w1.heap.size, k * 4, none⟩) (some ⟨w1.heap.size, 0, none⟩) (by go_simp) (by go_simp) _ HSRC.out (by omega) (fun _ => if_neg (by omega)) ?_; intro w4 hB4 hM4)
      have HB4 := Lib.hid hB4
      clear hB4 s1
      have hk2 := HKK.out
      have hm3 := hm0.1
      go_wp2
      go_roundg (gk - min k (n - k))
      case measure => omega
      case rel =>
        refine ⟨k + min k (n - k), by go_num, by omega, by omega, ?_, hM.drew.trans hM4, by omega⟩
        have := HB4.out
        have e : (List.replicate k c ++ List.replicate (n - k) zeroC).take k ++ ((List.replicate k c ++ List.replicate (n - k) zeroC).take k).take (min k (n - k)) ++ (List.replicate k c ++ List.replicate (n - k) zeroC).drop (k + min k (n - k)) = List.replicate (k + min k (n - k)) c ++ List.replicate (n - (k + min k (n - k))) zeroC := by
          rw [List.take_left' (by simp), List.take_replicate, List.replicate_append_replicate]
          congr 1
          · congr 1; omega
          · rw [List.drop_append, List.drop_of_length_le (by simp), List.nil_append, List.drop_replicate]
            congr 1; simp; omega
        rw [← e]; exact this
    · have hkn : k = n := by omega
      subst hkn
      go_wp2
      go_ret
      refine ⟨_, rfl, ?_, Nat.le_refl _, hM2.then hM (by simp)⟩
      have := HB.out
      simpa using this
end Go.Proofs.YtldjmacnokkjdaaDoor
