/- HistoryViews's walk. -/
import Derived.Test.YtldjmacnokkjdaaDoorVLaw
import Derived.Test.YtldjmacnokkjdaaDoorGe
import Derived.Test.YtldjmacnokkjdaaDoorAwk10
namespace Go.Proofs.YtldjmacnokkjdaaDoor
open Go.RowKit
attribute [local go_sem] i64_and7 min2_mn min_two
set_option linter.unusedVariables false
set_option linter.unusedSimpArgs false

def VieRel (w : World) (h lo n : Nat) (l : List Int) (kk : Nat) (idx : Value) (wr : World) : Prop :=
  ∃ (i first : Nat) (lv : Value) (rows : List (List Cell)) (vs : List Value), idx = .int .i64 (i : Int) ∧ i ≤ n ∧ HAt wr h lo lv 500 first rows vs ∧ hview first rows = (l.take i).map rowAbc ∧ lo ≤ wr.heap.size ∧ Mods [] w wr ∧ kk + i = n
def VieRel2 (wc : World) (h : Nat) (kk : Nat) (idx s16 s17 s18 : Value) (wr : World) : Prop := ∃ i : Nat, idx = .int .i64 (i : Int) ∧ i ≤ h ∧ Mods [] wc wr ∧ kk + i = h
def VieRel3 (wc : World) (h : Nat) (kk : Nat) (idx s18 : Value) (wr : World) : Prop := ∃ i : Nat, idx = .int .i64 (i : Int) ∧ i ≤ h ∧ Mods [] wc wr ∧ kk + i = h
theorem mod5 (x : Int) : -4 ≤ x.tmod 5 ∧ x.tmod 5 ≤ 4 ∧ (x.tmod 5 + 5).tmod 5 = x % 5 := by
  rcases tmod_near x 5 (by omega) with ⟨h, e⟩ | ⟨h, e⟩ <;> rw [e]
  · rw [Int.tmod_eq_emod_of_nonneg (by omega)]; omega
  · rw [Int.tmod_eq_emod_of_nonneg (by omega)]; omega
theorem wrap_mod5 (q : Int) (w : Nat) (hw : (w : Int) = 1 + q % 5) : wrap64 (1 + (wrap64 (q.tmod 5 + 5)).tmod 5) = (w : Int) := by
  obtain ⟨m1, m2, m3⟩ := mod5 q
  rw [IntWalk.wrap64_in (q.tmod 5 + 5) (by omega), m3, IntWalk.wrap64_in _ (by omega), hw]
theorem nat5 (q : Int) : ∃ w : Nat, (w : Int) = 1 + q % 5 ∧ 1 ≤ w ∧ w ≤ 5 := by
  have h1 := Int.emod_nonneg q (b := 5) (by omega)
  have h2 := Int.emod_lt_of_pos q (b := 5) (by omega)
  exact ⟨(1 + q % 5).toNat, by omega, by omega, by omega⟩
theorem reads_lt' {w : World} {a : Addr} {n : Nat} {L : List Cell} (h : ReadsRows w (some a) n 4 Cell.vals L) (hn : 0 < n) : a.block < w.heap.size := by
  obtain ⟨c0, hc0⟩ : ∃ c, L[0]? = some c := ⟨_, List.getElem?_eq_getElem (by rw [h.1]; exact hn)⟩
  obtain ⟨a', ha', hcc, _⟩ := h.row hc0
  cases ha'
  have := World.block_lt_of_cell? w _ hcc
  have hb0 : (a.add (0 * 4)).block = a.block := by unfold Addr.add; split <;> rfl
  rw [hb0] at this
  exact this
def hashC : Cell := ⟨35, 0, 0, 0⟩
theorem hash_reads (w : World) : ReadsRows (w.alloc (.cells #[.int .i32 35, .int .u8 0, .int .u8 0, .int .u8 0] 27)) (some ⟨w.heap.size, 0, none⟩) 1 4 Cell.vals [hashC] :=
  rows_of_block (size := 4) (rd := Cell.vals) (xs := [hashC]) (blk_new w _) (by omega) (fun _ => rfl) rfl (by simp [maxLen])
set_option maxRecDepth 100000 in
set_option maxHeartbeats 4000000 in
theorem historyViews_walk (w : World) (A : Option Addr) (m c : Nat) (l : List Int) (hl : ReadsRows w A m 1 intV l) (high back : Int) :
    Calls Tryd.prog 5 #[.slice A m c, .int .i64 high, .int .i64 back] w fun e w' => e = .returned (.bool true) ∧ Mods [] w w' := by
  have HL := Lib.hid hl
  have HLL := Lib.hid hl.1
  have hm := hl.2.1
  unfold maxLen at hm
  obtain ⟨gh, hgh, gh1, gh2⟩ := nat5 high
  have E1 := Lib.hid (wrap_mod5 high gh hgh)
  obtain ⟨n, hn⟩ : ∃ n, min m 20 = n := ⟨_, rfl⟩
  have hmn : mn (m : Int) 20 = (n : Int) := by rw [← hn]; unfold mn; split <;> omega
  have hn1 : n ≤ m := by omega
  have hn2 : n ≤ 20 := by omega
  clear hl hgh hn
  go_enter Tryd.func5, Tryd.ntmps5
  go_wp2_with fail
  refine (law10_awake _).mono ?_
  rintro e w0 ⟨rfl, hm0⟩
  go_wp2_with fail
  refine (history_New _ _).mono ?_
  have en : (mn (mx (500 : Int) 0) 500).toNat = 500 := by decide
  rw [en]
  rintro e w1 ⟨hp, rfl, hh, hm1⟩
  have HH := Lib.hid hh
  have hs1 := hm1.size
  have hM1 := hm0.trans hm1
  clear hh en
  go_wp2
  clear hmn
  go_loopg [10] n (VieRel w hp w0.heap.size n l)
  case atStart => exact ⟨0, 0, _, _, _, rfl, by omega, HH.out, by simp [hview], hs1, hM1, by omega⟩
  case round =>
    obtain ⟨i, first, lv, rows, vs, rfl, hi, hh, hv, hlo, hM, hkk⟩ := hrel
    have HR := Lib.hid hh
    have HV := Lib.hid hv
    have HKK := Lib.hid hkk
    have hkk2 := hkk
    clear hh hv hkk
    by_cases hlt : i < n
    · obtain ⟨z, hz⟩ : ∃ z, l[i]? = some z := ⟨_, List.getElem?_eq_getElem (by rw [HLL.out]; omega)⟩
      obtain ⟨a, rfl, c0, hc⟩ := (HL.out.keepsM (fun _ => rfl) hM (by simp)).row hz
      simp only [intV, List.getElem?_cons_zero, Nat.zero_add, Nat.mul_one] at c0
      have HZ := Lib.hid hz
      clear hc hz
      have z1 : 0 ≤ z % 8 := Int.emod_nonneg _ (by omega)
      have z2 : z % 8 < 8 := Int.emod_lt_of_pos _ (by omega)
      have e0 : IntKind.i64.wrap (97 + z % 8) = 97 + z % 8 := IntWalk.i64_in _ (by omega)
      have e1 : IntKind.i32.wrap (97 + z % 8) = 97 + z % 8 := IntWalk.i32_in _ (by omega)
      have hmi : (i : Int) < (m : Int) := by omega
      go_wp2_with fail
      clear e0 e1
      have hhl := heap_lt HR.out.head
      have p1 := (Mods.refl [] wr).alloc (.cells #[.int .i32 (97 + z % 8), .int .u8 0, .int .u8 0, .int .u8 0, .int .i32 45, .int .u8 0, .int .u8 0, .int .u8 0, .int .i32 45, .int .u8 0, .int .u8 0, .int .u8 0] 27)
      have hb1 := blk_new wr (.cells #[.int .i32 (97 + z % 8), .int .u8 0, .int .u8 0, .int .u8 0, .int .i32 45, .int .u8 0, .int .u8 0, .int .u8 0, .int .i32 45, .int .u8 0, .int .u8 0, .int .u8 0] 27)
      have hsz1 : (wr.alloc (.cells #[.int .i32 (97 + z % 8), .int .u8 0, .int .u8 0, .int .u8 0, .int .i32 45, .int .u8 0, .int .u8 0, .int .u8 0, .int .i32 45, .int .u8 0, .int .u8 0, .int .u8 0] 27)).heap.size = wr.heap.size + 1 := by simp
      generalize wr.alloc (.cells #[.int .i32 (97 + z % 8), .int .u8 0, .int .u8 0, .int .u8 0, .int .i32 45, .int .u8 0, .int .u8 0, .int .u8 0, .int .i32 45, .int .u8 0, .int .u8 0, .int .u8 0] 27) = W1 at *
      have hR1 : ReadsRows W1 (some ⟨wr.heap.size, 0, none⟩) (rowAbc z).length 4 Cell.vals (rowAbc z) := rows_of_block hb1 (by omega) (fun _ => rfl) rfl (by simp [rowAbc, maxLen])
      have hold := own_old HR.out
      have hP := prow_one (t := 28) (c := 3) (bad := hp :: lv.ownBlock.toList) ⟨Nat.le_refl _, by simp [rowAbc], hR1, fun a ha => by cases ha; exact ⟨by simp only [hsz1]; omega, fun hm => Nat.lt_irrefl _ (hold _ hm)⟩⟩ (fun b hb => by have := hold b hb; omega)
      rw [hsz1] at hP
      have p2 := p1.alloc (.cells #[.slice (some ⟨wr.heap.size, 0, none⟩) 3 3] 28)
      refine (history_Push _ w hp _ _ 500 first rows vs _ 1 1 [rowAbc z] rfl (by omega) (HR.out.keeps p2) hP (hM.trans p2) hm0.size (Nat.le_trans hlo p2.size)).mono ?_
      have hv' : hview ([rowAbc z].foldl (pushS 500) (first, rows)).1 ([rowAbc z].foldl (pushS 500) (first, rows)).2 = (l.take (i + 1)).map rowAbc := by
        show hview (pushS 500 (first, rows) (rowAbc z)).1 (pushS 500 (first, rows) (rowAbc z)).2 = _
        have hz := HZ.out
        rw [hview_pushS (st := (first, rows)) _ HR.out.le HR.out.fst, mend_rowAbc, HV.out, List.take_add_one, hz]
        simp only [Option.toList, List.map_append, List.map_cons, List.map_nil]
        refine lastN_le ?_
        rw [List.length_append, List.length_map, List.length_take]
        simp; omega
      have HV' := Lib.hid hv'
      clear hv' hP p2 p1 hR1 hb1 hsz1 hold HR HV
      rintro e w2 ⟨rfl, ⟨lv', vs', hh', _⟩, hM', hlo', _⟩
      have HH' := Lib.hid hh'
      clear hh'
      go_wp2
      go_roundg (gk - 1)
      case measure => omega
      case rel => exact ⟨i + 1, _, _, _, _, by go_num, by omega, HH'.out, HV'.out, hlo', hM', by omega⟩
    · have hin : i = n := by omega
      subst hin
      obtain ⟨R, hR⟩ : ∃ R, (l.take i).map rowAbc = R := ⟨_, rfl⟩
      have hRl : R.length = i := by rw [← hR, List.length_map, List.length_take, HLL.out]; omega
      have hvl : rows.length = i := by rw [← hview_len first rows, HV.out, hR, hRl]
      have hsm : ∀ r ∈ rows, r.length ≤ 1000000 := by
        intro r hr
        have hmem : r ∈ hview first rows := by
          unfold hview
          rw [← List.take_append_drop first rows] at hr
          simp only [List.mem_append] at hr ⊢
          exact hr.symm
        rw [HV.out] at hmem
        obtain ⟨z, _, rfl⟩ := List.mem_map.1 hmem
        simp [rowAbc]
      have hv := HV.out
      rw [hR] at hv
      -- what a view of a right grid, 3 wide, gives now
      have VK : Hid (∀ (X : World) (g : Nat) (N cc : Nat) (a : Addr) (L : List Cell) (b : Int) (k : Nat), Mods [] wr X → GridOk 3 g N cc → ReadsRows X (some a) N 4 Cell.vals L → rightG 3 g L = true → mn (mx b 0) (i : Int) = (k : Int) →
          Calls Tryd.prog 20 #[.pointer (some ⟨hp, 0, none⟩), gridV 3 g (some a) N cc, .int .i64 b] X fun e W' => GridNew X W' 3 g N (viewL 3 g i R L (i - k)) e) := Lib.hid (by
        intro X g N cc a L b k hX hg hL hr hk
        have := history_View X hp _ lv 500 first rows vs (HR.out.keeps hX) hsm 3 g N cc a L b hg hL hr
        rw [hvl, hv, hk, Int.toNat_natCast] at this
        exact this)
      have HRR := Lib.hid hR
      clear hsm hv hvl hR HR HV HKK
      have e1 := E1.out
      go_wp2_with fail
      clear e1
      refine (ref6_New wr 3 gh (by omega) (by omega) gh1 (by omega)).mono ?_
      obtain ⟨N, hN⟩ : ∃ N, 3 * gh = N := ⟨_, rfl⟩
      have hrb := rightG_blanks 3 gh
      have hlb : (List.replicate (3 * gh) blankC).length = 3 * gh := by simp
      rw [hN] at hrb hlb ⊢
      have HN := Lib.hid hN.symm
      generalize List.replicate N blankC = L0 at *
      clear hN
      rintro e w3 ⟨a0, c0, rfl, hc0, hR0, hge0, hm3⟩
      have hb11 := blk_new w3 (.cells #[.int .i64 3, .int .i64 (gh : Int), .slice (some a0) N c0] 38)
      have hlt0 := reads_lt' hR0 (by have := HN.out; omega)
      have hm4 : Mods [] wr (w3.alloc (.cells #[.int .i64 3, .int .i64 (gh : Int), .slice (some a0) N c0] 38)) := hm3.alloc _
      have hR4 := hR0.keepsM (fun _ => rfl) ((Mods.refl [] w3).alloc (.cells #[.int .i64 3, .int .i64 (gh : Int), .slice (some a0) N c0] 38)) (by simp)
      go_upto_region 11 with fail
      generalize w3.alloc (.cells #[.int .i64 3, .int .i64 (gh : Int), .slice (some a0) N c0] 38) = w4 at *
      have B11 := Lib.hid hb11
      have C11 := fun i => blk_cell hb11 i
      clear hb11
      have hRH := hash_reads w4
      have GOK0 : Hid (GridOk 3 gh N c0) := Lib.hid ⟨by omega, by omega, gh1, by omega, HN.out, hc0⟩
      have hmH : Mods [] w4 (w4.alloc (.cells #[.int .i32 35, .int .u8 0, .int .u8 0, .int .u8 0] 27)) := (Mods.refl [] w4).alloc _
      go_wp2_with fail
      clear C11
      generalize w4.alloc (.cells #[.int .i32 35, .int .u8 0, .int .u8 0, .int .u8 0] 27) = w5 at *
      refine (grid_Put w5 3 gh N c0 a0 L0 1 0 (some ⟨w4.heap.size, 0, none⟩) 1 1 [hashC] GOK0.out (hR4.keepsM (fun _ => rfl) hmH (by simp)) hrb (by omega) hRH (by omega) (Nat.le_refl _)).mono ?_
      have hlP := putG_len (x := 1) (y := 0) (s := [hashC]) hlb HN.out
      have hrP := right_putG (x := 1) (y := 0) (s := [hashC]) hlb HN.out hrb
      generalize putG 3 gh L0 1 0 [hashC] = L at *
      have HRT := Lib.hid hrP
      have HLP := Lib.hid hlP
      clear hrP hrb hlb hRH hR0 hR4 hlP
      rintro e w6 ⟨a, c1, rfl, hc1, hR6, hor, hm6⟩
      have hb11 := hm6.at (hmH.at B11.out (by simp)) (by simp)
      go_wp2_with (refine store_blk hb11 rfl (.tmp 11) (.tmp 55) 38 rfl (c' := #[.int .i64 3, .int .i64 (gh : Int), .slice (some a) N c1]) (by kernel_rfl) rfl rfl rfl (by simp [Value.oneCell']) ?_; intro w7 hb7 hm7; have HB7 := Lib.hid hb7; clear hb7)
      have hm67 : Mods [] wr w7 := (hm4.trans (hmH.trans hm6)).then hm7 (fun k hk => .inr (by have := hm3.size; simp at hk; omega))
      have GOK : Hid (GridOk 3 gh N c1) := Lib.hid ⟨by omega, by omega, gh1, by omega, HN.out, hc1⟩
      have hge : wr.heap.size ≤ w3.heap.size := hm3.size
      have hlt11 : a.block ≠ w3.heap.size := by
        rcases hor with rfl | ⟨_, h1, _⟩
        · omega
        · have h2 := hmH.size
          have h3 := heap_lt B11.out
          omega
      have RL := Lib.hid (hR6.keepsM (fun _ => rfl) hm7 (by intro a2 ha2; cases ha2; simpa using hlt11))
      clear hR6 hor hb11
      have hm67f := Lib.hid (hM.trans hm67)
      have KA : ∀ X, Mods [] w7 X → (X.cell? ⟨w3.heap.size, 0, none⟩ = some (.int .i64 3) ∧ X.cell? ⟨w3.heap.size, 1, none⟩ = some (.int .i64 (gh : Int)) ∧ X.cell? ⟨w3.heap.size, 2, none⟩ = some (.slice (some a) N c1)) := fun X hX => ⟨blk_cell (hX.at HB7.out (by simp)) 0, blk_cell (hX.at HB7.out (by simp)) 1, blk_cell (hX.at HB7.out (by simp)) 2⟩
      have RK : Hid (∀ X, Mods [] w7 X → ReadsRows X (some a) N 4 Cell.vals L) := Lib.hid fun X hX => RL.out.keepsM (fun _ => rfl) hX (by simp)
      have VW : Hid (∀ (X : World) (b : Int) (k : Nat), Mods [] w7 X → mn (mx b 0) (i : Int) = (k : Int) → Calls Tryd.prog 20 #[.pointer (some ⟨hp, 0, none⟩), gridV 3 gh (some a) N c1, .int .i64 b] X fun e W' => GridNew X W' 3 gh N (viewL 3 gh i R L (i - k)) e) := Lib.hid fun X b k hX hk => VK.out X gh N c1 a L b k (hm67.trans hX) GOK.out (RK.out X hX) HRT.out hk
      have hMR := Mods.refl [] w7
      have k0 : mn (mx 0 0) (i : Int) = ((0 : Nat) : Int) := by unfold mn mx; split <;> split <;> omega
      have K0 := Lib.hid k0
      clear k0
      refine wp_region_held_drew (S := (fun X => X.cell? ⟨w3.heap.size, 0, none⟩ = some (.int .i64 3) ∧ X.cell? ⟨w3.heap.size, 1, none⟩ = some (.int .i64 (gh : Int)) ∧ X.cell? ⟨w3.heap.size, 2, none⟩ = some (.slice (some a) N c1))) (by kernel_rfl) ?_ (fun hHeld => ?_)
      focus ((try dsimp only); exact KA _ hMR.drew)
      refine wpAnyH_take (i := 0) (v := ?_) op_at0 (by kernel_rfl) (by kernel_rfl) (by kernel_rfl) (fun _ _ _ h => h) (Or.inl ⟨by rfl, ?_⟩) (by assumption) ?_
      rotate_left
      focus ((intro w hSw; (try dsimp only at hSw); go_simp) <;> with_reducible rfl)
      all_goals skip
      try simp only [Act.put, List.setIfInBounds_toArray, List.set_cons_zero, List.set_cons_succ]
      refine wpAnyH_take (i := 1) (v := ?_) (op_atS op_at0) (by kernel_rfl) (by kernel_rfl) (by kernel_rfl) (fun _ _ _ h => h) (Or.inl ⟨by rfl, ?_⟩) (by assumption) ?_
      rotate_left
      focus ((intro w hSw; (try dsimp only at hSw); go_simp) <;> with_reducible rfl)
      all_goals skip
      try simp only [Act.put, List.setIfInBounds_toArray, List.set_cons_zero, List.set_cons_succ]
      refine wpAnyH_take (i := 3) (v := ?_) (op_atS (op_atS (op_atS op_at0))) (by kernel_rfl) (by kernel_rfl) (by kernel_rfl) (fun _ _ _ h => h) (Or.inl ⟨by rfl, ?_⟩) (by assumption) ?_
      rotate_left
      focus ((intro w hSw; (try dsimp only at hSw); go_simp) <;> with_reducible rfl)
      all_goals skip
      try simp only [Act.put, List.setIfInBounds_toArray, List.set_cons_zero, List.set_cons_succ]
      refine wpAnyH_ready (rs := [2]) (by kernel_rfl) (by simp) ?_
      refine AllReadyH.cons (op_atS (op_atS op_at0)) (fun K hK => ?_) AllReadyH.nil
      go_simp
      ((go_at_call 20; refine (VW.out _ 0 0 hMR.drew K0.out).mono ?_; rw [Nat.sub_zero, view_zero HLP.out HN.out HRT.out]; rintro e w8 ⟨av, cv, rfl, hcv, hRv, _, hm8⟩; have hmV : Mods [] w7 w8 := hMR.drew.trans hm8))
      try go_wp2_with fail
      refine hK.out _ _ ?_ (fun hHeld2 => ?_)
      focus ((try dsimp only); exact KA _ hmV)
      clear hK K hHeld
      have hHeld := hHeld2
      clear hHeld2
      try simp only [Act.put, List.setIfInBounds_toArray, List.set_cons_zero, List.set_cons_succ]
      refine wpAnyH_ready (rs := [4]) (by kernel_rfl) (by simp) ?_
      refine AllReadyH.cons (op_atS (op_atS (op_atS (op_atS op_at0)))) (fun K hK => ?_) AllReadyH.nil
      go_simp
      ((go_at_call 19; refine (ref6_Same _ _ _ _ _ _ _ _ _ _ _ L L hRv (RK.out _ hmV)).mono ?_; rw [decide_eq_true ⟨rfl, rfl, rfl⟩]; rintro e w9 ⟨rfl, hm9⟩; have hmS : Mods [] w7 w9 := hmV.trans hm9))
      try go_wp2_with fail
      refine hK.out _ _ ?_ (fun hHeld2 => ?_)
      focus ((try dsimp only); exact KA _ hmS)
      clear hK K hHeld
      have hHeld := hHeld2
      clear hHeld2
      try simp only [Act.put, List.setIfInBounds_toArray, List.set_cons_zero, List.set_cons_succ]
      refine wpAnyH_take (i := 5) (v := ?_) (op_atS (op_atS (op_atS (op_atS (op_atS op_at0))))) (by kernel_rfl) (by kernel_rfl) (by kernel_rfl) (fun _ _ _ h => h) (Or.inl ⟨by rfl, ?_⟩) (by assumption) ?_
      rotate_left
      focus ((intro w hSw; (try dsimp only at hSw); go_simp) <;> with_reducible rfl)
      all_goals skip
      try simp only [Act.put, List.setIfInBounds_toArray, List.set_cons_zero, List.set_cons_succ]
      refine wpAnyH_done (by kernel_rfl) ?_ _
      clear hHeld
      have t1 := Int.tmod_lt_of_pos back (b := (i : Int) + 1) (by omega)
      have t2 := Int.lt_tmod_of_pos back (b := (i : Int) + 1) (by omega)
      have hmS0 := hmS
      go_upto_region 14 with fail
      obtain ⟨k, hk⟩ : ∃ k : Nat, (back.tmod ((i : Int) + 1) + (i : Int) + 1) % ((i : Int) + 1) = (k : Int) := Int.eq_ofNat_of_zero_le (Int.emod_nonneg _ (by omega))
      have hki : k ≤ i := by have := Int.emod_lt_of_pos (back.tmod ((i : Int) + 1) + (i : Int) + 1) (b := (i : Int) + 1) (by omega); omega
      rw [hk]
      have k1 : mn (mx (k : Int) 0) (i : Int) = (k : Int) := by unfold mn mx; split <;> split <;> omega
      have K1 := Lib.hid k1
      clear hk k1 t1 t2
      generalize back.tmod ((i : Int) + 1) = bm
      obtain ⟨q0, q1, q2⟩ := KA _ hmS
      go_wp2_with fail
      refine (VW.out _ _ k hmS K1.out).mono ?_
      have VL := Lib.hid (fun (y x : Nat) (hy : y < gh) (hx : x < 3) => view_law (l := l) (n := i) (k := k) (by rw [HLL.out]; exact hn1) HLP.out HN.out HRT.out hki y x hy hx)
      rw [HRR.out] at VL
      obtain ⟨V, hV⟩ : ∃ V, viewL 3 gh i R L (i - k) = V := ⟨_, rfl⟩
      have hVl : V.length = N := by rw [← hV, viewL_len, HN.out, Nat.mul_comm]
      rw [hV] at VL ⊢
      clear hV q0 q1 q2
      rintro e wa ⟨vv, cv2, rfl, hcv2, hRV, _, hma⟩
      have hma' : Mods [] w7 (wa.alloc (.cells #[.int .i64 3, .int .i64 (gh : Int), .slice (some vv) N cv2] 38)) := (hmS.trans hma).alloc _
      have hbV := blk_new wa (.cells #[.int .i64 3, .int .i64 (gh : Int), .slice (some vv) N cv2] 38)
      have hRV2 := hRV.keepsM (fun _ => rfl) ((Mods.refl [] wa).alloc (.cells #[.int .i64 3, .int .i64 (gh : Int), .slice (some vv) N cv2] 38)) (by simp)
      have VOK : Hid (GridOk 3 gh N cv2) := Lib.hid ⟨by omega, by omega, gh1, by omega, HN.out, hcv2⟩
      go_upto_region 15 with fail
      generalize wa.alloc (.cells #[.int .i64 3, .int .i64 (gh : Int), .slice (some vv) N cv2] 38) = wb at *
      have BV := Lib.hid hbV
      have RV := Lib.hid hRV2
      have HMB := Lib.hid hma'
      have C14 := fun i => blk_cell hbV i
      obtain ⟨q0, q1, q2⟩ := KA _ hma'
      clear hbV hRV hRV2 hma
      go_upto_region 17 with fail
      clear C14 q0 q1 q2
      go_wp2
      go_loopg [15, 16, 17, 18] gh (VieRel2 wb gh)
      case atStart => exact ⟨0, rfl, by omega, Mods.refl _ _, by omega⟩
      case round =>
        obtain ⟨y0, rfl, hy0, hMo, hkk⟩ := hrel
        have HKK := Lib.hid hkk
        clear hkk
        obtain ⟨q0, q1, q2⟩ := KA _ (hma'.trans hMo)
        by_cases hlt : y0 < gh
        · have hk2 := HKK.out
          generalize gk = gout at *
          have s1 : IntKind.i64.wrap ((i : Int) - (k : Int)) = ((i - k : Nat) : Int) := by rw [IntWalk.i64_in _ (by omega)]; omega
          have s2 : IntKind.i64.wrap (((i - k : Nat) : Int) + (y0 : Int)) = ((i - k + y0 : Nat) : Int) := by rw [IntWalk.i64_in _ (by omega)]; omega
          go_wp2
          clear q0 q1 q2 s1 s2
          obtain ⟨T, hT⟩ : ∃ T, i - k + y0 = T := ⟨_, rfl⟩
          have s3 : ((i - k : Nat) : Int) + (y0 : Int) = (T : Int) := by omega
          have HT := Lib.hid hT
          rw [s3]
          clear s3 hT
          go_loopg [17, 18] 3 (VieRel3 wr 3)
          case atStart => exact ⟨0, rfl, by omega, Mods.refl _ _, by omega⟩
          case round =>
            obtain ⟨x0, rfl, hx0, hMi, hkk⟩ := hrel
            have HKK2 := Lib.hid hkk
            clear hkk
            have hMw := hMo.trans hMi
            by_cases hltx : x0 < 3
            · have hk3 := HKK2.out
              obtain ⟨d, hd, hd1, hd2⟩ := VL.out y0 x0 hlt hltx
              rw [HT.out] at hd1 hd2
              have hT := HT.out
              obtain ⟨d0, e1, e2, hat⟩ : ∃ d0 : Cell, (T < i → d0 = zeroC) ∧ (i ≤ T → d0 = d) ∧ Calls Tryd.prog 21 #[gridV 3 gh (some a) N c1, .int .i64 (x0 : Int), .int .i64 ((T : Int) - (i : Int))] wr fun e W' => e = .returned d0.val ∧ Mods [] wr W' := by
                by_cases h1 : T < i
                · exact ⟨zeroC, fun _ => rfl, fun h => absurd h (by omega), ref6_At_none wr 3 gh N c1 (some a) x0 _ (by omega)⟩
                · obtain ⟨h2, h3⟩ := hd2 (by omega)
                  have h4 := ref6_At_in wr 3 gh N c1 a L x0 (T - i) GOK.out (RK.out _ (hma'.trans hMw)) h2 hltx d h3
                  have h5 : ((T - i : Nat) : Int) = (T : Int) - (i : Int) := by omega
                  rw [h5] at h4
                  exact ⟨d, fun h => absurd h h1, fun _ => rfl, h4⟩
              have HD := Lib.hid hd
              have HD1 := Lib.hid hd1
              have D1 := Lib.hid e1
              have D2 := Lib.hid e2
              have s4 : IntKind.i64.wrap ((T : Int) - (i : Int)) = (T : Int) - (i : Int) := IntWalk.i64_in _ (by omega)
              obtain ⟨q0, q1, q2⟩ := KA _ (hma'.trans hMw)
              have HAT := Lib.hid hat
              clear hd hd1 hd2 e1 e2 hT hat
              go_wp2_with fail
              clear q0 q1 q2 s4
              refine HAT.out.mono ?_
              rintro e wd ⟨rfl, hmd⟩
              obtain ⟨zr, zf, zg, zt⟩ := d0
              simp only [Cell.val]
              have hbW := blk_new wd (.cells #[.int .i32 zr, .int .u8 zf, .int .u8 zg, .int .u8 (zt.val : Int)] 27)
              have hmW : Mods [] wr (wd.alloc (.cells #[.int .i32 zr, .int .u8 zf, .int .u8 zg, .int .u8 (zt.val : Int)] 27)) := hmd.alloc _
              obtain ⟨gw, hgw⟩ : ∃ g, wd.heap.size = g := ⟨_, rfl⟩
              have hgew : wr.heap.size ≤ gw := by have := hmd.size; omega
              go_upto_if 112 with fail
              rw [hgw] at hbW
              generalize wd.alloc (.cells #[.int .i32 zr, .int .u8 zf, .int .u8 zg, .int .u8 (zt.val : Int)] 27) = we at *
              have BW := Lib.hid hbW
              have HMW := Lib.hid hmW
              obtain ⟨dr, df, dg, dt⟩ := d
              clear hbW hmW hgw HAT
              go_cut [] from 100 to 129 (fun wx => wx.heap[gw]? = some (.cells #[.int .i32 dr, .int .u8 df, .int .u8 dg, .int .u8 (dt.val : Int)] 27 (0, 0)) ∧ Mods [] wr wx)
              case first =>
                by_cases h1 : T < i
                · have hz := D1.out h1
                  obtain ⟨z, hz1, hz2⟩ := HD1.out h1
                  cases hz
                  have CW := fun j => blk_cell BW.out j
                  have FW := fun j => blk_frozen BW.out j
                  have e9 := blk_set (blk_set (blk_set (blk_set BW.out 0 (.int .i32 45)) 1 (.int .u8 0)) 2 (.int .u8 0)) 3 (.int .u8 0)
                  simp at e9
                  have hm9 := (((HMW.out.setCell ⟨gw, 0, none⟩ (.int .i32 45) (.inr hgew)).setCell ⟨gw, 1, none⟩ (.int .u8 0) (.inr hgew)).setCell ⟨gw, 2, none⟩ (.int .u8 0) (.inr hgew)).setCell ⟨gw, 3, none⟩ (.int .u8 0) (.inr hgew)
                  by_cases hx : x0 = 0
                  · rw [if_pos hx] at hz2
                    cases hz2
                    subst hx
                    obtain ⟨al, hal, c0, hc⟩ := (HL.out.keepsM (fun _ => rfl) ((hm67f.out.trans (hma'.trans hMw)).trans hm9) (by simp)).row hz1
                    cases hal
                    simp only [intV, List.getElem?_cons_zero, Nat.zero_add, Nat.mul_one] at c0
                    clear hc
                    have z1 : 0 ≤ z % 8 := Int.emod_nonneg _ (by omega)
                    have z2 : z % 8 < 8 := Int.emod_lt_of_pos _ (by omega)
                    have u0 : IntKind.i64.wrap (97 + z % 8) = 97 + z % 8 := IntWalk.i64_in _ (by omega)
                    have u1 : IntKind.i32.wrap (97 + z % 8) = 97 + z % 8 := IntWalk.i32_in _ (by omega)
                    have hmi : (T : Int) < (m : Int) := by omega
                    have CW9 := fun j => blk_cell e9 j
                    have FW9 := fun j => blk_frozen e9 j
                    have e10 := blk_set e9 0 (.int .i32 (97 + z % 8))
                    simp at e10
                    have hm10 := hm9.setCell ⟨gw, 0, none⟩ (.int .i32 (97 + z % 8)) (.inr hgew)
                    go_upto_region 28 with fail
                    clear CW FW
                    go_wp2_with fail
                    go_meet
                    exact ⟨e10, hm10⟩
                  · rw [if_neg hx] at hz2
                    cases hz2
                    go_wp2_with fail
                    go_meet
                    exact ⟨e9, hm9⟩
                · have hz := D2.out (by omega)
                  cases hz
                  go_wp2_with fail
                  go_meet
                  exact ⟨BW.out, HMW.out⟩
              case rest =>
                obtain ⟨hbX, hmX⟩ := hcut
                have hne : ∀ X, (binOp .neq 27 (.agg #[.int .i32 dr, .int .u8 df, .int .u8 dg, .int .u8 (dt.val : Int)]) (.agg #[.int .i32 dr, .int .u8 df, .int .u8 dg, .int .u8 (dt.val : Int)])).run Tryd.prog X = .ok (.bool false) X := fun X => by
                  have := run_neq_cell X ⟨dr, df, dg, dt⟩ ⟨dr, df, dg, dt⟩
                  rw [decide_eq_true rfl] at this
                  exact this
                have hMX := hMo.trans (hMi.trans hmX)
                have KB : ∀ X, Mods [] wc X → ((X.cell? ⟨wa.heap.size, 0, none⟩ = some (.int .i64 3) ∧ X.cell? ⟨wa.heap.size, 1, none⟩ = some (.int .i64 (gh : Int)) ∧ X.cell? ⟨wa.heap.size, 2, none⟩ = some (.slice (some vv) N cv2)) ∧ X.cell? ⟨gw, 0, none⟩ = some (.int .i32 dr) ∧ X.cell? ⟨gw, 1, none⟩ = some (.int .u8 df) ∧ X.cell? ⟨gw, 2, none⟩ = some (.int .u8 dg) ∧ X.cell? ⟨gw, 3, none⟩ = some (.int .u8 (dt.val : Int))) := fun X hX => ⟨⟨blk_cell ((hMX.trans hX).at BV.out (by simp)) 0, blk_cell ((hMX.trans hX).at BV.out (by simp)) 1, blk_cell ((hMX.trans hX).at BV.out (by simp)) 2⟩, blk_cell (hX.at hbX (by simp)) 0, blk_cell (hX.at hbX (by simp)) 1, blk_cell (hX.at hbX (by simp)) 2, blk_cell (hX.at hbX (by simp)) 3⟩
                have RB : Hid (∀ X, Mods [] wc X → ReadsRows X (some vv) N 4 Cell.vals V) := Lib.hid fun X hX => RV.out.keepsM (fun _ => rfl) (hMX.trans hX) (by simp)
                have hMZ := Mods.refl [] wc
                go_upto_region 29 with fail
                refine wp_region_held_drew (S := (fun X => (X.cell? ⟨wa.heap.size, 0, none⟩ = some (.int .i64 3) ∧ X.cell? ⟨wa.heap.size, 1, none⟩ = some (.int .i64 (gh : Int)) ∧ X.cell? ⟨wa.heap.size, 2, none⟩ = some (.slice (some vv) N cv2)) ∧ X.cell? ⟨gw, 0, none⟩ = some (.int .i32 dr) ∧ X.cell? ⟨gw, 1, none⟩ = some (.int .u8 df) ∧ X.cell? ⟨gw, 2, none⟩ = some (.int .u8 dg) ∧ X.cell? ⟨gw, 3, none⟩ = some (.int .u8 (dt.val : Int)))) (by kernel_rfl) ?_ (fun hHeld => ?_)
                focus ((try dsimp only); exact KB _ hMZ.drew)
                refine wpAnyH_take (i := 0) (v := ?_) op_at0 (by kernel_rfl) (by kernel_rfl) (by kernel_rfl) (fun _ _ _ h => h) (Or.inl ⟨by rfl, ?_⟩) (by assumption) ?_
                rotate_left
                focus ((intro w hSw; (try dsimp only at hSw); go_simp) <;> with_reducible rfl)
                all_goals skip
                try simp only [Act.put, List.setIfInBounds_toArray, List.set_cons_zero, List.set_cons_succ]
                refine wpAnyH_take (i := 1) (v := ?_) (op_atS op_at0) (by kernel_rfl) (by kernel_rfl) (by kernel_rfl) (fun _ _ _ h => h) (Or.inl ⟨by rfl, ?_⟩) (by assumption) ?_
                rotate_left
                focus ((intro w hSw; (try dsimp only at hSw); go_simp) <;> with_reducible rfl)
                all_goals skip
                try simp only [Act.put, List.setIfInBounds_toArray, List.set_cons_zero, List.set_cons_succ]
                refine wpAnyH_take (i := 2) (v := ?_) (op_atS (op_atS op_at0)) (by kernel_rfl) (by kernel_rfl) (by kernel_rfl) (fun _ _ _ h => h) (Or.inl ⟨by rfl, ?_⟩) (by assumption) ?_
                rotate_left
                focus ((intro w hSw; (try dsimp only at hSw); go_simp) <;> with_reducible rfl)
                all_goals skip
                try simp only [Act.put, List.setIfInBounds_toArray, List.set_cons_zero, List.set_cons_succ]
                refine wpAnyH_take (i := 4) (v := ?_) (op_atS (op_atS (op_atS (op_atS op_at0)))) (by kernel_rfl) (by kernel_rfl) (by kernel_rfl) (fun _ _ _ h => h) (Or.inl ⟨by rfl, ?_⟩) (by assumption) ?_
                rotate_left
                focus ((intro w hSw; (try dsimp only at hSw); go_simp) <;> with_reducible rfl)
                all_goals skip
                try simp only [Act.put, List.setIfInBounds_toArray, List.set_cons_zero, List.set_cons_succ]
                refine wpAnyH_ready (rs := [3]) (by kernel_rfl) (by simp) ?_
                refine AllReadyH.cons (op_atS (op_atS (op_atS op_at0))) (fun K hK => ?_) AllReadyH.nil
                go_simp
                ((go_at_call 22; refine (grid_At_in _ 3 gh N cv2 vv V x0 y0 VOK.out (RB.out _ hMZ.drew) hlt hltx _ HD.out).mono ?_; rintro e w9 ⟨rfl, hm9⟩; simp only [Cell.val]; have hmA : Mods [] wc w9 := hMZ.drew.trans hm9))
                try go_wp2_with fail
                refine hK.out _ _ ?_ (fun hHeld2 => ?_)
                focus ((try dsimp only); exact KB _ hmA)
                clear hK K hHeld
                have hHeld := hHeld2
                clear hHeld2
                try simp only [Act.put, List.setIfInBounds_toArray, List.set_cons_zero, List.set_cons_succ]
                refine wpAnyH_take (i := 5) (v := ?_) (op_atS (op_atS (op_atS (op_atS (op_atS op_at0))))) (by kernel_rfl) (by kernel_rfl) (by kernel_rfl) (fun _ _ _ h => h) (Or.inl ⟨by rfl, ?_⟩) (by assumption) ?_
                rotate_left
                focus ((intro w hSw; (try dsimp only at hSw); go_simp) <;> with_reducible rfl)
                all_goals skip
                try simp only [Act.put, List.setIfInBounds_toArray, List.set_cons_zero, List.set_cons_succ]
                refine wpAnyH_done (by kernel_rfl) ?_ _
                clear hHeld hne
                go_wp2
                go_roundg (gk - 1)
                case measure => omega
                case rel => exact ⟨x0 + 1, by go_num, by omega, hMi.trans (hmX.trans hmA), by omega⟩
            · have hinx : x0 = 3 := by omega
              subst hinx
              go_wp2
              go_roundg (gout - 1)
              case measure => omega
              case rel => exact ⟨y0 + 1, by go_num, by omega, hMo.trans hMi, by omega⟩
        · have hin : y0 = gh := by omega
          clear HKK
          subst hin
          go_upto_region 31 with fail
          clear q0 q1 q2
          have HMX := Lib.hid (hma'.trans hMo)
          have k3 : mn (mx 1000 0) (i : Int) = ((i : Nat) : Int) := by unfold mn mx; split <;> split <;> omega
          have k4 : mn (mx (i : Int) 0) (i : Int) = ((i : Nat) : Int) := by unfold mn mx; (repeat' split) <;> omega
          have K3 := Lib.hid k3
          have K4 := Lib.hid k4
          clear k3 k4
          have KC : ∀ X, Mods [] wr X → (X.cell? ⟨w3.heap.size, 0, none⟩ = some (.int .i64 3) ∧ X.cell? ⟨w3.heap.size, 1, none⟩ = some (.int .i64 (y0 : Int)) ∧ X.cell? ⟨w3.heap.size, 2, none⟩ = some (.slice (some a) N c1)) := fun X hX => KA X (HMX.out.trans hX)
          have hMZ := Mods.refl [] wr
          refine wp_region_held_drew (S := (fun X => X.cell? ⟨w3.heap.size, 0, none⟩ = some (.int .i64 3) ∧ X.cell? ⟨w3.heap.size, 1, none⟩ = some (.int .i64 (y0 : Int)) ∧ X.cell? ⟨w3.heap.size, 2, none⟩ = some (.slice (some a) N c1))) (by kernel_rfl) ?_ (fun hHeld => ?_)
          focus ((try dsimp only); exact KC _ hMZ.drew)
          refine wpAnyH_take (i := 0) (v := ?_) op_at0 (by kernel_rfl) (by kernel_rfl) (by kernel_rfl) (fun _ _ _ h => h) (Or.inl ⟨by rfl, ?_⟩) (by assumption) ?_
          rotate_left
          focus ((intro w hSw; (try dsimp only at hSw); go_simp) <;> with_reducible rfl)
          all_goals skip
          try simp only [Act.put, List.setIfInBounds_toArray, List.set_cons_zero, List.set_cons_succ]
          refine wpAnyH_take (i := 1) (v := ?_) (op_atS op_at0) (by kernel_rfl) (by kernel_rfl) (by kernel_rfl) (fun _ _ _ h => h) (Or.inl ⟨by rfl, ?_⟩) (by assumption) ?_
          rotate_left
          focus ((intro w hSw; (try dsimp only at hSw); go_simp) <;> with_reducible rfl)
          all_goals skip
          try simp only [Act.put, List.setIfInBounds_toArray, List.set_cons_zero, List.set_cons_succ]
          refine wpAnyH_take (i := 3) (v := ?_) (op_atS (op_atS (op_atS op_at0))) (by kernel_rfl) (by kernel_rfl) (by kernel_rfl) (fun _ _ _ h => h) (Or.inl ⟨by rfl, ?_⟩) (by assumption) ?_
          rotate_left
          focus ((intro w hSw; (try dsimp only at hSw); go_simp) <;> with_reducible rfl)
          all_goals skip
          try simp only [Act.put, List.setIfInBounds_toArray, List.set_cons_zero, List.set_cons_succ]
          refine wpAnyH_take (i := 4) (v := ?_) (op_atS (op_atS (op_atS (op_atS op_at0)))) (by kernel_rfl) (by kernel_rfl) (by kernel_rfl) (fun _ _ _ h => h) (Or.inl ⟨by rfl, ?_⟩) (by assumption) ?_
          rotate_left
          focus ((intro w hSw; (try dsimp only at hSw); go_simp) <;> with_reducible rfl)
          all_goals skip
          try simp only [Act.put, List.setIfInBounds_toArray, List.set_cons_zero, List.set_cons_succ]
          refine wpAnyH_take (i := 5) (v := ?_) (op_atS (op_atS (op_atS (op_atS (op_atS op_at0))))) (by kernel_rfl) (by kernel_rfl) (by kernel_rfl) (fun _ _ _ h => h) (Or.inl ⟨by rfl, ?_⟩) (by assumption) ?_
          rotate_left
          focus ((intro w hSw; (try dsimp only at hSw); go_simp) <;> with_reducible rfl)
          all_goals skip
          try simp only [Act.put, List.setIfInBounds_toArray, List.set_cons_zero, List.set_cons_succ]
          refine wpAnyH_ready (rs := [2]) (by kernel_rfl) (by simp) ?_
          refine AllReadyH.cons (op_atS (op_atS op_at0)) (fun K hK => ?_) AllReadyH.nil
          go_simp
          ((go_at_call 20; refine (VW.out _ 1000 i (HMX.out.trans hMZ.drew) K3.out).mono ?_; rintro e w8 ⟨av, cv, rfl, hcv, hRv, _, hm8⟩; have hmV : Mods [] wr w8 := hMZ.drew.trans hm8))
          try go_wp2_with fail
          refine hK.out _ _ ?_ (fun hHeld2 => ?_)
          focus ((try dsimp only); exact KC _ hmV)
          clear hK K hHeld
          have hHeld := hHeld2
          clear hHeld2
          try simp only [Act.put, List.setIfInBounds_toArray, List.set_cons_zero, List.set_cons_succ]
          refine wpAnyH_ready (rs := [6]) (by kernel_rfl) (by simp) ?_
          refine AllReadyH.cons (op_atS (op_atS (op_atS (op_atS (op_atS (op_atS op_at0)))))) (fun K hK => ?_) AllReadyH.nil
          go_simp
          ((go_at_call 20; refine (VW.out _ (i : Int) i (HMX.out.trans hmV) K4.out).mono ?_; rintro e w9 ⟨au, cu, rfl, hcu, hRu, _, hm9⟩; have hmU : Mods [] wr w9 := hmV.trans hm9))
          try go_wp2_with fail
          refine hK.out _ _ ?_ (fun hHeld2 => ?_)
          focus ((try dsimp only); exact KC _ hmU)
          clear hK K hHeld
          have hHeld := hHeld2
          clear hHeld2
          try simp only [Act.put, List.setIfInBounds_toArray, List.set_cons_zero, List.set_cons_succ]
          refine wpAnyH_ready (rs := [7]) (by kernel_rfl) (by simp) ?_
          refine AllReadyH.cons (op_atS (op_atS (op_atS (op_atS (op_atS (op_atS (op_atS op_at0))))))) (fun K hK => ?_) AllReadyH.nil
          go_simp
          ((go_at_call 19; refine (ref6_Same _ _ _ _ _ _ _ _ _ _ _ _ _ (hRv.keepsM (fun _ => rfl) hm9 (by simp)) hRu).mono ?_; rw [decide_eq_true ⟨rfl, rfl, rfl⟩]; rintro e wz ⟨rfl, hmz⟩; have hmS9 : Mods [] wr wz := hmU.trans hmz))
          try go_wp2_with fail
          refine hK.out _ _ ?_ (fun hHeld2 => ?_)
          focus ((try dsimp only); exact KC _ hmS9)
          clear hK K hHeld
          have hHeld := hHeld2
          clear hHeld2
          try simp only [Act.put, List.setIfInBounds_toArray, List.set_cons_zero, List.set_cons_succ]
          refine wpAnyH_take (i := 8) (v := ?_) (op_atS (op_atS (op_atS (op_atS (op_atS (op_atS (op_atS (op_atS op_at0)))))))) (by kernel_rfl) (by kernel_rfl) (by kernel_rfl) (fun _ _ _ h => h) (Or.inl ⟨by rfl, ?_⟩) (by assumption) ?_
          rotate_left
          focus ((intro w hSw; (try dsimp only at hSw); go_simp) <;> with_reducible rfl)
          all_goals skip
          try simp only [Act.put, List.setIfInBounds_toArray, List.set_cons_zero, List.set_cons_succ]
          refine wpAnyH_done (by kernel_rfl) ?_ _
          go_wp2
          go_ret
          exact ⟨rfl, (hM.trans hm67).trans (HMX.out.trans hmS9)⟩
end Go.Proofs.YtldjmacnokkjdaaDoor
