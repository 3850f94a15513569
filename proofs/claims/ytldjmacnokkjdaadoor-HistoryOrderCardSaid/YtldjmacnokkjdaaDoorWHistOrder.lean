/- HistoryOrder's walk: rows stand in the order of the pushes. -/
import Derived.Test.YtldjmacnokkjdaaDoorAwk10
import Derived.Test.YtldjmacnokkjdaaDoorHistV
namespace Go.Proofs.YtldjmacnokkjdaaDoor
open Go.RowKit
set_option linter.unusedVariables false
set_option linter.unusedSimpArgs false
attribute [local go_sem] max2_mx min2_mn max_two min_two

def rowN (j : Nat) : List Cell := [⟨48 + j, 0, 0, 0⟩]
def rowsN (m : Nat) : List (List Cell) := (List.range m).map rowN
theorem mend_rowN (j : Nat) (h : j < 60) : mend (rowN j) = rowN j := by
  have key : ∀ j : Fin 60, mend (rowN j.val) = rowN j.val := by decide +kernel
  exact key ⟨j, h⟩
theorem rowsN_succ (m : Nat) : rowsN (m + 1) = rowsN m ++ [rowN m] := by simp [rowsN, List.range_succ]
theorem rowsN_len (m : Nat) : (rowsN m).length = m := by simp [rowsN]
theorem rowsN_get {m k : Nat} (h : k < m) : (rowsN m)[k]? = some (rowN k) := by simp [rowsN, h]

def OrdRel (w : World) (h lo n m : Nat) (kk : Nat) (idx : Value) (wr : World) : Prop :=
  ∃ (i first : Nat) (lv : Value) (rows : List (List Cell)) (vs : List Value), idx = .int .i64 i ∧ i ≤ m ∧ HAt wr h lo lv n first rows vs ∧ hview first rows = lastN n (rowsN i) ∧ lo ≤ wr.heap.size ∧ Mods [] w wr ∧ kk + i = m
def OrdRel2 (w : World) (h lo n m first : Nat) (lv : Value) (rows : List (List Cell)) (vs : List Value) (kk : Nat) (idx : Value) (wr : World) : Prop :=
  ∃ (i : Nat), idx = .int .i64 i ∧ i ≤ rows.length ∧ HAt wr h lo lv n first rows vs ∧ Mods [] w wr ∧ kk + i = rows.length
theorem tmod_span (x : Int) (k : Int) (hk : 0 < k) : 0 ≤ x.tmod k + k ∧ x.tmod k + k < 2 * k := by
  have h1 := Int.tmod_lt_of_pos x hk
  have h2 := Int.lt_tmod_of_pos x hk
  omega

set_option maxRecDepth 4000 in
set_option maxHeartbeats 4000000 in
theorem historyOrder_walk (w : World) (room many : Int) : Calls Tryd.prog 3 #[.int .i64 room, .int .i64 many] w fun e w' => e = .returned (.bool true) ∧ Mods [] w w' := by
  obtain ⟨t1, t2⟩ := tmod_span room 21 (by omega)
  obtain ⟨t3, t4⟩ := tmod_span many 51 (by omega)
  go_enter Tryd.func3, Tryd.ntmps3
  go_wp2_with fail
  refine (law10_awake _).mono ?_
  rintro e w0 ⟨rfl, hm0⟩
  go_wp2_with fail
  have b1 := Int.emod_nonneg (room.tmod 21) (b := 21) (by omega)
  have b2 := Int.emod_lt_of_pos (room.tmod 21) (b := 21) (by omega)
  have b3 := Int.emod_nonneg (many.tmod 51) (b := 51) (by omega)
  have b4 := Int.emod_lt_of_pos (many.tmod 51) (b := 51) (by omega)
  simp only [Int.add_emod_right]
  clear t1 t2 t3 t4
  generalize room.tmod 21 % 21 = N at *
  generalize many.tmod 51 % 51 = M at *
  generalize room.tmod 21 = r1
  generalize many.tmod 51 = r2
  obtain ⟨n, rfl⟩ := Int.eq_ofNat_of_zero_le b1
  obtain ⟨m, rfl⟩ := Int.eq_ofNat_of_zero_le b3
  refine (history_New _ _).mono ?_
  have en : (mn (mx (n : Int) 0) 500).toNat = n := by unfold mn mx; split <;> split <;> omega
  rw [en]
  rintro e w1 ⟨hp, rfl, hh, hm1⟩
  have HH := Lib.hid hh
  have hs1 := hm1.size
  have hM1 := hm0.trans hm1
  clear hh en
  go_wp2
  go_loopg [9] m (OrdRel w hp w0.heap.size n m)
  case atStart => exact ⟨0, 0, _, _, _, rfl, by omega, HH.out, by simp [hview, rowsN, lastN], hs1, hM1, by omega⟩
  case round =>
    obtain ⟨i, first, lv, rows, vs, rfl, hi, hh, hv, hlo, hM, hkk⟩ := hrel
    have HR := Lib.hid hh
    have HV := Lib.hid hv
    have HKK := Lib.hid hkk
    have hkk2 := hkk
    clear hh hv hkk
    by_cases hlt : i < m
    · have e1 : IntKind.i32.wrap (48 + (i : Int)) = 48 + (i : Int) := IntWalk.i32_in _ (by omega)
      go_wp2_with fail
      clear e1
      have hhl := heap_lt HR.out.head
      have p1 := (Mods.refl [] wr).alloc (.cells #[.int .i32 (48 + (i : Int)), .int .u8 0, .int .u8 0, .int .u8 0] 27)
      have hb1 := blk_new wr (.cells #[.int .i32 (48 + (i : Int)), .int .u8 0, .int .u8 0, .int .u8 0] 27)
      have hsz1 : (wr.alloc (.cells #[.int .i32 (48 + (i : Int)), .int .u8 0, .int .u8 0, .int .u8 0] 27)).heap.size = wr.heap.size + 1 := by simp
      generalize wr.alloc (.cells #[.int .i32 (48 + (i : Int)), .int .u8 0, .int .u8 0, .int .u8 0] 27) = W1 at *
      have hR1 : ReadsRows W1 (some ⟨wr.heap.size, 0, none⟩) (rowN i).length 4 Cell.vals (rowN i) := rows_of_block hb1 (by omega) (fun _ => rfl) rfl (by simp [rowN, maxLen])
      have hold := own_old HR.out
      have hP := prow_one (t := 28) (c := 1) (bad := hp :: lv.ownBlock.toList) ⟨Nat.le_refl _, by simp [rowN], hR1, fun a ha => by cases ha; exact ⟨by simp only [hsz1]; omega, fun hm => Nat.lt_irrefl _ (hold _ hm)⟩⟩ (fun b hb => by have := hold b hb; omega)
      rw [hsz1] at hP
      have p2 := p1.alloc (.cells #[.slice (some ⟨wr.heap.size, 0, none⟩) 1 1] 28)
      refine (history_Push _ w hp _ _ n first rows vs _ 1 1 [rowN i] rfl (by omega) (HR.out.keeps p2) hP (hM.trans p2) hm0.size (Nat.le_trans hlo p2.size)).mono ?_
      have hv' : hview ([rowN i].foldl (pushS n) (first, rows)).1 ([rowN i].foldl (pushS n) (first, rows)).2 = lastN n (rowsN (i + 1)) := by
        show hview (pushS n (first, rows) (rowN i)).1 (pushS n (first, rows) (rowN i)).2 = _
        rw [hview_pushS (st := (first, rows)) _ HR.out.le HR.out.fst, mend_rowN i (by omega), rowsN_succ, HV.out, lastN_snoc]
      have HV' := Lib.hid hv'
      clear hv' hP p2 p1 hR1 hb1 hsz1 hold HR HV
      rintro e w2 ⟨rfl, ⟨lv', vs', hh', _⟩, hM', hlo', _⟩
      have HH' := Lib.hid hh'
      clear hh'
      go_wp2
      go_roundg (gk - 1)
      case measure => omega
      case rel => exact ⟨i + 1, _, _, _, _, by go_num, by omega, HH'.out, HV'.out, hlo', hM', by omega⟩
    · have him : i = m := by omega
      subst him
      have hlen : rows.length = min n i := by rw [← hview_len first rows, HV.out, lastN_len, rowsN_len]
      have hl1 : rows.length ≤ n := by omega
      have hl2 : rows.length ≤ i := by omega
      have hmn : mn (n : Int) (i : Int) = (rows.length : Int) := by rw [hlen]; unfold mn; split <;> omega
      have hget : ∀ k r, k < rows.length → rows[atF first k rows.length]? = some r → r = rowN (i - rows.length + k) := by
        intro k r hk hr
        have hf := HR.out.fst
        rw [hview_get (by omega) hk, HV.out, lastN_get, rowsN_len] at hr
        have e3 : i - n + k = i - rows.length + k := by omega
        rw [e3, rowsN_get (by omega)] at hr
        exact (Option.some.inj hr).symm
      have hsm : ∀ r ∈ rows, r.length ≤ 1000000 := by
        intro r hr
        obtain ⟨k, hk, e⟩ := List.mem_iff_getElem.1 hr
        have hf := HR.out.fst
        have hmem : r ∈ hview first rows := by
          unfold hview
          rw [← List.take_append_drop first rows] at hr
          simp only [List.mem_append] at hr ⊢
          exact hr.symm
        rw [HV.out] at hmem
        have := List.mem_of_mem_drop hmem
        obtain ⟨j, _, rfl⟩ := List.mem_map.1 this
        simp [rowN]
      have HMN := Lib.hid hmn
      have HGET := Lib.hid hget
      have HSM := Lib.hid hsm
      clear hlen hmn hget hsm HV hkk2 HKK
      go_wp2_with fail
      refine (history_Len _ hp _ _ _ _ _ _ HR.out).mono ?_
      rintro e w2 ⟨rfl, rfl⟩
      have hne : ((rows.length : Int) != mn (n : Int) (i : Int)) = false := by rw [HMN.out]; simp
      go_wp2
      clear hne
      go_loopg [10] rows.length (OrdRel2 w hp w0.heap.size n i first lv rows vs)
      case atStart => exact ⟨0, rfl, by omega, HR.out, hM, by omega⟩
      case round =>
        obtain ⟨j, rfl, hj, hh2, hM2, hkk2⟩ := hrel
        have H2 := Lib.hid hh2
        have HKK2 := Lib.hid hkk2
        clear hh2
        by_cases hlt2 : j < rows.length
        · clear hkk2
          go_wp2_with fail
          refine (history_Len _ hp _ _ _ _ _ _ H2.out).mono ?_
          rintro e w3 ⟨rfl, rfl⟩
          go_wp2_with fail
          refine (history_Row _ hp _ _ n first rows vs H2.out j hlt2 HSM.out).mono ?_
          rintro e w4 ⟨v, r, rfl, hr, hown, hm4⟩
          have e4 := HGET.out j r hlt2 hr
          subst e4
          clear hr
          change w4.ownsRow _ _ 4 v 1 [.int .i32 (48 + ((i - rows.length + j : Nat) : Int)), .int .u8 0, .int .u8 0, .int .u8 0] at hown
          have e5 : (48 + ((i - rows.length + j : Nat) : Int)) = 48 + (i : Int) - (rows.length : Int) + (j : Int) := by omega
          rw [e5] at hown
          clear e5
          obtain ⟨A4, c4, rfl, _, _, hA4⟩ := own_slice' hown
          obtain ⟨g4, rfl⟩ := hA4 (by omega)
          have q0 := own_cells hown 0 rfl
          have H4 := Lib.hid (H2.out.keeps hm4)
          have hc : ∀ k, Calls Tryd.prog 12 #[.pointer (some ⟨hp, 0, none⟩)] (w4.drewN k) fun e w' => e = .returned (.int .i64 (rows.length : Int)) ∧ w' = (w4.drewN k) := fun k => (history_Len _ hp _ _ n first rows vs (H4.out.keeps ((Mods.refl [] w4).drewN k))).mono (fun _ _ h => ⟨h.1, h.2.symm⟩)
          have HC := Lib.hid hc
          have s1 : IntKind.i64.wrap (48 + (i : Int)) = 48 + (i : Int) := IntWalk.i64_in _ (by omega)
          have s2 : IntKind.i64.wrap (48 + (i : Int) - (rows.length : Int)) = 48 + (i : Int) - (rows.length : Int) := IntWalk.i64_in _ (by omega)
          have s3 : IntKind.i64.wrap (48 + (i : Int) - (rows.length : Int) + (j : Int)) = 48 + (i : Int) - (rows.length : Int) + (j : Int) := IntWalk.i64_in _ (by omega)
          have s4 : IntKind.i32.wrap (48 + (i : Int) - (rows.length : Int) + (j : Int)) = 48 + (i : Int) - (rows.length : Int) + (j : Int) := IntWalk.i32_in _ (by omega)
          clear hown hc
          go_upto_region 17 with fail
          go_quiet ((go_at_call 12; exact Calls.quiet_of_same (HC.out _)))
          clear s1 s2 s3 s4
          go_wp2
          have hkk3 := HKK2.out
          go_roundg (gk - 1)
          case measure => omega
          case rel => exact ⟨j + 1, by go_num, by omega, H4.out.keeps ((Mods.refl [] w4).drewN nq), (hM2.trans hm4).drewN nq, by omega⟩
        · have hjn : j = rows.length := by omega
          clear hkk2
          go_wp2_with fail
          refine (history_Len _ hp _ _ _ _ _ _ H2.out).mono ?_
          rintro e w3 ⟨rfl, rfl⟩
          go_wp2_with fail
          refine (history_Len _ hp _ _ _ _ _ _ H2.out).mono ?_
          rintro e w3 ⟨rfl, rfl⟩
          go_wp2_with fail
          refine (history_Row_none _ hp _ _ n first rows vs H2.out _ (.inr (Int.le_refl _))).mono ?_
          rintro e w3 ⟨rfl, rfl⟩
          go_wp2_with fail
          refine (history_Row_none _ hp _ _ n first rows vs H2.out _ (.inl (by omega))).mono ?_
          rintro e w3 ⟨rfl, rfl⟩
          go_wp2
          go_ret
          exact ⟨rfl, hM2⟩
set_option maxRecDepth 100000 in
theorem historyOrder_argwalk {H : Type} {enc : TypeId × Value → H} {base b0 : Nat} {spare : Nat → Bool} {held : Bool} {v0 v1 : Value} {d0 d1 : DataW H} {p0 p1 : List MemPlace} (w : World)
    (h0 : DataW.Trod enc Tryd.prog w base spare held 3 v0 d0 p0) (o0 : Value.okWide Tryd.prog w .any b0 3 v0) (h1 : DataW.Trod enc Tryd.prog w base spare held 3 v1 d1 p1) (o1 : Value.okWide Tryd.prog w .any b0 3 v1) :
    Calls Tryd.prog 3 #[v0, v1] w fun e w' => e = .returned (.bool true) ∧ Below w.heap.size w w' := by
  obtain ⟨room, rfl, rfl, rfl, _⟩ := Go.ChangeShapes.open_int Tryd.underlying3 o0 h0
  obtain ⟨many, rfl, rfl, rfl, _⟩ := Go.ChangeShapes.open_int Tryd.underlying3 o1 h1
  exact (historyOrder_walk w room many).mono fun e w' h => ⟨h.1, h.2.below⟩
end Go.Proofs.YtldjmacnokkjdaaDoor
