/- HistoryRoom's walk: there are never more rows than there is room for. -/
import Derived.Test.YtldjmacnokkjdaaDoorAwk10
import Derived.Test.YtldjmacnokkjdaaDoorHistV
namespace Go.Proofs.YtldjmacnokkjdaaDoor
open Go.RowKit
set_option linter.unusedVariables false
set_option linter.unusedSimpArgs false
attribute [local go_sem] max2_mx min2_mn max_two min_two

/-- A row of numbers that came in, inside a row of rows. -/
structure SRow where
  A : Option Addr
  n : Nat
  c : Nat
  l : List Int
def SRow.vals (x : SRow) : List Value := [.slice x.A x.n x.c]
def rowsL (L : List SRow) : List (List Cell) := L.map fun x => lettersC x.l
def RoomRel (w : World) (h lo R : Nat) (L : List SRow) (k : Nat) (kk : Nat) (idx : Value) (wr : World) : Prop :=
  ∃ (i first : Nat) (lv : Value) (rows : List (List Cell)) (vs : List Value), idx = .int .i64 i ∧ i ≤ k ∧ i ≤ 30 ∧ HAt wr h lo lv R first rows vs ∧ hview first rows = lastN R (rowsL (L.take i)) ∧ lo ≤ wr.heap.size ∧ Mods [] w wr ∧ kk + i = 30
theorem hview_mem {α : Type} {first : Nat} {rows : List α} {r : α} (h : r ∈ rows) : r ∈ hview first rows := by
  unfold hview
  rw [← List.take_append_drop first rows] at h
  simp only [List.mem_append] at h ⊢
  exact h.symm

set_option maxRecDepth 4000 in
set_option maxHeartbeats 1000000 in
theorem historyRoom_walk (w : World) (room : Int) (A : Option Addr) (k c : Nat) (L : List SRow) (hL : ReadsRows w A k 1 SRow.vals L) (hI : ∀ x ∈ L, ReadsRows w x.A x.n 1 intV x.l) :
    Calls Tryd.prog 4 #[.int .i64 room, .slice A k c] w fun e w' => e = .returned (.bool true) ∧ Mods [] w w' := by
  have hk := hL.2.1
  unfold maxLen at hk
  have HL := Lib.hid hL
  have HI := Lib.hid hI
  have HK := Lib.hid hL.1
  clear hL hI
  go_enter Tryd.func4, Tryd.ntmps4
  go_wp2_with fail
  refine (law10_awake _).mono ?_
  rintro e w0 ⟨rfl, hm0⟩
  go_wp2_with fail
  refine (history_New _ _).mono ?_
  have hR : 0 ≤ mn (mx room 0) 500 ∧ mn (mx room 0) 500 ≤ 500 := by unfold mn mx; split <;> split <;> omega
  obtain ⟨R, hR0⟩ := Int.eq_ofNat_of_zero_le hR.1
  have hR5 : R ≤ 500 := by omega
  rw [hR0, Int.toNat_natCast]
  clear hR
  have HR0 := Lib.hid hR0
  clear hR0
  rintro e w1 ⟨hp, rfl, hh, hm1⟩
  have HH := Lib.hid hh
  have hs1 := hm1.size
  have hM1 := hm0.trans hm1
  clear hh
  go_wp2
  simp only [HR0.out]
  go_loopg [8] 30 (RoomRel w hp w0.heap.size R L k)
  case atStart => exact ⟨0, 0, _, _, _, rfl, by omega, by omega, HH.out, by simp [hview, rowsL, lastN], hs1, hM1, by omega⟩
  case round =>
    obtain ⟨i, first, lv, rows, vs, rfl, hi, hi30, hh, hv, hlo, hM, hkk⟩ := hrel
    have HR := Lib.hid hh
    have HV := Lib.hid hv
    have HKK := Lib.hid hkk
    clear hh hv hkk
    have h3 : (i < k ∧ i < 30) ∨ (i < k ∧ ¬ i < 30) ∨ ¬ i < k := by omega
    rcases h3 with ⟨hlt, hlt2⟩ | h3
    · · obtain ⟨x, hx⟩ : ∃ x, L[i]? = some x := ⟨_, List.getElem?_eq_getElem (by rw [HK.out]; exact hlt)⟩
        obtain ⟨a, rfl, c0, hc⟩ := (HL.out.keepsM (fun _ => rfl) hM (by simp)).row hx
        clear hc
        simp only [SRow.vals, List.getElem?_cons_zero, Nat.zero_add, Nat.mul_one] at c0
        have HX := Lib.hid ((HI.out x (List.mem_of_getElem? hx)).keepsM (fun _ => rfl) hM (by simp))
        have hT : rowsL (L.take (i + 1)) = rowsL (L.take i) ++ [lettersC x.l] := by rw [List.take_add_one, hx]; simp [rowsL]
        have HT := Lib.hid hT
        clear hT hx
        go_wp2_with fail
        refine (law10_letters _ _ _ _ x.l HX.out).mono ?_
        rintro e w2 ⟨v2, rfl, hv2, hm2⟩
        obtain ⟨A2, c2, rfl, _, _, _⟩ := own_slice' hv2
        have HV2 := Lib.hid hv2
        clear hv2 c0
        go_wp2_with fail
        have hold := own_old HR.out
        have hs2 := hm2.size
        have hl20 := lettersC_len x.l
        have hP := prow_one (t := 28) (bad := hp :: lv.ownBlock.toList) (own_prow HV2.out (by omega) (fun b hb hm => by have := hold b hm; omega)) (fun b hb => by have := hold b hb; omega)
        have p2 := hm2.alloc (.cells #[.slice A2 (lettersC x.l).length c2] 28)
        refine (history_Push _ w hp _ _ R first rows vs _ 1 1 [lettersC x.l] rfl (by omega) (HR.out.keeps p2) hP (hM.trans p2) hm0.size (Nat.le_trans hlo p2.size)).mono ?_
        have hv' : hview ([lettersC x.l].foldl (pushS R) (first, rows)).1 ([lettersC x.l].foldl (pushS R) (first, rows)).2 = lastN R (rowsL (L.take (i + 1))) := by
          show hview (pushS R (first, rows) (lettersC x.l)).1 (pushS R (first, rows) (lettersC x.l)).2 = _
          rw [hview_pushS (st := (first, rows)) _ HR.out.le HR.out.fst, mend_lettersC, HT.out, HV.out, lastN_snoc]
        have hlen : ([lettersC x.l].foldl (pushS R) (first, rows)).2.length = min R (i + 1) := by
          have := congrArg List.length hv'
          rw [hview_len, lastN_len] at this
          rw [this]
          have : (rowsL (L.take (i + 1))).length = i + 1 := by simp [rowsL, HK.out]; omega
          rw [this]
        have hlast : ∀ r, 0 < R → (hview ([lettersC x.l].foldl (pushS R) (first, rows)).1 ([lettersC x.l].foldl (pushS R) (first, rows)).2)[([lettersC x.l].foldl (pushS R) (first, rows)).2.length - 1]? = some r → r = lettersC x.l := by
          intro r h0 hr
          rw [hv', hlen, HT.out, lastN_get] at hr
          have e1 : (rowsL (L.take i)).length = i := by simp [rowsL, HK.out]; omega
          rw [List.getElem?_append_right (by simp [e1]; omega)] at hr
          have e2 : (rowsL (L.take i) ++ [lettersC x.l]).length - R + (min R (i + 1) - 1) - (rowsL (L.take i)).length = 0 := by simp [e1]; omega
          rw [e2] at hr
          exact (Option.some.inj hr).symm
        have hsm : ∀ r ∈ ([lettersC x.l].foldl (pushS R) (first, rows)).2, r.length ≤ 1000000 := by
          intro r hr
          have hm := hview_mem (first := ([lettersC x.l].foldl (pushS R) (first, rows)).1) hr
          rw [hv'] at hm
          obtain ⟨y, _, rfl⟩ := List.mem_map.1 (List.mem_of_mem_drop hm)
          have := lettersC_len y.l
          omega
        have p3 := (Mods.refl [] w2).alloc (.cells #[.slice A2 (lettersC x.l).length c2] 28)
        generalize [lettersC x.l].foldl (pushS R) (first, rows) = st at *
        generalize w2.alloc (.cells #[.slice A2 (lettersC x.l).length c2] 28) = W3 at *
        have HV' := Lib.hid hv'
        have HLAST := Lib.hid hlast
        have HSM := Lib.hid hsm
        have HLEN := Lib.hid hlen
        have hA2 : ∀ a, A2 = some a → wr.heap.size ≤ a.block := fun a ha => by
          subst ha; exact own_base HV2.out _ rfl
        clear hv' hlast hsm hlen hP p2 HR HV HT
        have hM2 := hM.trans hm2
        rintro e w5 ⟨rfl, ⟨lv', vs', hh', _⟩, hM', hlo', hm5⟩
        have HH' := Lib.hid hh'
        clear hh'
        have hne : ((st.2.length : Int) != mn (R : Int) ((i : Int) + 1)) = false := by rw [HLEN.out]; unfold mn; simp; split <;> omega
        have hkk2 := HKK.out
        have hl5 := HH'.out.le
        by_cases hR1 : 0 < R
        · have hl0 : 0 < st.2.length := by rw [HLEN.out]; omega
          go_wp2_with fail
          refine (history_Len _ hp _ _ _ _ _ _ HH'.out).mono ?_
          rintro e w6 ⟨rfl, rfl⟩
          go_wp2_with fail
          clear hne
          refine (history_Len _ hp _ _ _ _ _ _ HH'.out).mono ?_
          rintro e w6 ⟨rfl, rfl⟩
          go_wp2_with fail
          rw [show ((st.2.length : Int) - 1) = ((st.2.length - 1 : Nat) : Int) from by omega]
          refine (history_Row _ hp _ _ R st.1 st.2 vs' HH'.out (st.2.length - 1) (by omega) HSM.out).mono ?_
          rintro e w6 ⟨v6, r6, rfl, hr6, hown6, hm6⟩
          have hf := HH'.out.fst
          have e6 := HLAST.out r6 hR1 ((hview_get (by omega) (by omega)).symm.trans hr6)
          subst e6
          clear hr6
          obtain ⟨A6, c6, rfl, _, _, _⟩ := own_slice' hown6
          obtain ⟨t1, t2, _, _⟩ := own_reads hown6 rfl (by omega)
          obtain ⟨t3, t4, _, _⟩ := own_reads HV2.out rfl (by omega)
          have HT1 := Lib.hid t1
          have HT3 := Lib.hid (t3.keepsM (fun _ => rfl) ((p3.mono (by simp)).trans (hm5.trans (hm6.mono (by simp)))) (fun a ha hm => by have := hold _ hm; have := hA2 a ha; omega))
          clear t1 t3
          go_wp2_with fail
          with_reducible refine (ref5_Same _ _ _ _ _ _ _ _ _ HT1.out HT3.out).mono ?_
          have hd : decide (lettersC x.l = lettersC x.l) = true := by simp
          rw [hd]
          rintro e w7 ⟨rfl, n7, rfl⟩
          have h0R : decide ((R : Int) > 0) = true := by simp; omega
          go_wp2
          clear h0R
          go_roundg (gk - 1)
          case measure => omega
          case rel => exact ⟨i + 1, st.1, _, st.2, _, by go_num, by omega, by omega, HH'.out.keeps (hm6.drewN n7), HV'.out, Nat.le_trans hlo' hm6.size, (hM'.trans hm6).drewN n7, by omega⟩
        · have hl0 : st.2.length = 0 := by rw [HLEN.out]; omega
          go_wp2_with fail
          refine (history_Len _ hp _ _ _ _ _ _ HH'.out).mono ?_
          rintro e w6 ⟨rfl, rfl⟩
          go_wp2_with fail
          refine (history_Len _ hp _ _ _ _ _ _ HH'.out).mono ?_
          rintro e w6 ⟨rfl, rfl⟩
          have HL0 := Lib.hid hl0
          clear hl0 hne
          go_wp2_with fail
          have hl0 := HL0.out
          refine (history_Row_none _ hp _ _ R st.1 st.2 vs' HH'.out _ (.inl (by omega))).mono ?_
          rintro e w6 ⟨rfl, rfl⟩
          obtain ⟨t3, t4, _, _⟩ := own_reads HV2.out rfl (by omega)
          have HT3 := Lib.hid (t3.keepsM (fun _ => rfl) ((p3.mono (by simp)).trans hm5) (fun a ha hm => by have := hold _ hm; have := hA2 a ha; omega))
          clear t3 hl0
          have hnil : ReadsRows w5 none 0 4 Cell.vals [] := ⟨rfl, by simp, fun i o h => by simp at h⟩
          have HNIL := Lib.hid hnil
          clear hnil
          go_wp2_with fail
          with_reducible refine (ref5_Same _ _ _ _ _ _ _ _ _ HNIL.out HT3.out).mono ?_
          generalize decide ([] = lettersC x.l) = bb
          rintro e w7 ⟨rfl, n7, rfl⟩
          have h0R : decide ((R : Int) > 0) = false := by simp; omega
          go_wp2
          clear h0R
          go_roundg (gk - 1)
          case measure => omega
          case rel => exact ⟨i + 1, st.1, _, st.2, _, by go_num, by omega, by omega, HH'.out.keeps ((Mods.refl [] w5).drewN n7), HV'.out, hlo', hM'.drewN n7, by omega⟩
    · have hcap : HAt wr hp w0.heap.size lv R first rows vs := HR.out
      have hcl : ∀ e W, (e = Ending.returned (.tuple #[]) ∧ HAt W hp w0.heap.size (.slice none 0 0) R 0 [] [] ∧ Mods [hp] wr W) → Mods [] w W := by
        intro e W h
        exact hM.then h.2.2 (fun b hb => .inr (by have := hcap.hlo; have := hm0.size; simp at hb; omega))
      have HCL := Lib.hid hcl
      clear hcl hcap
      rcases h3 with ⟨h3, h4⟩ | h3
      all_goals
        go_wp2_with fail
        refine (history_Clear _ hp _ _ _ _ _ _ HR.out).mono ?_
        rintro e w2 hc2
        have hM2 := HCL.out e w2 hc2
        obtain ⟨rfl, hh2, hm2⟩ := hc2
        have H2 := Lib.hid hh2
        clear hh2
        go_wp2_with fail
        refine (history_Len _ hp _ _ _ _ _ _ H2.out).mono ?_
        rintro e w3 ⟨rfl, rfl⟩
        go_wp2_with fail
        refine (history_Row_none _ hp _ _ R 0 [] [] H2.out 0 (.inr (by simp))).mono ?_
        rintro e w3 ⟨rfl, rfl⟩
        go_wp2
        go_ret
        exact ⟨rfl, hM2⟩
set_option maxRecDepth 100000 in
theorem historyRoom_argwalk {H : Type} {enc : TypeId × Value → H} {base b0 : Nat} {spare : Nat → Bool} {held : Bool} {v0 v1 : Value} {d0 d1 : DataW H} {p0 p1 : List MemPlace} (w : World)
    (h0 : DataW.Trod enc Tryd.prog w base spare held 3 v0 d0 p0) (o0 : Value.okWide Tryd.prog w .any b0 3 v0) (h1 : DataW.Trod enc Tryd.prog w base spare held 32 v1 d1 p1) (o1 : Value.okWide Tryd.prog w .any b0 32 v1) :
    Calls Tryd.prog 4 #[v0, v1] w fun e w' => e = .returned (.bool true) ∧ Below w.heap.size w w' := by
  obtain ⟨room, rfl, rfl, rfl, _⟩ := Go.ChangeShapes.open_int Tryd.underlying3 o0 h0
  obtain ⟨A, n, c, L, rfl, _, hL, hI⟩ := arg_rows Tryd.underlying32 (size := 1) (by kernel_rfl) SRow.vals (fun x => ReadsRows w x.A x.n 1 intV x.l) (fun fuel cs x h => by
    obtain ⟨A, n, c, l, e, _, hr, _⟩ := trod_reads Tryd.underlying34 (size := 1) (by kernel_rfl) intV (fun _ => True) (fun fuel cs x h => by obtain ⟨n, e, _⟩ := trod_i Tryd.underlying3 h; exact ⟨n, e, trivial⟩) h
    exact ⟨⟨A, n, c, l⟩, e, hr⟩) h1 o1
  exact (historyRoom_walk w room A n c L hL hI).mono fun e w' h => ⟨h.1, h.2.below⟩
end Go.Proofs.YtldjmacnokkjdaaDoor
