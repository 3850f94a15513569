/- The document's answer of layer 6: Put, at the beginning of a row. -/
import Derived.Test.YtldjmacnokkjdaaDoorR6N
import Derived.StillTailTactics
namespace Go.Proofs.YtldjmacnokkjdaaDoor
open Go.RowKit
set_option linter.unusedVariables false
set_option linter.unusedSimpArgs false

theorem made_bools (n : Nat) : (madeCells (Value.bool false).cells (n * 1)).toList = (List.replicate n false).flatMap bolV := by
  apply List.ext_getElem?
  intro i
  rw [show (List.replicate n false).flatMap bolV = List.replicate n (Value.bool false) by induction n with
    | zero => rfl
    | succ n ih => rw [List.replicate_succ, List.flatMap_cons, ih]; rfl]
  rw [List.getElem?_replicate]
  by_cases hi : i < n
  · simp [madeCells, Value.cells, hi, Nat.mod_one]
  · simp [madeCells, hi]
/-- A slice of bools of the call's own: its block. -/
theorem bools_of {w : World} {base g n : Nat} {l : List Bool} (h : w.ownsRow base 4 1 (.slice (some ⟨g, 0, none⟩) n n) n (l.flatMap bolV)) : w.heap[g]? = some (.cells (l.flatMap bolV).toArray 4 (0, 0)) := by
  obtain ⟨h0, h2⟩ := h
  rcases h2 with ⟨h2, _⟩ | ⟨g', cap', cur, hv, hb, h1, h3, h4, h5, h6⟩
  · cases h2
  · simp only [Value.slice.injEq, Option.some.injEq, Addr.mk.injEq, true_and, and_true] at hv
    obtain ⟨rfl, rfl⟩ := hv
    rw [h1]
    rw [List.take_of_length_le (by rw [Array.length_toList]; omega)] at h6
    rw [← h6]
theorem bool_reads {w : World} {g n : Nat} {l : List Bool} (h : w.heap[g]? = some (.cells (l.flatMap bolV).toArray 4 (0, 0))) (hl : l.length = n) (hn : n ≤ maxLen) : ReadsRows w (some ⟨g, 0, none⟩) n 1 bolV l := by
  refine ⟨hl, hn, fun i o hi => ⟨⟨g, 0, none⟩, rfl, fun j hj => ?_⟩⟩
  have h2 := flat_get (rd := bolV) (size := 1) (fun _ => rfl) hi hj
  rw [addr_at, addr_at, blk_cell h, Nat.zero_add]
  simpa using h2
theorem flat_bolV (l : List Bool) : l.flatMap bolV = l.map Value.bool := by
  induction l with
  | nil => rfl
  | cons b l ih => rw [List.flatMap_cons, ih]; rfl
theorem bolV_set (l : List Bool) (y : Nat) (b : Bool) : (l.flatMap bolV).toArray.setIfInBounds y (.bool b) = ((l.set y b).flatMap bolV).toArray := by
  rw [flat_bolV, flat_bolV, List.map_set]
  simp
def rowsY (h y : Nat) : List Bool := (List.replicate h false).set y true
theorem rowsY_getD {h y y' : Nat} (hy : y < h) : (rowsY h y).getD y' false = decide (y' = y) := by
  unfold rowsY
  rw [List.getD_eq_getElem?_getD, List.getElem?_set]
  by_cases e : y = y'
  · subst e; simp [hy]
  · rw [if_neg e, List.getElem?_replicate]
    have : ¬ y' = y := fun h => e h.symm
    split <;> simp [this]
theorem right_put {w h n y i : Nat} {s L : List Cell} (hl : L.length = n) (hn : n = w * h) (hy : y < h) (hr : rightG w h L = true) (hi : i ≤ s.length) (hw : i ≤ w) :
    rightG w h (allC w (rowsY h y) (setRow w y (layRow 0 i s (rowC w y L)) L) h) = true := by
  have hrl := rowC_len hl hn hy
  have hll := layRow_len (l := 0) (rt := i) (s := s) hrl (by omega) hw (by omega)
  have hle := row_le hn hy
  have hsl : (setRow w y (layRow 0 i s (rowC w y L)) L).length = n := by rw [setRow_len hll (by omega), hl]
  unfold rightG at hr ⊢
  rw [List.all_eq_true] at hr ⊢
  intro y' hy'
  have hyh : y' < h := by simpa using hy'
  rw [rowC_all hsl hn h (Nat.le_refl _) y' hyh]
  unfold rowA
  rw [rowsY_getD hy]
  by_cases e : y' = y
  · simp only [e, decide_true, if_true]; exact right_mend _
  · simp only [e, decide_false, Bool.false_eq_true, if_false]
    have hle' := row_le hn hyh
    rw [rowC_setRow_ne hll (by omega) (by omega) e]
    exact hr y' hy'
theorem layRow_set {w i : Nat} {s r : List Cell} {d : Cell} (hr : r.length = w) (hi : i < w) (hd : s[i]? = some d) : (layRow 0 i s r).set i d = layRow 0 (i + 1) s r := by
  have hsl : i < s.length := (List.getElem?_eq_some_iff.1 hd).1
  apply List.ext_getElem?
  intro j
  rw [List.getElem?_set, layRow_len hr (by omega) (by omega) (by omega), layRow_get hr (by omega) (by omega) (by omega), layRow_get hr (by omega) (by omega) (by omega)]
  by_cases h : i = j
  · subst h
    rw [if_pos rfl, if_pos hi, if_pos (by omega), Nat.sub_zero, hd]
  · rw [if_neg h]
    by_cases h2 : j < i
    · rw [if_pos (by omega), if_pos (by omega)]
    · rw [if_neg (by omega), if_neg (by omega)]
/-- What Put's loop has made of a row's beginning. -/
def Put6Rel (W1 : World) (b cap n w y : Nat) (s L : List Cell) (kk : Nat) (idx : Value) (wr : World) : Prop :=
  ∃ i : Nat, idx = .int .i64 (i : Int) ∧ i ≤ s.length ∧ CellB wr b n cap (setRow w y (layRow 0 i s (rowC w y L)) L) ∧ Mods [b] W1 wr ∧ kk + i = s.length
/-- A grid that a function of the document hands back. -/
def GridSome (W W' : World) (w h n : Nat) (a : Addr) (e : Ending) : Prop :=
  ∃ a' c' L', e = .returned (gridV w h (some a') n c') ∧ n ≤ c' ∧ ReadsRows W' (some a') n 4 Cell.vals L' ∧ rightG w h L' = true ∧ (a' = a ∨ W.heap.size ≤ a'.block) ∧ Mods [] W W'
set_option maxRecDepth 100000 in
set_option maxHeartbeats 4000000 in
theorem ref6_Put (W : World) (w h n c0 : Nat) (a : Addr) (L : List Cell) (y : Nat) (A : Option Addr) (k kc : Nat) (s : List Cell) (hg : GridOk w h n c0) (hL : ReadsRows W (some a) n 4 Cell.vals L) (hr : rightG w h L = true)
    (hb : Small L) (hy : y < h) (hs : ReadsRows W A k 4 Cell.vals s) (hk : k ≤ w) (hsb : Small s) :
    Calls Tryd.prog 53 #[gridV w h (some a) n c0, .int .i64 0, .int .i64 (y : Int), .slice A k kc] W fun e W' => GridSome W W' w h n a e := by
  obtain ⟨hw1, hw2, hh1, hh2, hn, hcc⟩ := id hg
  have hn2 : n ≤ 12000 := by rw [hn]; exact Nat.mul_le_mul hw2 hh2
  have hle := row_le hn hy
  have HG := Lib.hid hg
  have HL := Lib.hid hL
  have HR := Lib.hid hr
  have HN := Lib.hid hn
  have HS := Lib.hid hs
  have HSL := Lib.hid hs.1
  have HB := Lib.hid hb
  have HSB := Lib.hid hsb
  have dy : decide ((y : Int) ≥ (h : Int)) = false := by simp; omega
  have dy2 : decide (h ≤ y) = false := by simp; omega
  clear hg hL hr hn hs hb hsb
  go_enter Tryd.func53, Tryd.ntmps53
  go_wp2_with fail
  refine Calls.named fun W0 hW0 => ?_
  obtain ⟨hM0, hb4, hb8, hsz⟩ := boxes2 hW0
  have B4 := Lib.hid hb4
  have B8 := Lib.hid hb8
  have HSZ := Lib.hid hsz
  have HM0 := Lib.hid hM0
  clear hb4 hb8 hsz hW0
  refine (ref6_Check W0 w h n c0 a L HG.out (HL.out.keepsM (fun _ => rfl) hM0 (by simp)) HB.out).mono ?_
  rintro e w1 ⟨b, rfl, hm1⟩
  have C4 := fun i => blk_cell (hm1.at B4.out (by simp)) i
  have hs1 := hm1.size
  have hsz := HSZ.out
  cases b
  · have HB8 := Lib.hid (hm1.at B8.out (by simp))
    go_wp2_with (refine store_blk HB8.out rfl (.tmp 8) (.tmp 27) 38 rfl (c' := #[.int .i64 (w : Int), .int .i64 (h : Int), .slice (some a) n c0]) (by kernel_rfl) rfl rfl rfl (by simp [Value.oneCell']) ?_; intro w5 hb5 hm5; have HB5 := Lib.hid hb5; clear hb5)
    have CF := fun i => blk_cell HB5.out i
    have hM5 := (HM0.out.trans hm1).then hm5 (fun k hk => .inr (by simp at hk; omega))
    clear C4
    exact bodyPost_ret (v := gridV w h (some a) n c0) (by simp [results, Tryd.results53, go_sem, CF]) rfl ⟨a, c0, L, rfl, hcc, HL.out.keepsM (fun _ => rfl) hM5 (by simp), HR.out, .inl rfl, hM5⟩
  · obtain ⟨i0, hi, hz0, hz1, hz2⟩ := info_parts (show (Tryd.prog.info? 4).map (fun i => (i.zero, i.size, i.bytes)) = some (some (.bool false), 1, 1) by kernel_rfl)
    have HI := Lib.hid hi
    have HZ0 := Lib.hid hz0
    have HZ1 := Lib.hid hz1
    have HZ2 := Lib.hid hz2
    clear hi hz0 hz1 hz2
    go_upto_region 5 with (refine wpList_make_full _ rfl (.tmp 29) (.tmp 29) 100 rfl w1.heap.size 4 i0 _ 1 Tryd.underlying100 HI.out HZ0.out HZ1.out .i64 .i64 _ _ h rfl rfl rfl rfl (by rw [HZ2.out]; omega) (by unfold maxLen; omega) (Nat.le_refl _) ?_; intro w2 hown hgrow; rw [made_bools] at hown; have HOWN := Lib.hid hown; have HGW := Lib.hid hgrow; clear hown hgrow)
    clear C4 HI HZ0 HZ1 HZ2
    have hm2 : Mods [] w1 w2 := (Mods.refl [] w1).grown HGW.out (fun k e => by cases e)
    have hs2 : w1.heap.size < w2.heap.size := own_lt HOWN.out _ rfl
    have hbb := bools_of HOWN.out
    have y0 : (0 : Int) ≤ (y : Int) := by omega
    have y1 : (y : Int) < (h : Int) := by omega
    have CB : w2.cell? ⟨w1.heap.size, y, none⟩ = some (.bool false) := by
      rw [blk_cell hbb y]
      have : (List.replicate h false)[y]? = some false := by rw [List.getElem?_replicate, if_pos hy]
      have h2 := flat_get (rd := bolV) (size := 1) (fun _ => rfl) this (j := 0) (by omega)
      simpa [bolV] using h2
    have FB : w2.frozen? ⟨w1.heap.size, y, none⟩ = false := blk_frozen hbb y
    have HBB := Lib.hid hbb
    clear hbb
    go_upto_region 6 with fail
    have hb3 := blk_set HBB.out y (.bool true)
    rw [bolV_set] at hb3
    have hm3 := (Mods.refl [w1.heap.size] w2).setCell ⟨w1.heap.size, y, none⟩ (.bool true) (.inl (by simp))
    have hs3 := hm3.size
    clear CB FB
    generalize w2.setCell ⟨w1.heap.size, y, none⟩ (.bool true) = W3 at *
    have HB3 := Lib.hid hb3
    have hM3 : Mods [] w1 W3 := hm2.then hm3 (fun k hk => .inr (by simp at hk; omega))
    have hMW3 : Mods [] W W3 := HM0.out.trans (hm1.trans hM3)
    have hm4 : Mods [] W3 (W3.alloc (.cells #[] 27)) := (Mods.refl [] W3).alloc _
    have C4 := fun i => blk_cell ((hm1.trans (hM3.trans hm4)).at B4.out (by simp)) i
    have hown0 : (W3.alloc (.cells #[] 27)).ownsRow W3.heap.size 27 4 (.slice (some ⟨W3.heap.size, 0, none⟩) 0 0) 0 [] := own_block (cs := #[]) (blk_new W3 _) (Nat.le_refl _) rfl (by unfold maxLen; omega)
    have HOWN0 := Lib.hid hown0
    have hLL := Lib.hid HL.out.1
    have HLW := Lib.hid (HL.out.keepsM (fun _ => rfl) (hMW3.trans hm4) (by simp))
    have hmm := hMW3.trans hm4
    clear hb3 hown0
    go_upto_region 7 with (at_builtin; go_must (refine append_src (w := W) (S := []) W3.heap.size rfl (.tmp 34) (.tmp 36) 28 27 (.agg #[.int .i32 0, .int .u8 0, .int .u8 0, .int .u8 0]) 4 8 rfl Tryd.underlying28 (by kernel_rfl) rfl (by decide) (by decide) _ 0 [] a n c0 (L.flatMap Cell.vals) rfl rfl (by rw [vals_len, hLL.out]) (fun j u hj => by have := rows_news HLW.out 0 L [] (by simp) j u hj; rwa [Nat.zero_mul, add_zero_addr] at this) (vals_one _) HOWN0.out hmm (by simp) (by omega) (by omega) ?_); intro v1 w6 hown6 hM6 hgr hblk; have hm6 : Mods [] W3 w6 := (Mods.refl [] W3).trans (hm4.grown hgr (fun k e => .inr (own_base HOWN0.out k e))); clear hgr hblk C4; rw [Nat.zero_add, List.nil_append] at hown6; obtain ⟨A6, c6, rfl, t1, t2, t3⟩ := own_slice' hown6; obtain ⟨b, rfl⟩ := t3 (by rw [HN.out]; exact Nat.mul_pos (by omega) (by omega)); clear t1 t2 t3; have HOWN6 := Lib.hid hown6; clear hown6)
    obtain ⟨hBC, hbge⟩ := CellB.of_own HOWN6.out hLL.out
    have HBC := Lib.hid hBC
    have B46 := Lib.hid ((hm1.trans (hM3.trans hm6)).at B4.out (by simp))
    have B86 := Lib.hid ((hm1.trans (hM3.trans hm6)).at B8.out (by simp))
    have HB6 := Lib.hid (hm6.at HB3.out (by simp))
    have hs6 := hm6.size
    have hblt := hBC.lt
    clear hBC HLW hmm hm4 HOWN0
    have hrl := rowC_len hLL.out HN.out hy
    have HRL := Lib.hid hrl
    have hK : IntKind.i64.wrap ((y : Int) * (w : Int)) = ((y * w : Nat) : Int) := by rw [← Int.natCast_mul]; exact IntWalk.i64_in _ (by omega)
    have HK := Lib.hid hK
    clear hrl hK
    go_wp2
    go_loopg [12] k (Put6Rel w6 b c6 n w y s L)
    case atStart => exact ⟨0, rfl, by omega, by rw [show layRow 0 0 s (rowC w y L) = rowC w y L by simp [layRow], setRow_self (by rw [hLL.out]; exact hle)]; exact HBC.out, Mods.refl _ _, by rw [HSL.out]; omega⟩
    case round =>
      obtain ⟨i, rfl, hi, hBi, hMi, hkk⟩ := hrel
      rw [HSL.out] at hi hkk
      have HKK := Lib.hid hkk
      have HBI := Lib.hid hBi
      have hMWi : Mods [] W wr := hM6.then hMi (fun k hk => .inr (by simp at hk; omega))
      have C4 := fun j => blk_cell (hMi.at B46.out (by simp; omega)) j
      clear hkk hBi
      by_cases hlt : i < k
      · obtain ⟨d, hd⟩ : ∃ d, s[i]? = some d := ⟨_, List.getElem?_eq_getElem (by rw [HSL.out]; exact hlt)⟩
        have HD := Lib.hid hd
        obtain ⟨sa, rfl, e0, hes⟩ := (HS.out.keepsM (fun _ => rfl) hMWi (by simp)).row hd
        have e1 := hes 0 (by omega)
        have e2 := hes 1 (by omega)
        have e3 := hes 2 (by omega)
        clear hes hd
        obtain ⟨d1, d2, d3, d4⟩ := d
        simp only [Cell.vals, List.getElem?_cons_zero, List.getElem?_cons_succ] at e0 e1 e2 e3
        have hk2 := HKK.out
        have hKK := HK.out
        have hfit : y * w + i < n := by omega
        have HFIT := Lib.hid hfit
        generalize hKe : y * w = K at *
        have HKE := Lib.hid hKe
        have x1 : IntKind.i64.wrap ((w : Int) - (i : Int)) = (w : Int) - (i : Int) := IntWalk.i64_in _ (by omega)
        have x2 : decide ((0 : Int) < (w : Int) - (i : Int)) = true := by simp; omega
        have x3 : IntKind.i64.wrap (K : Int) = (K : Int) := IntWalk.i64_in _ (by omega)
        have z0 : (0 : Int) ≤ (K : Int) + (i : Int) := by omega
        have z1 : (K : Int) + (i : Int) < (n : Int) := by omega
        have z2 : ((K : Int) + (i : Int)).toNat = K + i := by omega
        have x4 : IntKind.i64.wrap ((K : Int) + (i : Int)) = (K : Int) + (i : Int) := IntWalk.i64_in _ (by omega)
        have i0 : (0 : Int) ≤ (i : Int) := by omega
        have i1 : (i : Int) < (k : Int) := by omega
        clear hKe
        go_upto_region 11 with fail
        have E0 : wr.drew.cell? (sa.add (i * (3 + 1))) = some (.int .i32 d1) := e0
        have E1 : wr.drew.cell? ⟨(sa.add (i * (3 + 1))).block, (sa.add (i * (3 + 1))).off + (0 + 1), none⟩ = some (.int .u8 d2) := e1
        have E2 : wr.drew.cell? ⟨(sa.add (i * (3 + 1))).block, (sa.add (i * (3 + 1))).off + (1 + 1), none⟩ = some (.int .u8 d3) := e2
        have E3 : wr.drew.cell? ⟨(sa.add (i * (3 + 1))).block, (sa.add (i * (3 + 1))).off + (2 + 1), none⟩ = some (.int .u8 (d4.val : Int)) := e3
        have D4 : wr.drew.cell? ⟨W.heap.size, 0, none⟩ = some (.int .i64 (w : Int)) := C4 0
        have HBD : Hid (CellB wr.drew b n c6 (setRow w y (layRow 0 i s (rowC w y L)) L)) := Lib.hid HBI.out
        have hMd : Mods [b] w6 wr.drew := hMi.drew
        clear e0 e1 e2 e3 C4
        go_still_tail 14, (by kernel_rfl)
        change wpList _ _ _ _ _ wr.drew
        generalize wr.drew = wd at *
        go_wp2_with (refine store_cell HBD.out rfl (.tmp 85) (.tmp 84) 27 rfl (by kernel_rfl) (K + i) _ rfl ⟨d1, d2, d3, d4⟩ rfl rfl (by omega) ?_; intro w7 hB7 hM7; have HB7 := Lib.hid hB7; clear hB7)
        go_roundg (gk - 1)
        case measure => omega
        case rel =>
          refine ⟨i + 1, by go_num, by rw [HSL.out]; omega, ?_, hMd.trans hM7, by rw [HSL.out]; omega⟩
          have := HB7.out
          rw [← HKE.out, setRow_set (layRow_len HRL.out (by omega) (by omega) (by rw [HSL.out]; omega)) (by rw [hLL.out, HKE.out]; exact hle) (by omega), layRow_set HRL.out (by omega) HD.out] at this
          exact this
      · have hin : i = k := by omega
        subst hin
        go_wp2_with fail
        clear C4
        have hbl : Small (setRow w y (layRow 0 i s (rowC w y L)) L) := by
          intro c hc
          have hHB := HB.out
          have hSB := HSB.out
          unfold setRow layRow rowC at hc
          simp only [List.mem_append] at hc
          rcases hc with (hc | ((hc | hc) | hc)) | hc
          · exact hHB c (List.mem_of_mem_take hc)
          · exact hHB c (List.mem_of_mem_drop (List.mem_of_mem_take (List.mem_of_mem_take hc)))
          · exact hSB c (List.mem_of_mem_take hc)
          · exact hHB c (List.mem_of_mem_drop (List.mem_of_mem_take (List.mem_of_mem_drop hc)))
          · exact hHB c (List.mem_of_mem_drop hc)
        refine (ref6_all wr w h n h c6 _ ⟨b, 0, none⟩ (rowsY h y) _ hw1 hw2 hh1 hh2 HN.out HBI.out.cap (bool_reads (hMi.at HB6.out (by simp; omega)) (by simp [rowsY]) (by unfold maxLen; omega)) HBI.out.reads hbl).mono ?_
        rintro e w8 ⟨a8, c8, rfl, hc8, hR8, hge8, hm8⟩
        have hM8 := hMi.trans (hm8.mono (by simp))
        have HB88 := Lib.hid (hM8.at B86.out (by simp; omega))
        have hsi := hMi.size
        go_wp2_with (refine store_blk HB88.out rfl (.tmp 8) (.tmp 92) 38 rfl (c' := #[.int .i64 (w : Int), .int .i64 (h : Int), .slice (some a8) n c8]) (by kernel_rfl) rfl rfl rfl (by simp [Value.oneCell']) ?_; intro w9 hb9 hm9; have HB9 := Lib.hid hb9; clear hb9)
        have CF := fun i => blk_cell HB9.out i
        have hM9 := (hMWi.trans hm8).then hm9 (fun k hk => .inr (by simp at hk; omega))
        have hR9 := hR8.keepsM (fun _ => rfl) hm9 (by intro a' ha'; cases ha'; simp; omega)
        exact bodyPost_ret (v := gridV w h (some a8) n c8) (by simp [results, Tryd.results53, go_sem, CF]) rfl ⟨a8, c8, _, rfl, hc8, hR9, right_put hLL.out HN.out hy HR.out (by rw [HSL.out]; exact Nat.le_refl _) hk, .inr (by omega), hM9⟩
end Go.Proofs.YtldjmacnokkjdaaDoor
