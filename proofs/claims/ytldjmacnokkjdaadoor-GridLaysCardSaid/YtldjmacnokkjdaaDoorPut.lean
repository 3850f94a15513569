/- grid.Put. -/
import Derived.Test.YtldjmacnokkjdaaDoorBox
import Derived.StillTailTactics
namespace Go.Proofs.YtldjmacnokkjdaaDoor
open Go.RowKit Go.Shelf
set_option linter.unusedVariables false
set_option linter.unusedSimpArgs false

/-- Cells of one list in the places of another one. -/
def layRow (l rt : Nat) (s r : List Cell) : List Cell := r.take l ++ s.take (rt - l) ++ r.drop rt
theorem layRow_len {l rt w : Nat} {s r : List Cell} (hr : r.length = w) (hl : l ≤ rt) (hx : rt ≤ w) (hs : rt - l ≤ s.length) : (layRow l rt s r).length = w := by unfold layRow; simp [hr]; omega
theorem layRow_get {l rt w : Nat} {s r : List Cell} (hr : r.length = w) (hl : l ≤ rt) (hx : rt ≤ w) (hs : rt - l ≤ s.length) (i : Nat) : (layRow l rt s r)[i]? = if l ≤ i ∧ i < rt then s[i - l]? else r[i]? := by
  unfold layRow
  have e1 : (r.take l).length = l := by simp; omega
  by_cases h1 : i < l
  · rw [if_neg (by omega), List.append_assoc, List.getElem?_append_left (by omega), List.getElem?_take, if_pos h1]
  · by_cases h2 : i < rt
    · rw [if_pos (by omega), List.append_assoc, List.getElem?_append_right (by omega), List.getElem?_append_left (by simp; omega), e1, List.getElem?_take, if_pos (by omega)]
    · rw [if_neg (by omega), List.getElem?_append_right (by simp; omega), List.getElem?_drop]
      congr 1
      simp; omega
theorem setRow_lay {w y l rt : Nat} {L s r : List Cell} (hr : r.length = w) (hl : l ≤ rt) (hx : rt ≤ w) (hs : rt - l ≤ s.length) (hy : y * w + w ≤ L.length) :
    (setRow w y r L).take (y * w + l) ++ s.take (rt - l) ++ (setRow w y r L).drop (y * w + l + (rt - l)) = setRow w y (layRow l rt s r) L := by
  have hsl := setRow_len hr hy
  have e1 : ((setRow w y r L).take (y * w + l)).length = y * w + l := by simp; omega
  apply List.ext_getElem?
  intro i
  rw [setRow_get (layRow_len hr hl hx hs) hy, layRow_get hr hl hx hs]
  by_cases h1 : i < y * w + l
  · rw [List.append_assoc, List.getElem?_append_left (by omega), List.getElem?_take, if_pos h1, setRow_get hr hy]
    split
    · rw [if_neg (by omega)]
    · rfl
  · by_cases h2 : i < y * w + rt
    · rw [List.append_assoc, List.getElem?_append_right (by omega), List.getElem?_append_left (by simp; omega), e1, List.getElem?_take, if_pos (by omega), if_pos (by omega), if_pos (by omega)]
      congr 1; omega
    · rw [List.getElem?_append_right (by simp; omega), List.getElem?_drop, setRow_get hr hy]
      have e3 : y * w + l + (rt - l) + (i - (List.take (y * w + l) (setRow w y r L) ++ List.take (rt - l) s).length) = i := by simp; omega
      rw [e3]
      split
      · rw [if_neg (by omega)]
      · rfl
theorem setRow_lay0 {w y l rt : Nat} {L s : List Cell} (hl : l ≤ rt) (hx : rt ≤ w) (hs : rt - l ≤ s.length) (hy : y * w + w ≤ L.length) :
    L.take (y * w + l) ++ s.take (rt - l) ++ L.drop (y * w + l + (rt - l)) = setRow w y (layRow l rt s (rowC w y L)) L := by
  have := setRow_lay (L := L) (s := s) (r := rowC w y L) (by unfold rowC; simp; omega) hl hx hs hy
  rwa [setRow_self hy] at this
/-- What Put's closure does. -/
def putRow (l rt : Nat) (x : Int) (s r : List Cell) : List Cell := if l < rt then layRow l rt (s.drop ((l : Int) - x).toNat) r else r
theorem span_many (f m e : Int) (h : (spanF f m e).1 < (spanF f m e).2) : f ≤ (spanF f m e).1 ∧ (spanF f m e).2 - f ≤ m := by
  unfold spanF at h ⊢
  split
  · rename_i h1; rw [if_pos h1] at h; simp at h
  · rename_i h1
    rw [if_neg h1] at h
    split
    · rename_i h2
      rw [if_pos h2] at h
      unfold mx mn at h ⊢
      simp only at h ⊢
      have a1 : (if e < f + m then e else f + m) ≤ f + m := by split <;> omega
      generalize (if e < f + m then e else f + m) = z at *
      refine ⟨by omega, ?_⟩
      split <;> omega
    · rename_i h2
      rw [if_neg h2] at h
      unfold mn at h ⊢
      simp only at h ⊢
      refine ⟨by omega, ?_⟩
      split <;> omega
set_option maxRecDepth 4000 in
set_option maxHeartbeats 1000000 in
theorem put1_how (W : World) (w h n lo hi bl br bs bx l rt k kc : Nat) (hn : n = w * h) (hih : hi ≤ h) (hw : w ≤ 200) (hl : l ≤ rt) (hr : rt ≤ w) (x : Int) (A : Option Addr) (s : List Cell) (hs : ReadsRows W A k 4 Cell.vals s) (hk : k ≤ 1000000)
    (hkc : k ≤ kc) (hx : l < rt → x ≤ l ∧ rt - x ≤ k) (hx0 : -1000000 ≤ x)
    (h1 : W.heap[bl]? = some (.cells #[.int .i64 (l : Int)] 3 (0, 0))) (h2 : W.heap[br]? = some (.cells #[.int .i64 (rt : Int)] 3 (0, 0))) (h3 : W.heap[bs]? = some (.cells #[.slice A k kc] 28 (0, 0))) (h4 : W.heap[bx]? = some (.cells #[.int .i64 x] 3 (0, 0))) :
    HowDoes W w h n lo hi 44 #[.pointer (some ⟨bl, 0, none⟩), .pointer (some ⟨br, 0, none⟩), .pointer (some ⟨bs, 0, none⟩), .pointer (some ⟨bx, 0, none⟩)] (fun _ r => putRow l rt x s r) := by
  intro W1 b cap L1 y hM hb hB hy1 hy2
  have hyw := row_le (y := y) hn (by omega)
  have hL1 := hB.len
  have H1 := Lib.hid (hM.at h1 (by simp))
  have H2 := Lib.hid (hM.at h2 (by simp))
  have H3 := Lib.hid (hM.at h3 (by simp))
  have H4 := Lib.hid (hM.at h4 (by simp))
  have HS := Lib.hid (hs.keepsM (fun _ => rfl) hM (by simp))
  have HB := Lib.hid hB
  have C1 := blk_cell H1.out 0
  have C2 := blk_cell H2.out 0
  have C3 := blk_cell H3.out 0
  have C4 := blk_cell H4.out 0
  have HX := Lib.hid hx
  have hsl := hs.1
  have HL1 := Lib.hid hL1
  have HYW := Lib.hid hyw
  have HSL := Lib.hid hsl
  clear h1 h2 h3 h4 hn hB hM hs hx hL1 hyw hsl
  show Calls _ _ #[.int .i64 (y : Int), .slice (some ⟨b, y * w * 4, none⟩) w w, .pointer (some ⟨bl, 0, none⟩), .pointer (some ⟨br, 0, none⟩), .pointer (some ⟨bs, 0, none⟩), .pointer (some ⟨bx, 0, none⟩)] _ _
  by_cases hlt : l < rt
  · obtain ⟨hx1, hx2⟩ := HX.out hlt
    obtain ⟨d, hd⟩ := Int.eq_ofNat_of_zero_le (show 0 ≤ (l : Int) - x by omega)
    have hdk : d ≤ k := by omega
    have hdk2 : rt - l ≤ k - d := by omega
    have hdk3 : d < k := by omega
    have hwr : IntKind.i64.wrap ((l : Int) - x) = (d : Int) := by rw [IntWalk.i64_in _ (by omega)]; exact hd
    have hrt : l + d - d ≤ w := by omega
    have HD := Lib.hid hd
    have hpr : ∀ r, putRow l rt x s r = layRow l rt (s.drop d) r := by intro r; unfold putRow; rw [if_pos hlt, HD.out]; rfl
    have HPR := Lib.hid hpr
    clear hd hpr
    go_enter Tryd.func44, Tryd.ntmps44
    obtain ⟨c0, hc0⟩ : ∃ c, s[0]? = some c := ⟨_, List.getElem?_eq_getElem (by rw [HSL.out]; omega)⟩
    obtain ⟨a, rfl, _⟩ := HS.out.2.2 0 c0 hc0
    clear hc0
    have D1 : W1.drew.cell? ⟨bl, 0, none⟩ = some (.int .i64 (l : Int)) := C1
    have D2 : W1.drew.cell? ⟨br, 0, none⟩ = some (.int .i64 (rt : Int)) := C2
    have D3 : W1.drew.cell? ⟨bs, 0, none⟩ = some (.slice (some a) k kc) := C3
    have D4 : W1.drew.cell? ⟨bx, 0, none⟩ = some (.int .i64 x) := C4
    have l0 : (0 : Int) ≤ (l : Int) := by omega
    have l1 : (l : Int) ≤ (rt : Int) := by omega
    have l2 : (rt : Int) ≤ (w : Int) := by omega
    have d0 : (0 : Int) ≤ (d : Int) := by omega
    have d1 : (d : Int) ≤ (k : Int) := by omega
    have d2 : (k : Int) ≤ (kc : Int) := by omega
    have HBd : Hid (CellB W1.drew b n cap L1) := Lib.hid HB.out
    have hsd : ReadsRows W1.drew (some a) k 4 Cell.vals s := HS.out
    have hsr := hsd.cut d (k - d) (by omega)
    rw [show (s.drop d).take (k - d) = s.drop d from List.take_of_length_le (by simp [HSL.out])] at hsr
    have HSR := Lib.hid hsr
    clear hsd hsr
    have hmin : min (k - d) (rt - l) = rt - l := Nat.min_eq_right hdk2
    have hrtk : rt - l ≤ w - l := by omega
    have hfit : y * w + l + (rt - l) ≤ n := by have := HYW.out; omega
    have hsl2 : rt - l ≤ (s.drop d).length := by simp [HSL.out]; omega
    have HMIN := Lib.hid hmin
    have HFIT := Lib.hid hfit
    have HSL2 := Lib.hid hsl2
    clear hmin hfit hsl2
    go_wp2_with fail
    clear C1 C2 C3 C4
    go_still_tail 9, (by kernel_rfl)
    change wpList _ _ _ _ _ W1.drew
    refine copy_own HBd.out rfl (.tmp 14) (.tmp 19) 28 27 rfl Tryd.underlying28 (by kernel_rfl) (y * w + l) (rt - l) (w - l) (k - d) (kc - d) (if w = l then some ⟨b, y * w * 4, none⟩ else some ⟨b, y * w * 4 + l * 4, none⟩) (if kc = d then some a else some (a.add (d * 4))) rfl rfl (s.drop d) (by rw [if_neg (by omega)]; exact HSR.out) (by rw [HMIN.out]; exact HFIT.out) (fun _ => by rw [if_neg (by omega), Nat.add_mul]) ?_
    intro w4 hB4 hM4
    rw [HMIN.out] at hB4
    have HB4 := Lib.hid hB4
    clear hB4
    go_wp2
    refine bodyPost_end (results_none rfl _ _ _) rfl ⟨⟨_, rfl⟩, ?_, (Mods.refl _ _).drew.trans hM4⟩
    rw [HPR.out, ← setRow_lay0 hl hr HSL2.out (by rw [HL1.out]; exact HYW.out)]
    exact HB4.out
  · go_enter Tryd.func44, Tryd.ntmps44
    go_wp2
    refine bodyPost_end (results_none rfl _ _ _) rfl ⟨⟨_, rfl⟩, ?_, Mods.refl _ _⟩
    have e : putRow l rt x s (rowC w y L1) = rowC w y L1 := if_neg hlt
    rw [e, setRow_self (by rw [HL1.out]; exact HYW.out)]
    exact HB.out
/-- What Put makes of a right grid. -/
def putG (w h : Nat) (L : List Cell) (x y : Int) (s : List Cell) : List Cell :=
  if 0 ≤ y ∧ y < h then changedC w y.toNat (y.toNat + 1) (fun _ r => putRow (spanF x s.length w).1.toNat (spanF x s.length w).2.toNat x s r) L else L
theorem putRow_len {l rt w k : Nat} {x : Int} {s r : List Cell} (hr : r.length = w) (hx : rt ≤ w) (hs : s.length = k) (h : l < rt → x ≤ l ∧ rt - x ≤ k) : (putRow l rt x s r).length = w := by
  unfold putRow
  split
  · rename_i hlt
    obtain ⟨h1, h2⟩ := h hlt
    exact layRow_len hr (by omega) hx (by rw [List.length_drop, hs]; omega)
  · exact hr
set_option maxRecDepth 4000 in
set_option maxHeartbeats 2000000 in
theorem grid_Put (W : World) (w h n c0 : Nat) (a : Addr) (L : List Cell) (x y : Int) (A : Option Addr) (k kc : Nat) (s : List Cell) (hg : GridOk w h n c0) (hL : ReadsRows W (some a) n 4 Cell.vals L) (hr : rightG w h L = true)
    (hx : -1000000 ≤ x ∧ x ≤ 1000000) (hs : ReadsRows W A k 4 Cell.vals s) (hk : k ≤ 1000000) (hkc : k ≤ kc) :
    Calls Tryd.prog 18 #[gridV w h (some a) n c0, .int .i64 x, .int .i64 y, .slice A k kc] W fun e W' => GridOut W W' w h n a (putG w h L x y s) e := by
  obtain ⟨hw1, hw2, hh1, hh2, hn, hcc⟩ := id hg
  have HG := Lib.hid hg
  have HL := Lib.hid hL
  have HR := Lib.hid hr
  have HN := Lib.hid hn
  have HS := Lib.hid hs
  have hsl := hs.1
  have HSL := Lib.hid hsl
  obtain ⟨s1, s2, s3⟩ := span_le x k w (by omega)
  obtain ⟨l, hl⟩ := Int.eq_ofNat_of_zero_le s1
  obtain ⟨rt, hrt⟩ := Int.eq_ofNat_of_zero_le (Int.le_trans s1 s2)
  have hmany := span_many x k w
  rw [hl, hrt] at hmany
  have hmany' : l < rt → x ≤ l ∧ (rt : Int) - x ≤ k := fun h => hmany (by omega)
  have HMANY := Lib.hid hmany'
  have hlr : l ≤ rt := by omega
  have hrw2 : rt ≤ w := by omega
  have HS1 := Lib.hid hl
  have HS2 := Lib.hid hrt
  have hput : putG w h L x y s = if 0 ≤ y ∧ y < h then changedC w y.toNat (y.toNat + 1) (fun _ r => putRow l rt x s r) L else L := by
    unfold putG
    rw [hsl, hl, hrt]
    simp only [Int.toNat_natCast]
  have HPUT := Lib.hid hput
  clear hg hL hr hn hl hrt s1 s2 s3 hs hsl hmany hmany' hput
  by_cases hy : 0 ≤ y ∧ y < h
  · have HY := Lib.hid hy
    obtain ⟨hy1, hy2⟩ := hy
    obtain ⟨y, rfl⟩ := Int.eq_ofNat_of_zero_le hy1
    have hyh : y < h := by omega
    have dy : decide ((y : Int) ≥ (h : Int)) = false := by simp; omega
    have dy2 : decide (h ≤ y) = false := by simp; omega
    have ysum : IntKind.i64.wrap ((y : Int) + 1) = ((y + 1 : Nat) : Int) := by rw [IntWalk.i64_in _ (by omega)]; omega
    have YS := Lib.hid ysum
    clear ysum
    go_enter Tryd.func18, Tryd.ntmps18
    go_wp2_with fail
    refine Calls.named fun W0 hW0 => ?_
    obtain ⟨hM0, hb4, hb5, hb7, hb8, hsz⟩ := boxes4 hW0
    have B4 := Lib.hid hb4
    have B5 := Lib.hid hb5
    have B7 := Lib.hid hb7
    have B8 := Lib.hid hb8
    have HSZ := Lib.hid hsz
    have HM0 := Lib.hid hM0
    clear hb4 hb5 hb7 hb8 hsz hW0
    refine (grid_Check W0 w h n c0 a L HG.out (HL.out.keepsM (fun _ => rfl) hM0 (by simp))).mono ?_
    rw [HR.out]
    rintro e w1 ⟨rfl, hm1⟩
    have C4 := fun i => blk_cell (hm1.at B4.out (by simp)) i
    have C5 := fun i => blk_cell (hm1.at B5.out (by simp)) i
    have C7 := fun i => blk_cell (hm1.at B7.out (by simp)) i
    go_wp2_with fail
    refine (grid_span w1 x k w hx (by omega) (by omega)).mono ?_
    rw [HS1.out, HS2.out]
    rintro e w2 ⟨rfl, rfl⟩
    have hb9 := blk_alloc (blk_new w1 (.cells #[.int .i64 (l : Int)] 3)) (.cells #[.int .i64 (rt : Int)] 3)
    have hb10 := blk_new' (w1.alloc (.cells #[.int .i64 (l : Int)] 3)) (.cells #[.int .i64 (rt : Int)] 3) (k := w1.heap.size + 1) (by simp)
    have hM2 : Mods [] W0 ((w1.alloc (.cells #[.int .i64 (l : Int)] 3)).alloc (.cells #[.int .i64 (rt : Int)] 3)) := (hm1.alloc _).alloc _
    have D4 := fun i => blk_cell (hM2.at B4.out (by simp)) i
    go_wp2_with fail
    clear C4 C5 C7 D4
    generalize (w1.alloc (.cells #[.int .i64 (l : Int)] 3)).alloc (.cells #[.int .i64 (rt : Int)] 3) = W2 at *
    have B9 := Lib.hid hb9
    have B10 := Lib.hid hb10
    have hs1 := hm1.size
    have hsz := HSZ.out
    have hMW := HM0.out.trans hM2
    clear hb9 hb10
    refine (grid_changed W2 w h n c0 a L y _ y (y + 1) 44 _ (fun _ r => putRow l rt x s r) HG.out (HL.out.keepsM (fun _ => rfl) hMW (by simp)) (by unfold mx; split <;> omega) (fun y' _ => by unfold mn; split <;> omega) (by omega) (fun _ r' hr' => putRow_len hr' hrw2 HSL.out HMANY.out) (enters_of Tryd.func44 (by kernel_rfl) rfl)
      (put1_how W2 w h n y (y + 1) _ _ _ _ l rt k kc HN.out (by omega) hw2 hlr hrw2 x A s (HS.out.keepsM (fun _ => rfl) hMW (by simp)) hk hkc HMANY.out hx.1 B9.out B10.out (hM2.at B7.out (by simp)) (hM2.at B5.out (by simp)))).mono ?_
    rintro e w5 ⟨b, cap, rfl, hB, hge, hm5⟩
    have hM5 := hM2.trans hm5
    have HB8 := Lib.hid (hM5.at B8.out (by simp))
    have hs3 := hM2.size
    go_wp2_with (refine store_blk HB8.out rfl (.tmp 8) (.tmp 39) 38 rfl (c' := #[.int .i64 (w : Int), .int .i64 (h : Int), .slice (some ⟨b, 0, none⟩) n cap]) (by kernel_rfl) rfl rfl rfl (by simp [Value.oneCell']) ?_; intro w6 hb6 hm6; have HB7 := Lib.hid hb6; clear hb6)
    have CF := fun i => blk_cell HB7.out i
    have hM6 := (HM0.out.trans hM5).then hm6 (fun k hk => .inr (by simp at hk; omega))
    have hB6 := hB.keeps hm6 (by simp; omega)
    have hnc := hB6.cap
    have hput := HPUT.out
    rw [if_pos HY.out, Int.toNat_natCast] at hput
    exact bodyPost_ret (v := gridV w h (some ⟨b, 0, none⟩) n cap) (by simp [results, Tryd.results18, go_sem, CF]) rfl (by rw [hput]; exact ⟨⟨b, 0, none⟩, cap, rfl, hnc, hB6.reads, .inr ⟨rfl, by show W.heap.size ≤ b; omega, hB6⟩, hM6⟩)
  · have HY := Lib.hid hy
    have hy2 : y < 0 ∨ (¬ y < 0 ∧ (h : Int) ≤ y) := by omega
    have hput := HPUT.out
    rw [if_neg hy] at hput
    have HP2 := Lib.hid hput
    clear hy hput
    rcases hy2 with hy2 | ⟨hy2, hy3⟩
    all_goals
      go_enter Tryd.func18, Tryd.ntmps18
      go_wp2_with fail
      refine Calls.named fun W0 hW0 => ?_
      obtain ⟨hM0, hb4, hb5, hb7, hb8, hsz⟩ := boxes4 hW0
      have B4 := Lib.hid hb4
      have B8 := Lib.hid hb8
      have HM0 := Lib.hid hM0
      clear hb4 hb5 hb7 hb8 hsz hW0
      refine (grid_Check W0 w h n c0 a L HG.out (HL.out.keepsM (fun _ => rfl) hM0 (by simp))).mono ?_
      rw [HR.out]
      rintro e w1 ⟨rfl, hm1⟩
      have C4 := fun i => blk_cell (hm1.at B4.out (by simp)) i
      have HB8 := Lib.hid (hm1.at B8.out (by simp))
      go_wp2_with (refine store_blk HB8.out rfl (.tmp 8) (.tmp 24) 38 rfl (c' := #[.int .i64 (w : Int), .int .i64 (h : Int), .slice (some a) n c0]) (by kernel_rfl) rfl rfl rfl (by simp [Value.oneCell']) ?_; intro w6 hb6 hm6; have HB7 := Lib.hid hb6; clear hb6)
      have CF := fun i => blk_cell HB7.out i
      have hM6 := (HM0.out.trans hm1).then hm6 (fun k hk => .inr (by simp at hk; omega))
      clear C4
      exact bodyPost_ret (v := gridV w h (some a) n c0) (by simp [results, Tryd.results18, go_sem, CF]) rfl (by rw [HP2.out]; exact ⟨a, c0, rfl, hcc, HL.out.keepsM (fun _ => rfl) hM6 (by simp), .inl rfl, hM6⟩)
end Go.Proofs.YtldjmacnokkjdaaDoor
