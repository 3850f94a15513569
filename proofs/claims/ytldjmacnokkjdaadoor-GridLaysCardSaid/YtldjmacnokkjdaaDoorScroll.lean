/- grid.Scroll. -/
import Derived.Test.YtldjmacnokkjdaaDoorPut
namespace Go.Proofs.YtldjmacnokkjdaaDoor
open Go.RowKit Go.Shelf
set_option linter.unusedVariables false
set_option linter.unusedSimpArgs false

def scrollRow (w tp en : Nat) (k : Int) (c : Cell) (L : List Cell) (y : Nat) : List Cell :=
  if (tp : Int) ≤ movedF y k tp en ∧ movedF y k tp en < en then rowC w (movedF y k tp en).toNat L else List.replicate w c
def Scroll1Rel (W1 : World) (b cap n w y : Nat) (c : Cell) (L1 : List Cell) (kk : Nat) (idx : Value) (wr : World) : Prop :=
  ∃ x : Nat, idx = .int .i64 (x : Int) ∧ x ≤ w ∧ CellB wr b n cap (setRow w y (fillRow 0 x c (rowC w y L1)) L1) ∧ Mods [b] W1 wr ∧ kk + x = w
theorem fillRow_all {w : Nat} {c : Cell} {r : List Cell} (hr : r.length = w) : fillRow 0 w c r = List.replicate w c := by
  unfold fillRow
  rw [List.drop_of_length_le (by omega)]; simp
theorem setRow_copy {w y : Nat} {L r s : List Cell} (hr : r.length = w) (hs : s.length = w) (hy : y * w + w ≤ L.length) :
    (setRow w y r L).take (y * w) ++ s.take (min w w) ++ (setRow w y r L).drop (y * w + min w w) = setRow w y s L := by
  rw [Nat.min_self]
  have := setRow_lay (l := 0) (rt := w) (s := s) hr (by omega) (Nat.le_refl _) (by omega) hy
  simp only [Nat.add_zero, Nat.sub_zero] at this
  rw [this]
  have e : layRow 0 w s r = s := by
    unfold layRow
    rw [List.drop_of_length_le (l := r) (by omega), List.take_zero, List.nil_append, List.append_nil, List.take_of_length_le (by omega)]
  rw [e]
set_option maxRecDepth 4000 in
set_option maxHeartbeats 1000000 in
theorem scroll1_how (W : World) (w h n c0 bn bt be bc bg tp en : Nat) (a : Addr) (L : List Cell) (hg : GridOk w h n c0) (hL : ReadsRows W (some a) n 4 Cell.vals L) (hih : en ≤ h) (k : Int) (hk : -9223372036854775808 ≤ k ∧ k ≤ 9223372036854775807) (c : Cell)
    (h1 : W.heap[bn]? = some (.cells #[.int .i64 k] 3 (0, 0))) (h2 : W.heap[bt]? = some (.cells #[.int .i64 (tp : Int)] 3 (0, 0))) (h3 : W.heap[be]? = some (.cells #[.int .i64 (en : Int)] 3 (0, 0)))
    (h4 : W.heap[bc]? = some (.cells #[.int .i32 c.r, .int .u8 c.fg, .int .u8 c.bg, .int .u8 (c.attr.val : Int)] 27 (0, 0))) (h5 : W.heap[bg]? = some (.cells #[.int .i64 (w : Int), .int .i64 (h : Int), .slice (some a) n c0] 38 (0, 0))) :
    HowDoes W w h n tp en 56 #[.pointer (some ⟨bn, 0, none⟩), .pointer (some ⟨bt, 0, none⟩), .pointer (some ⟨be, 0, none⟩), .pointer (some ⟨bc, 0, none⟩), .pointer (some ⟨bg, 0, none⟩)] (fun y _ => scrollRow w tp en k c L y) := by
  intro W1 b cap L1 y hM hb hB hy1 hy2
  obtain ⟨hw1, hw2, hh1, hh2, hn, hcc⟩ := id hg
  have hyw := row_le (y := y) hn (by omega)
  have hL1 := hB.len
  have hrl := rowC_len (y := y) hL1 hn (by omega)
  have H1 := Lib.hid (hM.at h1 (by simp))
  have H2 := Lib.hid (hM.at h2 (by simp))
  have H3 := Lib.hid (hM.at h3 (by simp))
  have H4 := Lib.hid (hM.at h4 (by simp))
  have H5 := Lib.hid (hM.at h5 (by simp))
  have n4 : bc ≠ b := by have := heap_lt h4; omega
  have n5 : bg ≠ b := by have := heap_lt h5; omega
  have hLl := hL.1
  have HLb : ∀ X, Mods [b] W1 X → ReadsRows X (some a) n 4 Cell.vals L := fun X hX => hL.keepsM (fun _ => rfl) (hM.then hX (fun k hk => .inr (by simp at hk; omega))) (by simp)
  have HLB := Lib.hid HLb
  have HLL := Lib.hid hLl
  have HN := Lib.hid hn
  have HB := Lib.hid hB
  have HL1 := Lib.hid hL1
  have HRL := Lib.hid hrl
  have HYW := Lib.hid hyw
  have C1 := blk_cell H1.out 0
  have C2 := blk_cell H2.out 0
  have C3 := blk_cell H3.out 0
  obtain ⟨r, fg, bg', at'⟩ := c
  clear h1 h2 h3 h4 h5 hn hB hL1 hrl hM hg hL HLb hLl hyw
  show Calls _ _ #[.int .i64 (y : Int), .slice (some ⟨b, y * w * 4, none⟩) w w, .pointer (some ⟨bn, 0, none⟩), .pointer (some ⟨bt, 0, none⟩), .pointer (some ⟨be, 0, none⟩), .pointer (some ⟨bc, 0, none⟩), .pointer (some ⟨bg, 0, none⟩)] _ _
  by_cases hq : (tp : Int) ≤ movedF y k tp en ∧ movedF y k tp en < en
  all_goals
    have hsr : scrollRow w tp en k ⟨r, fg, bg', at'⟩ L y = _ := rfl
    unfold scrollRow at hsr
    have HQ := Lib.hid hq
    go_enter Tryd.func56, Tryd.ntmps56
    go_wp2_with fail
    refine (grid_moved W1 y k tp en (by omega) hk (by omega) (by omega)).mono ?_
    rintro e w1 ⟨rfl, rfl⟩
    clear hsr
  · rw [decide_eq_true HQ.out]
    obtain ⟨f, hf⟩ := Int.eq_ofNat_of_zero_le (show 0 ≤ movedF y k tp en by omega)
    have hfe : f < en := by omega
    have hsr : scrollRow w tp en k ⟨r, fg, bg', at'⟩ L y = rowC w f L := by unfold scrollRow; rw [if_pos HQ.out, hf]; rfl
    rw [hf]
    have HSR := Lib.hid hsr
    clear hsr hf hq
    go_wp2
    clear C1 C2 C3
    go_loopg [22] w (Scroll1Rel W1 b cap n w y ⟨r, fg, bg', at'⟩ L1)
    case atStart => exact ⟨0, rfl, by omega, by rw [fillRow_self, setRow_self (by rw [HL1.out]; exact HYW.out)]; exact HB.out, Mods.refl _ _, by omega⟩
    case round =>
      obtain ⟨x, rfl, hx2, hBx, hMx, hkk⟩ := hrel
      have HBX := Lib.hid hBx
      have HKK := Lib.hid hkk
      clear hBx hkk
      by_cases hlt : x < w
      · have hk2 := HKK.out
        have C4 := fun i => blk_cell (hMx.at H4.out (by simpa using n4)) i
        have x0 : (0 : Int) ≤ (x : Int) := by omega
        have x1 : (x : Int) < (w : Int) := by omega
        go_wp2_with (refine store_cell HBX.out rfl (.tmp 28) (.tmp 27) 27 rfl (by kernel_rfl) (y * w + x) _ (idx4 y w x) ⟨r, fg, bg', at'⟩ rfl rfl (by have := HYW.out; omega) ?_; intro w5 hB5 hM5; have HB5 := Lib.hid hB5; clear hB5)
        go_roundg (gk - 1)
        case measure => omega
        case rel =>
          refine ⟨x + 1, by go_num, by omega, ?_, hMx.trans hM5, by omega⟩
          have := HB5.out
          rwa [setRow_set (fillRow_len HRL.out (by omega) (by omega)) (by rw [HL1.out]; exact HYW.out) (by omega), fillRow_set HRL.out (by omega) (by omega)] at this
      · have hxr : x = w := by omega
        subst hxr
        have C5 := fun i => blk_cell (hMx.at H5.out (by simpa using n5)) i
        go_wp2_with fail
        refine (grid_row _ x h n c0 a f hw1 hw2 hh1 hh2 HN.out hcc (by omega)).mono ?_
        rintro e w2 ⟨rfl, hm2⟩
        have hB2 := HBX.out.keeps hm2 (by simp)
        have HB2 := Lib.hid hB2
        have hrr := (HLB.out _ (hMx.trans (hm2.mono (by simp)))).row_of HN.out (y := f) (by omega)
        have HRR := Lib.hid hrr
        clear hB2 hrr C5
        go_wp2_with (refine copy_own HB2.out rfl (.tmp 31) (.tmp 34) 28 27 rfl Tryd.underlying28 (by kernel_rfl) (y * x) x x x x _ _ rfl rfl (rowC x f L) HRR.out (by have := HYW.out; omega) (fun _ => rfl) ?_; intro w6 hB6 hM6; have HB6 := Lib.hid hB6; clear hB6)
        refine bodyPost_end (results_none rfl _ _ _) rfl ⟨⟨_, rfl⟩, ?_, (hMx.trans (hm2.mono (by simp))).trans hM6⟩
        have := HB6.out
        rw [setRow_copy (fillRow_len HRL.out (by omega) (by omega)) (rowC_len HLL.out HN.out (by omega)) (by rw [HL1.out]; exact HYW.out)] at this
        rw [HSR.out]
        exact this
  · rw [decide_eq_false HQ.out]
    have hsr : scrollRow w tp en k ⟨r, fg, bg', at'⟩ L y = List.replicate w ⟨r, fg, bg', at'⟩ := if_neg HQ.out
    have HSR := Lib.hid hsr
    clear hsr hq
    go_wp2
    clear C1 C2 C3
    go_loopg [22] w (Scroll1Rel W1 b cap n w y ⟨r, fg, bg', at'⟩ L1)
    case atStart => exact ⟨0, rfl, by omega, by rw [fillRow_self, setRow_self (by rw [HL1.out]; exact HYW.out)]; exact HB.out, Mods.refl _ _, by omega⟩
    case round =>
      obtain ⟨x, rfl, hx2, hBx, hMx, hkk⟩ := hrel
      have HBX := Lib.hid hBx
      have HKK := Lib.hid hkk
      clear hBx hkk
      by_cases hlt : x < w
      · have hk2 := HKK.out
        have C4 := fun i => blk_cell (hMx.at H4.out (by simpa using n4)) i
        have x0 : (0 : Int) ≤ (x : Int) := by omega
        have x1 : (x : Int) < (w : Int) := by omega
        go_wp2_with (refine store_cell HBX.out rfl (.tmp 28) (.tmp 27) 27 rfl (by kernel_rfl) (y * w + x) _ (idx4 y w x) ⟨r, fg, bg', at'⟩ rfl rfl (by have := HYW.out; omega) ?_; intro w5 hB5 hM5; have HB5 := Lib.hid hB5; clear hB5)
        go_roundg (gk - 1)
        case measure => omega
        case rel =>
          refine ⟨x + 1, by go_num, by omega, ?_, hMx.trans hM5, by omega⟩
          have := HB5.out
          rwa [setRow_set (fillRow_len HRL.out (by omega) (by omega)) (by rw [HL1.out]; exact HYW.out) (by omega), fillRow_set HRL.out (by omega) (by omega)] at this
      · have hxr : x = w := by omega
        subst hxr
        go_wp2
        refine bodyPost_end (results_none rfl _ _ _) rfl ⟨⟨_, rfl⟩, ?_, hMx⟩
        rw [HSR.out, ← fillRow_all HRL.out]
        exact HBX.out
/-- What Scroll makes of a right grid. -/
def scrollG (w h : Nat) (L : List Cell) (top en k : Int) (c : Cell) : List Cell :=
  changedC w (mn (mx top 0) h).toNat (mn (mx en 0) h).toNat (fun y _ => scrollRow w (mn (mx top 0) h).toNat (mn (mx en 0) h).toNat k c L y) L
theorem clampG (x : Int) (h : Nat) : ∃ k : Nat, mn (mx x 0) (h : Int) = k ∧ k ≤ h := by
  have h1 : 0 ≤ mn (mx x 0) (h : Int) := by unfold mn mx; split <;> split <;> omega
  obtain ⟨k, hk⟩ := Int.eq_ofNat_of_zero_le h1
  refine ⟨k, hk, ?_⟩
  have : mn (mx x 0) (h : Int) ≤ h := by unfold mn; split <;> omega
  omega
theorem scrollRow_len {w h n tp en : Nat} {k : Int} {c : Cell} {L : List Cell} {y : Nat} (hl : L.length = n) (hn : n = w * h) (he : en ≤ h) : (scrollRow w tp en k c L y).length = w := by
  unfold scrollRow
  split
  · exact rowC_len hl hn (by omega)
  · simp
attribute [local go_sem] max2_mx min2_mn max_two min_two
set_option maxRecDepth 4000 in
set_option maxHeartbeats 2000000 in
theorem grid_Scroll (W : World) (w h n c0 : Nat) (a : Addr) (L : List Cell) (top en k : Int) (c : Cell) (hg : GridOk w h n c0) (hL : ReadsRows W (some a) n 4 Cell.vals L) (hr : rightG w h L = true)
    (hk : -9223372036854775808 ≤ k ∧ k ≤ 9223372036854775807) (hc : (c.ok && decide (c.attr.val < 64)) = true) :
    Calls Tryd.prog 27 #[gridV w h (some a) n c0, .int .i64 top, .int .i64 en, .int .i64 k, c.val] W fun e W' => GridOut W W' w h n a (scrollG w h L top en k c) e := by
  obtain ⟨hw1, hw2, hh1, hh2, hn, hcc⟩ := id hg
  have HG := Lib.hid hg
  have HL := Lib.hid hL
  have HLL := Lib.hid hL.1
  have HR := Lib.hid hr
  have HN := Lib.hid hn
  have HC := Lib.hid hc
  obtain ⟨tp, htp, htp2⟩ := clampG top h
  obtain ⟨e', hen, hen2⟩ := clampG en h
  have hsc : scrollG w h L top en k c = changedC w tp e' (fun y _ => scrollRow w tp e' k c L y) L := by
    unfold scrollG
    rw [htp, hen]
    simp only [Int.toNat_natCast]
  have HSC := Lib.hid hsc
  have HTP := Lib.hid htp
  have HEN := Lib.hid hen
  obtain ⟨r, fg, bg, at'⟩ := c
  clear hg hL hr hn hsc htp hen hc
  go_enter Tryd.func27, Tryd.ntmps27
  go_wp2_with fail
  refine Calls.named fun W0 hW0 => ?_
  obtain ⟨hM0, hb5, hb6, hb7, hb8, hb9, hb10, hsz⟩ := boxes6 hW0
  have B5 := Lib.hid hb5
  have B6 := Lib.hid hb6
  have B7 := Lib.hid hb7
  have B8 := Lib.hid hb8
  have B9 := Lib.hid hb9
  have B10 := Lib.hid hb10
  have HSZ := Lib.hid hsz
  have HM0 := Lib.hid hM0
  clear hb5 hb6 hb7 hb8 hb9 hb10 hsz hW0
  refine (grid_Check W0 w h n c0 a L HG.out (HL.out.keepsM (fun _ => rfl) hM0 (by simp))).mono ?_
  rw [HR.out]
  rintro e w1 ⟨rfl, hm1⟩
  have C9 := fun i => blk_cell (hm1.at B9.out (by simp)) i
  go_wp2_with fail
  clear C9
  refine (grid_plain w1 ⟨r, fg, bg, at'⟩).mono ?_
  rw [HC.out]
  rintro e w2 ⟨rfl, hm2⟩
  have hM2 := hm1.trans hm2
  have C5 := fun i => blk_cell (hM2.at B5.out (by simp)) i
  have C6 := fun i => blk_cell (hM2.at B6.out (by simp)) i
  have C7 := fun i => blk_cell (hM2.at B7.out (by simp)) i
  go_wp2_with fail
  have hb6 := hM2.at B6.out (by simp)
  have hb7 := hM2.at B7.out (by simp)
  have hx1 := blk_set hb6 0 (.int .i64 (mn (mx top 0) (h : Int)))
  have hm6 := (Mods.refl [W.heap.size + 1, W.heap.size + 1 + 1] w2).setCell ⟨W.heap.size + 1, 0, none⟩ (.int .i64 (mn (mx top 0) (h : Int))) (.inl (by simp))
  have hb7' := (((Mods.refl [W.heap.size + 1] w2).setCell ⟨W.heap.size + 1, 0, none⟩ (.int .i64 (mn (mx top 0) (h : Int))) (.inl (by simp))).at hb7 (by simp))
  have hx2 := blk_set hb7' 0 (.int .i64 (mn (mx en 0) (h : Int)))
  have hx1' := ((Mods.refl [W.heap.size + 1 + 1] (w2.setCell ⟨W.heap.size + 1, 0, none⟩ (.int .i64 (mn (mx top 0) (h : Int))))).setCell ⟨W.heap.size + 1 + 1, 0, none⟩ (.int .i64 (mn (mx en 0) (h : Int))) (.inl (by simp))).at hx1 (by simp)
  have hm7 := hm6.setCell ⟨W.heap.size + 1 + 1, 0, none⟩ (.int .i64 (mn (mx en 0) (h : Int))) (.inl (by simp))
  have HX1 := Lib.hid hx1'
  have HX2 := Lib.hid hx2
  have HM7 := Lib.hid hm7
  clear hx1 hx1' hx2 hm6 hm7 hb7'
  have hs2 := hM2.size
  have hsz := HSZ.out
  go_cut [] from 20 (fun wx => wx.heap[W.heap.size + 1]? = some (.cells #[.int .i64 (mn (mx top 0) (h : Int))] 3 (0, 0)) ∧ wx.heap[W.heap.size + 1 + 1]? = some (.cells #[.int .i64 (mn (mx en 0) (h : Int))] 3 (0, 0)) ∧ Mods [W.heap.size + 1, W.heap.size + 1 + 1] w2 wx)
  case first =>
    have D6 : w2.drew.cell? ⟨W.heap.size + 1, 0, none⟩ = some (.int .i64 top) := C6 0
    have D7 : w2.drew.cell? ⟨W.heap.size + 1 + 1, 0, none⟩ = some (.int .i64 en) := C7 0
    have D5 : w2.drew.cell? ⟨W.heap.size, 1, none⟩ = some (.int .i64 (h : Int)) := C5 1
    have F6 : w2.frozen? ⟨W.heap.size + 1, 0, none⟩ = false := blk_frozen hb6 0
    have F7 : w2.frozen? ⟨W.heap.size + 1 + 1, 0, none⟩ = false := blk_frozen hb7 0
    have E7 : w2.cell? ⟨W.heap.size + 1 + 1, 0, none⟩ = some (.int .i64 en) := C7 0
    have E5 : w2.cell? ⟨W.heap.size, 1, none⟩ = some (.int .i64 (h : Int)) := C5 1
    clear C5 C6 C7 hb6 hb7
    go_region
    go_wp2_with fail
    go_meet
    exact ⟨HX1.out, HX2.out, HM7.out.drew⟩
  case rest =>
    obtain ⟨hx1, hx2, hm7⟩ := hcut
    rw [HTP.out] at hx1
    rw [HEN.out] at hx2
    have HX1' := Lib.hid hx1
    have HX2' := Lib.hid hx2
    have hM3 : Mods [W.heap.size + 1, W.heap.size + 1 + 1] W0 wc := (hM2.mono (by simp)).trans hm7
    have C5' := fun i => blk_cell (hM3.at B5.out (by simp; omega)) i
    have C6' := fun i => blk_cell hx1 i
    have C7' := fun i => blk_cell hx2 i
    have hs3 := hM3.size
    have hMW : Mods [] W wc := HM0.out.then hM3 (fun k hk => .inr (by simp at hk; omega))
    clear C5 C6 C7 hb6 hb7
    go_wp2_with fail
    refine (grid_changed wc w h n c0 a L tp e' tp e' 56 _ (fun y _ => scrollRow w tp e' k ⟨r, fg, bg, at'⟩ L y) HG.out (HL.out.keepsM (fun _ => rfl) hMW (by simp)) (by unfold mx; split <;> omega) (fun y _ => by unfold mn; split <;> omega) hen2 (fun y r' hr' => scrollRow_len HLL.out HN.out hen2) (enters_of Tryd.func56 (by kernel_rfl) rfl)
      (scroll1_how wc w h n c0 _ _ _ _ _ tp e' a L HG.out (HL.out.keepsM (fun _ => rfl) hMW (by simp)) hen2 k hk ⟨r, fg, bg, at'⟩ (hM3.at B8.out (by simp; omega)) HX1'.out HX2'.out (hM3.at B9.out (by simp; omega)) (hM3.at B5.out (by simp; omega)))).mono ?_
    rintro e w5 ⟨b, cap, rfl, hB, hge, hm5⟩
    have hM5 := hM3.trans (hm5.mono (by simp))
    have HB10 := Lib.hid (hM5.at B10.out (by simp; omega))
    clear C5' C6' C7'
    go_wp2_with (refine store_blk HB10.out rfl (.tmp 10) (.tmp 34) 38 rfl (c' := #[.int .i64 (w : Int), .int .i64 (h : Int), .slice (some ⟨b, 0, none⟩) n cap]) (by kernel_rfl) rfl rfl rfl (by simp [Value.oneCell']) ?_; intro w6 hb6 hm6; have HB7 := Lib.hid hb6; clear hb6)
    have CF := fun i => blk_cell HB7.out i
    have hM6 := (hMW.trans hm5).then hm6 (fun k hk => .inr (by simp at hk; omega))
    have hB6 := hB.keeps hm6 (by simp; omega)
    have hnc := hB6.cap
    exact bodyPost_ret (v := gridV w h (some ⟨b, 0, none⟩) n cap) (by simp [results, Tryd.results27, go_sem, CF]) rfl (by rw [HSC.out]; exact ⟨⟨b, 0, none⟩, cap, rfl, hnc, hB6.reads, .inr ⟨rfl, by show W.heap.size ≤ b; omega, hB6⟩, hM6⟩)
end Go.Proofs.YtldjmacnokkjdaaDoor
