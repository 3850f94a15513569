/- grid.Blit. -/
import Derived.Test.YtldjmacnokkjdaaDoorScroll
import Derived.Deep.RegionHeld3
namespace Go.Proofs.YtldjmacnokkjdaaDoor
open Go.RowKit Go.Shelf
set_option linter.unusedVariables false
set_option linter.unusedSimpArgs false

def blitRow (w2 : Nat) (l rt : Nat) (x yy : Int) (L2 : List Cell) (y : Nat) (r : List Cell) : List Cell := layRow l rt ((rowC w2 ((y : Int) - yy).toNat L2).drop ((l : Int) - x).toNat) r
set_option maxRecDepth 4000 in
set_option maxHeartbeats 1000000 in
theorem blit1_how (W : World) (w h n lo hi bl br bg byy bx l rt : Nat) (hn : n = w * h) (hih : hi ≤ h) (hh : h ≤ 60) (hw : w ≤ 200) (hl : l < rt) (hr : rt ≤ w) (x yy : Int) (w2 h2 n2 c2 : Nat) (a2 : Addr) (L2 : List Cell) (hg2 : GridOk w2 h2 n2 c2) (hs : ReadsRows W (some a2) n2 4 Cell.vals L2)
    (hx : x ≤ l ∧ rt - x ≤ w2) (hx0 : -1000000 ≤ x) (hyy : -1000000 ≤ yy ∧ yy ≤ 1000000) (hy : ∀ y : Nat, lo ≤ y → y < hi → yy ≤ y ∧ y - yy < h2)
    (h1 : W.heap[bl]? = some (.cells #[.int .i64 (l : Int)] 3 (0, 0))) (h2' : W.heap[br]? = some (.cells #[.int .i64 (rt : Int)] 3 (0, 0))) (h3 : W.heap[bg]? = some (.cells #[.int .i64 (w2 : Int), .int .i64 (h2 : Int), .slice (some a2) n2 c2] 38 (0, 0)))
    (h4 : W.heap[byy]? = some (.cells #[.int .i64 yy] 3 (0, 0))) (h5 : W.heap[bx]? = some (.cells #[.int .i64 x] 3 (0, 0))) :
    HowDoes W w h n lo hi 58 #[.pointer (some ⟨bl, 0, none⟩), .pointer (some ⟨br, 0, none⟩), .pointer (some ⟨bg, 0, none⟩), .pointer (some ⟨byy, 0, none⟩), .pointer (some ⟨bx, 0, none⟩)] (fun y r => blitRow w2 l rt x yy L2 y r) := by
  intro W1 b cap L1 y hM hb hB hy1 hy2
  obtain ⟨q1, q2, q3, q4, hn2, hc2⟩ := id hg2
  obtain ⟨p1, p2⟩ := hy y hy1 hy2
  obtain ⟨x1, x2⟩ := hx
  have hyw := row_le (y := y) hn (by omega)
  have hL1 := hB.len
  obtain ⟨d, hd⟩ := Int.eq_ofNat_of_zero_le (show 0 ≤ (l : Int) - x by omega)
  obtain ⟨j, hj⟩ := Int.eq_ofNat_of_zero_le (show 0 ≤ (y : Int) - yy by omega)
  have hjh : j < h2 := by omega
  have hdw : d < w2 := by omega
  have hdk2 : rt - l ≤ w2 - d := by omega
  have hdk : d ≤ w2 := by omega
  have H1 := Lib.hid (hM.at h1 (by simp))
  have H2 := Lib.hid (hM.at h2' (by simp))
  have H3 := Lib.hid (hM.at h3 (by simp))
  have H4 := Lib.hid (hM.at h4 (by simp))
  have H5 := Lib.hid (hM.at h5 (by simp))
  have m1 : bl ≠ b := by have := heap_lt h1; omega
  have m2 : br ≠ b := by have := heap_lt h2'; omega
  have m3 : bg ≠ b := by have := heap_lt h3; omega
  have m4 : byy ≠ b := by have := heap_lt h4; omega
  have m5 : bx ≠ b := by have := heap_lt h5; omega
  have HB := Lib.hid hB
  have C1 : W1.cell? ⟨bl, 0, none⟩ = some (.int .i64 (l : Int)) := blk_cell H1.out 0
  have C2 : W1.cell? ⟨br, 0, none⟩ = some (.int .i64 (rt : Int)) := blk_cell H2.out 0
  have C30 : W1.cell? ⟨bg, 0, none⟩ = some (.int .i64 (w2 : Int)) := blk_cell H3.out 0
  have C31 : W1.cell? ⟨bg, 1, none⟩ = some (.int .i64 (h2 : Int)) := blk_cell H3.out 1
  have C32 : W1.cell? ⟨bg, 2, none⟩ = some (.slice (some a2) n2 c2) := blk_cell H3.out 2
  have C4 : W1.cell? ⟨byy, 0, none⟩ = some (.int .i64 yy) := blk_cell H4.out 0
  have C5 : W1.cell? ⟨bx, 0, none⟩ = some (.int .i64 x) := blk_cell H5.out 0
  have KA : ∀ X, Mods [b] W1 X → (X.cell? ⟨bl, 0, none⟩ = some (.int .i64 (l : Int)) ∧ X.cell? ⟨br, 0, none⟩ = some (.int .i64 (rt : Int)) ∧ X.cell? ⟨bg, 0, none⟩ = some (.int .i64 (w2 : Int)) ∧ X.cell? ⟨bg, 1, none⟩ = some (.int .i64 (h2 : Int)) ∧ X.cell? ⟨bg, 2, none⟩ = some (.slice (some a2) n2 c2) ∧ X.cell? ⟨byy, 0, none⟩ = some (.int .i64 yy) ∧ X.cell? ⟨bx, 0, none⟩ = some (.int .i64 x)) :=
    fun X hX => ⟨hX.cell C1 (by simpa using m1), hX.cell C2 (by simpa using m2), hX.cell C30 (by simpa using m3), hX.cell C31 (by simpa using m3), hX.cell C32 (by simpa using m3), hX.cell C4 (by simpa using m4), hX.cell C5 (by simpa using m5)⟩
  have hrow2 := (hs.keepsM (fun _ => rfl) hM (by simp)).row_of hn2 hjh
  have HROW2 := Lib.hid hrow2
  have HRL2 := Lib.hid hrow2.1
  have hbl : blitRow w2 l rt x yy L2 y = fun r => layRow l rt ((rowC w2 j L2).drop d) r := by unfold blitRow; rw [hd, hj]; rfl
  have HBL := Lib.hid hbl
  have hwr : IntKind.i64.wrap ((l : Int) - x) = (d : Int) := by rw [IntWalk.i64_in _ (by omega)]; exact hd
  have hwr2 : IntKind.i64.wrap ((y : Int) - yy) = (j : Int) := by rw [IntWalk.i64_in _ (by omega)]; exact hj
  have HL1 := Lib.hid hL1
  have HYW := Lib.hid hyw
  have HN2 := Lib.hid hn2
  have HWR := Lib.hid hwr
  have HWR2 := Lib.hid hwr2
  clear h1 h2' h3 h4 h5 hn hB hM hs hL1 hyw hn2 hrow2 hbl hd hj hy hwr hwr2
  show Calls _ _ #[.int .i64 (y : Int), .slice (some ⟨b, y * w * 4, none⟩) w w, .pointer (some ⟨bl, 0, none⟩), .pointer (some ⟨br, 0, none⟩), .pointer (some ⟨bg, 0, none⟩), .pointer (some ⟨byy, 0, none⟩), .pointer (some ⟨bx, 0, none⟩)] _ _
  have l0 : (0 : Int) ≤ (l : Int) := by omega
  have l1 : (l : Int) ≤ (rt : Int) := by omega
  have l2 : (rt : Int) ≤ (w : Int) := by omega
  have d0 : (0 : Int) ≤ (d : Int) := by omega
  have d1 : (d : Int) ≤ (w2 : Int) := by omega
  have hwr := HWR.out
  have hwr2 := HWR2.out
  go_enter Tryd.func58, Tryd.ntmps58
  have KA0 := KA _ (Mods.refl [b] W1)
  have hmin : min (w2 - d) (rt - l) = rt - l := Nat.min_eq_right hdk2
  have hfit : y * w + l + (rt - l) ≤ n := by have := HYW.out; omega
  have hsl2 : rt - l ≤ ((rowC w2 j L2).drop d).length := by simp [HRL2.out]; omega
  have HMIN := Lib.hid hmin
  have HFIT := Lib.hid hfit
  have HSL2 := Lib.hid hsl2
  clear hmin hfit hsl2 C1 C2 C30 C31 C32 C4 C5
  go_region_held3 (fun X => X.cell? ⟨bl, 0, none⟩ = some (.int .i64 (l : Int)) ∧ X.cell? ⟨br, 0, none⟩ = some (.int .i64 (rt : Int)) ∧ X.cell? ⟨bg, 0, none⟩ = some (.int .i64 (w2 : Int)) ∧ X.cell? ⟨bg, 1, none⟩ = some (.int .i64 (h2 : Int)) ∧ X.cell? ⟨bg, 2, none⟩ = some (.slice (some a2) n2 c2) ∧ X.cell? ⟨byy, 0, none⟩ = some (.int .i64 yy) ∧ X.cell? ⟨bx, 0, none⟩ = some (.int .i64 x))
    (first
      | exact KA0
      | with_reducible exact KA _ hmW
      | with_reducible exact KA _ hmW2)
    (first
      | (go_at_call 48; refine (grid_row _ w2 h2 n2 c2 a2 j q1 q2 q3 q4 HN2.out hc2 hjh).mono ?_; rintro r w1 ⟨rfl, hm⟩; have hmW : Mods [b] W1 w1 := (Mods.refl [b] W1).drew.trans (hm.mono (by simp)))
      | (refine step_copy_own (HB.out.keeps ((Mods.refl [] W1).drew.trans hm) (by simp)) rfl (.tmp 12) (.tmp 21) 28 27 rfl Tryd.underlying28 (by kernel_rfl) (y * w + l) (rt - l) (w - l) (w2 - d) (w2 - d) (if w = l then some ⟨b, y * w * 4, none⟩ else some ⟨b, y * w * 4 + l * 4, none⟩) (if w2 = d then some (a2.add (j * w2 * 4)) else some ((a2.add (j * w2 * 4)).add (d * 4))) (by go_simp) (by go_simp) ((rowC w2 j L2).drop d) (by rw [if_neg (by omega)]; have := (HROW2.out.keepsM (fun _ => rfl) ((Mods.refl [] W1).drew.trans hm) (by simp)).cut d (w2 - d) (by omega); rwa [List.take_of_length_le (by simp [HRL2.out])] at this) (by rw [HMIN.out]; exact HFIT.out) (fun _ => by rw [if_neg (by omega), Nat.add_mul]) ?_; intro w4 hB4 hM4; have hmW2 := hmW.trans hM4; have HB4 := Lib.hid hB4; clear hB4))
  have hB4 := HB4.out
  rw [HMIN.out] at hB4
  refine bodyPost_end (results_none rfl _ _ _) rfl ⟨⟨_, rfl⟩, ?_, hmW2⟩
  rw [HBL.out]
  show CellB w4 b n cap (setRow w y (layRow l rt ((rowC w2 j L2).drop d) (rowC w y L1)) L1)
  rw [← setRow_lay0 (by omega) hr HSL2.out (by rw [HL1.out]; exact HYW.out)]
  exact hB4
theorem changedC_congr {w lo hi : Nat} {F G : Nat → List Cell → List Cell} {L : List Cell} (hlh : lo ≤ hi) (h : ∀ y r, lo ≤ y → y < hi → F y r = G y r) : changedC w lo hi F L = changedC w lo hi G L := by
  unfold changedC
  have key : ∀ (l : List Nat), (∀ y ∈ l, lo ≤ y ∧ y < hi) → ∀ L, l.foldl (chg1 w F) L = l.foldl (chg1 w G) L := by
    intro l
    induction l with
    | nil => intro _ _; rfl
    | cons y l ih =>
      intro hl L
      obtain ⟨h1, h2⟩ := hl y (by simp)
      rw [List.foldl_cons, List.foldl_cons, ih (fun z hz => hl z (by simp [hz]))]
      congr 1
      unfold chg1
      rw [h y _ h1 h2]
  exact key _ (fun y hy => by rw [List.mem_range'] at hy; obtain ⟨i, h1, h2⟩ := hy; omega) L
theorem HowDoes.congr {W : World} {w h n lo hi fh : Nat} {lb : Array Value} {F G : Nat → List Cell → List Cell} (hF : HowDoes W w h n lo hi fh lb F) (he : ∀ y r, lo ≤ y → y < hi → G y r = F y r) : HowDoes W w h n lo hi fh lb G := by
  intro W1 b cap L1 y hM hb hB hy1 hy2
  rw [he y _ hy1 hy2]
  exact hF W1 b cap L1 y hM hb hB hy1 hy2
/-- What Blit makes of two right grids. -/
def blitG (w h : Nat) (L : List Cell) (w2 h2 : Nat) (L2 : List Cell) (x y : Int) : List Cell :=
  if (spanF x w2 w).1 = (spanF x w2 w).2 then L else changedC w (spanF y h2 h).1.toNat (spanF y h2 h).2.toNat (fun y' r => blitRow w2 (spanF x w2 w).1.toNat (spanF x w2 w).2.toNat x y L2 y' r) L
theorem blitRow_len {w w2 h2 n2 l rt y : Nat} {x yy : Int} {L2 r : List Cell} (hr : r.length = w) (hl : l ≤ rt) (hrt : rt ≤ w) (hx : x ≤ l ∧ rt - x ≤ w2) (h2l : L2.length = n2) (hn2 : n2 = w2 * h2) (hy : yy ≤ y ∧ y - yy < h2) : (blitRow w2 l rt x yy L2 y r).length = w := by
  unfold blitRow
  refine layRow_len hr hl hrt ?_
  rw [List.length_drop, rowC_len h2l hn2 (by omega)]
  omega
set_option maxRecDepth 4000 in
set_option maxHeartbeats 2000000 in
theorem grid_Blit (W : World) (w h n c0 : Nat) (a : Addr) (L : List Cell) (w2 h2 n2 c2 : Nat) (a2 : Addr) (L2 : List Cell) (x y : Int) (hg : GridOk w h n c0) (hL : ReadsRows W (some a) n 4 Cell.vals L) (hr : rightG w h L = true)
    (hg2 : GridOk w2 h2 n2 c2) (hL2 : ReadsRows W (some a2) n2 4 Cell.vals L2) (hr2 : rightG w2 h2 L2 = true)
    (hx : -1000000 ≤ x ∧ x ≤ 1000000) (hy : -1000000 ≤ y ∧ y ≤ 1000000) :
    Calls Tryd.prog 28 #[gridV w h (some a) n c0, gridV w2 h2 (some a2) n2 c2, .int .i64 x, .int .i64 y] W fun e W' => GridOut W W' w h n a (blitG w h L w2 h2 L2 x y) e := by
  obtain ⟨hw1, hw2, hh1, hh2, hn, hcc⟩ := id hg
  obtain ⟨kw1, kw2, kh1, kh2, kn, kcc⟩ := id hg2
  have HG := Lib.hid hg
  have HG2 := Lib.hid hg2
  have HL := Lib.hid hL
  have HLL2 := Lib.hid hL2.1
  have HL2 := Lib.hid hL2
  have HR := Lib.hid hr
  have HR2 := Lib.hid hr2
  have HN := Lib.hid hn
  have HN2 := Lib.hid kn
  obtain ⟨s1, s2, s3⟩ := span_le x w2 w (by omega)
  obtain ⟨t1, t2, t3⟩ := span_le y h2 h (by omega)
  obtain ⟨l, hl⟩ := Int.eq_ofNat_of_zero_le s1
  obtain ⟨rt, hrt⟩ := Int.eq_ofNat_of_zero_le (Int.le_trans s1 s2)
  obtain ⟨tp, htp⟩ := Int.eq_ofNat_of_zero_le t1
  obtain ⟨en, hen⟩ := Int.eq_ofNat_of_zero_le (Int.le_trans t1 t2)
  have hmx := span_many x w2 w
  have hmy := span_many y h2 h
  rw [hl, hrt] at hmx
  rw [htp, hen] at hmy
  have hblit : blitG w h L w2 h2 L2 x y = if l = rt then L else changedC w tp en (fun y' r => blitRow w2 l rt x y L2 y' r) L := by
    unfold blitG
    rw [hl, hrt, htp, hen]
    simp only [Int.toNat_natCast, Int.natCast_inj]
  have HBLIT := Lib.hid hblit
  have hlr : l ≤ rt := by omega
  have hrw2 : rt ≤ w := by omega
  have hte : tp ≤ en := by omega
  have heh : en ≤ h := by omega
  have HS1 := Lib.hid hl
  have HS2 := Lib.hid hrt
  have HS3 := Lib.hid htp
  have HS4 := Lib.hid hen
  have HMX := Lib.hid hmx
  have HMY := Lib.hid hmy
  clear hg hL hr hn hg2 hL2 hr2 kn hl hrt htp hen hblit s1 s2 s3 t1 t2 t3 hmx hmy
  go_enter Tryd.func28, Tryd.ntmps28
  go_wp2_with fail
  refine Calls.named fun W0 hW0 => ?_
  obtain ⟨hM0, hb4, hb5, hb6, hb7, hb8, hsz⟩ := boxes5 hW0
  have B4 := Lib.hid hb4
  have B5 := Lib.hid hb5
  have B6 := Lib.hid hb6
  have B7 := Lib.hid hb7
  have B8 := Lib.hid hb8
  have HSZ := Lib.hid hsz
  have HM0 := Lib.hid hM0
  clear hb4 hb5 hb6 hb7 hb8 hsz hW0
  refine (grid_Check W0 w h n c0 a L HG.out (HL.out.keepsM (fun _ => rfl) hM0 (by simp))).mono ?_
  rw [HR.out]
  rintro e w1 ⟨rfl, hm1⟩
  have C5 := fun i => blk_cell (hm1.at B5.out (by simp)) i
  go_wp2_with fail
  clear C5
  refine (grid_Check w1 w2 h2 n2 c2 a2 L2 HG2.out (HL2.out.keepsM (fun _ => rfl) (hM0.trans hm1) (by simp))).mono ?_
  rw [HR2.out]
  rintro e w2' ⟨rfl, hm2⟩
  have hM2 := hm1.trans hm2
  have C4 := fun i => blk_cell (hM2.at B4.out (by simp)) i
  have C5 := fun i => blk_cell (hM2.at B5.out (by simp)) i
  have C6 := fun i => blk_cell (hM2.at B6.out (by simp)) i
  go_wp2_with fail
  refine (grid_span w2' x w2 w hx (by omega) (by omega)).mono ?_
  rw [HS1.out, HS2.out]
  rintro e w3 ⟨rfl, rfl⟩
  have hb9 := blk_alloc (blk_new w2' (.cells #[.int .i64 (l : Int)] 3)) (.cells #[.int .i64 (rt : Int)] 3)
  have hb10 := blk_new' (w2'.alloc (.cells #[.int .i64 (l : Int)] 3)) (.cells #[.int .i64 (rt : Int)] 3) (k := w2'.heap.size + 1) (by simp)
  have hM3 : Mods [] W0 ((w2'.alloc (.cells #[.int .i64 (l : Int)] 3)).alloc (.cells #[.int .i64 (rt : Int)] 3)) := (hM2.alloc _).alloc _
  have D4 := fun i => blk_cell (hM3.at B4.out (by simp)) i
  have D5 := fun i => blk_cell (hM3.at B5.out (by simp)) i
  have D7 := fun i => blk_cell (hM3.at B7.out (by simp)) i
  have D9 := fun i => blk_cell hb9 i
  have D10 := fun i => blk_cell hb10 i
  go_wp2_with fail
  clear C4 C5 C6
  generalize (w2'.alloc (.cells #[.int .i64 (l : Int)] 3)).alloc (.cells #[.int .i64 (rt : Int)] 3) = W3 at *
  have B9 := Lib.hid hb9
  have B10 := Lib.hid hb10
  have hs2 := hM2.size
  clear hb9 hb10
  refine (grid_span W3 y h2 h hy (by omega) (by omega)).mono ?_
  rw [HS3.out, HS4.out]
  rintro e w4 ⟨rfl, rfl⟩
  by_cases hlt : l = rt
  · subst hlt
    have hb8 := hM3.at B8.out (by simp)
    have HB8 := Lib.hid hb8
    clear hb8
    go_wp2_with (refine store_blk HB8.out rfl (.tmp 8) (.tmp 43) 38 rfl (c' := #[.int .i64 (w : Int), .int .i64 (h : Int), .slice (some a) n c0]) (by kernel_rfl) rfl rfl rfl (by simp [Value.oneCell']) ?_; intro w5 hb5 hm5; have HB5 := Lib.hid hb5; clear hb5)
    have CF := fun i => blk_cell HB5.out i
    have hM5 := (HM0.out.trans hM3).then hm5 (fun k hk => .inr (by simp at hk; omega))
    clear D4 D5 D7 D9 D10
    exact bodyPost_ret (v := gridV w h (some a) n c0) (by simp [results, Tryd.results28, go_sem, CF]) rfl (by rw [HBLIT.out]; simp only [if_true]; exact ⟨a, c0, rfl, hcc, HL.out.keepsM (fun _ => rfl) hM5 (by simp), .inl rfl, hM5⟩)
  · have hlt2 : l < rt := by omega
    have hb : ((l : Int) == (rt : Int)) = false := by simp; omega
    have HLT := Lib.hid hlt
    clear hlt
    go_wp2_with fail
    have hMW := HM0.out.trans hM3
    have hmx := HMX.out (by omega)
    have hyr : ∀ y' : Nat, tp ≤ y' → y' < en → y ≤ y' ∧ y' - y < h2 := by
      intro y' h1 h2'
      have := HMY.out (by omega)
      omega
    refine (grid_changed W3 w h n c0 a L tp en tp en 58 _ (fun y' r' => if tp ≤ y' ∧ y' < en then blitRow w2 l rt x y L2 y' r' else r') HG.out (HL.out.keepsM (fun _ => rfl) hMW (by simp)) (by unfold mx; split <;> omega) (fun y _ => by unfold mn; split <;> omega) heh
      (fun y' r' hr' => by
        split
        · rename_i hq
          exact blitRow_len hr' hlr hrw2 hmx HLL2.out HN2.out (hyr y' hq.1 hq.2)
        · exact hr') (enters_of Tryd.func58 (by kernel_rfl) rfl)
      ((blit1_how W3 w h n tp en _ _ _ _ _ l rt HN.out heh hh2 hw2 hlt2 hrw2 x y w2 h2 n2 c2 a2 L2 HG2.out (HL2.out.keepsM (fun _ => rfl) hMW (by simp)) hmx hx.1 hy hyr B9.out B10.out (hM3.at B5.out (by simp)) (hM3.at B7.out (by simp)) (hM3.at B6.out (by simp))).congr (fun y' r' h1 h2 => if_pos ⟨h1, h2⟩))).mono ?_
    rintro e w5 ⟨b, cap, rfl, hB, hge, hm5⟩
    have hM5 := hM3.trans hm5
    have HB8 := Lib.hid (hM5.at B8.out (by simp))
    have hs3 := hM3.size
    clear D4 D5 D7 D9 D10 hb
    go_wp2_with (refine store_blk HB8.out rfl (.tmp 8) (.tmp 48) 38 rfl (c' := #[.int .i64 (w : Int), .int .i64 (h : Int), .slice (some ⟨b, 0, none⟩) n cap]) (by kernel_rfl) rfl rfl rfl (by simp [Value.oneCell']) ?_; intro w6 hb6 hm6; have HB7 := Lib.hid hb6; clear hb6)
    have CF := fun i => blk_cell HB7.out i
    have hM6 := (HM0.out.trans hM5).then hm6 (fun k hk => .inr (by simp at hk; omega))
    have hsz := HSZ.out
    have hB6 := hB.keeps hm6 (by simp; omega)
    have hnc := hB6.cap
    have hcg : changedC w tp en (fun y' r' => if tp ≤ y' ∧ y' < en then blitRow w2 l rt x y L2 y' r' else r') L = changedC w tp en (fun y' r' => blitRow w2 l rt x y L2 y' r') L := changedC_congr hte (fun y' r' h1 h2 => if_pos ⟨h1, h2⟩)
    rw [hcg] at hB6
    exact bodyPost_ret (v := gridV w h (some ⟨b, 0, none⟩) n cap) (by simp [results, Tryd.results28, go_sem, CF]) rfl (by rw [HBLIT.out, if_neg HLT.out]; exact ⟨⟨b, 0, none⟩, cap, rfl, hnc, hB6.reads, .inr ⟨rfl, by show W.heap.size ≤ b; omega, hB6⟩, hM6⟩)
end Go.Proofs.YtldjmacnokkjdaaDoor
