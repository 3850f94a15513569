/- grid.some, grid.changed. -/
import Derived.Test.YtldjmacnokkjdaaDoorSome
import Derived.Shelf.Abstract
namespace Go.Proofs.YtldjmacnokkjdaaDoor
open Go.RowKit Go.Shelf
set_option linter.unusedVariables false
set_option linter.unusedSimpArgs false
attribute [local go_sem] Oper.semAt_some

theorem grid_some (W : World) (w h : Int) (A : Option Addr) (n c : Nat) (f e : Int) : Calls Tryd.prog 70 #[gridV w h A n c, .int .i64 f, .int .i64 e] W fun r W' =>
    r = .returned (.func (.func 87) #[] #[.pointer (some ⟨W.heap.size + 1, 0, none⟩), .pointer (some ⟨W.heap.size + 1 + 1, 0, none⟩), .pointer (some ⟨W.heap.size, 0, none⟩)]) ∧
      W' = ((W.alloc (.cells #[.int .i64 w, .int .i64 h, .slice A n c] 38)).alloc (.cells #[.int .i64 f] 3)).alloc (.cells #[.int .i64 e] 3) := by
  go_enter Tryd.func70, Tryd.ntmps70
  go_wp2
  go_ret
  exact ⟨by simp, rfl⟩
theorem keepsOthers_of_mods {W W' : World} {S : List Nat} (h : Mods S W W') (hS : ∀ k ∈ S, ∃ o, W.heap[k]? = some o ∧ o.isCells = true) : KeepsOthers W W' := by
  refine ⟨h.size, fun k o hk ho => (h.at hk ?_)⟩
  intro hm
  obtain ⟨o', h1, h2⟩ := hS k hm
  rw [hk] at h1; cases h1; rw [ho] at h2; cases h2
theorem CellB.grown {W W' : World} {row : Option Nat} {g n cap : Nat} {L : List Cell} (h : CellB W g n cap L) (hg : W.grownBy W' row) (hr : ∀ r, row = some r → ∃ o : Obj, W.heap[r]? = some o ∧ o.isCells = false) : CellB W' g n cap L := by
  obtain ⟨cur, h1, r⟩ := h
  refine ⟨cur, (hg.block g (heap_lt h1) ?_).trans h1, r⟩
  intro e
  obtain ⟨o, h2, h3⟩ := hr g e.symm
  rw [h1] at h2; cases h2; cases h3
theorem Mods.grownR {S : List Nat} {a w w' : World} {row : Option Nat} (h : Mods S a w) (hg : w.grownBy w' row) (hr : ∀ r, row = some r → a.heap.size ≤ r) : Mods S a w' :=
  ⟨hg.os.trans h.os, hg.tape.trans h.tape, hg.output.trans h.output, Nat.le_trans h.size hg.size, fun k hk hS => (hg.block k (Nat.lt_of_lt_of_le hk h.size) (fun e => by have := hr k e.symm; omega)).trans (h.block k hk hS)⟩
def setRow (w y : Nat) (r L : List Cell) : List Cell := L.take (y * w) ++ r ++ L.drop (y * w + w)
def chg1 (w : Nat) (F : Nat → List Cell → List Cell) (L : List Cell) (y : Nat) : List Cell := setRow w y (mend (F y (rowC w y L))) L
def changedC (w lo hi : Nat) (F : Nat → List Cell → List Cell) (L : List Cell) : List Cell := (List.range' lo (hi - lo)).foldl (chg1 w F) L
theorem splice_row {P Fr D M : List Cell} {k w : Nat} (h1 : P.length = k) (h2 : Fr.length = w) : (P ++ Fr ++ D).take k ++ M ++ (P ++ Fr ++ D).drop (k + w) = P ++ M ++ D := by
  have e1 : (P ++ Fr ++ D).take k = P := by rw [List.append_assoc, List.take_left' h1]
  have e2 : (P ++ Fr ++ D).drop (k + w) = D := List.drop_left' (by rw [List.length_append, h1, h2])
  rw [e1, e2]
/-- What the closure does that changes a row. -/
def HowDoes (W : World) (w h n lo hi : Nat) (fh : Nat) (lb : Array Value) (F : Nat → List Cell → List Cell) : Prop :=
  ∀ (W1 : World) (b cap : Nat) (L1 : List Cell) (y : Nat), Mods [] W W1 → W.heap.size ≤ b → CellB W1 b n cap L1 → lo ≤ y → y < hi →
    Calls Tryd.prog fh (#[.int .i64 (y : Int), .slice (some ⟨b, y * w * 4, none⟩) w w] ++ lb) W1 fun e W2 => (∃ v, e = .returned v) ∧ CellB W2 b n cap (setRow w y (F y (rowC w y L1)) L1) ∧ Mods [b] W1 W2
set_option maxRecDepth 100000 in
set_option maxHeartbeats 2000000 in
theorem grid_changed (W : World) (w h n c : Nat) (a : Addr) (L : List Cell) (f e : Int) (lo hi fh : Nat) (lb : Array Value) (F : Nat → List Cell → List Cell) (hg : GridOk w h n c) (hL : ReadsRows W (some a) n 4 Cell.vals L)
    (hlo : (lo : Int) = mx f 0) (hhi : ∀ y : Nat, lo ≤ y → ((y : Int) < mn e (h : Int) ↔ y < hi)) (hih : hi ≤ h) (hF : ∀ y r, r.length = w → (F y r).length = w) (hent : Enters Tryd.prog fh) (hhow : HowDoes W w h n lo hi fh lb F) :
    Calls Tryd.prog 43 #[gridV w h (some a) n c, .int .i64 f, .int .i64 e, .func (.func fh) #[] lb] W fun r W' => ∃ b cap, r = .returned (gridV w h (some ⟨b, 0, none⟩) n cap) ∧ CellB W' b n cap (changedC w lo hi F L) ∧ W.heap.size ≤ b ∧ Mods [] W W' := by
  have HGOK := Lib.hid hg
  obtain ⟨hw1, hw2, hh1, hh2, hn, hc⟩ := hg
  have hn2 : n ≤ 12000 := by rw [hn]; exact Nat.mul_le_mul hw2 hh2
  have hn1 : 0 < n := by rw [hn]; exact Nat.mul_pos (by omega) (by omega)
  have HN := Lib.hid hn
  have HL := Lib.hid hL
  have HLO := Lib.hid hlo
  have HHI := Lib.hid hhi
  have HF := Lib.hid hF
  have HHOW := Lib.hid hhow
  have HENT := Lib.hid hent
  clear hn hL hlo hhi hF hhow hent
  refine callsIn_wide (n := 5) |>.1 (callsIn_of_wp_marks Tryd.func43 rfl trivial ?_ rfl)
  simp only [Tryd.ntmps43, List.size_toArray, List.length_cons, List.length_nil, Nat.reduceAdd, Nat.reduceSub, Array.replicate_succ, Array.replicate_zero, List.push_toArray, List.append_toArray, List.nil_append, List.cons_append]
  refine wpIn_wide.2 ?_
  go_upto_region 1 with fail
  have hM0 : Mods [] W (((W.alloc (.cells #[.int .i64 (w : Int), .int .i64 (h : Int), .slice (some a) n c] 38)).alloc (.cells #[.func (.func fh) #[] lb] 76)).alloc (.cells #[.int .i64 0, .int .i64 0, .slice none 0 0] 38)) := (((Mods.refl [] W).alloc _).alloc _).alloc _
  have hb4 := blk_alloc (blk_alloc (blk_new W (.cells #[.int .i64 (w : Int), .int .i64 (h : Int), .slice (some a) n c] 38)) (.cells #[.func (.func fh) #[] lb] 76)) (.cells #[.int .i64 0, .int .i64 0, .slice none 0 0] 38)
  have hb7 := blk_alloc (blk_new' (W.alloc (.cells #[.int .i64 (w : Int), .int .i64 (h : Int), .slice (some a) n c] 38)) (.cells #[.func (.func fh) #[] lb] 76) (k := W.heap.size + 1) (by simp)) (.cells #[.int .i64 0, .int .i64 0, .slice none 0 0] 38)
  have hb8 := blk_new' ((W.alloc (.cells #[.int .i64 (w : Int), .int .i64 (h : Int), .slice (some a) n c] 38)).alloc (.cells #[.func (.func fh) #[] lb] 76)) (.cells #[.int .i64 0, .int .i64 0, .slice none 0 0] 38) (k := W.heap.size + 1 + 1) (by simp)
  have hsz0 : (((W.alloc (.cells #[.int .i64 (w : Int), .int .i64 (h : Int), .slice (some a) n c] 38)).alloc (.cells #[.func (.func fh) #[] lb] 76)).alloc (.cells #[.int .i64 0, .int .i64 0, .slice none 0 0] 38)).heap.size = W.heap.size + 1 + 1 + 1 := by simp
  generalize ((W.alloc (.cells #[.int .i64 (w : Int), .int .i64 (h : Int), .slice (some a) n c] 38)).alloc (.cells #[.func (.func fh) #[] lb] 76)).alloc (.cells #[.int .i64 0, .int .i64 0, .slice none 0 0] 38) = W0 at *
  have B4 := Lib.hid hb4
  have B7 := Lib.hid hb7
  have B8 := Lib.hid hb8
  have l0 : W0.cell? ⟨W.heap.size, 0, none⟩ = some (.int .i64 (w : Int)) := blk_cell hb4 0
  have l1 : W0.cell? ⟨W.heap.size, 1, none⟩ = some (.int .i64 (h : Int)) := blk_cell hb4 1
  have l2 : W0.cell? ⟨W.heap.size, 2, none⟩ = some (.slice (some a) n c) := blk_cell hb4 2
  have HSZ0 := Lib.hid hsz0
  clear hb4 hb7 hb8 hsz0
  have KA : ∀ X, Mods [] W0 X → (X.cell? ⟨W.heap.size, 0, none⟩ = some (.int .i64 (w : Int)) ∧ X.cell? ⟨W.heap.size, 1, none⟩ = some (.int .i64 (h : Int)) ∧ X.cell? ⟨W.heap.size, 2, none⟩ = some (.slice (some a) n c)) := fun X hX => ⟨hX.cell l0 (by simp), hX.cell l1 (by simp), hX.cell l2 (by simp)⟩
  go_cut [9] from 9 (fun s9 wx => ∃ ob b cap, s9 = .pointer (some ⟨ob, 0, none⟩) ∧ wx.heap[ob]? = some (.cells #[.int .i64 (w : Int), .int .i64 (h : Int), .slice (some ⟨b, 0, none⟩) n cap] 38 (0, 0)) ∧ CellB wx b n cap L ∧ W0.heap.size ≤ ob ∧ W0.heap.size ≤ b ∧ ob ≠ b ∧ Mods [] W0 wx)
  case first =>
    go_region_held3 (fun X => X.cell? ⟨W.heap.size, 0, none⟩ = some (.int .i64 (w : Int)) ∧ X.cell? ⟨W.heap.size, 1, none⟩ = some (.int .i64 (h : Int)) ∧ X.cell? ⟨W.heap.size, 2, none⟩ = some (.slice (some a) n c))
      (first
        | exact ⟨l0, l1, l2⟩
        | with_reducible exact KA _ hmW
        | with_reducible exact KA _ ((Mods.refl [] W0).alloc _)
        | with_reducible exact KA _ ((Mods.refl [] W0).alloc _).drew
        | with_reducible exact KA _ (hmW.alloc _)
        | with_reducible exact KA _ (((hmW.setCell _ _ (.inr (Nat.le_refl _))).setCell _ _ (.inr (Nat.le_refl _))).setCell _ _ (.inr (Nat.le_refl _))))
      (first | (go_at_call 36; refine (clone_cells _ (some a) n c L ((HL.out.keepsM (fun _ => rfl) hM0 (by simp)).keepsM (fun _ => rfl) (S := []) (by first | exact (Mods.refl [] W0).drew | exact (Mods.refl [] W0).drew.alloc _) (by simp)) hc (fun h => by cases h) (by omega)).mono ?_; rintro r w1 ⟨v, rfl, hown, _, hm⟩; obtain ⟨A1, c1, rfl, q1, q2, q3⟩ := own_slice' hown; obtain ⟨b, rfl⟩ := q3 hn1; have hmW : Mods [] W0 w1 := (by first | exact (Mods.refl [] W0).drew.trans hm | exact ((Mods.refl [] W0).alloc _).drew.trans hm); try (have hbA : w1.heap[W0.heap.size]? = some (.cells #[.int .i64 0, .int .i64 0, .slice none 0 0] 38 (0, 0)) := hm.at (blk_new W0 (.cells #[.int .i64 0, .int .i64 0, .slice none 0 0] 38)) (by simp); have CA := fun i => blk_cell hbA i; have FA := fun i => blk_frozen hbA i; have HBA := Lib.hid hbA; clear hbA)))
    · have hL0 := HL.out.1
      obtain ⟨hB, hge⟩ := CellB.of_own hown hL0
      have hlt := hB.lt
      go_wp2_with fail
      go_meet
      exact ⟨w1.heap.size, b, c1, rfl, blk_new w1 _, hB.keeps ((Mods.refl [] w1).alloc _) (by simp), hmW.size, hge, by omega, hmW.alloc _⟩
    · have hL0 := HL.out.1
      obtain ⟨hB, hge⟩ := CellB.of_own hown hL0
      have hge' : W0.heap.size + 1 ≤ b := by have : (W0.alloc (.cells #[.int .i64 0, .int .i64 0, .slice none 0 0] 38)).heap.size = W0.heap.size + 1 := by simp
                                             exact Nat.le_trans (Nat.le_of_eq this.symm) hge
      have e := blk_set (blk_set (blk_set HBA.out 0 (.int .i64 (w : Int))) 1 (.int .i64 (h : Int))) 2 (.slice (some ⟨b, 0, none⟩) n c1)
      simp at e
      have hm3 := (((Mods.refl [W0.heap.size] w1).setCell ⟨W0.heap.size, 0, none⟩ (.int .i64 (w : Int)) (.inl (by simp))).setCell ⟨W0.heap.size, 1, none⟩ (.int .i64 (h : Int)) (.inl (by simp))).setCell ⟨W0.heap.size, 2, none⟩ (.slice (some ⟨b, 0, none⟩) n c1) (.inl (by simp))
      go_wp2_with fail
      go_meet
      exact ⟨W0.heap.size, b, c1, rfl, e, hB.keeps hm3 (by simp; omega), Nat.le_refl _, by omega, by omega, hmW.then hm3 (by simp)⟩
  case rest =>
    obtain ⟨ob, b, cap, rfl, hbo, hB, g1, g2, g3, hM1⟩ := hcut
    have BO := Lib.hid hbo
    have HB := Lib.hid hB
    have CO := fun i => blk_cell hbo i
    clear hbo hB l0 l1 l2 KA
    go_wp2_with fail
    refine (grid_some _ _ _ _ _ _ _ _).mono ?_
    rintro r w2 ⟨rfl, rfl⟩
    go_wp2
    have x1 := blk_alloc (blk_alloc (blk_new wc (.cells #[.int .i64 (w : Int), .int .i64 (h : Int), .slice (some ⟨b, 0, none⟩) n cap] 38)) (.cells #[.int .i64 f] 3)) (.cells #[.int .i64 e] 3)
    have x2 := blk_alloc (blk_new' (wc.alloc (.cells #[.int .i64 (w : Int), .int .i64 (h : Int), .slice (some ⟨b, 0, none⟩) n cap] 38)) (.cells #[.int .i64 f] 3) (k := wc.heap.size + 1) (by simp)) (.cells #[.int .i64 e] 3)
    have x3 := blk_new' ((wc.alloc (.cells #[.int .i64 (w : Int), .int .i64 (h : Int), .slice (some ⟨b, 0, none⟩) n cap] 38)).alloc (.cells #[.int .i64 f] 3)) (.cells #[.int .i64 e] 3) (k := wc.heap.size + 1 + 1) (by simp)
    have hM3 : Mods [] wc (((wc.alloc (.cells #[.int .i64 (w : Int), .int .i64 (h : Int), .slice (some ⟨b, 0, none⟩) n cap] 38)).alloc (.cells #[.int .i64 f] 3)).alloc (.cells #[.int .i64 e] 3)) := (((Mods.refl [] wc).alloc _).alloc _).alloc _
    have hsz3 : (((wc.alloc (.cells #[.int .i64 (w : Int), .int .i64 (h : Int), .slice (some ⟨b, 0, none⟩) n cap] 38)).alloc (.cells #[.int .i64 f] 3)).alloc (.cells #[.int .i64 e] 3)).heap.size = wc.heap.size + 1 + 1 + 1 := by simp
    clear CO
    generalize ((wc.alloc (.cells #[.int .i64 (w : Int), .int .i64 (h : Int), .slice (some ⟨b, 0, none⟩) n cap] 38)).alloc (.cells #[.int .i64 f] 3)).alloc (.cells #[.int .i64 e] 3) = W3 at *
    have X1 := Lib.hid x1
    have X2 := Lib.hid x2
    have X3 := Lib.hid x3
    have HSZ3 := Lib.hid hsz3
    have hbw := HB.out.lt
    have HB3 := Lib.hid (HB.out.keeps hM3 (by simp))
    clear x1 x2 x3 hsz3
    refine wpIn_wide (n := 5) |>.1 ?_
    refine wpIn_rangeFunc_ownF (F := Fence.wide) rfl (by omega) (gf := 87) (lb := #[.pointer (some ⟨wc.heap.size + 1, 0, none⟩), .pointer (some ⟨wc.heap.size + 1 + 1, 0, none⟩), .pointer (some ⟨wc.heap.size, 0, none⟩)]) rfl trivial (enters_of Tryd.func87 (by kernel_rfl) rfl)
      (α := Ys lo hi) (encs := ysEnc lo hi w b) (Kp := KeepN W3.heap.size [b]) (S := fun xs => xs.map (·.val) = List.range' lo (hi - lo)) (Sp := fun _ => True) (N := hi - lo) (w0 := W3) ?seq KeepN.trans (keepN_b (Nat.le_refl _)) (Below.refl _ _) (fun _ => rfl)
      (fun pre X => CellB X b n cap ((pre.map (·.val)).foldl (chg1 w F) L) ∧ Mods [b] W3 X) (fun _ _ _ => False) ?own (fun _ _ _ _ _ hs _ _ => hs) ⟨HB3.out, Mods.refl _ _⟩ ?a1 ?assign ?body ?done ?stop
    case seq =>
      intro l J Jx W' hW hJ hJx hY h0
      have hs := hW.size
      have hsz := HSZ3.out
      exact some1_in 4 (by omega) (wc.heap.size + 1) (wc.heap.size + 1 + 1) wc.heap.size b W3.heap.size w h n cap f e lo hi ⟨hw1, hw2, hh1, hh2, HN.out, by obtain ⟨_, _, _, hcap, _⟩ := HB.out; exact hcap⟩ HLO.out HHI.out hih l J Jx W' hJ hY hs (by omega) (by omega) (by omega) (by omega) (by omega) (by omega)
        ((hW.block _ (by omega)).trans X2.out) ((hW.block _ (by omega)).trans X3.out) ((hW.block _ (by omega)).trans X1.out) h0
    case own =>
      intro s A B row hs hg hr
      exact ⟨hs.1.grown hg (fun r e => (hr r e).2), hs.2.grownR hg (fun r e => (hr r e).1)⟩
    case assign =>
      intro l x X K hK
      simp only [ysEnc]
      gi_wp2
      exact hK
    case body =>
      rintro l pre x X ⟨hBx, hMx⟩ hlen
      have hs0 := hM0.size
      have hs1 := hM1.size
      have hs3 := hM3.size
      have hb7 := hMx.at (hM3.at (hM1.at B7.out (by simp)) (by simp)) (by have := HSZ0.out; simp; omega)
      have C7 := fun i => blk_cell hb7 i
      have HBX := Lib.hid hBx
      clear hBx hb7
      obtain ⟨y, hy1, hy2⟩ := x
      have eg : ∀ args w, (callFunc fh args).run Tryd.prog w = .ok (.enter fh args) w := HENT.out
      have hMX : Mods [] W X := (hM0.trans (hM1.trans hM3)).then hMx (fun k hk => .inr (by simp at hk; omega))
      generalize hLp : List.foldl (chg1 w F) L (List.map (fun x => x.val) pre) = Lp at *
      have HLP := Lib.hid hLp
      clear hLp
      gi_wp2_with fail
      refine ⟨trivial, ?_⟩
      refine (CallsIn.inRound l (callsIn_wide.2 (HHOW.out X b cap Lp y hMX (by omega) HBX.out hy1 hy2))).mono ?_
      rintro r X2 ⟨⟨v, rfl⟩, hB2, hM2⟩
      have hle := row_le (y := y) HN.out (by omega)
      have hl0 := HBX.out.len
      have hrl := rowC_len (y := y) hl0 HN.out (by omega)
      have hFl := HF.out y _ hrl
      have hR2 := hB2.reads_at (y * w) w hle
      have he2 : ((setRow w y (F y (rowC w y Lp)) Lp).drop (y * w)).take w = F y (rowC w y Lp) := by
        unfold setRow
        rw [List.append_assoc, List.drop_append_of_le_length (by simp; omega), List.drop_of_length_le (by simp; omega), List.nil_append, List.take_left' hFl]
      rw [he2] at hR2
      have HR2 := Lib.hid hR2
      have HB2 := Lib.hid hB2
      clear hR2 hB2 C7 he2 eg
      gi_wp2_with fail
      refine ⟨trivial, ?_⟩
      refine (CallsIn.inRound l (callsIn_wide.2 (cell_Mend X2 _ w w (F y (rowC w y Lp)) HR2.out (Nat.le_refl _) (by omega)))).mono ?_
      rintro r X5 ⟨v5, rfl, hown5, hml, hm5⟩
      obtain ⟨A5, c5, rfl, q1, q2, q3⟩ := own_slice' hown5
      have hR5 := Lib.hid (own_reads hown5 hml (by omega)).1
      have HB5 := Lib.hid (HB2.out.keeps hm5 (by simp))
      clear hown5 q1 q2 q3
      have hsl : (setRow w y (F y (rowC w y Lp)) Lp).length = n := HB2.out.len
      gi_wp2_with (refine copy_in HB5.out rfl (.tmp 30) (.tmp 32) 28 27 rfl Tryd.underlying28 (by kernel_rfl) (y * w) w w w c5 _ _ rfl rfl (mend (F y (rowC w y Lp))) hR5.out (by omega) (fun _ => rfl) ?_; intro X6 hB6 hM6; have HB6 := Lib.hid hB6; clear hB6)
      have hchg : List.foldl (chg1 w F) L (List.map (fun x => x.val) (pre ++ [(⟨y, hy1, hy2⟩ : Ys lo hi)])) = (setRow w y (F y (rowC w y Lp)) Lp).take (y * w) ++ (mend (F y (rowC w y Lp))).take (min w w) ++ (setRow w y (F y (rowC w y Lp)) Lp).drop (y * w + min w w) := by
        rw [List.map_append, List.foldl_append, HLP.out, Nat.min_self, List.take_of_length_le (l := mend _) (by omega)]
        show chg1 w F Lp y = _
        unfold chg1 setRow
        exact (splice_row (by simp; omega) hFl).symm
      have HCHG := Lib.hid hchg
      clear hchg
      have hMall : Mods [b] X X6 := hM2.trans ((hm5.mono (by simp)).trans hM6)
      have hcells : ∃ o, X.heap[b]? = some o ∧ o.isCells = true := by obtain ⟨cur, h1, _⟩ := HBX.out; exact ⟨_, h1, rfl⟩
      have hs3x := hMx.size
      exact ⟨keepsOthers_of_mods hMall (by simpa using hcells), KeepN.of_mods hMall hs3x, by rw [HCHG.out]; exact HB6.out, hMx.trans hMall⟩
    case done =>
      rintro D ys X hD hS ⟨hB, hM⟩ hK
      have hs0 := hM0.size
      have hs1 := hM1.size
      have hs3 := hM3.size
      have hsz0 := HSZ0.out
      have hob := heap_lt BO.out
      have hbo := hM.at (hM3.at BO.out (by simp)) (by simpa using g3)
      have hb8 := hM.at (hM3.at (hM1.at B8.out (by simp)) (by simp)) (by simp; omega)
      have CO := fun i => blk_cell hbo i
      have B8X := Lib.hid hb8
      have HBD := Lib.hid hB
      have HKD := Lib.hid hK
      have HSD := Lib.hid hS
      clear hbo hb8 hB hK hS
      go_wp2_with (refine store_blk B8X.out rfl (.tmp 8) (.tmp 34) 38 rfl (c' := #[.int .i64 (w : Int), .int .i64 (h : Int), .slice (some ⟨b, 0, none⟩) n cap]) (by kernel_rfl) rfl rfl rfl (by simp [Value.oneCell']) ?_; intro X9 hb9 hM9; have HB9 := Lib.hid hb9; clear hb9)
      have hK9 := hM9.at HKD.out (by simp; omega)
      have hw'' : (X9.putObj D (.deferred Option.none)).heap[W.heap.size + 1 + 1]? = some (.cells #[.int .i64 (w : Int), .int .i64 (h : Int), .slice (some ⟨b, 0, none⟩) n cap] 38 (0, 0)) := (World.putObj_heap_other (by omega)).trans HB9.out
      have hMD : Mods [D] X9 (X9.putObj D (.deferred Option.none)) := (Mods.refl [D] X9).then (S' := [D]) ⟨rfl, rfl, rfl, (grownBy_putObj' X9 D (.deferred Option.none)).size, fun k hk hn => (grownBy_putObj' X9 D (.deferred Option.none)).block k hk (by simpa using hn)⟩ (fun k hk => .inl hk)
      have hMfin : Mods [] W (X9.putObj D (.deferred Option.none)) := (((hM0.trans (hM1.trans hM3)).then hM (fun k hk => .inr (by simp at hk; omega))).then hM9 (fun k hk => .inr (by simp at hk; omega))).then hMD (fun k hk => .inr (by simp at hk; omega))
      have hb0 : W.heap.size ≤ b := by omega
      have hsb := HBD.out.lt
      have hKo : b ≠ D := by intro e; obtain ⟨cur, h1, _⟩ := HBD.out; rw [e] at h1; rw [HKD.out] at h1; cases h1
      have hBfin := (HBD.out.keeps hM9 (by simp; omega)).keeps hMD (by simpa using hKo)
      have hfold : List.foldl (chg1 w F) L (List.map (fun x => x.val) ys) = changedC w lo hi F L := by rw [HSD.out]; rfl
      rw [hfold] at hBfin
      refine ⟨by simp, .inl ⟨_, _, rfl, run_takeDeferred hK9, ?_⟩⟩
      have CF := fun i => blk_cell hw'' i
      refine ⟨gridV w h (some ⟨b, 0, none⟩) n cap, ?_, ⟨b, cap, rfl, hBfin, hb0, hMfin⟩⟩
      clear CO
      simp [results, Tryd.f43, go_sem, CF]
    case stop =>
      rintro D c pre X hD _ hf _
      exact hf.elim
end Go.Proofs.YtldjmacnokkjdaaDoor
