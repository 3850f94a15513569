/- The document's answer of layer 6: New. -/
import Derived.Test.YtldjmacnokkjdaaDoorR6A
import Derived.Deep.RegionHeld3
namespace Go.Proofs.YtldjmacnokkjdaaDoor
open Go.RowKit
set_option linter.unusedVariables false
set_option linter.unusedSimpArgs false

theorem ref5_Blank (w : World) : Calls Tryd.prog 41 #[] w fun e w' => e = .returned (.agg #[.int .i32 32, .int .u8 0, .int .u8 0, .int .u8 0]) ∧ Mods [] w w' := by
  go_enter Tryd.func41, Tryd.ntmps41
  go_wp2
  exact bodyPost_ret (v := blankC.val) (by simp [results, Tryd.results41, go_sem, blankC]) rfl ⟨rfl, (Mods.refl _ _).alloc _⟩
/-- append_one as a step of a region, which tells what it leaves as it was. -/
theorem step_append_one_g {P : Program} {ops : Array Oper} {o : Oper} {a : Act} {K : Act → World → Prop} {Q : Exit → Act → World → Prop} {E : Prop} {W : World} (base : Nat) (hgd : o.guard = none) (s x : Operand) (t e : TypeId) (z : Value) (size bytes : Nat)
    (ho : o.op = .call { callee := .builtin .append, args := #[s, x], argTypes := #[t, t] })
    (ht : P.underlying t = some (.slice e)) (hinfo : (P.info? e).map (fun i => (i.zero, i.size, i.bytes)) = some (some z, size, bytes)) (hz : z.cells.size = size) (hs0 : 0 < size) (hb0 : 0 < bytes)
    (v : Value) (n : Nat) (xs ys : List Value) (hs : a.eval s = v) (hx : a.eval x = .slice (some ⟨W.heap.size, 0, none⟩) 1 1) (hys : ys.length = size) (h1 : ∀ u ∈ ys, u.oneCell' = true)
    (HO : W.ownsRow base e size v n xs) (hbase : base ≤ W.heap.size) (hl : (n + 1) * bytes ≤ 140737488355328)
    (h : ∀ v1 w1, w1.ownsRow base e size v1 (n + 1) (xs ++ ys) → W.grownBy w1 v.ownBlock → K (a.put o.dst v1) w1) :
    if Region.wanted o (yielded ops a.tmps) = true then Oper.wp P o a (W.alloc (.cells ys.toArray e)) K Q else E := by
  have hw : Region.wanted o (yielded ops a.tmps) = true := by simp [Region.wanted, hgd]
  rw [if_pos hw]
  obtain ⟨i0, hi, hzz⟩ := Option.map_eq_some_iff.1 hinfo
  simp only [Prod.mk.injEq] at hzz
  obtain ⟨hz0, hz1, hz2⟩ := hzz
  have hlen : n + 1 ≤ 140737488355328 := Nat.le_trans (Nat.le_mul_of_pos_right _ hb0) hl
  obtain ⟨v', w', hr, h2, h3, h4, h5⟩ := run_append_own_at (P := P) (W.alloc (.cells ys.toArray e)) base t o.type e i0 z size bytes ht hi hz0 hz1 hz2 hz hs0 v n xs (HO.alloc _) ⟨W.heap.size, 0, none⟩ 1 1 ys (by rw [hys]; simp)
    (by simpa using World.news_of_block (cs := ys.toArray) (t := e) (fr := (0, 0)) (heap_alloc_new W (.cells ys.toArray e))) h1 (by simp only [maxLen]; omega) hl (by simp; omega)
  unfold Oper.wp execOp
  simp only [ho, resolve, invoke, builtin, Sem.run_bind, Sem.run_pure, Result.andThen_ok, List.map_toArray, List.map_cons, List.map_nil, hs, hx, hr]
  exact h v' w' h2 (World.grownBy.trans (World.grownBy_alloc W _ _) h3)
def NewRel (W : World) (w h n : Nat) (kk : Nat) (idx : Value) (wr : World) : Prop :=
  ∃ (i : Nat) (v : Value), idx = .int .i64 (i : Int) ∧ i ≤ n ∧ wr.heap[W.heap.size + 1]? = some (.cells #[.int .i64 (w : Int), .int .i64 (h : Int), v] 38 (0, 0)) ∧ wr.heap[W.heap.size]? = some (.cells #[.int .i64 0, .int .i64 0, .slice none 0 0] 38 (0, 0)) ∧
    wr.ownsRow (W.heap.size + 2) 27 4 v i ((List.replicate i blankC).flatMap Cell.vals) ∧ W.heap.size + 2 ≤ wr.heap.size ∧ Mods [] W wr ∧ kk + i = n
set_option maxRecDepth 4000 in
set_option maxHeartbeats 2000000 in
theorem ref6_New (W : World) (w h : Nat) (hw1 : 1 ≤ w) (hw2 : w ≤ 200) (hh1 : 1 ≤ h) (hh2 : h ≤ 60) :
    Calls Tryd.prog 17 #[.int .i64 (w : Int), .int .i64 (h : Int)] W fun e W' => GridNew W W' w h (w * h) (List.replicate (w * h) blankC) e := by
  obtain ⟨n, hn⟩ : ∃ n, w * h = n := ⟨_, rfl⟩
  have hn1 : 0 < n := by rw [← hn]; exact Nat.mul_pos (by omega) (by omega)
  have hn2 : n ≤ 12000 := by rw [← hn]; exact Nat.mul_le_mul hw2 hh2
  have hm : IntKind.i64.wrap ((w : Int) * (h : Int)) = (n : Int) := by rw [← hn, ← Int.natCast_mul]; exact IntWalk.i64_in _ (by rw [hn]; omega)
  rw [hn]
  clear hn
  go_enter Tryd.func17, Tryd.ntmps17
  go_wp2_with fail
  refine (ref6_size _ _ _).mono ?_
  have hd : decide (1 ≤ (w : Int) ∧ (w : Int) ≤ 200 ∧ 1 ≤ (h : Int) ∧ (h : Int) ≤ 60) = true := by simp; omega
  rw [hd]
  clear hd
  rintro e w1 ⟨rfl, rfl⟩
  go_wp2
  have hb9 := blk_new' (W.alloc (.cells #[.int .i64 0, .int .i64 0, .slice none 0 0] 38)) (.cells #[.int .i64 (w : Int), .int .i64 (h : Int), .slice none 0 0] 38) (k := W.heap.size + 1) (by simp)
  have hb8 := blk_alloc (blk_new W (.cells #[.int .i64 0, .int .i64 0, .slice none 0 0] 38)) (.cells #[.int .i64 (w : Int), .int .i64 (h : Int), .slice none 0 0] 38)
  have hM0 : Mods [] W ((W.alloc (.cells #[.int .i64 0, .int .i64 0, .slice none 0 0] 38)).alloc (.cells #[.int .i64 (w : Int), .int .i64 (h : Int), .slice none 0 0] 38)) := ((Mods.refl [] W).alloc _).alloc _
  generalize hW0 : (W.alloc (.cells #[.int .i64 0, .int .i64 0, .slice none 0 0] 38)).alloc (.cells #[.int .i64 (w : Int), .int .i64 (h : Int), .slice none 0 0] 38) = W0 at *
  have hsz0 : W0.heap.size = W.heap.size + 2 := by rw [← hW0]; simp
  have HM0 := Lib.hid hM0
  have B8 := Lib.hid hb8
  have B9 := Lib.hid hb9
  have HSZ := Lib.hid hsz0
  clear hb8 hb9 hM0 hsz0 hW0
  go_loopg [7] n (NewRel W w h n)
  case atStart => exact ⟨0, _, rfl, by omega, B9.out, B8.out, own_nil _ _ _ _, by have := HSZ.out; omega, HM0.out, by omega⟩
  case round =>
    obtain ⟨i, v, rfl, hi, hbx, hb8, hown, hsz, hM, hkk⟩ := hrel
    have HKK := Lib.hid hkk
    have BX := Lib.hid hbx
    have HOWN := Lib.hid hown
    have H8 := Lib.hid hb8
    obtain ⟨OA, oc, rfl, hoc1, hoc2, hoc3⟩ := own_slice' hown
    clear hkk hbx hown hb8
    by_cases hlt : i < n
    · have hk2 := HKK.out
      go_upto_region 8 with fail
      have D : wr.drew.cell? ⟨W.heap.size + 1, 2, none⟩ = some (.slice OA i oc) := blk_cell BX.out 2
      go_region_law (first
        | (refine step_append_one_g (W.heap.size + 2) rfl (.tmp 25) (.tmp 27) 28 27 (.agg #[.int .i32 0, .int .u8 0, .int .u8 0, .int .u8 0]) 4 8 rfl Tryd.underlying28 (by kernel_rfl) rfl (by decide) (by decide) _ i _ (Cell.vals blankC) rfl rfl rfl (by simp [Cell.vals, blankC, Value.oneCell']) (own_mods HOWN.out hm1 (by simp)) (by omega) (by omega) ?_; intro v1 w6 hown6 hgr; have hbx6 := (hgr.block (W.heap.size + 1) (heap_lt (hm1.at BX.out (by simp))) (fun e => by have := own_base HOWN.out _ e.symm; omega)).trans (hm1.at BX.out (by simp)); have hb86 := (hgr.block W.heap.size (heap_lt (hm1.at H8.out (by simp))) (fun e => by have := own_base HOWN.out _ e.symm; omega)).trans (hm1.at H8.out (by simp)); have hM6 : Mods [] W w6 := (hM.trans hm1).grown hgr (fun k e => .inr (by have := own_base HOWN.out _ e; omega)); have C6 := blk_cell hbx6 2; have F6 := blk_frozen hbx6 2; have hs6 := hgr.size; clear hgr; obtain ⟨A6, c6, rfl, t1, t2, t3⟩ := own_slice' hown6; clear t1 t2 t3; have HOWN6 := Lib.hid hown6; clear hown6)
        | (go_simp; go_at_call 41; refine (ref5_Blank _).mono ?_; rintro e w1 ⟨rfl, hm⟩; have hm1 : Mods [] wr w1 := (Mods.refl [] wr).drew.trans hm; have D1 := hm1.cell D (by simp); have D2 := (hm1.alloc (.cells #[.int .i32 32, .int .u8 0, .int .u8 0, .int .u8 0] 27)).cell D (by simp); have hs1 := hm1.size))
      all_goals
        have e9 := blk_set hbx6 2 (.slice A6 (i + 1) c6)
        simp at e9
        have hm9 := (Mods.refl [W.heap.size + 1] w6).setCell ⟨W.heap.size + 1, 2, none⟩ (.slice A6 (i + 1) c6) (.inl (by simp))
        have hown9 := own_mods HOWN6.out hm9 (fun k hk => by have := own_base HOWN6.out k hk; simp; omega)
        have hs9 := hm9.size
        have hM9 := hM6.then hm9 (fun k hk => .inr (by simp at hk; omega))
        have hb89 := hm9.at hb86 (by simp)
        clear hm9 hbx6 hb86 C6 F6
        generalize w6.setCell ⟨W.heap.size + 1, 2, none⟩ (.slice A6 (i + 1) c6) = W9 at *
        go_wp2
        go_roundg (gk - 1)
        case measure => omega
        case rel =>
          refine ⟨i + 1, _, by go_num, by omega, e9, hb89, ?_, by omega, hM9, by omega⟩
          rw [List.replicate_succ', List.flatMap_append]
          simpa using hown9
    · have hin : i = n := by omega
      subst hin
      have CX := fun j => blk_cell BX.out j
      have hsz1 := HSZ.out
      go_wp2_with (refine store_blk H8.out rfl (.tmp 4) (.tmp 30) 38 rfl (c' := #[.int .i64 (w : Int), .int .i64 (h : Int), .slice OA i oc]) (by kernel_rfl) rfl rfl rfl (by simp [Value.oneCell']) ?_; intro w6 hb6 hm6; have HB7 := Lib.hid hb6; clear hb6)
      obtain ⟨g, rfl⟩ := hoc3 hn1
      have CF := fun j => blk_cell HB7.out j
      have hown6 := own_mods HOWN.out hm6 (fun k hk => by have := own_base HOWN.out k hk; simp; omega)
      have hR6 := own_reads hown6 (by simp) (by omega)
      have hM6 := hM.then hm6 (fun k hk => .inr (by simp at hk; omega))
      clear CX
      exact bodyPost_ret (v := gridV w h (some ⟨g, 0, none⟩) i oc) (by simp [results, Tryd.results17, go_sem, CF]) rfl ⟨⟨g, 0, none⟩, oc, rfl, hoc1, hR6.1, by have := (hR6.2.2.2 ⟨g, 0, none⟩ rfl).1; show W.heap.size ≤ g; simp at this; omega, hM6⟩
end Go.Proofs.YtldjmacnokkjdaaDoor
