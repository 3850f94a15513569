/- The iterator over a grid's rows (grid.some): its contract at the wide fence. -/
import Derived.Test.YtldjmacnokkjdaaDoorGridN
import Derived.RangeFuncNested
import Derived.RangeFuncBound
import Derived.RangeFuncCalls
import Derived.RangeFuncLeaves
import Derived.TacticsInMore
import Derived.LoopNIn
import Derived.LoopIn
namespace Go.Proofs.YtldjmacnokkjdaaDoor
open Go.RowKit
set_option linter.unusedVariables false
set_option linter.unusedSimpArgs false
attribute [local go_sem] Oper.semAt_some max2_mx min2_mn max_two min_two

/-- What a round keeps: all that lay below n₀ but the blocks of S. -/
structure KeepN (n₀ : Nat) (S : List Nat) (w w' : World) : Prop where
  os : w'.os = w.os
  tape : w'.tape = w.tape
  output : w'.output = w.output
  size : w.heap.size ≤ w'.heap.size
  block : ∀ k, k < n₀ → k ∉ S → w'.heap[k]? = w.heap[k]?
theorem KeepN.trans {n₀ : Nat} {S : List Nat} {a b c : World} (h : KeepN n₀ S a b) (k : KeepN n₀ S b c) : KeepN n₀ S a c :=
  ⟨k.os.trans h.os, k.tape.trans h.tape, k.output.trans h.output, Nat.le_trans h.size k.size, fun i hi hs => (k.block i hi hs).trans (h.block i hi hs)⟩
theorem KeepN.of_mods {n₀ : Nat} {S : List Nat} {a b : World} (h : Mods S a b) (hn : n₀ ≤ a.heap.size) : KeepN n₀ S a b :=
  ⟨h.os, h.tape, h.output, h.size, fun k hk hs => h.block k (Nat.lt_of_lt_of_le hk hn) hs⟩
theorem KeepN.at {n₀ : Nat} {S : List Nat} {a b : World} (h : KeepN n₀ S a b) {k : Nat} {o : Obj} (hk : a.heap[k]? = some o) (hn : k < n₀) (hS : k ∉ S) : b.heap[k]? = some o := (h.block k hn hS).trans hk
theorem keepN_b {n₀ : Nat} {S : List Nat} {w : World} (hn : n₀ ≤ w.heap.size) (W : World) (l : Nat) (o o' : Obj) (hl : w.heap.size ≤ l) (h : W.heap[l]? = some o) (_ : o.isCells = false) (_ : o.isWalk = false) : KeepN n₀ S W (W.putObj l o') := by
  have hb := belowK_b (w := w) hn W l o o' hl h ‹_› ‹_›
  exact ⟨hb.os, hb.tape, hb.output, hb.size, fun k hk _ => hb.block k hk⟩
theorem grown_of_mods {w w' : World} (h : Mods [] w w') : w.grownBy w' none := ⟨h.os, h.tape, h.output, h.size, fun k hk _ => h.block k hk (by simp)⟩

/-- The rows of a grid, by their numbers. -/
abbrev Ys (lo hi : Nat) := { y : Nat // lo ≤ y ∧ y < hi }
def ysEnc (lo hi w b : Nat) (y : Ys lo hi) : Array Value := #[.int .i64 ((y.val : Nat) : Int), .slice (some ⟨b, y.val * w * 4, none⟩) w w]
set_option maxRecDepth 100000 in
set_option maxHeartbeats 1000000 in
theorem some1_in (m : Nat) (hm : 1 ≤ m) (bf be bg b n₀ w h n c : Nat) (f e : Int) (lo hi : Nat) (hg : GridOk w h n c) (hlo : (lo : Int) = mx f 0) (hhi : ∀ y : Nat, lo ≤ y → ((y : Int) < mn e (h : Int) ↔ y < hi)) (hih : hi ≤ h)
    (l : Nat) (J Jx : List (Ys lo hi) → World → Prop) (W : World) (hJ : AbidesFrom W.heap.size J)
    (hY : ∀ pre x W1, J pre W1 → pre.length < hi - lo → YieldAt Fence.wide (m - 1) Tryd.prog l (ysEnc lo hi w b x) W1 fun e W' => (e = .returned (.bool true) ∧ J (pre ++ [x]) W' ∧ KeepN n₀ [b] W1 W') ∨ (e = .returned (.bool false) ∧ Jx (pre ++ [x]) W'))
    (hnW : n₀ ≤ W.heap.size) (hbf : bf < n₀) (hbe : be < n₀) (hbg : bg < n₀) (nf : bf ≠ b) (ne : be ≠ b) (ng : bg ≠ b)
    (hf : W.heap[bf]? = some (.cells #[.int .i64 f] 3 (0, 0))) (he : W.heap[be]? = some (.cells #[.int .i64 e] 3 (0, 0))) (hgd : W.heap[bg]? = some (.cells #[.int .i64 (w : Int), .int .i64 (h : Int), .slice (some ⟨b, 0, none⟩) n c] 38 (0, 0)))
    (h0 : J [] W) :
    CallsIn Fence.wide m Tryd.prog 87 #[.func (.yield l) #[] #[], .pointer (some ⟨bf, 0, none⟩), .pointer (some ⟨be, 0, none⟩), .pointer (some ⟨bg, 0, none⟩)] W fun e W' => (∃ v, e = .returned v) ∧
      ((∃ xs : List (Ys lo hi), xs.map (·.val) = List.range' lo (hi - lo) ∧ J xs W') ∨ (∃ pre, True ∧ Jx pre W')) := by
  obtain ⟨hw1, hw2, hh1, hh2, hn, hc⟩ := hg
  have HN := Lib.hid hn
  have HY := Lib.hid hY
  have HLO := Lib.hid hlo
  have HHI := Lib.hid hhi
  have HF := Lib.hid hf
  have HE := Lib.hid he
  have HG := Lib.hid hgd
  have HJ := Lib.hid hJ
  have CF := fun i => blk_cell hf i
  clear hn hY hlo hhi hf he hgd hJ
  refine callsIn_of_wp Tryd.func87 rfl trivial ?_ rfl
  simp only [Tryd.ntmps87, List.size_toArray, List.length_cons, List.length_nil, Nat.reduceAdd, Nat.reduceSub, Array.replicate_succ, Array.replicate_zero, List.push_toArray, List.append_toArray, List.nil_append, List.cons_append]
  gi_wp2
  rw [← HLO.out]
  clear CF
  gi_loopw [5] (fun i wr => ∃ (pre : List (Ys lo hi)) (y : Nat), i = .int .i64 (y : Int) ∧ lo ≤ y ∧ (lo ≤ hi → y ≤ hi) ∧ (hi < lo → y = lo) ∧ pre.map (·.val) = List.range' lo (y - lo) ∧ J pre wr ∧ KeepN n₀ [b] W wr) (fun i _ => hi - (intOf i).toNat)
  case atStart => exact ⟨[], lo, rfl, Nat.le_refl _, fun h => h, fun _ => rfl, by simp, h0, ⟨rfl, rfl, rfl, Nat.le_refl _, fun _ _ _ => rfl⟩⟩
  case round =>
    obtain ⟨pre, y, rfl, hy1, hy2, hy3, hpre, hJr, hK⟩ := hrel
    have HPRE := Lib.hid hpre
    have hs := hK.size
    have hgr := hK.at HG.out hbg (by simpa using ng)
    have her := hK.at HE.out hbe (by simpa using ne)
    have CG := fun i => blk_cell hgr i
    have CE := fun i => blk_cell her i
    have hiff := HHI.out y hy1
    by_cases hlt : y < hi
    · have d : decide ((y : Int) < mn e (h : Int)) = true := by simpa using hiff.2 hlt
      clear hiff hpre
      gi_wp2_with (gi_at_call 48; fail)
      refine ⟨trivial, ?_⟩
      have hrow := callsIn_wide (n := m - 1) |>.2 (grid_row wr w h n c ⟨b, 0, none⟩ y hw1 hw2 hh1 hh2 HN.out hc (by omega))
      refine hrow.mono ?_
      clear hrow
      rintro r w2 ⟨rfl, hm2⟩
      have hJ2 : J pre w2 := HJ.out pre wr w2 none hJr (grown_of_mods hm2) (fun r e => by cases e)
      have hlen : pre.length < hi - lo := by
        have := congrArg List.length HPRE.out
        simp at this; omega
      obtain ⟨fn, tmps, assign, body, hy, hR⟩ := HY.out pre ⟨y, hy1, hlt⟩ w2 hJ2 hlen
      have ha : (Addr.mk b 0 none).add (y * w * 4) = ⟨b, y * w * 4, none⟩ := by rw [addr_at, Nat.zero_add]
      rw [ha]
      simp only [ysEnc] at hy
      have HR := Lib.hid hR
      have hK2 := hK.trans (KeepN.of_mods (hm2.mono (S' := [b]) (by simp)) (Nat.le_trans hnW hs))
      clear CG CE hR d ha hgr her
      gi_wp2
      refine HR.out.mono ?_
      rintro r W3 (⟨rfl, hJ3, hk3⟩ | ⟨rfl, hJx3⟩)
      · have hK3 := hK2.trans hk3
        have hs3 := hK3.size
        gi_wp2
        go_roundw
        case rel => exact ⟨pre ++ [⟨y, hy1, hlt⟩], y + 1, by go_num, by omega, by omega, by omega, by rw [List.map_append, HPRE.out]; simp only [List.map_cons, List.map_nil]; rw [show y + 1 - lo = (y - lo) + 1 by omega, List.range'_concat]; congr 2; simp; omega, hJ3, hK3⟩
        case measure => simp [intOf]; omega
      · gi_wp2
        refine bodyPost_ret (results_none rfl _ _ _) rfl ?_
        exact ⟨⟨_, rfl⟩, .inr ⟨_, trivial, hJx3⟩⟩
    · have d : decide ((y : Int) < mn e (h : Int)) = false := by
        rw [decide_eq_false_iff_not, hiff]; exact hlt
      clear hiff hpre
      gi_wp2
      go_end0
      refine ⟨⟨_, rfl⟩, .inl ⟨pre, ?_, hJr⟩⟩
      rw [HPRE.out]
      congr 1
      omega
end Go.Proofs.YtldjmacnokkjdaaDoor
