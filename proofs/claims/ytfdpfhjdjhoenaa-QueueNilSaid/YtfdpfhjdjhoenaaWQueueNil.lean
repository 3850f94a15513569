/- The walk of the law QueueNil. -/
import Derived.Test.YtfdpfhjdjhoenaaQueue
import Derived.Test.YtfdpfhjdjhoenaaLawBase
namespace Go.Proofs.Ytfdpfhjdjhoenaa
open Go.RowKit Go.Conc Go.ChangeShapes Go.WideShapes
set_option linter.unusedVariables false
set_option linter.unusedSimpArgs false

theorem list4 {α : Type} {l : List α} (h : l.length = 4) : ∃ a b c d, l = [a, b, c, d] := by
  match l, h with
  | [a, b, c, d], _ => exact ⟨a, b, c, d, rfl⟩

theorem read_frame {H : Type} {enc : TypeId × Value → H} {w : World} {base : Nat} {spare : Nat → Bool} {held : Bool} {fuel : Nat} {cs : List Value} {x : DataW H × List MemPlace}
    (h : DataW.trod enc Try.prog w base spare held fuel 29 cs = some x) :
    ∃ f : Fr, cs = [.int .i64 f.gen, .int .i64 f.seq, .bool f.key, .string f.body] ∧ (Lit.int .i64 f.gen).wf = true ∧ (Lit.int .i64 f.seq).wf = true ∧ f.body.size ≤ maxLen := by
  obtain ⟨hl, n, hf⟩ := trod_fields Try.underlying29 h
  have hc : Try.prog.cellsOf 29 = 4 := by kernel_rfl
  have hi : Try.prog.cellsOf 3 = 1 := by kernel_rfl
  have hb : Try.prog.cellsOf 4 = 1 := by kernel_rfl
  have hs : Try.prog.cellsOf 9 = 1 := by kernel_rfl
  obtain ⟨a, b, c, d, rfl⟩ := list4 (hl.trans hc)
  obtain ⟨_, h0⟩ := hf 0 _ rfl
  obtain ⟨_, h1⟩ := hf 1 _ rfl
  obtain ⟨_, h2⟩ := hf 2 _ rfl
  obtain ⟨_, h3⟩ := hf 3 _ rfl
  obtain ⟨n0, e0, w0⟩ := trod_i Try.underlying3 h0
  obtain ⟨n1, e1, w1⟩ := trod_i Try.underlying3 h1
  obtain ⟨n2, e2⟩ := trod_b Try.underlying4 h2
  obtain ⟨n3, e3, w3⟩ := trod_s Try.underlying9 h3
  simp [hi, hb, hs] at e0 e1 e2 e3
  exact ⟨⟨n0, n1, n2, n3⟩, by simp [e0, e1, e2, e3], w0, w1, w3⟩

theorem arg_frame {H : Type} {enc : TypeId × Value → H} {w : World} {base b0 : Nat} {spare : Nat → Bool} {held : Bool} {v : Value} {d : DataW H} {p : List MemPlace}
    (h : DataW.Trod enc Try.prog w base spare held 29 v d p) (o : Value.okWide Try.prog w .any b0 29 v) :
    ∃ f : Fr, v = f.val ∧ (Lit.int .i64 f.gen).wf = true ∧ (Lit.int .i64 f.seq).wf = true ∧ f.body.size ≤ maxLen := by
  obtain ⟨cs, rfl, hsz⟩ := okWide_struct Try.underlying29 o
  obtain ⟨fuel, hf⟩ := h
  obtain ⟨f, hcs, h1, h2, h3⟩ := read_frame hf
  exact ⟨f, by rw [Fr.val]; congr 1; exact Array.ext' (by simpa [Value.cells] using hcs), h1, h2, h3⟩

/-! ### the chapter's example -/
theorem awake_true (w : World) : Calls Try.prog 9 #[] w fun e w' => e = .returned (.bool true) ∧ Mods [] w w' := by
  go_enter Try.func9, Try.ntmps9
  have tok1 : True := trivial
  go_wp2_with (first
    | (go_at_call 10; go_must (refine (queue_New 2 _).mono ?_); rintro e w1 ⟨b, c, rfl, hq1, hm1, hb1, hc1⟩)
    | (go_at_call 13; have _t := tok1; refine (queue_Push _ _ _ _ ⟨0, 0, true, ⟨#[]⟩⟩ hq1).mono ?_; rintro e w2 ⟨rfl, hq2, hm2⟩; clear tok1; have tok2 : True := trivial)
    | (go_at_call 13; have _t := tok2; refine (queue_Push _ _ _ _ ⟨0, 1, false, ⟨#[]⟩⟩ hq2).mono ?_; rintro e w3 ⟨rfl, hq3, hm3⟩; clear tok2; have tok3 : True := trivial)
    | (go_at_call 13; have _t := tok3; refine (queue_Push _ _ _ _ ⟨0, 2, false, ⟨#[]⟩⟩ hq3).mono ?_; rintro e w4 ⟨rfl, hq4, hm4⟩; clear tok3)
    | (go_at_call 16; refine (queue_Needs _ _ _ _ hq4).mono ?_; rintro e w5 ⟨rfl, rfl⟩))
  go_ret
  refine ⟨by first | rfl | decide, ?_⟩
  have k : ∀ x, x ∈ [b, c] → x ∈ ([] : List Nat) ∨ w.heap.size ≤ x := by simp; omega
  exact ((hm1.then hm2 k).then hm3 k).then hm4 k

theorem not_two {a b c : Nat} (h : a < b) (h' : a < c) : a ∉ [b, c] := by simp; omega
theorem push_new (f : Fr) : ((Qu.new 3).push f).2 = (f.may && f.key) ∧ ((Qu.new 3).push f).1.fed = (f.may && f.key) := by
  cases hm : f.may <;> cases hk : f.key <;> simp [Qu.push, Qu.new, Qu.want, Qu.drop1, hm, hk]
theorem may_false {gen seq : Int} {key : Bool} {body : ByteArray} (h : gen < 0 ∨ 1073741824 < gen ∨ seq < 0 ∨ 1073741824 < seq) : Fr.may ⟨gen, seq, key, body⟩ = false := by
  simp only [Fr.may, mn, mx, Bool.and_eq_false_iff, decide_eq_false_iff_not]; split <;> split <;> omega
theorem may_true {gen seq : Int} {key : Bool} {body : ByteArray} (h : 0 ≤ gen ∧ gen ≤ 1073741824 ∧ 0 ≤ seq ∧ seq ≤ 1073741824) : Fr.may ⟨gen, seq, key, body⟩ = true := by
  simp only [Fr.may, mn, mx, Bool.and_eq_true, decide_eq_true_eq]; split <;> split <;> omega

set_option maxHeartbeats 1000000 in
theorem queueNil_core (w : World) (gen seq : Int) (key : Bool) (body : ByteArray) (hb : body.size ≤ 9223372036854775807) :
    Calls Try.prog 5 #[.agg #[.int .i64 gen, .int .i64 seq, .bool key, .string body]] w fun e w' => e = .returned (.bool true) ∧ Below w.heap.size w w' := by
  by_cases hlen : (20 : Int) < (body.size : Int)
  · go_enter Try.func5, Try.ntmps5
    have tok1 : True := trivial
    go_wp2_with (first
      | (go_at_call 12; refine (want_nil _).mono ?_; rintro e w1 ⟨rfl, rfl⟩)
      | (go_at_call 11; refine (pop_nil _).mono ?_; simp only [Fr.zero, Fr.val]; rintro e w1 ⟨rfl, hm1⟩
         have g1 := hm1.at (blk_new w _) (by simp)
         have z1 : w.heap.size < w1.heap.size := heap_lt g1
         have C := fun i => blk_cell g1 i)
      | (go_at_call 10; go_must (refine (queue_New 3 _).mono ?_); rintro e w2 ⟨b, c, rfl, hq2, hm2, hb2, hc2⟩; simp only [World.size_alloc] at hb2 hc2
         clear C
         have g2 := hm2.at (blk_alloc g1 _) (by simp)
         have C := fun i => blk_cell g2 i)
      | (go_at_call 9; refine (awake_true _).mono ?_; rintro e w3 ⟨rfl, hm3⟩
         clear C
         have g3 := hm3.at g2 (by simp)
         have C := fun i => blk_cell g3 i
         have hq3 := hq2.keeps hm3 (by simp) (by simp))
      | (go_at_call 13; have _t := tok1; refine (push_nil _ ⟨gen, seq, key, body.extract 0 20⟩).mono ?_; rintro e w4 ⟨rfl, hm4⟩; clear tok1
         clear C
         have g4 := hm4.at g3 (by simp)
         have C := fun i => blk_cell g4 i
         have hq4 := hq3.keeps hm4 (by simp) (by simp)
         clear _t
         have tok2 : True := trivial)
      | (go_at_call 13; have _t := tok2; go_loud (refine (queue_Push _ _ _ _ ⟨gen, seq, key, body.extract 0 20⟩ hq4).mono ?_; rw [(push_new _).1]; rintro e w5 ⟨rfl, hq5, hm5⟩); clear tok2
         clear C
         go_loud (have g5 := hm5.at g4 (not_two (by omega) (by omega)))
         have C := fun i => blk_cell g5 i
         clear _t
         have tok3 : True := trivial)
      | (go_at_call 16; have _t := tok3; refine (queue_Needs _ _ _ _ hq5).mono ?_; rw [(push_new _).2]; rintro e w6 ⟨rfl, rfl⟩)
      | (go_at_call 16; have _t := tok2; refine (needs_nil _).mono ?_; rintro e w5 ⟨rfl, rfl⟩)
      | (go_at_call 15; refine (len_nil _).mono ?_; rintro e w5 ⟨rfl, rfl⟩)
      | (go_at_call 17; refine (dropped_nil _).mono ?_; rintro e w5 ⟨rfl, rfl⟩))
    all_goals
      go_ret
      refine ⟨?_, ((((((((Mods.refl [] w).alloc _).trans hm1).alloc _).trans hm2).trans hm3).trans hm4).then hm5 (by simp; omega)).below⟩
    all_goals clear hq3 hq4 hq5 hm1 hm2 hm3 hm4 hm5 g1 g2 g3 g4 g5 hq2 C
    all_goals first
      | (rw [may_true (by omega)] at *; simp_all; done)
      | (rw [may_false (by omega)] at *; simp_all; done)
  · go_enter Try.func5, Try.ntmps5
    have tok1 : True := trivial
    go_wp2_with (first
      | (go_at_call 12; refine (want_nil _).mono ?_; rintro e w1 ⟨rfl, rfl⟩)
      | (go_at_call 11; refine (pop_nil _).mono ?_; simp only [Fr.zero, Fr.val]; rintro e w1 ⟨rfl, hm1⟩
         have g1 := hm1.at (blk_new w _) (by simp)
         have z1 : w.heap.size < w1.heap.size := heap_lt g1
         have C := fun i => blk_cell g1 i)
      | (go_at_call 10; go_must (refine (queue_New 3 _).mono ?_); rintro e w2 ⟨b, c, rfl, hq2, hm2, hb2, hc2⟩; simp only [World.size_alloc] at hb2 hc2
         clear C
         have g2 := hm2.at (blk_alloc g1 _) (by simp)
         have C := fun i => blk_cell g2 i)
      | (go_at_call 9; refine (awake_true _).mono ?_; rintro e w3 ⟨rfl, hm3⟩
         clear C
         have g3 := hm3.at g2 (by simp)
         have C := fun i => blk_cell g3 i
         have hq3 := hq2.keeps hm3 (by simp) (by simp))
      | (go_at_call 13; have _t := tok1; refine (push_nil _ ⟨gen, seq, key, body⟩).mono ?_; rintro e w4 ⟨rfl, hm4⟩; clear tok1
         clear C
         have g4 := hm4.at g3 (by simp)
         have C := fun i => blk_cell g4 i
         have hq4 := hq3.keeps hm4 (by simp) (by simp)
         clear _t
         have tok2 : True := trivial)
      | (go_at_call 13; have _t := tok2; go_loud (refine (queue_Push _ _ _ _ ⟨gen, seq, key, body⟩ hq4).mono ?_; rw [(push_new _).1]; rintro e w5 ⟨rfl, hq5, hm5⟩); clear tok2
         clear C
         go_loud (have g5 := hm5.at g4 (not_two (by omega) (by omega)))
         have C := fun i => blk_cell g5 i
         clear _t
         have tok3 : True := trivial)
      | (go_at_call 16; have _t := tok3; refine (queue_Needs _ _ _ _ hq5).mono ?_; rw [(push_new _).2]; rintro e w6 ⟨rfl, rfl⟩)
      | (go_at_call 16; have _t := tok2; refine (needs_nil _).mono ?_; rintro e w5 ⟨rfl, rfl⟩)
      | (go_at_call 15; refine (len_nil _).mono ?_; rintro e w5 ⟨rfl, rfl⟩)
      | (go_at_call 17; refine (dropped_nil _).mono ?_; rintro e w5 ⟨rfl, rfl⟩))
    all_goals
      go_ret
      refine ⟨?_, ((((((((Mods.refl [] w).alloc _).trans hm1).alloc _).trans hm2).trans hm3).trans hm4).then hm5 (by simp; omega)).below⟩
    all_goals clear hq3 hq4 hq5 hm1 hm2 hm3 hm4 hm5 g1 g2 g3 g4 g5 hq2 C
    all_goals first
      | (rw [may_true (by omega)] at *; simp_all; done)
      | (rw [may_false (by omega)] at *; simp_all; done)

theorem queueNil_walk {H : Type} {enc : TypeId × Value → H} (w : World) {base b0 : Nat} {spare : Nat → Bool} {held : Bool} {v : Value} {d : DataW H} {p : List MemPlace}
    (h : DataW.Trod enc Try.prog w base spare held 29 v d p) (o : Value.okWide Try.prog w .any b0 29 v) :
    Calls Try.prog 5 #[v] w fun e w' => e = .returned (.bool true) ∧ Below w.heap.size w w' := by
  obtain ⟨f, rfl, wg, ws, hb⟩ := arg_frame h o
  exact queueNil_core w f.gen f.seq f.key f.body (by unfold maxLen at hb; omega)
end Go.Proofs.Ytfdpfhjdjhoenaa
