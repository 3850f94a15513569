/- Words for the queue's laws: a frame that came in, the chapter's example. -/
import Derived.Test.YtfdpfhjdjhoenaaQueue
import Derived.Test.YtfdpfhjdjhoenaaLawBase
namespace Go.Proofs.Ytfdpfhjdjhoenaa
open Go.RowKit Go.Conc Go.ChangeShapes Go.WideShapes
set_option linter.unusedVariables false
set_option linter.unusedSimpArgs false

theorem list4 {α : Type} {l : List α} (h : l.length = 4) : ∃ a b c d, l = [a, b, c, d] := by
  match l, h with
  | [a, b, c, d], _ => exact ⟨a, b, c, d, rfl⟩

theorem read_frame {H : Type} {enc : TypeId × Value → H} {w : World} {base : Nat} {spare : Nat → Bool} {held : Bool} {fuel : Nat} {cs : List Value} {x : DataW H × List MemPlace}
    (h : DataW.trod enc Try.prog w base spare held fuel 29 cs = some x) :
    ∃ f : Fr, cs = [.int .i64 f.gen, .int .i64 f.seq, .bool f.key, .string f.body] ∧ (Lit.int .i64 f.gen).wf = true ∧ (Lit.int .i64 f.seq).wf = true ∧ f.body.size ≤ maxLen := by
  obtain ⟨hl, n, hf⟩ := trod_fields Try.underlying29 h
  have hc : Try.prog.cellsOf 29 = 4 := by kernel_rfl
  have hi : Try.prog.cellsOf 3 = 1 := by kernel_rfl
  have hb : Try.prog.cellsOf 4 = 1 := by kernel_rfl
  have hs : Try.prog.cellsOf 9 = 1 := by kernel_rfl
  obtain ⟨a, b, c, d, rfl⟩ := list4 (hl.trans hc)
  obtain ⟨_, h0⟩ := hf 0 _ rfl
  obtain ⟨_, h1⟩ := hf 1 _ rfl
  obtain ⟨_, h2⟩ := hf 2 _ rfl
  obtain ⟨_, h3⟩ := hf 3 _ rfl
  obtain ⟨n0, e0, w0⟩ := trod_i Try.underlying3 h0
  obtain ⟨n1, e1, w1⟩ := trod_i Try.underlying3 h1
  obtain ⟨n2, e2⟩ := trod_b Try.underlying4 h2
  obtain ⟨n3, e3, w3⟩ := trod_s Try.underlying9 h3
  simp [hi, hb, hs] at e0 e1 e2 e3
  exact ⟨⟨n0, n1, n2, n3⟩, by simp [e0, e1, e2, e3], w0, w1, w3⟩

theorem arg_frame {H : Type} {enc : TypeId × Value → H} {w : World} {base b0 : Nat} {spare : Nat → Bool} {held : Bool} {v : Value} {d : DataW H} {p : List MemPlace}
    (h : DataW.Trod enc Try.prog w base spare held 29 v d p) (o : Value.okWide Try.prog w .any b0 29 v) :
    ∃ f : Fr, v = f.val ∧ (Lit.int .i64 f.gen).wf = true ∧ (Lit.int .i64 f.seq).wf = true ∧ f.body.size ≤ maxLen := by
  obtain ⟨cs, rfl, hsz⟩ := okWide_struct Try.underlying29 o
  obtain ⟨fuel, hf⟩ := h
  obtain ⟨f, hcs, h1, h2, h3⟩ := read_frame hf
  exact ⟨f, by rw [Fr.val]; congr 1; exact Array.ext' (by simpa [Value.cells] using hcs), h1, h2, h3⟩

/-! ### the chapter's example -/
theorem awake_true (w : World) : Calls Try.prog 9 #[] w fun e w' => e = .returned (.bool true) ∧ Mods [] w w' := by
  go_enter Try.func9, Try.ntmps9
  have tok1 : True := trivial
  go_wp2_with (first
    | (go_at_call 10; go_must (refine (queue_New 2 _).mono ?_); rintro e w1 ⟨b, c, rfl, hq1, hm1, hb1, hc1⟩)
    | (go_at_call 13; have _t := tok1; refine (queue_Push _ _ _ _ ⟨0, 0, true, ⟨#[]⟩⟩ hq1).mono ?_; rintro e w2 ⟨rfl, hq2, hm2⟩; clear tok1; have tok2 : True := trivial)
    | (go_at_call 13; have _t := tok2; refine (queue_Push _ _ _ _ ⟨0, 1, false, ⟨#[]⟩⟩ hq2).mono ?_; rintro e w3 ⟨rfl, hq3, hm3⟩; clear tok2; have tok3 : True := trivial)
    | (go_at_call 13; have _t := tok3; refine (queue_Push _ _ _ _ ⟨0, 2, false, ⟨#[]⟩⟩ hq3).mono ?_; rintro e w4 ⟨rfl, hq4, hm4⟩; clear tok3)
    | (go_at_call 16; refine (queue_Needs _ _ _ _ hq4).mono ?_; rintro e w5 ⟨rfl, rfl⟩))
  go_ret
  refine ⟨by first | rfl | decide, ?_⟩
  have k : ∀ x, x ∈ [b, c] → x ∈ ([] : List Nat) ∨ w.heap.size ≤ x := by simp; omega
  exact ((hm1.then hm2 k).then hm3 k).then hm4 k

theorem not_two {a b c : Nat} (h : a < b) (h' : a < c) : a ∉ [b, c] := by simp; omega
theorem push_new (f : Fr) : ((Qu.new 3).push f).2 = (f.may && f.key) ∧ ((Qu.new 3).push f).1.fed = (f.may && f.key) := by
  cases hm : f.may <;> cases hk : f.key <;> simp [Qu.push, Qu.new, Qu.want, Qu.drop1, hm, hk]
end Go.Proofs.Ytfdpfhjdjhoenaa
