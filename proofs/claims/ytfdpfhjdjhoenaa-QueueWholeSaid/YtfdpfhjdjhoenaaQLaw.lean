/- Words for the queue's laws: a frame that came in, the chapter's example. -/
import Derived.Test.YtfdpfhjdjhoenaaQueue
import Derived.Test.YtfdpfhjdjhoenaaLawBase
namespace Go.Proofs.Ytfdpfhjdjhoenaa
open Go.RowKit Go.Conc Go.ChangeShapes Go.WideShapes
set_option linter.unusedVariables false
set_option linter.unusedSimpArgs false

theorem list4 {α : Type} {l : List α} (h : l.length = 4) : ∃ a b c d, l = [a, b, c, d] := by
  match l, h with
  | [a, b, c, d], _ => exact ⟨a, b, c, d, rfl⟩

theorem read_frame {H : Type} {enc : TypeId × Value → H} {w : World} {base : Nat} {spare : Nat → Bool} {held : Bool} {fuel : Nat} {cs : List Value} {x : DataW H × List MemPlace}
    (h : DataW.trod enc Try.prog w base spare held fuel 29 cs = some x) :
    ∃ f : Fr, cs = [.int .i64 f.gen, .int .i64 f.seq, .bool f.key, .string f.body] ∧ (Lit.int .i64 f.gen).wf = true ∧ (Lit.int .i64 f.seq).wf = true ∧ f.body.size ≤ maxLen := by
  obtain ⟨hl, n, hf⟩ := trod_fields Try.underlying29 h
  have hc : Try.prog.cellsOf 29 = 4 := by kernel_rfl
  have hi : Try.prog.cellsOf 3 = 1 := by kernel_rfl
  have hb : Try.prog.cellsOf 4 = 1 := by kernel_rfl
  have hs : Try.prog.cellsOf 9 = 1 := by kernel_rfl
  obtain ⟨a, b, c, d, rfl⟩ := list4 (hl.trans hc)
  obtain ⟨_, h0⟩ := hf 0 _ rfl
  obtain ⟨_, h1⟩ := hf 1 _ rfl
  obtain ⟨_, h2⟩ := hf 2 _ rfl
  obtain ⟨_, h3⟩ := hf 3 _ rfl
  obtain ⟨n0, e0, w0⟩ := trod_i Try.underlying3 h0
  obtain ⟨n1, e1, w1⟩ := trod_i Try.underlying3 h1
  obtain ⟨n2, e2⟩ := trod_b Try.underlying4 h2
  obtain ⟨n3, e3, w3⟩ := trod_s Try.underlying9 h3
  simp [hi, hb, hs] at e0 e1 e2 e3
  exact ⟨⟨n0, n1, n2, n3⟩, by simp [e0, e1, e2, e3], w0, w1, w3⟩

theorem arg_frame {H : Type} {enc : TypeId × Value → H} {w : World} {base b0 : Nat} {spare : Nat → Bool} {held : Bool} {v : Value} {d : DataW H} {p : List MemPlace}
    (h : DataW.Trod enc Try.prog w base spare held 29 v d p) (o : Value.okWide Try.prog w .any b0 29 v) :
    ∃ f : Fr, v = f.val ∧ (Lit.int .i64 f.gen).wf = true ∧ (Lit.int .i64 f.seq).wf = true ∧ f.body.size ≤ maxLen := by
  obtain ⟨cs, rfl, hsz⟩ := okWide_struct Try.underlying29 o
  obtain ⟨fuel, hf⟩ := h
  obtain ⟨f, hcs, h1, h2, h3⟩ := read_frame hf
  exact ⟨f, by rw [Fr.val]; congr 1; exact Array.ext' (by simpa [Value.cells] using hcs), h1, h2, h3⟩

/-! ### the chapter's example -/
theorem awake_true (w : World) : Calls Try.prog 9 #[] w fun e w' => e = .returned (.bool true) ∧ Mods [] w w' := by
  go_enter Try.func9, Try.ntmps9
  have tok1 : True := trivial
  go_wp2_with (first
    | (go_at_call 10; go_must (refine (queue_New 2 _).mono ?_); rintro e w1 ⟨b, c, rfl, hq1, hm1, hb1, hc1⟩)
    | (go_at_call 13; have _t := tok1; refine (queue_Push _ _ _ _ ⟨0, 0, true, ⟨#[]⟩⟩ hq1).mono ?_; rintro e w2 ⟨rfl, hq2, hm2⟩; clear tok1; have tok2 : True := trivial)
    | (go_at_call 13; have _t := tok2; refine (queue_Push _ _ _ _ ⟨0, 1, false, ⟨#[]⟩⟩ hq2).mono ?_; rintro e w3 ⟨rfl, hq3, hm3⟩; clear tok2; have tok3 : True := trivial)
    | (go_at_call 13; have _t := tok3; refine (queue_Push _ _ _ _ ⟨0, 2, false, ⟨#[]⟩⟩ hq3).mono ?_; rintro e w4 ⟨rfl, hq4, hm4⟩; clear tok3)
    | (go_at_call 16; refine (queue_Needs _ _ _ _ hq4).mono ?_; rintro e w5 ⟨rfl, rfl⟩))
  go_ret
  refine ⟨by first | rfl | decide, ?_⟩
  have k : ∀ x, x ∈ [b, c] → x ∈ ([] : List Nat) ∨ w.heap.size ≤ x := by simp; omega
  exact ((hm1.then hm2 k).then hm3 k).then hm4 k

theorem not_two {a b c : Nat} (h : a ≠ b) (h' : a ≠ c) : a ∉ [b, c] := by simp; omega
theorem push_new (f : Fr) : ((Qu.new 3).push f).2 = (f.may && f.key) ∧ ((Qu.new 3).push f).1.fed = (f.may && f.key) := by
  cases hm : f.may <;> cases hk : f.key <;> simp [Qu.push, Qu.new, Qu.want, Qu.drop1, hm, hk]
/-! ### the law's steps, as data -/
structure QOp where
  kind : Int
  gen : Int
  seq : Int
  key : Bool
  far : Bool
def QOp.zero : QOp := ⟨0, 0, 0, false, false⟩
theorem list5 {α : Type} {l : List α} (h : l.length = 5) : ∃ a b c d e, l = [a, b, c, d, e] := by
  match l, h with
  | [a, b, c, d, e], _ => exact ⟨a, b, c, d, e, rfl⟩
theorem read_qop {H : Type} {enc : TypeId × Value → H} {w : World} {base : Nat} {spare : Nat → Bool} {held : Bool} {fuel : Nat} {cs : List Value} {x : DataW H × List MemPlace}
    (h : DataW.trod enc Try.prog w base spare held fuel 27 cs = some x) :
    ∃ o : QOp, cs = [.int .i64 o.kind, .int .i64 o.gen, .int .i64 o.seq, .bool o.key, .bool o.far] ∧ (Lit.int .i64 o.kind).wf = true ∧ (Lit.int .i64 o.gen).wf = true ∧ (Lit.int .i64 o.seq).wf = true := by
  obtain ⟨hl, n, hf⟩ := trod_fields Try.underlying27 h
  have hc : Try.prog.cellsOf 27 = 5 := by kernel_rfl
  have hi : Try.prog.cellsOf 3 = 1 := by kernel_rfl
  have hb : Try.prog.cellsOf 4 = 1 := by kernel_rfl
  obtain ⟨a, b, c, d, e, rfl⟩ := list5 (hl.trans hc)
  obtain ⟨_, h0⟩ := hf 0 _ rfl
  obtain ⟨_, h1⟩ := hf 1 _ rfl
  obtain ⟨_, h2⟩ := hf 2 _ rfl
  obtain ⟨_, h3⟩ := hf 3 _ rfl
  obtain ⟨_, h4⟩ := hf 4 _ rfl
  obtain ⟨n0, e0, w0⟩ := trod_i Try.underlying3 h0
  obtain ⟨n1, e1, w1⟩ := trod_i Try.underlying3 h1
  obtain ⟨n2, e2, w2⟩ := trod_i Try.underlying3 h2
  obtain ⟨n3, e3⟩ := trod_b Try.underlying4 h3
  obtain ⟨n4, e4⟩ := trod_b Try.underlying4 h4
  simp [hi, hb] at e0 e1 e2 e3 e4
  exact ⟨⟨n0, n1, n2, n3, n4⟩, by simp [e0, e1, e2, e3, e4], w0, w1, w2⟩

def QOp.cells (o : QOp) : List Value := [.int .i64 o.kind, .int .i64 o.gen, .int .i64 o.seq, .bool o.key, .bool o.far]
theorem arg_ops {H : Type} {enc : TypeId × Value → H} {w : World} {base b0 : Nat} {spare : Nat → Bool} {held : Bool} {v : Value} {d : DataW H} {p : List MemPlace}
    (h : DataW.Trod enc Try.prog w base spare held 22 v d p) (o : Value.okWide Try.prog w .any b0 22 v) :
    ∃ A n c ops, v = .slice A n c ∧ n ≤ c ∧ ReadsRows w A n 5 QOp.cells ops ∧ ∀ x ∈ ops, (Lit.int .i64 x.kind).wf = true :=
  arg_rows Try.underlying22 (by kernel_rfl) QOp.cells _ (fun _ _ _ h => by obtain ⟨o, h1, h2, _⟩ := read_qop h; exact ⟨o, h1, h2⟩) h o


/-! ### the frame that a step means -/
def QOp.fr (o : QOp) : Fr := if o.far then ⟨o.gen, o.seq, o.key, ⟨#[]⟩⟩ else ⟨0, bits BinOp.and IntKind.i64 o.seq 1023, o.key, ⟨#[98]⟩⟩
theorem op_frame (o : QOp) (w : World) : Calls Try.prog 14 #[.agg #[.int .i64 o.kind, .int .i64 o.gen, .int .i64 o.seq, .bool o.key, .bool o.far]] w fun e w' => e = .returned o.fr.val ∧ Mods [] w w' := by
  obtain ⟨kind, gen, seq, key, far⟩ := o
  cases far with
  | true =>
    go_enter Try.func14, Try.ntmps14
    go_wp2
    exact bodyPost_ret (v := .agg #[.int .i64 gen, .int .i64 seq, .bool key, .string ⟨#[]⟩]) (by simp [results, Try.results14, go_sem]) rfl ⟨rfl, ((Mods.refl _ _).alloc _).alloc _⟩
  | false =>
    go_enter Try.func14, Try.ntmps14
    go_wp2
    exact bodyPost_ret (v := .agg #[.int .i64 0, .int .i64 (bits BinOp.and IntKind.i64 seq 1023), .bool key, .string ⟨#[98]⟩]) (by simp [results, Try.results14, go_sem]) rfl ⟨rfl, ((Mods.refl _ _).alloc _).alloc _⟩
end Go.Proofs.Ytfdpfhjdjhoenaa
