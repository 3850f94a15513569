/- The boxes that a function makes of its parameters, named at once. -/
import Derived.Test.YtldjmacnokkjdaaDoorFill
namespace Go.Proofs.YtldjmacnokkjdaaDoor
open Go.RowKit
set_option linter.unusedVariables false

theorem Calls.named {P : Program} {f : Nat} {args : Array Value} {W : World} {Q : Ending → World → Prop} (h : ∀ W0, W0 = W → Calls P f args W0 Q) : Calls P f args W Q := h W rfl
theorem wpList.named {P : Program} {ops : Array Oper} {Q : Exit → Act → World → Prop} {l : List Oper} {a : Act} {W : World} (h : ∀ W0, W0 = W → wpList P ops Q l a W0) : wpList P ops Q l a W := h W rfl
theorem boxes2 {W W0 : World} {a b : Obj} (h : W0 = (W.alloc a).alloc b) : Mods [] W W0 ∧ W0.heap[W.heap.size]? = some a ∧ W0.heap[W.heap.size + 1]? = some b ∧ W0.heap.size = W.heap.size + 1 + 1 := by
  subst h
  exact ⟨((Mods.refl [] W).alloc _).alloc _, blk_alloc (blk_new W a) b, blk_new' (W.alloc a) b (by simp), by simp⟩
theorem boxes3 {W W0 : World} {a b c : Obj} (h : W0 = ((W.alloc a).alloc b).alloc c) : Mods [] W W0 ∧ W0.heap[W.heap.size]? = some a ∧ W0.heap[W.heap.size + 1]? = some b ∧ W0.heap[W.heap.size + 1 + 1]? = some c ∧ W0.heap.size = W.heap.size + 1 + 1 + 1 := by
  obtain ⟨h1, h2, h3, h4⟩ := boxes2 (W := W) (a := a) (b := b) rfl
  subst h
  exact ⟨h1.alloc _, blk_alloc h2 c, blk_alloc h3 c, blk_new' _ c (by simp), by simp⟩
theorem boxes4 {W W0 : World} {a b c d : Obj} (h : W0 = (((W.alloc a).alloc b).alloc c).alloc d) : Mods [] W W0 ∧ W0.heap[W.heap.size]? = some a ∧ W0.heap[W.heap.size + 1]? = some b ∧ W0.heap[W.heap.size + 1 + 1]? = some c ∧ W0.heap[W.heap.size + 1 + 1 + 1]? = some d ∧ W0.heap.size = W.heap.size + 1 + 1 + 1 + 1 := by
  obtain ⟨h1, h2, h3, h4, h5⟩ := boxes3 (W := W) (a := a) (b := b) (c := c) rfl
  subst h
  exact ⟨h1.alloc _, blk_alloc h2 d, blk_alloc h3 d, blk_alloc h4 d, blk_new' _ d (by simp), by simp⟩
theorem boxes5 {W W0 : World} {a b c d e : Obj} (h : W0 = ((((W.alloc a).alloc b).alloc c).alloc d).alloc e) : Mods [] W W0 ∧ W0.heap[W.heap.size]? = some a ∧ W0.heap[W.heap.size + 1]? = some b ∧ W0.heap[W.heap.size + 1 + 1]? = some c ∧ W0.heap[W.heap.size + 1 + 1 + 1]? = some d ∧ W0.heap[W.heap.size + 1 + 1 + 1 + 1]? = some e ∧ W0.heap.size = W.heap.size + 1 + 1 + 1 + 1 + 1 := by
  obtain ⟨h1, h2, h3, h4, h5, h6⟩ := boxes4 (W := W) (a := a) (b := b) (c := c) (d := d) rfl
  subst h
  exact ⟨h1.alloc _, blk_alloc h2 e, blk_alloc h3 e, blk_alloc h4 e, blk_alloc h5 e, blk_new' _ e (by simp), by simp⟩
theorem boxes6 {W W0 : World} {a b c d e f : Obj} (h : W0 = (((((W.alloc a).alloc b).alloc c).alloc d).alloc e).alloc f) : Mods [] W W0 ∧ W0.heap[W.heap.size]? = some a ∧ W0.heap[W.heap.size + 1]? = some b ∧ W0.heap[W.heap.size + 1 + 1]? = some c ∧ W0.heap[W.heap.size + 1 + 1 + 1]? = some d ∧ W0.heap[W.heap.size + 1 + 1 + 1 + 1]? = some e ∧ W0.heap[W.heap.size + 1 + 1 + 1 + 1 + 1]? = some f ∧ W0.heap.size = W.heap.size + 1 + 1 + 1 + 1 + 1 + 1 := by
  obtain ⟨h1, h2, h3, h4, h5, h6, h7⟩ := boxes5 (W := W) (a := a) (b := b) (c := c) (d := d) (e := e) rfl
  subst h
  exact ⟨h1.alloc _, blk_alloc h2 f, blk_alloc h3 f, blk_alloc h4 f, blk_alloc h5 f, blk_alloc h6 f, blk_new' _ f (by simp), by simp⟩
end Go.Proofs.YtldjmacnokkjdaaDoor
