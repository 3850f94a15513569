/- Arguments as data: how a struct that can be read lies in cells. -/
import Derived.Test.YtldjmacnokkjdaaDoorBase
import Derived.ChangeArms
import Derived.ChangeSlices
import Derived.ProofKit
import Derived.OpenShut
import Derived.Deep.Slices
namespace Go.Proofs.YtldjmacnokkjdaaDoor
open Go.RowKit Go.ChangeShapes Go.WideShapes

section
variable {H : Type} {enc : TypeId × Value → H} {P : Program} {w : World} {base : Nat} {spare : Nat → Bool} {held : Bool}
/-- A struct's cells, field by field. -/
theorem trod_fields {t : TypeId} {fs : Array Field} {fuel : Nat} {cs : List Value} {x : DataW H × List MemPlace} (ht : P.underlying t = some (.struct fs)) (h : DataW.trod enc P w base spare held fuel t cs = some x) :
    cs.length = P.cellsOf t ∧ ∃ n, ∀ (i : Nat) (f : Field), fs[i]? = some f → ∃ y, DataW.trod enc P w base spare held n f.type ((cs.drop f.offset).take (P.cellsOf f.type)) = some y := by
  obtain ⟨xs, n, _, _, hl, hn, hf⟩ := DataW.trod_struct ht h
  refine ⟨hl, n, fun i f hi => ?_⟩
  have hlt : i < xs.length := by rw [hn]; exact (Array.getElem?_eq_some_iff.1 hi).1
  exact ⟨xs[i], by rw [hf i f hi, List.getElem?_eq_getElem hlt]⟩
theorem trod_i {t : TypeId} {k : IntKind} {fuel : Nat} {cs : List Value} {x : DataW H × List MemPlace} (ht : P.underlying t = some (.int k)) (h : DataW.trod enc P w base spare held fuel t cs = some x) : ∃ n, cs = [.int k n] ∧ (Lit.int k n).wf = true := by
  cases fuel with
  | zero => simp [DataW.trod] at h
  | succ m =>
    unfold DataW.trod at h
    rw [ht] at h
    split at h <;> simp_all
theorem trod_b {t : TypeId} {fuel : Nat} {cs : List Value} {x : DataW H × List MemPlace} (ht : P.underlying t = some .bool) (h : DataW.trod enc P w base spare held fuel t cs = some x) : ∃ b, cs = [.bool b] := by
  cases fuel with
  | zero => simp [DataW.trod] at h
  | succ m =>
    unfold DataW.trod at h
    rw [ht] at h
    split at h <;> simp_all
theorem trod_s {t : TypeId} {fuel : Nat} {cs : List Value} {x : DataW H × List MemPlace} (ht : P.underlying t = some .string) (h : DataW.trod enc P w base spare held fuel t cs = some x) : ∃ s : ByteArray, cs = [.string s] ∧ s.size ≤ maxLen := by
  cases fuel with
  | zero => simp [DataW.trod] at h
  | succ m =>
    unfold DataW.trod at h
    rw [ht] at h
    split at h <;> simp_all

/-- A slice that can be read: nil, or its elements' cells one by one. -/
theorem trod_rows {t e : TypeId} {fuel : Nat} {cs : List Value} {x : DataW H × List MemPlace} (ht : P.underlying t = some (.slice e)) (h : DataW.trod enc P w base spare held fuel t cs = some x) :
    cs = [.slice none 0 0] ∨ ∃ (a : Addr) (len cap n : Nat), cs = [.slice (some a) len cap] ∧ len ≤ cap ∧ cap ≤ maxLen ∧
      ∀ i, i < len → ∃ cs' y, cs'.length = P.cellsOf e ∧ (∀ j, j < P.cellsOf e → w.cell? ((a.add (i * P.cellsOf e)).add j) = cs'[j]?) ∧ DataW.trod enc P w base spare held n e cs' = some y := by
  rcases Go.Deep.open_slice ht h with ⟨h0, _⟩ | ⟨a, len, cap, m, n, D, Pl, hcs, hb, hl, hm, hmm, _, hx⟩
  · exact .inl h0
  · refine .inr ⟨a, len, cap, n, hcs, hl, hm, fun i hi => ?_⟩
    obtain ⟨cs', h1, h2⟩ := hx i (by rw [hmm]; split <;> omega)
    obtain ⟨_, hlen, hc⟩ := World.cells?_some h1
    exact ⟨cs', _, hlen, hc, h2⟩
end

/-- A slice of records that can be read: the records, each in its cells. -/
def ReadsRows {α : Type} (w : World) (A : Option Addr) (n size : Nat) (rd : α → List Value) (xs : List α) : Prop :=
  xs.length = n ∧ n ≤ maxLen ∧ ∀ i o, xs[i]? = some o → ∃ a, A = some a ∧ ∀ j, j < size → w.cell? ((a.add (i * size)).add j) = (rd o)[j]?
theorem trod_reads {α : Type} {H : Type} {enc : TypeId × Value → H} {P : Program} {w : World} {base : Nat} {spare : Nat → Bool} {held : Bool} {t e : TypeId} {size fuel : Nat} {cs : List Value} {x : DataW H × List MemPlace}
    (ht : P.underlying t = some (.slice e)) (hc : P.cellsOf e = size) (rd : α → List Value) (ok : α → Prop)
    (hread : ∀ (fuel : Nat) (cs : List Value) (x : DataW H × List MemPlace), DataW.trod enc P w base spare held fuel e cs = some x → ∃ o : α, cs = rd o ∧ ok o)
    (hf : DataW.trod enc P w base spare held fuel t cs = some x) :
    ∃ A n c xs, cs = [.slice A n c] ∧ n ≤ c ∧ ReadsRows w A n size rd xs ∧ ∀ x ∈ xs, ok x := by
  rcases trod_rows ht hf with h0 | ⟨a, len, cap, m, hcs, hl, hm, hx⟩
  · exact ⟨none, 0, 0, [], h0, Nat.le_refl _, ⟨rfl, by simp, fun i o h => by simp at h⟩, by simp⟩
  · rw [hc] at hx
    have key : ∀ i, i < len → ∃ o : α, (∀ j, j < size → w.cell? ((a.add (i * size)).add j) = (rd o)[j]?) ∧ ok o := by
      intro i hi
      obtain ⟨cs', y, hlen, hcell, ht⟩ := hx i hi
      obtain ⟨o, rfl, hk⟩ := hread _ _ _ ht
      exact ⟨o, hcell, hk⟩
    by_cases hn : len = 0
    · subst hn
      exact ⟨some a, 0, cap, [], hcs, hl, ⟨rfl, by simp, fun i o h => by simp at h⟩, by simp⟩
    · obtain ⟨o0, _⟩ := key 0 (by omega)
      haveI : Inhabited α := ⟨o0⟩
      obtain ⟨f, hf⟩ := Go.Deep.choose_lt key
      refine ⟨some a, len, cap, (List.range len).map f, hcs, hl, ⟨by simp, by omega, fun i o h => ⟨a, rfl, ?_⟩⟩, fun x hx => ?_⟩
      · rw [List.getElem?_map, Option.map_eq_some_iff] at h
        obtain ⟨j, hj, rfl⟩ := h
        obtain ⟨hj1, rfl⟩ := List.getElem?_eq_some_iff.1 hj
        simp at hj1 ⊢
        exact (hf i hj1).1
      · obtain ⟨j, hj, rfl⟩ := List.mem_map.1 hx
        exact (hf j (List.mem_range.1 hj)).2
theorem arg_rows {α : Type} {H : Type} {enc : TypeId × Value → H} {P : Program} {w : World} {base b0 : Nat} {spare : Nat → Bool} {held : Bool} {v : Value} {d : DataW H} {p : List MemPlace} {t e : TypeId} {size : Nat}
    (ht : P.underlying t = some (.slice e)) (hc : P.cellsOf e = size) (rd : α → List Value) (ok : α → Prop)
    (hread : ∀ (fuel : Nat) (cs : List Value) (x : DataW H × List MemPlace), DataW.trod enc P w base spare held fuel e cs = some x → ∃ o : α, cs = rd o ∧ ok o)
    (h : DataW.Trod enc P w base spare held t v d p) (o : Value.okWide P w .any b0 t v) :
    ∃ A n c xs, v = .slice A n c ∧ n ≤ c ∧ ReadsRows w A n size rd xs ∧ ∀ x ∈ xs, ok x := by
  obtain ⟨A, n, c, rfl⟩ := okWide_slice ht o
  obtain ⟨fuel, hf⟩ := h
  obtain ⟨A', n', c', xs, h0, h1, h2, h3⟩ := trod_reads ht hc rd ok hread hf
  simp [Value.cells] at h0
  obtain ⟨rfl, rfl, rfl⟩ := h0
  exact ⟨A, n, c, xs, rfl, h1, h2, h3⟩
theorem ReadsRows.keeps {α : Type} {w w' : World} {A : Option Addr} {n size : Nat} {rd : α → List Value} {xs : List α} (h : ReadsRows w A n size rd xs) (hrd : ∀ o, (rd o).length = size) (hm : Below w.heap.size w w') : ReadsRows w' A n size rd xs := by
  refine ⟨h.1, h.2.1, fun i o hi => ?_⟩
  obtain ⟨a, ha, hc⟩ := h.2.2 i o hi
  refine ⟨a, ha, fun j hj => ?_⟩
  have := hc j hj
  rw [← this]
  obtain ⟨u, hu⟩ : ∃ u, (rd o)[j]? = some u := ⟨_, List.getElem?_eq_getElem (by rw [hrd]; exact hj)⟩
  exact hm.cell (World.block_lt_of_cell? w _ (this.trans hu))
theorem add_pos (x : Addr) (j : Nat) : x.add (j + 1) = ⟨x.block, x.off + (j + 1), none⟩ := by unfold Addr.add; split <;> simp_all
/-- One record's cells, as a load spells them. -/
theorem ReadsRows.row {α : Type} {w : World} {A : Option Addr} {n size : Nat} {rd : α → List Value} {xs : List α} (h : ReadsRows w A n (size + 1) rd xs) {i : Nat} {o : α} (hi : xs[i]? = some o) :
    ∃ a, A = some a ∧ w.cell? (a.add (i * (size + 1))) = (rd o)[0]? ∧ ∀ j, j < size → w.cell? ⟨(a.add (i * (size + 1))).block, (a.add (i * (size + 1))).off + (j + 1), none⟩ = (rd o)[j + 1]? := by
  obtain ⟨a, ha, hc⟩ := h.2.2 i o hi
  refine ⟨a, ha, ?_, fun j hj => ?_⟩
  · have := hc 0 (by omega)
    simpa [Addr.add] using this
  · rw [← add_pos]; exact hc (j + 1) (by omega)
theorem ReadsRows.keepsM {α : Type} {w w' : World} {S : List Nat} {A : Option Addr} {n size : Nat} {rd : α → List Value} {xs : List α} (h : ReadsRows w A n size rd xs) (hrd : ∀ o, (rd o).length = size) (hm : Mods S w w') (hS : ∀ a, A = some a → a.block ∉ S) : ReadsRows w' A n size rd xs := by
  refine ⟨h.1, h.2.1, fun i o hi => ?_⟩
  obtain ⟨a, ha, hc⟩ := h.2.2 i o hi
  refine ⟨a, ha, fun j hj => ?_⟩
  have := hc j hj
  rw [← this]
  obtain ⟨u, hu⟩ : ∃ u, (rd o)[j]? = some u := ⟨_, List.getElem?_eq_getElem (by rw [hrd]; exact hj)⟩
  have hb : ((a.add (i * size)).add j).block = a.block := by unfold Addr.add; split <;> split <;> rfl
  exact (hm.cell (this.trans hu) (by rw [hb]; exact hS a ha)).trans (this.trans hu).symm
end Go.Proofs.YtldjmacnokkjdaaDoor
