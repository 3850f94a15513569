/- A part of the library on package lyceum: Base, LawBase, Slices, Cell, CellF, CellS, CellM, CellC. -/
import Derived.Test.YtldjmacnokkjdaaDoorProg
import Derived.WalkKit
import Derived.KernelRfl
import Derived.Deep.Draws
import Derived.IntWalk
import Derived.Lib.Hide
import Derived.Deep.LoopGhost
import Derived.WalkSpells
import Derived.Conc.LoneCalls
import Derived.Conc.LoneSelect
import Derived.Conc.LoneSelectN
import Derived.Laws.Rows
import Derived.ChangeArms
import Derived.ChangeSlices
import Derived.ProofKit
import Derived.OpenShut
import Derived.Deep.Slices
import Derived.Maps.AppendAt
import Derived.Deep.AppendLies
import Derived.Deep.WholeRow
import Derived.Deep.QuietTactic
import Derived.BigQuiet
import Derived.Deep.DeepCutAuto
import Derived.Deep.CutBlock
import Derived.Deep.CutRange
import Derived.Deep.RegionHeld3
import Derived.Laws.StructEq
import Derived.Deep.RegionLaw
import Derived.Lib.SliceRun
import Derived.Lib.BufferMore
/- Words of this seat's proofs: what a call may have turned (Mods), and a walk over normal frames that takes a select in one goroutine. -/
namespace Go.Proofs.YtldjmacnokkjdaaDoor
open Go.RowKit Go.Conc

/-! ### what a call may have turned: the old blocks of S, and no other -/
structure Mods (S : List Nat) (w w' : World) : Prop where
  os : w'.os = w.os
  tape : w'.tape = w.tape
  output : w'.output = w.output
  size : w.heap.size ≤ w'.heap.size
  block : ∀ k, k < w.heap.size → k ∉ S → w'.heap[k]? = w.heap[k]?

theorem Mods.refl (S : List Nat) (w : World) : Mods S w w := ⟨rfl, rfl, rfl, Nat.le_refl _, fun _ _ _ => rfl⟩
/-- Two steps; the second may turn what the first may, and what is new. -/
theorem Mods.then {S S' : List Nat} {a b c : World} (h : Mods S a b) (k : Mods S' b c) (hs : ∀ x, x ∈ S' → x ∈ S ∨ a.heap.size ≤ x) : Mods S a c :=
  ⟨k.os.trans h.os, k.tape.trans h.tape, k.output.trans h.output, Nat.le_trans h.size k.size, fun i hi hS =>
    (k.block i (Nat.lt_of_lt_of_le hi h.size) (fun hm => by rcases hs i hm with h1 | h1; exact hS h1; omega)).trans (h.block i hi hS)⟩
theorem Mods.trans {S : List Nat} {a b c : World} (h : Mods S a b) (k : Mods S b c) : Mods S a c := h.then k (fun _ hx => .inl hx)
theorem Mods.mono {S S' : List Nat} {a b : World} (h : Mods S a b) (hs : ∀ x, x ∈ S → x ∈ S' ∨ a.heap.size ≤ x) : Mods S' a b :=
  ⟨h.os, h.tape, h.output, h.size, fun i hi hS => h.block i hi (fun hm => by rcases hs i hm with h1 | h1; exact hS h1; omega)⟩
theorem Mods.of_below {w w' : World} (h : Below w.heap.size w w') : Mods [] w w' := ⟨h.os, h.tape, h.output, h.size, fun k hk _ => h.block k hk⟩
theorem Mods.below {w w' : World} (h : Mods [] w w') : Below w.heap.size w w' := ⟨h.os, h.tape, h.output, h.size, fun k hk => h.block k hk (by simp)⟩
theorem Mods.alloc {S : List Nat} {a w : World} (h : Mods S a w) (o : Obj) : Mods S a (w.alloc o) :=
  h.then (S' := []) (.of_below ((Below.refl _ _).alloc (Nat.le_refl _) o)) (by simp)
theorem Mods.drew {S : List Nat} {a w : World} (h : Mods S a w) : Mods S a w.drew := ⟨h.os, h.tape, h.output, h.size, h.block⟩
theorem Mods.drewN {S : List Nat} {a w : World} (h : Mods S a w) (n : Nat) : Mods S a (w.drewN n) := ⟨h.os, h.tape, h.output, h.size, h.block⟩
theorem Mods.setCell {S : List Nat} {a w : World} (h : Mods S a w) (p : Addr) (u : Value) (hp : p.block ∈ S ∨ a.heap.size ≤ p.block) : Mods S a (w.setCell p u) :=
  h.then (S' := [p.block]) ⟨rfl, rfl, rfl, by simp [World.setCell], fun k _ hm => Below.heap_setCell _ _ _ _ (by simpa using hm)⟩ (by simpa using hp)
theorem Mods.setChan {S : List Nat} {a w : World} (h : Mods S a w) (c cap : Nat) (buf : Array Value) (cl : Bool) (s r : Nat) (tm : Bool) (hc : c ∈ S ∨ a.heap.size ≤ c) : Mods S a (w.setChan c cap buf cl s r tm) :=
  h.then (S' := [c]) ⟨rfl, rfl, rfl, by simp [World.setChan], fun k _ hm => by simp only [World.setChan]; rw [Array.getElem?_setIfInBounds_ne (by simpa using fun e => hm (by simp [e]))]⟩ (by simpa using hc)
theorem heap_lt {w : World} {k : Nat} {o : Obj} (h : w.heap[k]? = some o) : k < w.heap.size := (Array.getElem?_eq_some_iff.1 h).1
theorem Mods.at {S : List Nat} {w w' : World} (h : Mods S w w') {k : Nat} {o : Obj} (hk : w.heap[k]? = some o) (hS : k ∉ S) : w'.heap[k]? = some o := (h.block k (heap_lt hk) hS).trans hk
theorem Mods.cell {S : List Nat} {w w' : World} (h : Mods S w w') {a : Addr} {v : Value} (hc : w.cell? a = some v) (hS : a.block ∉ S) : w'.cell? a = some v := by
  have hb := h.block a.block (World.block_lt_of_cell? w a hc) hS
  unfold World.cell? at hc ⊢
  rw [hb]; exact hc
theorem Mods.same {S : List Nat} {w w' : World} (h : Mods S w w') {k : Nat} (hk : k < w.heap.size) (hS : k ∉ S) : w'.heap[k]? = w.heap[k]? := h.block k hk hS
theorem ne_of_heap {w : World} {a b : Nat} {o o' : Obj} (h : w.heap[a]? = some o) (h' : w.heap[b]? = some o') (hne : o ≠ o') : a ≠ b := fun e => by subst e; rw [h] at h'; exact hne (Option.some.inj h')

/-! ### a block known whole -/
theorem blk_cell {w : World} {g : Nat} {t : TypeId} {cs : Array Value} (h : w.heap[g]? = some (.cells cs t (0, 0))) (i : Nat) : w.cell? ⟨g, i, none⟩ = cs[i]? := by simp [World.cell?, h]
theorem blk_frozen {w : World} {g : Nat} {t : TypeId} {cs : Array Value} (h : w.heap[g]? = some (.cells cs t (0, 0))) (i : Nat) : w.frozen? ⟨g, i, none⟩ = false := by simp [World.frozen?, h]
theorem blk_set {w : World} {g : Nat} {t : TypeId} {cs : Array Value} (h : w.heap[g]? = some (.cells cs t (0, 0))) (i : Nat) (u : Value) : (w.setCell ⟨g, i, none⟩ u).heap[g]? = some (.cells (cs.setIfInBounds i u) t (0, 0)) := by
  simp [World.setCell, Array.getElem?_modify, h]
theorem blk_far {w : World} {g : Nat} {o : Obj} (h : w.heap[g]? = some o) (p : Addr) (hp : g ≠ p.block) (u : Value) : (w.setCell p u).heap[g]? = some o := (Below.heap_setCell w p u g hp).trans h
theorem blk_alloc {w : World} {g : Nat} {o : Obj} (h : w.heap[g]? = some o) (o' : Obj) : (w.alloc o').heap[g]? = some o := (Below.heap_alloc w o' g (heap_lt h)).trans h
theorem blk_new (w : World) (o : Obj) : (w.alloc o).heap[w.heap.size]? = some o := heap_alloc_new w o
theorem blk_new' (w : World) (o : Obj) {k : Nat} (h : k = w.heap.size) : (w.alloc o).heap[k]? = some o := by rw [h]; exact heap_alloc_new w o
theorem setChan_other (w : World) (c c' cap : Nat) (buf : Array Value) (closed : Bool) (s r : Nat) (tm : Bool) (h : c ≠ c') : (w.setChan c cap buf closed s r tm).heap[c']? = w.heap[c']? := by
  simp [World.setChan, Array.getElem?_setIfInBounds_ne h]

/-! ### the greater and the lesser of two numbers, told without a test -/
def mx (a b : Int) : Int := if a < b then b else a
def mn (a b : Int) : Int := if b < a then b else a
theorem max2_mx (k k' : IntKind) (x y : Int) : Builtin.max2 (.int k x) (.int k' y) = pure (.int k (mx x y)) := by simp only [Builtin.max2, gt_iff_lt, mx]
theorem min2_mn (k k' : IntKind) (x y : Int) : Builtin.min2 (.int k x) (.int k' y) = pure (.int k (mn x y)) := by simp only [Builtin.min2, mn]
theorem max_two (ats : Array TypeId) (ty : TypeId) (a b : Value) : Builtin.max_ ats ty #[a, b] = (Builtin.max2 a b >>= fun s => pure s) := by simp only [Builtin.max_, List.foldlM_cons, List.foldlM_nil]
theorem min_two (ats : Array TypeId) (ty : TypeId) (a b : Value) : Builtin.min_ ats ty #[a, b] = (Builtin.min2 a b >>= fun s => pure s) := by simp only [Builtin.min_, List.foldlM_cons, List.foldlM_nil]

/-! ### a mask of low bits -/
theorem i64_and_mask (n : Int) (j : Nat) (m : Int) (hj : j ≤ 62) (hm : (BitVec.ofInt 64 m).toNat = 2 ^ j - 1) : bits .and .i64 n m = n % ((2 ^ j : Nat) : Int) := by
  have hp : 2 ^ j ≤ 2 ^ 62 := Nat.pow_le_pow_right (by omega) hj
  have hd : 2 ^ j ∣ 2 ^ 64 := Nat.pow_dvd_pow 2 (by omega)
  have h0 : 0 < 2 ^ j := Nat.pow_pos (by omega)
  have key : (BitVec.ofInt 64 n &&& BitVec.ofInt 64 m).toNat = (n % ((2 ^ 64 : Nat) : Int)).toNat % 2 ^ j := by
    rw [BitVec.toNat_and, BitVec.toNat_ofInt, hm, Nat.and_two_pow_sub_one_eq_mod]
  show IntKind.i64.wrap ((BitVec.ofInt 64 n &&& BitVec.ofInt 64 m).toNat : Nat) = _
  rw [key, IntKind.wrap_i64]
  have e : (((n % ((2 ^ 64 : Nat) : Int)).toNat % 2 ^ j : Nat) : Int) = n % ((2 ^ j : Nat) : Int) := by
    rw [Int.natCast_emod, Int.toNat_of_nonneg (Int.emod_nonneg _ (by omega)), Int.emod_emod_of_dvd _ (Int.natCast_dvd_natCast.2 hd)]
  rw [e]
  have h1 := Int.emod_nonneg n (b := ((2 ^ j : Nat) : Int)) (by omega)
  have h2 := Int.emod_lt_of_pos n (b := ((2 ^ j : Nat) : Int)) (by omega)
  omega
theorem i64_and1 (n : Int) : bits .and .i64 n 1 = n % 2 := i64_and_mask n 1 1 (by omega) (by decide)
theorem i64_and7 (n : Int) : bits .and .i64 n 7 = n % 8 := i64_and_mask n 3 7 (by omega) (by decide)
theorem i64_and15 (n : Int) : bits .and .i64 n 15 = n % 16 := i64_and_mask n 4 15 (by omega) (by decide)
theorem i64_and31 (n : Int) : bits .and .i64 n 31 = n % 32 := i64_and_mask n 5 31 (by omega) (by decide)
theorem i64_and63 (n : Int) : bits .and .i64 n 63 = n % 64 := i64_and_mask n 6 63 (by omega) (by decide)
theorem i64_and1023 (n : Int) : bits .and .i64 n 1023 = n % 1024 := i64_and_mask n 10 1023 (by omega) (by decide)
theorem i64_and4095 (n : Int) : bits .and .i64 n 4095 = n % 4096 := i64_and_mask n 12 4095 (by omega) (by decide)

/-! ### a walk over a normal frame -/
def wpN (P : Program) (c : Code) (Q : Exit → Act → World → Prop) (a : Act) (w : World) : Prop :=
  ∀ (b : Frame), b.kind ≠ .early → ∀ (k : List Item) (cs : List Frame),
    ∃ e a' w', Q e a' w' ∧ Arrives P (lone (b.at a (.code c :: k)) cs w) b k cs e a' w'
theorem wpN_of_wp {P : Program} {c : Code} {Q : Exit → Act → World → Prop} {a : Act} {w : World} (h : c.wp P Q a w) : wpN P c Q a w := fun b _ k cs => h b k cs

theorem wpN_seq {P : Program} {Q : Exit → Act → World → Prop} {a : Act} {w : World} {x y : Code} (h : wpN P x (Exit.then (wpN P y Q) Q) a w) : wpN P (Code.seq x y) Q a w := by
  intro b hb k cs
  obtain ⟨e, a₁, w₁, hq, harr⟩ := h b hb (.code y :: k) cs
  cases e with
  | normal =>
    obtain ⟨e₂, a₂, w₂, hq₂, harr₂⟩ := hq b hb k cs
    exact ⟨e₂, a₂, w₂, hq₂, .of_steps (.head step_seq harr) harr₂⟩
  | exit id => exact ⟨_, a₁, w₁, hq, .of_steps (.one step_seq) (.pass (x := .code y) rfl (fun _ _ => .inl (by simp)) harr)⟩
  | goto l => exact ⟨_, a₁, w₁, hq, .of_steps (.one step_seq) (.pass (x := .code y) rfl (fun _ _ => .inl (by simp)) harr)⟩
  | ret => exact ⟨_, a₁, w₁, hq, .of_steps (.one step_seq) (.pass (x := .code y) rfl (fun _ _ => .inl (by simp)) harr)⟩
  | panic ch => exact ⟨_, a₁, w₁, hq, .of_steps (.one step_seq) (.pass (x := .code y) rfl (fun _ _ => .inl (by simp)) harr)⟩
  | outgrown => exact ⟨_, a₁, w₁, hq, .of_steps (.one step_seq) (.pass (x := .code y) rfl (fun _ _ => .inl (by simp)) harr)⟩
/-- The first part by the kit's walk; the rest stands behind a variable meanwhile. -/
theorem wpN_seq_k {P : Program} {Q : Exit → Act → World → Prop} {a : Act} {w : World} {x y : Code}
    (h : ∀ K : Act → World → Prop, (∀ a w, wpN P y Q a w → K a w) → x.wp P (Exit.then K Q) a w) : wpN P (Code.seq x y) Q a w := wpN_seq (wpN_of_wp (h _ fun _ _ h => h))
theorem calls_of_wpN {P : Program} {f : FuncId} {fn : Func} {c : Code} {args : Array Value} {w : World} {R : Ending → World → Prop}
    (hf : P.funcs[f]? = some fn) (hb : fn.body = some c)
    (h : wpN P c (bodyPost P fn R) { tmps := args ++ Array.replicate (fn.ntmps - args.size) undef, defers := [] } w) : Calls P f args w R := by
  intro cs
  let b : Frame := { (default : Frame) with fn := f, kind := .normal }
  have henter : Frame.enter P f args .normal = b.at { tmps := args ++ Array.replicate (fn.ntmps - args.size) undef, defers := [] } [.code c] := by
    simp [Frame.enter, Frame.at, hf, hb, b]
  obtain ⟨e, a', w', hq, harr⟩ := h b (by simp [b]) [] cs
  rw [← henter] at harr
  cases e with
  | normal =>
    obtain ⟨hd, v, hr, hR⟩ := hq
    exact ⟨.returned v, w', _, hR, Steps.trans harr (.one step_end), rfl, rfl, hd, rfl, fn, hf, hr⟩
  | ret =>
    obtain ⟨hd, v, hr, hR⟩ := hq
    obtain ⟨todo, hs⟩ := harr
    exact ⟨.returned v, w', _, hR, hs, rfl, rfl, hd, rfl, fn, hf, hr⟩
  | panic chain =>
    obtain ⟨hd, hR⟩ := hq
    obtain ⟨todo, hs⟩ := harr
    exact ⟨.panicked chain, w', _, hR, hs, rfl, rfl, hd, fn, hf⟩
  | exit id => exact hq.elim
  | goto l => exact hq.elim
  | outgrown => exact ⟨.outgrown, w', b, hq, harr.resolve_left (by simp [b]), rfl, trivial⟩

/-- A region that begins with a communication at which one way is open: that step, then the rest as ever. -/
theorem wpN_comm {P : Program} {Q : Exit → Act → World → Prop} {a : Act} {w w' : World} {id : Nat} {o : Oper} {l : List Oper} {cases : Array CommCase} {blocking : Bool} {shape : CommShape} {v : Value}
    (hg : o.guard = none) (hrun : (execOp a.eval o).run P w = .ok (.comm cases blocking shape) w)
    (hstep : ∀ (fr : Frame) (cs : List Frame) (es : Array Event), stepG P true (G fr cs) w = .comm (G fr cs) cases blocking shape w es → step P (solo (G fr cs) w) = .next (solo (G (fr.finish v) cs) w'))
    (h : wpList P (o :: l).toArray Q l (a.put o.dst v) w') : wpN P (Code.region id (o :: l).toArray false) Q a w := by
  intro b hb k cs
  have hr : wpOps P (o :: l).toArray Q (List.range' 1 l.length) (a.put o.dst v) w' := by
    rw [wpOps_eq_wpList l 1 (fun j => by simp [Nat.add_comm 1 j])]; exact h
  obtain ⟨e, a', w'', hq, harr⟩ := wp_ops _ _ _ hr b k cs
  refine ⟨e, a', w'', hq, .of_steps (.head step_region (.one ?_)) harr⟩
  have hl : List.range (o :: l).toArray.size = 0 :: List.range' 1 l.length := by
    rw [List.range_eq_range']; simp [List.range'_succ]
  rw [hl]
  have hs := stepG_comm (P := P) (main := true) (b := b) (a := a) (k := k) (cs := cs) (w := w) (w' := w) (ops := (o :: l).toArray) (i := 0) (rest := List.range' 1 l.length) (o := o) (cases := cases) (blocking := blocking) (shape := shape) (by simp) (by simp [Region.wanted, hg]) hb hrun
  have := hstep _ cs _ hs
  rw [Frame.finish_at] at this
  simpa [lone_eq_solo, G] using this
theorem wpN_seq_comm {P : Program} {Q : Exit → Act → World → Prop} {a : Act} {w w' : World} {id : Nat} {o : Oper} {l : List Oper} {y : Code} {cases : Array CommCase} {blocking : Bool} {shape : CommShape} {v : Value}
    (hg : o.guard = none) (hrun : (execOp a.eval o).run P w = .ok (.comm cases blocking shape) w)
    (hstep : ∀ (fr : Frame) (cs : List Frame) (es : Array Event), stepG P true (G fr cs) w = .comm (G fr cs) cases blocking shape w es → step P (solo (G fr cs) w) = .next (solo (G (fr.finish v) cs) w'))
    (h : ∀ K : Act → World → Prop, (∀ a w, wpN P y Q a w → K a w) → wpList P (o :: l).toArray (Exit.then K Q) l (a.put o.dst v) w') : wpN P (Code.seq (Code.region id (o :: l).toArray false) y) Q a w :=
  wpN_seq (wpN_comm hg hrun hstep (h _ fun _ _ h => h))
end Go.Proofs.YtldjmacnokkjdaaDoor
/- Arguments as data: how a struct that can be read lies in cells. -/
namespace Go.Proofs.YtldjmacnokkjdaaDoor
open Go.RowKit Go.ChangeShapes Go.WideShapes

section
variable {H : Type} {enc : TypeId × Value → H} {P : Program} {w : World} {base : Nat} {spare : Nat → Bool} {held : Bool}
/-- A struct's cells, field by field. -/
theorem trod_fields {t : TypeId} {fs : Array Field} {fuel : Nat} {cs : List Value} {x : DataW H × List MemPlace} (ht : P.underlying t = some (.struct fs)) (h : DataW.trod enc P w base spare held fuel t cs = some x) :
    cs.length = P.cellsOf t ∧ ∃ n, ∀ (i : Nat) (f : Field), fs[i]? = some f → ∃ y, DataW.trod enc P w base spare held n f.type ((cs.drop f.offset).take (P.cellsOf f.type)) = some y := by
  obtain ⟨xs, n, _, _, hl, hn, hf⟩ := DataW.trod_struct ht h
  refine ⟨hl, n, fun i f hi => ?_⟩
  have hlt : i < xs.length := by rw [hn]; exact (Array.getElem?_eq_some_iff.1 hi).1
  exact ⟨xs[i], by rw [hf i f hi, List.getElem?_eq_getElem hlt]⟩
theorem trod_i {t : TypeId} {k : IntKind} {fuel : Nat} {cs : List Value} {x : DataW H × List MemPlace} (ht : P.underlying t = some (.int k)) (h : DataW.trod enc P w base spare held fuel t cs = some x) : ∃ n, cs = [.int k n] ∧ (Lit.int k n).wf = true := by
  cases fuel with
  | zero => simp [DataW.trod] at h
  | succ m =>
    unfold DataW.trod at h
    rw [ht] at h
    split at h <;> simp_all
theorem trod_b {t : TypeId} {fuel : Nat} {cs : List Value} {x : DataW H × List MemPlace} (ht : P.underlying t = some .bool) (h : DataW.trod enc P w base spare held fuel t cs = some x) : ∃ b, cs = [.bool b] := by
  cases fuel with
  | zero => simp [DataW.trod] at h
  | succ m =>
    unfold DataW.trod at h
    rw [ht] at h
    split at h <;> simp_all
theorem trod_s {t : TypeId} {fuel : Nat} {cs : List Value} {x : DataW H × List MemPlace} (ht : P.underlying t = some .string) (h : DataW.trod enc P w base spare held fuel t cs = some x) : ∃ s : ByteArray, cs = [.string s] ∧ s.size ≤ maxLen := by
  cases fuel with
  | zero => simp [DataW.trod] at h
  | succ m =>
    unfold DataW.trod at h
    rw [ht] at h
    split at h <;> simp_all

/-- A slice that can be read: nil, or its elements' cells one by one. -/
theorem trod_rows {t e : TypeId} {fuel : Nat} {cs : List Value} {x : DataW H × List MemPlace} (ht : P.underlying t = some (.slice e)) (h : DataW.trod enc P w base spare held fuel t cs = some x) :
    cs = [.slice none 0 0] ∨ ∃ (a : Addr) (len cap n : Nat), cs = [.slice (some a) len cap] ∧ len ≤ cap ∧ cap ≤ maxLen ∧
      ∀ i, i < len → ∃ cs' y, cs'.length = P.cellsOf e ∧ (∀ j, j < P.cellsOf e → w.cell? ((a.add (i * P.cellsOf e)).add j) = cs'[j]?) ∧ DataW.trod enc P w base spare held n e cs' = some y := by
  rcases Go.Deep.open_slice ht h with ⟨h0, _⟩ | ⟨a, len, cap, m, n, D, Pl, hcs, hb, hl, hm, hmm, _, hx⟩
  · exact .inl h0
  · refine .inr ⟨a, len, cap, n, hcs, hl, hm, fun i hi => ?_⟩
    obtain ⟨cs', h1, h2⟩ := hx i (by rw [hmm]; split <;> omega)
    obtain ⟨_, hlen, hc⟩ := World.cells?_some h1
    exact ⟨cs', _, hlen, hc, h2⟩
end

/-- A slice of records that can be read: the records, each in its cells. -/
def ReadsRows {α : Type} (w : World) (A : Option Addr) (n size : Nat) (rd : α → List Value) (xs : List α) : Prop :=
  xs.length = n ∧ n ≤ maxLen ∧ ∀ i o, xs[i]? = some o → ∃ a, A = some a ∧ ∀ j, j < size → w.cell? ((a.add (i * size)).add j) = (rd o)[j]?
theorem trod_reads {α : Type} {H : Type} {enc : TypeId × Value → H} {P : Program} {w : World} {base : Nat} {spare : Nat → Bool} {held : Bool} {t e : TypeId} {size fuel : Nat} {cs : List Value} {x : DataW H × List MemPlace}
    (ht : P.underlying t = some (.slice e)) (hc : P.cellsOf e = size) (rd : α → List Value) (ok : α → Prop)
    (hread : ∀ (fuel : Nat) (cs : List Value) (x : DataW H × List MemPlace), DataW.trod enc P w base spare held fuel e cs = some x → ∃ o : α, cs = rd o ∧ ok o)
    (hf : DataW.trod enc P w base spare held fuel t cs = some x) :
    ∃ A n c xs, cs = [.slice A n c] ∧ n ≤ c ∧ ReadsRows w A n size rd xs ∧ ∀ x ∈ xs, ok x := by
  rcases trod_rows ht hf with h0 | ⟨a, len, cap, m, hcs, hl, hm, hx⟩
  · exact ⟨none, 0, 0, [], h0, Nat.le_refl _, ⟨rfl, by simp, fun i o h => by simp at h⟩, by simp⟩
  · rw [hc] at hx
    have key : ∀ i, i < len → ∃ o : α, (∀ j, j < size → w.cell? ((a.add (i * size)).add j) = (rd o)[j]?) ∧ ok o := by
      intro i hi
      obtain ⟨cs', y, hlen, hcell, ht⟩ := hx i hi
      obtain ⟨o, rfl, hk⟩ := hread _ _ _ ht
      exact ⟨o, hcell, hk⟩
    by_cases hn : len = 0
    · subst hn
      exact ⟨some a, 0, cap, [], hcs, hl, ⟨rfl, by simp, fun i o h => by simp at h⟩, by simp⟩
    · obtain ⟨o0, _⟩ := key 0 (by omega)
      haveI : Inhabited α := ⟨o0⟩
      obtain ⟨f, hf⟩ := Go.Deep.choose_lt key
      refine ⟨some a, len, cap, (List.range len).map f, hcs, hl, ⟨by simp, by omega, fun i o h => ⟨a, rfl, ?_⟩⟩, fun x hx => ?_⟩
      · rw [List.getElem?_map, Option.map_eq_some_iff] at h
        obtain ⟨j, hj, rfl⟩ := h
        obtain ⟨hj1, rfl⟩ := List.getElem?_eq_some_iff.1 hj
        simp at hj1 ⊢
        exact (hf i hj1).1
      · obtain ⟨j, hj, rfl⟩ := List.mem_map.1 hx
        exact (hf j (List.mem_range.1 hj)).2
theorem arg_rows {α : Type} {H : Type} {enc : TypeId × Value → H} {P : Program} {w : World} {base b0 : Nat} {spare : Nat → Bool} {held : Bool} {v : Value} {d : DataW H} {p : List MemPlace} {t e : TypeId} {size : Nat}
    (ht : P.underlying t = some (.slice e)) (hc : P.cellsOf e = size) (rd : α → List Value) (ok : α → Prop)
    (hread : ∀ (fuel : Nat) (cs : List Value) (x : DataW H × List MemPlace), DataW.trod enc P w base spare held fuel e cs = some x → ∃ o : α, cs = rd o ∧ ok o)
    (h : DataW.Trod enc P w base spare held t v d p) (o : Value.okWide P w .any b0 t v) :
    ∃ A n c xs, v = .slice A n c ∧ n ≤ c ∧ ReadsRows w A n size rd xs ∧ ∀ x ∈ xs, ok x := by
  obtain ⟨A, n, c, rfl⟩ := okWide_slice ht o
  obtain ⟨fuel, hf⟩ := h
  obtain ⟨A', n', c', xs, h0, h1, h2, h3⟩ := trod_reads ht hc rd ok hread hf
  simp [Value.cells] at h0
  obtain ⟨rfl, rfl, rfl⟩ := h0
  exact ⟨A, n, c, xs, rfl, h1, h2, h3⟩
theorem ReadsRows.keeps {α : Type} {w w' : World} {A : Option Addr} {n size : Nat} {rd : α → List Value} {xs : List α} (h : ReadsRows w A n size rd xs) (hrd : ∀ o, (rd o).length = size) (hm : Below w.heap.size w w') : ReadsRows w' A n size rd xs := by
  refine ⟨h.1, h.2.1, fun i o hi => ?_⟩
  obtain ⟨a, ha, hc⟩ := h.2.2 i o hi
  refine ⟨a, ha, fun j hj => ?_⟩
  have := hc j hj
  rw [← this]
  obtain ⟨u, hu⟩ : ∃ u, (rd o)[j]? = some u := ⟨_, List.getElem?_eq_getElem (by rw [hrd]; exact hj)⟩
  exact hm.cell (World.block_lt_of_cell? w _ (this.trans hu))
theorem add_pos (x : Addr) (j : Nat) : x.add (j + 1) = ⟨x.block, x.off + (j + 1), none⟩ := by unfold Addr.add; split <;> simp_all
/-- One record's cells, as a load spells them. -/
theorem ReadsRows.row {α : Type} {w : World} {A : Option Addr} {n size : Nat} {rd : α → List Value} {xs : List α} (h : ReadsRows w A n (size + 1) rd xs) {i : Nat} {o : α} (hi : xs[i]? = some o) :
    ∃ a, A = some a ∧ w.cell? (a.add (i * (size + 1))) = (rd o)[0]? ∧ ∀ j, j < size → w.cell? ⟨(a.add (i * (size + 1))).block, (a.add (i * (size + 1))).off + (j + 1), none⟩ = (rd o)[j + 1]? := by
  obtain ⟨a, ha, hc⟩ := h.2.2 i o hi
  refine ⟨a, ha, ?_, fun j hj => ?_⟩
  · have := hc 0 (by omega)
    simpa [Addr.add] using this
  · rw [← add_pos]; exact hc (j + 1) (by omega)
theorem ReadsRows.keepsM {α : Type} {w w' : World} {S : List Nat} {A : Option Addr} {n size : Nat} {rd : α → List Value} {xs : List α} (h : ReadsRows w A n size rd xs) (hrd : ∀ o, (rd o).length = size) (hm : Mods S w w') (hS : ∀ a, A = some a → a.block ∉ S) : ReadsRows w' A n size rd xs := by
  refine ⟨h.1, h.2.1, fun i o hi => ?_⟩
  obtain ⟨a, ha, hc⟩ := h.2.2 i o hi
  refine ⟨a, ha, fun j hj => ?_⟩
  have := hc j hj
  rw [← this]
  obtain ⟨u, hu⟩ : ∃ u, (rd o)[j]? = some u := ⟨_, List.getElem?_eq_getElem (by rw [hrd]; exact hj)⟩
  have hb : ((a.add (i * size)).add j).block = a.block := by unfold Addr.add; split <;> split <;> rfl
  exact (hm.cell (this.trans hu) (by rw [hb]; exact hS a ha)).trans (this.trans hu).symm
end Go.Proofs.YtldjmacnokkjdaaDoor
/- Slices: what one reads as, append onto one of the call's own. Over whatever program. -/
namespace Go.Proofs.YtldjmacnokkjdaaDoor
open Go.RowKit

/-- What a step of append leaves: the old blocks but the row that was appended to. -/
theorem Mods.grown {S : List Nat} {w W w1 : World} (h : Mods S w W) {row : Option Nat} (hg : W.grownBy w1 row) (hr : ∀ k, row = some k → k ∈ S ∨ w.heap.size ≤ k) : Mods S w w1 :=
  ⟨hg.os.trans h.os, hg.tape.trans h.tape, hg.output.trans h.output, Nat.le_trans h.size hg.size, fun k hk hS =>
    (hg.block k (Nat.lt_of_lt_of_le hk h.size) (fun e => by rcases hr k e.symm with h1 | h1; exact hS h1; omega)).trans (h.block k hk hS)⟩
theorem own_base {w : World} {base : Nat} {e : TypeId} {size n : Nat} {v : Value} {xs : List Value} (h : w.ownsRow base e size v n xs) (k : Nat) (hk : v.ownBlock = some k) : base ≤ k := by
  obtain ⟨_, h2⟩ := h
  rcases h2 with ⟨rfl, _⟩ | ⟨g, cap, cur, rfl, hb, _⟩
  · simp [Value.ownBlock] at hk
  · simp [Value.ownBlock] at hk; omega
theorem own_lt {w : World} {base : Nat} {e : TypeId} {size n : Nat} {v : Value} {xs : List Value} (h : w.ownsRow base e size v n xs) (k : Nat) (hk : v.ownBlock = some k) : k < w.heap.size := by
  obtain ⟨_, h2⟩ := h
  rcases h2 with ⟨rfl, _⟩ | ⟨g, cap, cur, rfl, hb, hg, _⟩
  · simp [Value.ownBlock] at hk
  · simp [Value.ownBlock] at hk; subst hk; exact heap_lt hg
theorem own_mods {w w1 : World} {S : List Nat} {base : Nat} {e : TypeId} {size n : Nat} {v : Value} {xs : List Value} (h : w.ownsRow base e size v n xs) (hm : Mods S w w1) (hne : ∀ k, v.ownBlock = some k → k ∉ S) : w1.ownsRow base e size v n xs := by
  obtain ⟨h1, h2⟩ := h
  refine ⟨h1, ?_⟩
  rcases h2 with h2 | ⟨g, cap, cur, rfl, hb, hg, r⟩
  · exact .inl h2
  · exact .inr ⟨g, cap, cur, rfl, hb, hm.at hg (hne g rfl), r⟩
theorem own_cells {w : World} {base : Nat} {e : TypeId} {size n g cap : Nat} {xs : List Value} (h : w.ownsRow base e size (.slice (some ⟨g, 0, none⟩) n cap) n xs) (j : Nat) {u : Value} (hj : xs[j]? = some u) : w.cell? ⟨g, j, none⟩ = some u := by
  obtain ⟨h1, h2⟩ := h
  rcases h2 with ⟨h2, _⟩ | ⟨g', cap', cur, hv, hb, hg, hnc, hcm, hcs, ht⟩
  · simp at h2
  · simp at hv
    obtain ⟨rfl, rfl⟩ := hv
    rw [blk_cell hg]
    have : (cur.toList.take (n * size))[j]? = some u := by rw [ht]; exact hj
    rw [List.getElem?_take] at this
    split at this
    · simpa using this
    · simp at this
theorem own_slice {w : World} {base : Nat} {e : TypeId} {size n : Nat} {v : Value} {xs : List Value} (h : w.ownsRow base e size v n xs) : (v = .slice none 0 0 ∧ n = 0) ∨ ∃ g cap, v = .slice (some ⟨g, 0, none⟩) n cap ∧ n ≤ cap ∧ cap ≤ maxLen := by
  obtain ⟨h1, h2⟩ := h
  rcases h2 with h2 | ⟨g', cap', cur, hv, hb, hg, hnc, hcm, _⟩
  · exact .inl h2
  · exact .inr ⟨g', cap', hv, hnc, hcm⟩
theorem own_slice' {w : World} {base : Nat} {e : TypeId} {size n : Nat} {v : Value} {xs : List Value} (h : w.ownsRow base e size v n xs) : ∃ A cap, v = .slice A n cap ∧ n ≤ cap ∧ cap ≤ maxLen ∧ (0 < n → ∃ g, A = some ⟨g, 0, none⟩) := by
  rcases own_slice h with ⟨rfl, rfl⟩ | ⟨g, cap, rfl, h1, h2⟩
  · exact ⟨none, 0, rfl, by omega, by unfold maxLen; omega, by omega⟩
  · exact ⟨_, cap, rfl, h1, h2, fun _ => ⟨g, rfl⟩⟩
theorem own_nil (w : World) (base : Nat) (e : TypeId) (size : Nat) : w.ownsRow base e size (.slice none 0 0) 0 [] := ⟨by simp, .inl ⟨rfl, rfl⟩⟩
/-- The block that was made, behind a call that turned none of the old ones. -/
theorem kept_cells {w w1 : World} {cs : Array Value} {t : TypeId} (hm : Mods [] (w.alloc (.cells cs t)) w1) : ∀ i, w1.cell? ⟨w.heap.size, i, none⟩ = cs[i]? := fun i => blk_cell (hm.at (blk_new w _) (by simp)) i

section
variable {P : Program} {ops : Array Oper} {Q : Exit → Act → World → Prop} {a : Act} {rest : List Oper} {o : Oper}
/-- 's = append(s, x)' of one element, s of the call's own. -/
theorem append_one {w W : World} {S : List Nat} (base : Nat) (hgd : o.guard = none) (s x : Operand) (t e : TypeId) (z : Value) (size bytes : Nat)
    (ho : o.op = .call { callee := .builtin .append, args := #[s, x], argTypes := #[t, t] })
    (ht : P.underlying t = some (.slice e)) (hinfo : (P.info? e).map (fun i => (i.zero, i.size, i.bytes)) = some (some z, size, bytes)) (hz : z.cells.size = size) (hs0 : 0 < size) (hb0 : 0 < bytes)
    (v : Value) (n : Nat) (xs ys : List Value) (hs : a.eval s = v) (hx : a.eval x = .slice (some ⟨W.heap.size, 0, none⟩) 1 1) (hys : ys.length = size) (h1 : ∀ u ∈ ys, u.oneCell' = true)
    (HO : W.ownsRow base e size v n xs) (HB : Mods S w W) (hbase : base ≤ W.heap.size) (hwb : w.heap.size ≤ base) (hl : (n + 1) * bytes ≤ 140737488355328)
    (h : ∀ v1 w1, w1.ownsRow base e size v1 (n + 1) (xs ++ ys) → Mods S w w1 → W.grownBy w1 v.ownBlock → (v1.ownBlock = v.ownBlock ∨ ∃ b, v1.ownBlock = some b ∧ W.heap.size ≤ b) → wpList P ops Q rest (a.put o.dst v1) w1) :
    wpList P ops Q (o :: rest) a (W.alloc (.cells ys.toArray e)) := by
  obtain ⟨i0, hi, hzz⟩ := Option.map_eq_some_iff.1 hinfo
  simp only [Prod.mk.injEq] at hzz
  obtain ⟨hz0, hz1, hz2⟩ := hzz
  have hlen : n + 1 ≤ 140737488355328 := Nat.le_trans (Nat.le_mul_of_pos_right _ hb0) hl
  refine wpList_append_own_at (W.alloc (.cells ys.toArray e)) hgd s x t ho base e i0 z size bytes ht hi hz0 hz1 hz2 hz hs0 v n xs hs (HO.alloc _) ⟨W.heap.size, 0, none⟩ 1 1 ys hx (by rw [hys]; simp)
    (by simpa using World.news_of_block (cs := ys.toArray) (t := e) (fr := (0, 0)) (heap_alloc_new W (.cells ys.toArray e))) h1 (by simp only [maxLen]; omega) hl (by simp; omega) ?_
  intro v1 w1 hown hg _ hat
  refine h v1 w1 hown ((HB.alloc _).grown hg (fun k hk => .inr (Nat.le_trans hwb (own_base HO k hk)))) (World.grownBy.trans (World.grownBy_alloc W _ _) hg) ?_
  rcases hat with hat | hat
  · exact .inl hat
  · exact .inr ⟨_, hat, by simp⟩
/-- 's = append(s, l...)', s of the call's own, l any that can be read. -/
theorem append_src {w W : World} {S : List Nat} (base : Nat) (hgd : o.guard = none) (s x : Operand) (t e : TypeId) (z : Value) (size bytes : Nat)
    (ho : o.op = .call { callee := .builtin .append, args := #[s, x], argTypes := #[t, t] })
    (ht : P.underlying t = some (.slice e)) (hinfo : (P.info? e).map (fun i => (i.zero, i.size, i.bytes)) = some (some z, size, bytes)) (hz : z.cells.size = size) (hs0 : 0 < size) (hb0 : 0 < bytes)
    (v : Value) (n : Nat) (xs : List Value) (ad : Addr) (m c : Nat) (ys : List Value) (hs : a.eval s = v) (hx : a.eval x = .slice (some ad) m c) (hys : ys.length = m * size) (hnews : ∀ j u, ys[j]? = some u → W.cell? (ad.add j) = some u) (h1 : ∀ u ∈ ys, u.oneCell' = true)
    (HO : W.ownsRow base e size v n xs) (HB : Mods S w W) (hbase : base ≤ W.heap.size) (hwb : w.heap.size ≤ base) (hl : (n + m) * bytes ≤ 140737488355328)
    (h : ∀ v1 w1, w1.ownsRow base e size v1 (n + m) (xs ++ ys) → Mods S w w1 → W.grownBy w1 v.ownBlock → (v1.ownBlock = v.ownBlock ∨ ∃ b, v1.ownBlock = some b ∧ W.heap.size ≤ b) → wpList P ops Q rest (a.put o.dst v1) w1) :
    wpList P ops Q (o :: rest) a W := by
  obtain ⟨i0, hi, hzz⟩ := Option.map_eq_some_iff.1 hinfo
  simp only [Prod.mk.injEq] at hzz
  obtain ⟨hz0, hz1, hz2⟩ := hzz
  have hlen : n + m ≤ 140737488355328 := Nat.le_trans (Nat.le_mul_of_pos_right _ hb0) hl
  refine wpList_append_own_at W hgd s x t ho base e i0 z size bytes ht hi hz0 hz1 hz2 hz hs0 v n xs hs HO ad m c ys hx hys hnews h1 (by simp only [maxLen]; omega) hl hbase ?_
  intro v1 w1 hown hg _ hat
  refine h v1 w1 hown (HB.grown hg (fun k hk => .inr (Nat.le_trans hwb (own_base HO k hk)))) hg ?_
  rcases hat with hat | hat
  · exact .inl hat
  · exact .inr ⟨_, hat, Nat.le_refl _⟩
/-- A whole struct or array into the block that was made last. -/
theorem store_new {w0 : World} {c c' : Array Value} {t : TypeId} {p x : Operand} (hgd : o.guard = none) (ho : o.op = .store t p x)
    (hp : a.eval p = .pointer (some ⟨w0.heap.size, 0, none⟩)) (hx : a.eval x = .agg c') (hi : (P.info? t).map (·.size) = some c'.size) (hs : c.size = c'.size) (h1 : c'.all (·.oneCell') = true)
    (h : wpList P ops Q rest (a.put o.dst undef) (w0.alloc (.cells c' t))) : wpList P ops Q (o :: rest) a (w0.alloc (.cells c t)) := by
  refine wpList_plain hgd fun K' hK' => ?_
  have hrun := run_storeAt_new (P := P) w0 t c c' hi hs h1
  unfold Oper.wp
  simp [execOp, ho, hp, hx, hrun, Result.andThen]
  exact hK' _ _ h
end
end Go.Proofs.YtldjmacnokkjdaaDoor
/- Layers 4 and 5 as data: how wide a character is, what cells may be; and what the functions of packages runes and cell do. -/
namespace Go.Proofs.YtldjmacnokkjdaaDoor
open Go.RowKit
set_option linter.unusedVariables false
set_option linter.unusedSimpArgs false

/-! ### as data -/
structure Cell where
  r : Int
  fg : Int
  bg : Int
  attr : Fin 256
deriving DecidableEq
def Cell.vals (c : Cell) : List Value := [.int .i32 c.r, .int .u8 c.fg, .int .u8 c.bg, .int .u8 (c.attr.val : Int)]
@[reducible] def Cell.val (c : Cell) : Value := .agg #[.int .i32 c.r, .int .u8 c.fg, .int .u8 c.bg, .int .u8 (c.attr.val : Int)]
def inSpans (r : Int) (l : List (Int × Int)) : Bool := l.any fun p => decide (p.1 ≤ r) && decide (r ≤ p.2)
def noneSpans : List (Int × Int) := [(0, 31), (127, 159), (768, 879), (8203, 8207), (65024, 65039)]
def wideSpans : List (Int × Int) := [(4352, 4447), (11904, 12350), (12353, 42191), (44032, 55203), (63744, 64255), (65072, 65135), (65281, 65376), (65504, 65510), (127744, 128591), (129280, 129535), (131072, 262141)]
def validRune (r : Int) : Bool := (decide (0 ≤ r) && decide (r < 55296)) || (decide (57343 < r) && decide (r ≤ 1114111))
def width (r : Int) : Int := if !validRune r || inSpans r noneSpans then 0 else if inSpans r wideSpans then 2 else 1
def wideA (a : Fin 256) : Bool := decide (a.val / 64 % 2 = 1)
def tailA (a : Fin 256) : Bool := decide (128 ≤ a.val)
def Cell.wide (c : Cell) : Bool := wideA c.attr
def Cell.tail (c : Cell) : Bool := tailA c.attr
def Cell.ok (c : Cell) : Bool := if c.tail then !c.wide && decide (c.r = 0) else if c.wide then decide (width c.r = 2) else decide (width c.r = 1)
def tailOf (a : Fin 256) : Fin 256 := ⟨a.val % 64 + 128, by omega⟩
def Cell.behind (c : Cell) : Cell := ⟨0, c.fg, c.bg, tailOf c.attr⟩

theorem and64 (a : Fin 256) : bits .and .u8 (a.val : Int) 64 = if wideA a then 64 else 0 := by revert a; decide +kernel
theorem and128 (a : Fin 256) : bits .and .u8 (a.val : Int) 128 = if tailA a then 128 else 0 := by revert a; decide +kernel
theorem and63or128 (a : Fin 256) : bits .or .u8 (bits .and .u8 (a.val : Int) 63) 128 = ((tailOf a).val : Int) := by revert a; decide +kernel

/-! ### package runes -/
theorem utf8_ValidRune (w : World) (r : Int) : Calls Tryd.prog 91 #[.int .i32 r] w fun e w' => e = .returned (.bool (validRune r)) ∧ w = w' := by
  unfold validRune
  by_cases h1 : 0 ≤ r <;> by_cases h2 : r < 55296 <;> by_cases h3 : 57343 < r <;> by_cases h4 : r ≤ 1114111
  all_goals first
    | (exfalso; omega)
    | (go_enter Tryd.func91, Tryd.ntmps91
       go_wp2
       go_ret
       simp [h1, h2, h3, h4])

def InRel (w : World) (r : Int) (l : List (Int × Int)) (n : Nat) (kk : Nat) (i9 : Value) (wr : World) : Prop :=
  ∃ i : Nat, i9 = .int .i64 i ∧ i ≤ n ∧ inSpans r l = inSpans r (l.drop i) ∧ Mods [] w wr ∧ kk + i = n

def spanVals (p : Int × Int) : List Value := [.int .i32 p.1, .int .i32 p.2]
set_option maxHeartbeats 1000000 in
theorem runes_in (w : World) (r : Int) (A : Option Addr) (n cap : Nat) (l : List (Int × Int)) (h : ReadsRows w A n 2 spanVals l) (hsm : n ≤ 100) :
    Calls Tryd.prog 92 #[.int .i32 r, .slice A n cap] w fun e w' => e = .returned (.bool (inSpans r l)) ∧ Mods [] w w' := by
  have HO := Lib.hid h
  have hln := h.1
  have HLN := Lib.hid hln
  clear h hln
  go_enter Tryd.func92, Tryd.ntmps92
  go_wp2
  go_loopg [9] n (InRel w r l n)
  case atStart => exact ⟨0, rfl, by omega, by rw [List.drop_zero], Mods.refl _ _, by omega⟩
  case round =>
    obtain ⟨i, rfl, hi, hin, hM, hkk⟩ := hrel
    have HIN := Lib.hid hin
    have HKK := Lib.hid hkk
    clear hin hkk
    by_cases hlt : i < n
    · obtain ⟨p, hp⟩ : ∃ p, l[i]? = some p := ⟨_, List.getElem?_eq_getElem (by rw [HLN.out]; exact hlt)⟩
      obtain ⟨a, rfl, c0, hc⟩ := ((HO.out.keepsM (fun _ => rfl) hM (by simp)).row hp)
      have c1 := hc 0 (by omega)
      simp only [spanVals] at c0 c1
      clear hc
      have HD := Lib.hid (show l.drop i = p :: l.drop (i + 1) by rw [List.drop_eq_getElem?_toList_append, hp]; rfl)
      have HP := Lib.hid hp
      clear hp
      obtain ⟨x, y⟩ := p
      have hM2 := hM.alloc (.cells #[Value.int .i32 x, Value.int .i32 y] 124)
      have hk2 := HKK.out
      by_cases h1 : x ≤ r
      · by_cases h2 : r ≤ y
        · go_wp2
          go_ret
          refine ⟨?_, hM2⟩
          rw [HIN.out, HD.out]
          simp [inSpans, h1, h2]
        · go_wp2
          go_roundg (gk - 1)
          case measure => omega
          case rel => exact ⟨i + 1, by go_num, by omega, by rw [HIN.out, HD.out]; simp [inSpans]; intro _ _; omega, hM2, by omega⟩
      · go_wp2
        go_roundg (gk - 1)
        case measure => omega
        case rel => exact ⟨i + 1, by go_num, by omega, by rw [HIN.out, HD.out]; simp [inSpans]; intro _ _; omega, hM2, by omega⟩
    · go_wp2
      go_ret
      refine ⟨?_, hM⟩
      rw [HIN.out, List.drop_of_length_le (by rw [HLN.out]; omega)]
      rfl

/-- A row of pairs that lies in a block from its beginning. -/
theorem rows_of_block {α : Type} {w : World} {g : Nat} {cs : Array Value} {t : TypeId} {fr : Nat × Nat} {size : Nat} {rd : α → List Value} {xs : List α} (h : w.heap[g]? = some (.cells cs t fr)) (hsz : 0 < size) (hrd : ∀ o, (rd o).length = size) (hcs : cs.toList = xs.flatMap rd) (hm : xs.length ≤ maxLen) : ReadsRows w (some ⟨g, 0, none⟩) xs.length size rd xs := by
  refine ⟨rfl, hm, fun i o hi => ⟨_, rfl, fun j hj => ?_⟩⟩
  have e : ((Addr.mk g 0 none).add (i * size)).add j = ⟨g, i * size + j, none⟩ := by
    unfold Addr.add
    simp
    split <;> simp_all <;> split <;> simp_all
  rw [e]; simp only [World.cell?, h, Option.isSome_none, Bool.false_eq_true, if_false]
  have e2 : cs[i * size + j]? = (xs.flatMap rd)[i * size + j]? := by rw [← hcs]; simp
  rw [e2]
  clear e e2 h hcs hm
  induction xs generalizing i with
  | nil => simp at hi
  | cons x xs ih =>
    cases i with
    | zero =>
      simp at hi
      subst hi
      rw [List.flatMap_cons, Nat.zero_mul, Nat.zero_add, List.getElem?_append_left (by rw [hrd]; exact hj)]
    | succ i =>
      rw [List.flatMap_cons, List.getElem?_append_right (by rw [hrd]; rw [Nat.add_mul]; omega), hrd]
      have e : (i + 1) * size + j - size = i * size + j := by rw [Nat.add_mul]; omega
      rw [e]
      exact ih i (by simpa using hi)
def noneArr : Array Value := (noneSpans.flatMap spanVals).toArray
def wideArr : Array Value := (wideSpans.flatMap spanVals).toArray
set_option maxRecDepth 4000 in
set_option maxHeartbeats 1000000 in
theorem runes_Width (w : World) (r : Int) : Calls Tryd.prog 77 #[.int .i32 r] w fun e w' => e = .returned (.int .i64 (width r)) ∧ Mods [] w w' := by
  have R1 := rows_of_block (size := 2) (rd := spanVals) (xs := noneSpans) (blk_alloc (blk_new w (.cells noneArr 125)) (.cells wideArr 126)) (by omega) (fun _ => rfl) rfl (by unfold maxLen; decide)
  have R2 := rows_of_block (size := 2) (rd := spanVals) (xs := wideSpans) (blk_new (w.alloc (.cells noneArr 125)) (.cells wideArr 126)) (by omega) (fun _ => rfl) rfl (by unfold maxLen; decide)
  have HR1 := Lib.hid R1
  rw [show (w.alloc (.cells noneArr 125)).heap.size = w.heap.size + 1 by simp] at R2
  have HR2 := Lib.hid R2
  clear R1 R2
  have hM0 : Mods [] w ((w.alloc (.cells noneArr 125)).alloc (.cells wideArr 126)) := ((Mods.refl _ _).alloc _).alloc _
  have tokA : True := trivial
  have hw : width r = if !validRune r || inSpans r noneSpans then 0 else if inSpans r wideSpans then 2 else 1 := rfl
  have HW := Lib.hid hw
  clear hw
  go_enter Tryd.func77, Tryd.ntmps77
  go_wp2_with (first
    | (refine store_new (p := .tmp 3) (x := .tmp 10) (c' := noneArr) ?_ ?_ ?_ ?_ ?_ ?_ ?_ ?_; (focus rfl); (focus rfl); (focus rfl); (focus rfl); (focus kernel_rfl); (focus rfl); (focus kernel_rfl))
    | (refine store_new (p := .tmp 4) (x := .tmp 22) (c' := wideArr) ?_ ?_ ?_ ?_ ?_ ?_ ?_ ?_; (focus rfl); (focus rfl); go_must ((focus (show Value.pointer (some ⟨w.heap.size + 1, 0, none⟩) = _; rw [show (w.alloc (.cells noneArr 125)).heap.size = w.heap.size + 1 by simp])); (focus rfl); (focus kernel_rfl); (focus rfl); (focus kernel_rfl)))
    | (go_at_call 91; go_must (refine (utf8_ValidRune _ r).mono ?_); rintro e w1 ⟨rfl, rfl⟩; cases hv : validRune r)
    | (go_at_call 92; have _t := tokA; (refine (runes_in _ r _ _ _ noneSpans HR1.out (by decide)).mono ?_); clear tokA _t; have tokB : True := trivial; rintro e w2 ⟨rfl, hm2⟩; cases hn : inSpans r noneSpans)
    | (go_at_call 92; have _t := tokB; go_must (refine (runes_in _ r _ _ _ wideSpans (HR2.out.keepsM (fun _ => rfl) hm2 (by simp)) (by decide)).mono ?_); clear tokB _t; rintro e w3 ⟨rfl, hm3⟩; cases hx : inSpans r wideSpans))
  all_goals
    go_ret
    refine ⟨by rw [HW.out]; simp [*], ?_⟩
    first
      | exact (hM0.trans hm2).trans hm3
      | exact hM0.trans hm2
      | exact hM0
end Go.Proofs.YtldjmacnokkjdaaDoor
/- What the functions of package cell do with one cell. -/
namespace Go.Proofs.YtldjmacnokkjdaaDoor
open Go.RowKit
set_option linter.unusedVariables false
set_option linter.unusedSimpArgs false

theorem cell_wide (w : World) (c : Cell) : Calls Tryd.prog 76 #[c.val] w fun e w' => e = .returned (.bool c.wide) ∧ Mods [] w w' := by
  obtain ⟨r, fg, bg, a⟩ := c
  have hb := and64 a
  have hM := (Mods.refl [] w).alloc (.cells #[Value.int .i32 r, Value.int .u8 fg, Value.int .u8 bg, Value.int .u8 (a.val : Int)] 27)
  cases hw : wideA a
  all_goals
    rw [hw] at hb
    simp only [Bool.false_eq_true, if_false, if_true] at hb
    have HW := Lib.hid hw
    clear hw
    go_enter Tryd.func76, Tryd.ntmps76
    go_wp2
    go_ret
    exact ⟨by simp [Cell.wide, HW.out], hM⟩
theorem cell_tail (w : World) (c : Cell) : Calls Tryd.prog 63 #[c.val] w fun e w' => e = .returned (.bool c.tail) ∧ Mods [] w w' := by
  obtain ⟨r, fg, bg, a⟩ := c
  have hb := and128 a
  have hM := (Mods.refl [] w).alloc (.cells #[Value.int .i32 r, Value.int .u8 fg, Value.int .u8 bg, Value.int .u8 (a.val : Int)] 27)
  cases hw : tailA a
  all_goals
    rw [hw] at hb
    simp only [Bool.false_eq_true, if_false, if_true] at hb
    have HW := Lib.hid hw
    clear hw
    go_enter Tryd.func63, Tryd.ntmps63
    go_wp2
    go_ret
    exact ⟨by simp [Cell.tail, HW.out], hM⟩
theorem or128 (a : Fin 256) : bits .or .u8 ((a.val : Int) % 64) 128 = ((tailOf a).val : Int) := by revert a; decide +kernel
theorem cell_behind (w : World) (c : Cell) : Calls Tryd.prog 84 #[c.val] w fun e w' => e = .returned c.behind.val ∧ Mods [] w w' := by
  obtain ⟨r, fg, bg, a⟩ := c
  have hb := or128 a
  go_enter Tryd.func84, Tryd.ntmps84
  go_wp2
  exact bodyPost_ret (v := (Cell.mk 0 fg bg (tailOf a)).val) (by simp [results, Tryd.results84, go_sem]) rfl ⟨rfl, ((Mods.refl _ _).alloc _).alloc _⟩
theorem cell_Check (w : World) (c : Cell) : Calls Tryd.prog 62 #[c.val] w fun e w' => e = .returned (.bool c.ok) ∧ Mods [] w w' := by
  obtain ⟨r, fg, bg, a⟩ := c
  have hM := (Mods.refl [] w).alloc (.cells #[Value.int .i32 r, Value.int .u8 fg, Value.int .u8 bg, Value.int .u8 (a.val : Int)] 27)
  have T0 : ∀ w, Calls Tryd.prog 63 #[.agg #[.int .i32 r, .int .u8 fg, .int .u8 bg, .int .u8 (a.val : Int)]] w fun e w' => e = .returned (.bool (tailA a)) ∧ Mods [] w w' := fun w => cell_tail w ⟨r, fg, bg, a⟩
  have W0 : ∀ w, Calls Tryd.prog 76 #[.agg #[.int .i32 r, .int .u8 fg, .int .u8 bg, .int .u8 (a.val : Int)]] w fun e w' => e = .returned (.bool (wideA a)) ∧ Mods [] w w' := fun w => cell_wide w ⟨r, fg, bg, a⟩
  have T1 := Lib.hid T0
  have W1 := Lib.hid W0
  clear T0 W0
  have VW : Cell.ok ⟨r, fg, bg, a⟩ = if tailA a then !wideA a && decide (r = 0) else if wideA a then decide (width r = 2) else decide (width r = 1) := rfl
  have HV := Lib.hid VW
  clear VW
  cases hw : wideA a <;> cases ht : tailA a
  all_goals
    rw [hw, ht] at HV
    rw [hw] at W1
    rw [ht] at T1
    clear hw ht
    go_enter Tryd.func62, Tryd.ntmps62
    have hX := Mods.refl [] (w.alloc (.cells #[Value.int .i32 r, Value.int .u8 fg, Value.int .u8 bg, Value.int .u8 (a.val : Int)] 27))
    go_wp2_with (first
      | (go_at_call 63; go_must (refine (T1.out _).mono ?_); rintro e w1 ⟨rfl, hm⟩; have hY := hX.trans hm; clear hX hm; have hX := hY; clear hY; have C := kept_cells hX)
      | (go_at_call 76; go_must (refine (W1.out _).mono ?_); rintro e w1 ⟨rfl, hm⟩; have hY := hX.trans hm; clear hX hm; have hX := hY; clear hY; have C := kept_cells hX)
      | (go_at_call 77; go_must (refine (runes_Width _ r).mono ?_); rintro e w1 ⟨rfl, hm⟩; have hY := hX.trans hm; clear hX hm; have hX := hY; clear hY; have C := kept_cells hX))
    all_goals
      go_ret
      exact ⟨by rw [HV.out]; first | (simp [*]; done) | (simp [*]; rfl), hM.trans hX⟩
end Go.Proofs.YtldjmacnokkjdaaDoor
/- How many places are taken by what stands at one. -/
namespace Go.Proofs.YtldjmacnokkjdaaDoor
open Go.RowKit
set_option linter.unusedVariables false
set_option linter.unusedSimpArgs false

theorem run_eql_cell (W : World) (c d : Cell) : (binOp .eql 27 c.val d.val).run Tryd.prog W = .ok (.bool (decide (c = d))) W := by
  have u1 : Tryd.prog.underlying 27 = some (.struct (Tryd.prog.fieldsOf 27)) := by kernel_rfl
  have u2 : Tryd.prog.stoodInHeld 27 = false := by kernel_rfl
  have u3 : (Tryd.prog.fieldsOf 27).toList = [{ name := "R", type := 21, offset := 0, embedded := false, tag := "", pkgPath := "", byteOffset := 0 }, { name := "Fg", type := 5, offset := 1, embedded := false, tag := "", pkgPath := "", byteOffset := 4 }, { name := "Bg", type := 5, offset := 2, embedded := false, tag := "", pkgPath := "", byteOffset := 5 }, { name := "Attr", type := 5, offset := 3, embedded := false, tag := "", pkgPath := "", byteOffset := 6 }] := by kernel_rfl
  obtain ⟨r, fg, bg, a⟩ := c
  obtain ⟨r', fg', bg', a'⟩ := d
  simp only [Cell.val]
  rw [run_eql_struct, show (10000 : Nat) = 9999 + 1 from rfl, run_equalIn_agg _ _ _ _ _ u1 u2, u3]
  have v1 := Tryd.underlying21
  have v2 := Tryd.underlying5
  simp [go_sem]
  have ha : ((a.val : Int) = (a'.val : Int)) ↔ a = a' := by rw [Fin.ext_iff]; omega
  by_cases h1 : r = r' <;> by_cases h2 : fg = fg' <;> by_cases h3 : bg = bg' <;> by_cases h4 : a = a' <;> simp [h1, h2, h3, h4, ha]

def sizeC : List Cell → Nat
  | [] => 0
  | c :: rest => if !c.ok || c.tail then 0 else if !c.wide then 1 else if rest.head? = some c.behind then 2 else 0

set_option maxHeartbeats 1000000 in
theorem cell_size (w : World) (A : Option Addr) (n cap i : Nat) (row : List Cell) (h : ReadsRows w A n 4 Cell.vals row) (hi : i < n) :
    Calls Tryd.prog 66 #[.slice A n cap, .int .i64 i] w fun e w' => e = .returned (.int .i64 (sizeC (row.drop i))) ∧ Mods [] w w' := by
  have hn := h.2.1
  unfold maxLen at hn
  have hl := h.1
  obtain ⟨c, hc⟩ : ∃ c, row[i]? = some c := ⟨_, List.getElem?_eq_getElem (by rw [hl]; exact hi)⟩
  obtain ⟨a, rfl, c0, hcs⟩ := h.row hc
  have c1 := hcs 0 (by omega)
  have c2 := hcs 1 (by omega)
  have c3 := hcs 2 (by omega)
  clear hcs
  have hd : row.drop i = c :: row.drop (i + 1) := by rw [List.drop_eq_getElem?_toList_append, hc]; rfl
  have hsz : sizeC (row.drop i) = if !c.ok || c.tail then 0 else if !c.wide then 1 else if row[i + 1]? = some c.behind then 2 else 0 := by
    rw [hd]; simp [sizeC]
  have HSZ := Lib.hid hsz
  have HH := Lib.hid h
  have HC := Lib.hid hc
  have HL := Lib.hid hl
  clear hd hsz h hc hl
  have K0 : ∀ w, Calls Tryd.prog 62 #[c.val] w fun e w' => e = .returned (.bool c.ok) ∧ Mods [] w w' := fun w => cell_Check w c
  have T0 : ∀ w, Calls Tryd.prog 63 #[c.val] w fun e w' => e = .returned (.bool c.tail) ∧ Mods [] w w' := fun w => cell_tail w c
  have W0 : ∀ w, Calls Tryd.prog 76 #[c.val] w fun e w' => e = .returned (.bool c.wide) ∧ Mods [] w w' := fun w => cell_wide w c
  have B0 : ∀ w, Calls Tryd.prog 84 #[c.val] w fun e w' => e = .returned c.behind.val ∧ Mods [] w w' := fun w => cell_behind w c
  have K1 := Lib.hid K0
  have T1 := Lib.hid T0
  have W1 := Lib.hid W0
  have B1 := Lib.hid B0
  clear K0 T0 W0 B0
  have hX := Mods.refl [] (w.alloc (.cells c.vals.toArray 27))
  have hM := (Mods.refl [] w).alloc (.cells c.vals.toArray 27)
  have C := kept_cells hX
  obtain ⟨r, fg, bg, at'⟩ := c
  simp only [Cell.vals, Cell.val] at c0 c1 c2 c3 hX C hM K1 T1 W1
  cases hk : Cell.ok ⟨r, fg, bg, at'⟩ <;> cases ht : Cell.tail ⟨r, fg, bg, at'⟩ <;> cases hw : Cell.wide ⟨r, fg, bg, at'⟩
  all_goals
    rw [hk, ht, hw] at HSZ
    rw [hk] at K1
    rw [ht] at T1
    rw [hw] at W1
    clear hk ht hw
    go_enter Tryd.func66, Tryd.ntmps66
    go_upto_region 6 with (first
      | (go_at_call 62; go_must (refine (K1.out _).mono ?_); rintro e w1 ⟨rfl, hm⟩; have hY := hX.trans hm; clear hX hm; have hX := hY; clear hY; have C := kept_cells hX)
      | (go_at_call 63; go_must (refine (T1.out _).mono ?_); rintro e w1 ⟨rfl, hm⟩; have hY := hX.trans hm; clear hX hm; have hX := hY; clear hY; have C := kept_cells hX)
      | (go_at_call 76; go_must (refine (W1.out _).mono ?_); rintro e w1 ⟨rfl, hm⟩; have hY := hX.trans hm; clear hX hm; have hX := hY; clear hY; have C := kept_cells hX))
    try
      go_ret
      exact ⟨by rw [HSZ.out]; rfl, hM.trans hX⟩
  have hXs := hX.size
  simp only [World.size_alloc] at hXs
  clear K1 T1 W1
  by_cases h1 : i + 1 < n
  · obtain ⟨d, hd⟩ : ∃ d, row[i + 1]? = some d := ⟨_, List.getElem?_eq_getElem (by rw [HL.out]; exact h1)⟩
    have hX0 := hM.trans hX
    have hr1 := HH.out.keepsM (fun _ => rfl) hX0 (by simp)
    obtain ⟨a', ha', d0, hcs⟩ := hr1.row hd
    simp only [Option.some.injEq] at ha'
    subst ha'
    have d1 := hcs 0 (by omega)
    have d2 := hcs 1 (by omega)
    have d3 := hcs 2 (by omega)
    clear hcs hr1
    rw [hd] at HSZ
    clear hd HH HC HL c0 c1 c2 c3
    obtain ⟨dr, df, db, da⟩ := d
    simp only [Cell.vals, List.getElem?_cons_zero, List.getElem?_cons_succ] at d0 d1 d2 d3
    have l0 := C 0
    have l1 := C 1
    have l2 := C 2
    have l3 := C 3
    simp only [List.getElem?_toArray, List.getElem?_cons_zero, List.getElem?_cons_succ] at l0 l1 l2 l3
    have e1 : IntKind.i64.wrap ((i : Int) + 1) = (i : Int) + 1 := IntWalk.i64_in _ (by omega)
    have e2 : ((i : Int) + 1).toNat = i + 1 := by omega
    have e3 : (0 : Int) ≤ (i : Int) + 1 := by omega
    have e4 : (i : Int) + 1 < (n : Int) := by omega
    clear C
    have hcase : (dr = 0 ∧ df = fg ∧ db = bg ∧ da = tailOf at') ∨ dr ≠ 0 ∨ (dr = 0 ∧ df ≠ fg) ∨ (dr = 0 ∧ df = fg ∧ db ≠ bg) ∨ (dr = 0 ∧ df = fg ∧ db = bg ∧ da ≠ tailOf at') := by
      by_cases q1 : dr = 0 <;> by_cases q2 : df = fg <;> by_cases q3 : db = bg <;> by_cases q4 : da = tailOf at' <;> simp [q1, q2, q3, q4]
    have hrow : sizeC (row.drop i) = if (dr = 0 ∧ df = fg ∧ db = bg ∧ da = tailOf at') then 2 else 0 := by
      rw [HSZ.out]; simp [Cell.behind]
    have HROW := Lib.hid hrow
    have hfin : ((da.val : Int) = ((tailOf at').val : Int)) ↔ da = tailOf at' := by rw [Fin.ext_iff]; omega
    clear hrow HSZ
    simp only [Cell.behind, Cell.val] at B1
    have hX2 := hM.trans hX
    rcases hcase with ⟨q1, q2, q3, q4⟩ | q1 | ⟨q1, q2⟩ | ⟨q1, q2, q3⟩ | ⟨q1, q2, q3, q4⟩
    all_goals
      try have q5 := mt hfin.1 q4
      clear hfin
      go_region_held3 (fun W => (W.cell? (a.add ((i + 1) * (3 + 1))) = some (.int .i32 dr) ∧ W.cell? ⟨(a.add ((i + 1) * (3 + 1))).block, (a.add ((i + 1) * (3 + 1))).off + (0 + 1), none⟩ = some (.int .u8 df) ∧ W.cell? ⟨(a.add ((i + 1) * (3 + 1))).block, (a.add ((i + 1) * (3 + 1))).off + (1 + 1), none⟩ = some (.int .u8 db) ∧ W.cell? ⟨(a.add ((i + 1) * (3 + 1))).block, (a.add ((i + 1) * (3 + 1))).off + (2 + 1), none⟩ = some (.int .u8 (da.val : Int))) ∧
          W.cell? ⟨w.heap.size, 0, none⟩ = some (.int .i32 r) ∧ W.cell? ⟨w.heap.size, 1, none⟩ = some (.int .u8 fg) ∧ W.cell? ⟨w.heap.size, 2, none⟩ = some (.int .u8 bg) ∧ W.cell? ⟨w.heap.size, 3, none⟩ = some (.int .u8 (at'.val : Int)))
        (first
          | exact ⟨⟨d0, d1, d2, d3⟩, l0, l1, l2, l3⟩
          | exact ⟨⟨hm.cell d0 (by simp), hm.cell d1 (by simp), hm.cell d2 (by simp), hm.cell d3 (by simp)⟩, hm.cell l0 (by simp), hm.cell l1 (by simp), hm.cell l2 (by simp), hm.cell l3 (by simp)⟩)
        (first | (go_at_call 84; refine (B1.out _).mono ?_; rintro e w2 ⟨rfl, hm⟩))
      go_wp2
      go_ret
      exact ⟨by rw [HROW.out]; simp [*], (hX2.drew).trans hm⟩
  · have hd : row[i + 1]? = none := List.getElem?_eq_none (by rw [HL.out]; omega)
    rw [hd] at HSZ
    have g1 : decide ((i : Int) + 1 < (n : Int)) = false := by simp; omega
    go_quiet (fail)
    go_wp2
    go_ret
    exact ⟨by rw [HSZ.out]; rfl, (hM.trans hX).drewN _⟩
end Go.Proofs.YtldjmacnokkjdaaDoor
/- What Mend of package cell makes of a row. -/
namespace Go.Proofs.YtldjmacnokkjdaaDoor
open Go.RowKit
set_option linter.unusedVariables false
set_option linter.unusedSimpArgs false

def Cell.blank (c : Cell) : Cell := ⟨32, c.fg, c.bg, 0⟩
def mend : List Cell → List Cell
  | [] => []
  | [c] => if sizeC [c] = 0 then [c.blank] else [c]
  | c :: d :: l => if sizeC (c :: d :: l) = 0 then c.blank :: mend (d :: l) else if sizeC (c :: d :: l) = 1 then c :: mend (d :: l) else c :: d :: mend l
theorem sizeC_cases (c : Cell) (l : List Cell) : sizeC (c :: l) = 0 ∨ sizeC (c :: l) = 1 ∨ (sizeC (c :: l) = 2 ∧ ∃ d l', l = d :: l') := by
  have hu : sizeC (c :: l) = if !c.ok || c.tail then 0 else if !c.wide then 1 else if l.head? = some c.behind then 2 else 0 := rfl
  rw [hu]
  by_cases h1 : (!c.ok || c.tail) = true
  · rw [if_pos h1]; exact .inl rfl
  · rw [if_neg h1]
    by_cases h2 : (!c.wide) = true
    · rw [if_pos h2]; exact .inr (.inl rfl)
    · rw [if_neg h2]
      by_cases h3 : l.head? = some c.behind
      · rw [if_pos h3]
        refine .inr (.inr ⟨rfl, ?_⟩)
        cases l with
        | nil => simp at h3
        | cons d l' => exact ⟨d, l', rfl⟩
      · rw [if_neg h3]; exact .inl rfl
theorem mend_0 {c : Cell} {l : List Cell} (h : sizeC (c :: l) = 0) : mend (c :: l) = c.blank :: mend l := by
  cases l with
  | nil => simp [mend, h]
  | cons d l => simp [mend, h]
theorem mend_1 {c : Cell} {l : List Cell} (h : sizeC (c :: l) = 1) : mend (c :: l) = c :: mend l := by
  cases l with
  | nil => simp [mend, h]
  | cons d l => simp [mend, h]
theorem mend_2' {c d : Cell} {l : List Cell} (h : sizeC (c :: d :: l) = 2) : mend (c :: d :: l) = c :: d :: mend l := by
  simp [mend, h]
theorem sizeC_split (c : Cell) (l : List Cell) : sizeC (c :: l) = 0 ∨ ∃ (k : Nat) (l1 l2 : List Cell), sizeC (c :: l) = k ∧ 1 ≤ k ∧ k ≤ 2 ∧ l1.length = k ∧ c :: l = l1 ++ l2 ∧ mend (c :: l) = l1 ++ mend l2 := by
  rcases sizeC_cases c l with h | h | ⟨h, d, l', rfl⟩
  · exact .inl h
  · exact .inr ⟨1, [c], l, h, by omega, by omega, rfl, rfl, mend_1 h⟩
  · exact .inr ⟨2, [c, d], l', h, by omega, by omega, rfl, rfl, mend_2' h⟩
theorem mend_2 {c d : Cell} {l : List Cell} (h : sizeC (c :: d :: l) = 2) : mend (c :: d :: l) = c :: d :: mend l := by
  simp [mend, h]
theorem vals_len (l : List Cell) : (l.flatMap Cell.vals).length = l.length * 4 := by
  induction l with
  | nil => rfl
  | cons c l ih => rw [List.flatMap_cons, List.length_append, ih]; simp [Cell.vals]; omega
theorem vals_one (l : List Cell) : ∀ u ∈ l.flatMap Cell.vals, u.oneCell' = true := by
  intro u hu
  obtain ⟨c, _, hc⟩ := List.mem_flatMap.1 hu
  simp only [Cell.vals, List.mem_cons, List.not_mem_nil, or_false] at hc
  rcases hc with rfl | rfl | rfl | rfl <;> rfl
/-- A cut of what can be read, flat. -/
theorem rows_news {W : World} {A : Addr} {n : Nat} {row : List Cell} (h : ReadsRows W (some A) n 4 Cell.vals row) (i : Nat) (l l' : List Cell) (hd : row.drop i = l ++ l') : ∀ j u, (l.flatMap Cell.vals)[j]? = some u → W.cell? ((A.add (i * 4)).add j) = some u := by
  induction l generalizing i with
  | nil => intro j u hu; simp at hu
  | cons c l ih =>
    intro j u hu
    rw [List.flatMap_cons] at hu
    have hc : row[i]? = some c := by
      have : (row.drop i)[0]? = some c := by rw [hd]; rfl
      simpa using this
    by_cases hj : j < 4
    · rw [List.getElem?_append_left (by simp [Cell.vals]; omega)] at hu
      obtain ⟨a, ha, hcs⟩ := h.2.2 i c hc
      cases ha
      rw [hcs j hj]; exact hu
    · rw [List.getElem?_append_right (by simp [Cell.vals]; omega)] at hu
      have hd' : row.drop (i + 1) = l ++ l' := by
        rw [← List.drop_drop, hd]; rfl
      have := ih (i + 1) hd' (j - 4) u (by simpa [Cell.vals] using hu)
      rw [← this]
      congr 1
      unfold Addr.add
      split <;> split <;> (try split) <;> simp_all <;> (try omega) <;> (try (split <;> simp_all <;> omega))

/-- append_one, as one step of a region that draws its order. -/
theorem step_append_one {P : Program} {ops : Array Oper} {o : Oper} {a : Act} {K : Act → World → Prop} {Q : Exit → Act → World → Prop} {E : Prop} {w W : World} {S : List Nat} (base : Nat) (hgd : o.guard = none) (s x : Operand) (t e : TypeId) (z : Value) (size bytes : Nat)
    (ho : o.op = .call { callee := .builtin .append, args := #[s, x], argTypes := #[t, t] })
    (ht : P.underlying t = some (.slice e)) (hinfo : (P.info? e).map (fun i => (i.zero, i.size, i.bytes)) = some (some z, size, bytes)) (hz : z.cells.size = size) (hs0 : 0 < size) (hb0 : 0 < bytes)
    (v : Value) (n : Nat) (xs ys : List Value) (hs : a.eval s = v) (hx : a.eval x = .slice (some ⟨W.heap.size, 0, none⟩) 1 1) (hys : ys.length = size) (h1 : ∀ u ∈ ys, u.oneCell' = true)
    (HO : W.ownsRow base e size v n xs) (HB : Mods S w W) (hbase : base ≤ W.heap.size) (hwb : w.heap.size ≤ base) (hl : (n + 1) * bytes ≤ 140737488355328)
    (h : ∀ v1 w1, w1.ownsRow base e size v1 (n + 1) (xs ++ ys) → Mods S w w1 → K (a.put o.dst v1) w1) :
    if Region.wanted o (yielded ops a.tmps) = true then Oper.wp P o a (W.alloc (.cells ys.toArray e)) K Q else E := by
  have hw : Region.wanted o (yielded ops a.tmps) = true := by simp [Region.wanted, hgd]
  rw [if_pos hw]
  obtain ⟨i0, hi, hzz⟩ := Option.map_eq_some_iff.1 hinfo
  simp only [Prod.mk.injEq] at hzz
  obtain ⟨hz0, hz1, hz2⟩ := hzz
  have hlen : n + 1 ≤ 140737488355328 := Nat.le_trans (Nat.le_mul_of_pos_right _ hb0) hl
  obtain ⟨v', w', hr, h2, h3, h4, h5⟩ := run_append_own_at (P := P) (W.alloc (.cells ys.toArray e)) base t o.type e i0 z size bytes ht hi hz0 hz1 hz2 hz hs0 v n xs (HO.alloc _) ⟨W.heap.size, 0, none⟩ 1 1 ys (by rw [hys]; simp)
    (by simpa using World.news_of_block (cs := ys.toArray) (t := e) (fr := (0, 0)) (heap_alloc_new W (.cells ys.toArray e))) h1 (by simp only [maxLen]; omega) hl (by simp; omega)
  unfold Oper.wp execOp
  simp only [ho, resolve, invoke, builtin, Sem.run_bind, Sem.run_pure, Result.andThen_ok, List.map_toArray, List.map_cons, List.map_nil, hs, hx, hr]
  exact h v' w' h2 ((HB.alloc _).grown h3 (fun k hk => .inr (Nat.le_trans hwb (own_base HO k hk))))
def MendRel (w : World) (row : List Cell) (n : Nat) (kk : Nat) (out idx : Value) (wr : World) : Prop :=
  ∃ (i : Nat) (acc : List Cell), idx = .int .i64 i ∧ i ≤ n ∧ acc.length = i ∧ acc ++ mend (row.drop i) = mend row ∧ wr.ownsRow w.heap.size 27 4 out i (acc.flatMap Cell.vals) ∧ Mods [] w wr ∧ kk + i = n

set_option maxRecDepth 4000 in
set_option maxHeartbeats 2000000 in
theorem cell_Mend (w : World) (A : Option Addr) (n cap : Nat) (row : List Cell) (h : ReadsRows w A n 4 Cell.vals row) (hcap : n ≤ cap) (hsm : n ≤ 1000000) :
    Calls Tryd.prog 34 #[.slice A n cap] w fun e w' => ∃ v, e = .returned v ∧ w'.ownsRow w.heap.size 27 4 v n ((mend row).flatMap Cell.vals) ∧ (mend row).length = n ∧ Mods [] w w' := by
  have HH := Lib.hid h
  have hl := h.1
  have HL := Lib.hid hl
  clear h hl
  go_enter Tryd.func34, Tryd.ntmps34
  go_wp2
  go_loopg [3, 4] n (MendRel w row n)
  case atStart => exact ⟨0, [], rfl, by omega, rfl, rfl, own_nil _ _ _ _, Mods.refl _ _, by omega⟩
  case round =>
    obtain ⟨i, acc, rfl, hi, hacc, hm, hown, hM, hkk⟩ := hrel
    have HKK := Lib.hid hkk
    have HM := Lib.hid hm
    have HA := Lib.hid hacc
    have HOWN := Lib.hid hown
    clear hkk hm hacc hown
    have hr := HH.out.keepsM (fun _ => rfl) hM (by simp)
    by_cases hlt : i < n
    · obtain ⟨c, hc⟩ : ∃ c, row[i]? = some c := ⟨_, List.getElem?_eq_getElem (by rw [HL.out]; exact hlt)⟩
      have hd : row.drop i = c :: row.drop (i + 1) := by rw [List.drop_eq_getElem?_toList_append, hc]; rfl
      have HD := Lib.hid hd
      have HR := Lib.hid hr
      rcases sizeC_split c (row.drop (i + 1)) with hs | ⟨k, l, l', hs, hk1, hk2, hlk, hdl, hmd⟩
      · rw [← hd] at hs
        have HS := Lib.hid hs
        clear hs hd hc hr
        go_upto_region 6 with (go_at_call 66; go_must (refine (cell_size _ A n cap i row HR.out hlt).mono ?_); rw [HS.out]; rintro e w1 ⟨rfl, hm1⟩)
        have hown1 := own_mods HOWN.out hm1 (by simp)
        have hM1 := hM.trans hm1
        have hr1 := HR.out.keepsM (fun _ => rfl) hm1 (by simp)
        have hc' : row[i]? = some c := by
          have := congrArg (fun l => l[0]?) HD.out
          simpa using this
        obtain ⟨a, rfl, c0, hcs⟩ := hr1.row hc'
        have c1 := hcs 0 (by omega)
        have c2 := hcs 1 (by omega)
        simp only [Cell.vals, List.getElem?_cons_zero, List.getElem?_cons_succ] at c0 c1 c2
        clear hcs hc' hr1
        have hw1 := hm1.size
        have hws := hM.size
        clear HR
        go_cut [3] from 6 to 41 (fun s3 wx => wx.ownsRow w.heap.size 27 4 s3 (i + 1) ((acc ++ [c.blank]).flatMap Cell.vals) ∧ Mods [] w wx)
        case first =>
          go_region_law (refine step_append_one (w := w) (S := []) (W := w1.drew) w.heap.size rfl (.tmp 15) (.tmp 27) 28 27 (.agg #[.int .i32 0, .int .u8 0, .int .u8 0, .int .u8 0]) 4 8 rfl Tryd.underlying28 (by kernel_rfl) rfl (by decide) (by decide) u3 i (acc.flatMap Cell.vals) c.blank.vals rfl rfl rfl (by simp [Cell.vals, Value.oneCell']) hown1 hM1.drew (show w.heap.size ≤ w1.heap.size by omega) (Nat.le_refl _) (by omega) ?_; intro v1 w2 hown2 hM2)
          all_goals
            go_wp2_with fail
            go_meet
            exact ⟨by rw [List.flatMap_append]; simpa using hown2, hM2⟩
        case rest =>
          obtain ⟨hown2, hM2⟩ := hcut
          have hm' := HM.out
          rw [HD.out] at hm'
          rw [mend_0 (HD.out ▸ HS.out)] at hm'
          have hk' := HKK.out
          have ha' := HA.out
          have HM' := Lib.hid hm'
          clear hm' c0 c1 c2 hown1
          go_wp2
          go_roundg (gk - 1)
          case measure => omega
          case rel => exact ⟨i + 1, acc ++ [c.blank], by go_num, by omega, by simp [ha'], by rw [List.append_assoc]; exact HM'.out, hown2, hM2, by omega⟩
      · rw [← hd] at hs hdl hmd
        have hik : i + k ≤ n := by
          have h1 := congrArg List.length hdl
          rw [List.length_drop, HL.out, List.length_append, hlk] at h1
          omega
        have hdr : l' = row.drop (i + k) := by
          rw [← List.drop_drop, hdl, List.drop_append_of_le_length (by omega), List.drop_of_length_le (by omega)]; rfl
        rw [hdr] at hmd hdl
        have HS := Lib.hid hs
        have HMD := Lib.hid hmd
        have HDL := Lib.hid hdl
        have hk0 : ((k : Int) == 0) = false := by simp; omega
        obtain ⟨a, rfl, c0, hcs⟩ := hr.row hc
        clear hs hd hc hr hmd hdl hdr c0 hcs
        go_upto_region 8 with (go_at_call 66; go_must (refine (cell_size _ _ n cap i row HR.out hlt).mono ?_); rw [HS.out]; rintro e w1 ⟨rfl, hm1⟩)
        have e1 : IntKind.i64.wrap ((i : Int) + (k : Int)) = ((i + k : Nat) : Int) := by rw [IntWalk.i64_in _ (by omega)]; simp
        have hown1 := own_mods HOWN.out hm1 (by simp)
        have hM1 := hM.trans hm1
        have hr1 := HR.out.keepsM (fun _ => rfl) hm1 (by simp)
        have HR1 := Lib.hid hr1
        have hw1 := hm1.size
        have hws := hM.size
        clear hr1
        go_wp2_with (at_builtin; go_must (refine append_src w.heap.size rfl (.tmp 31) (.tmp 37) 28 27 (.agg #[.int .i32 0, .int .u8 0, .int .u8 0, .int .u8 0]) 4 8 rfl Tryd.underlying28 (by kernel_rfl) rfl (by decide) (by decide) u3 i (acc.flatMap Cell.vals) (a.add (i * 4)) (i + k - i) (cap - i) (l.flatMap Cell.vals) rfl rfl (by rw [vals_len, hlk, Nat.add_sub_cancel_left]) (rows_news HR1.out i l _ HDL.out) (vals_one l) hown1 hM1 (by omega) (by omega) (by omega) ?_); intro v1 w2 hown2 hM2 hgr hblk; clear hgr hblk hown1; rw [Nat.add_sub_cancel_left] at hown2)
        have hm' := HM.out
        rw [HMD.out, ← List.append_assoc] at hm'
        have HM' := Lib.hid hm'
        have hk' := HKK.out
        have ha' := HA.out
        clear hm'
        go_roundg (gk - k)
        case measure => omega
        case rel => exact ⟨i + k, acc ++ l, by go_num, by omega, by simp [ha', hlk], HM'.out, by rw [List.flatMap_append]; exact hown2, hM2, by omega⟩
    · go_wp2
      go_ret
      have hin : i = n := by omega
      subst hin
      have := HM.out
      rw [List.drop_of_length_le (by rw [HL.out]; exact Nat.le_refl _)] at this
      simp only [mend, List.append_nil] at this
      rw [← this]
      exact ⟨_, rfl, HOWN.out, HA.out, hM⟩
end Go.Proofs.YtldjmacnokkjdaaDoor
/- slices.Clone of a row of cells. -/
namespace Go.Proofs.YtldjmacnokkjdaaDoor
open Go.RowKit
set_option linter.unusedVariables false
set_option linter.unusedSimpArgs false

theorem own_empty (w : World) (e : TypeId) (size : Nat) : (w.alloc (.cells #[] e)).ownsRow w.heap.size e size (.slice (some ⟨w.heap.size, 0, none⟩) 0 0) 0 [] :=
  ⟨by simp, .inr ⟨w.heap.size, 0, #[], rfl, Nat.le_refl _, heap_alloc_new w _, Nat.le_refl _, by unfold maxLen; omega, by simp, by simp⟩⟩
set_option maxHeartbeats 1000000 in
theorem clone_cells (w : World) (A : Option Addr) (n cap : Nat) (row : List Cell) (h : ReadsRows w A n 4 Cell.vals row) (hcap : n ≤ cap) (hA : A = none → n = 0 ∧ cap = 0) (hsm : n ≤ 1000000) :
    Calls Tryd.prog 36 #[.slice A n cap] w fun e w' => ∃ v, e = .returned v ∧ w'.ownsRow w.heap.size 27 4 v n (row.flatMap Cell.vals) ∧ (A = none → v = .slice none 0 0) ∧ Mods [] w w' := by
  have hl := h.1
  cases A with
  | none =>
    obtain ⟨rfl, rfl⟩ := hA rfl
    have hr : row = [] := List.eq_nil_of_length_eq_zero hl
    subst hr
    have hnil := Lib.run_eql_slice_nil (P := Tryd.prog) w _ _ none 0 0 0 0 Tryd.underlying28
    simp only [Option.isNone_none] at hnil
    clear h hl
    go_enter Tryd.func36, Tryd.ntmps36
    go_wp2
    go_ret
    exact ⟨.slice none 0 0, rfl, own_nil _ _ _ _, (by simp), Mods.refl _ _⟩
  | some a =>
    have hM0 := (Mods.refl [] w).alloc (.cells #[] 27)
    have hr1 := h.keepsM (fun _ => rfl) hM0 (by simp)
    have HR := Lib.hid hr1
    have HL := Lib.hid hl
    have hnil := Lib.run_eql_slice_nil (P := Tryd.prog) w _ _ (some a) n cap 0 0 Tryd.underlying28
    simp only [Option.isNone_some] at hnil
    clear h hl hr1
    go_enter Tryd.func36, Tryd.ntmps36
    go_wp2_with (at_builtin; go_must (refine append_src (w := w) (S := []) w.heap.size rfl (.tmp 5) (.tmp 6) 28 27 (.agg #[.int .i32 0, .int .u8 0, .int .u8 0, .int .u8 0]) 4 8 rfl Tryd.underlying28 (by kernel_rfl) rfl (by decide) (by decide) (.slice (some ⟨w.heap.size, 0, none⟩) 0 0) 0 [] a n cap (row.flatMap Cell.vals) rfl rfl (by rw [vals_len, HL.out]) (by have := rows_news HR.out 0 row [] (by simp); simpa [Addr.add] using this) (vals_one row) (own_empty w _ _) hM0 (by simp) (Nat.le_refl _) (by omega) ?_); intro v1 w2 hown2 hM2 hgr hblk; clear hgr hblk)
    go_ret
    exact ⟨_, rfl, by simpa using hown2, by simp, hM2⟩
end Go.Proofs.YtldjmacnokkjdaaDoor
