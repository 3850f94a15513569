/- Words of this seat's proofs: what a call may have turned (Mods), and a walk over normal frames that takes a select in one goroutine. -/
import Derived.Test.YtldjmacnokkjdaaDoorProg
import Derived.WalkKit
import Derived.KernelRfl
import Derived.Deep.Draws
import Derived.IntWalk
import Derived.Lib.Hide
import Derived.Deep.LoopGhost
import Derived.WalkSpells
import Derived.Conc.LoneCalls
import Derived.Conc.LoneSelect
import Derived.Conc.LoneSelectN
import Derived.Laws.Rows
namespace Go.Proofs.YtldjmacnokkjdaaDoor
open Go.RowKit Go.Conc

/-! ### what a call may have turned: the old blocks of S, and no other -/
structure Mods (S : List Nat) (w w' : World) : Prop where
  os : w'.os = w.os
  tape : w'.tape = w.tape
  output : w'.output = w.output
  size : w.heap.size ≤ w'.heap.size
  block : ∀ k, k < w.heap.size → k ∉ S → w'.heap[k]? = w.heap[k]?

theorem Mods.refl (S : List Nat) (w : World) : Mods S w w := ⟨rfl, rfl, rfl, Nat.le_refl _, fun _ _ _ => rfl⟩
/-- Two steps; the second may turn what the first may, and what is new. -/
theorem Mods.then {S S' : List Nat} {a b c : World} (h : Mods S a b) (k : Mods S' b c) (hs : ∀ x, x ∈ S' → x ∈ S ∨ a.heap.size ≤ x) : Mods S a c :=
  ⟨k.os.trans h.os, k.tape.trans h.tape, k.output.trans h.output, Nat.le_trans h.size k.size, fun i hi hS =>
    (k.block i (Nat.lt_of_lt_of_le hi h.size) (fun hm => by rcases hs i hm with h1 | h1; exact hS h1; omega)).trans (h.block i hi hS)⟩
theorem Mods.trans {S : List Nat} {a b c : World} (h : Mods S a b) (k : Mods S b c) : Mods S a c := h.then k (fun _ hx => .inl hx)
theorem Mods.mono {S S' : List Nat} {a b : World} (h : Mods S a b) (hs : ∀ x, x ∈ S → x ∈ S' ∨ a.heap.size ≤ x) : Mods S' a b :=
  ⟨h.os, h.tape, h.output, h.size, fun i hi hS => h.block i hi (fun hm => by rcases hs i hm with h1 | h1; exact hS h1; omega)⟩
theorem Mods.of_below {w w' : World} (h : Below w.heap.size w w') : Mods [] w w' := ⟨h.os, h.tape, h.output, h.size, fun k hk _ => h.block k hk⟩
theorem Mods.below {w w' : World} (h : Mods [] w w') : Below w.heap.size w w' := ⟨h.os, h.tape, h.output, h.size, fun k hk => h.block k hk (by simp)⟩
theorem Mods.alloc {S : List Nat} {a w : World} (h : Mods S a w) (o : Obj) : Mods S a (w.alloc o) :=
  h.then (S' := []) (.of_below ((Below.refl _ _).alloc (Nat.le_refl _) o)) (by simp)
theorem Mods.drew {S : List Nat} {a w : World} (h : Mods S a w) : Mods S a w.drew := ⟨h.os, h.tape, h.output, h.size, h.block⟩
theorem Mods.drewN {S : List Nat} {a w : World} (h : Mods S a w) (n : Nat) : Mods S a (w.drewN n) := ⟨h.os, h.tape, h.output, h.size, h.block⟩
theorem Mods.setCell {S : List Nat} {a w : World} (h : Mods S a w) (p : Addr) (u : Value) (hp : p.block ∈ S ∨ a.heap.size ≤ p.block) : Mods S a (w.setCell p u) :=
  h.then (S' := [p.block]) ⟨rfl, rfl, rfl, by simp [World.setCell], fun k _ hm => Below.heap_setCell _ _ _ _ (by simpa using hm)⟩ (by simpa using hp)
theorem Mods.setChan {S : List Nat} {a w : World} (h : Mods S a w) (c cap : Nat) (buf : Array Value) (cl : Bool) (s r : Nat) (tm : Bool) (hc : c ∈ S ∨ a.heap.size ≤ c) : Mods S a (w.setChan c cap buf cl s r tm) :=
  h.then (S' := [c]) ⟨rfl, rfl, rfl, by simp [World.setChan], fun k _ hm => by simp only [World.setChan]; rw [Array.getElem?_setIfInBounds_ne (by simpa using fun e => hm (by simp [e]))]⟩ (by simpa using hc)
theorem heap_lt {w : World} {k : Nat} {o : Obj} (h : w.heap[k]? = some o) : k < w.heap.size := (Array.getElem?_eq_some_iff.1 h).1
theorem Mods.at {S : List Nat} {w w' : World} (h : Mods S w w') {k : Nat} {o : Obj} (hk : w.heap[k]? = some o) (hS : k ∉ S) : w'.heap[k]? = some o := (h.block k (heap_lt hk) hS).trans hk
theorem Mods.cell {S : List Nat} {w w' : World} (h : Mods S w w') {a : Addr} {v : Value} (hc : w.cell? a = some v) (hS : a.block ∉ S) : w'.cell? a = some v := by
  have hb := h.block a.block (World.block_lt_of_cell? w a hc) hS
  unfold World.cell? at hc ⊢
  rw [hb]; exact hc
theorem Mods.same {S : List Nat} {w w' : World} (h : Mods S w w') {k : Nat} (hk : k < w.heap.size) (hS : k ∉ S) : w'.heap[k]? = w.heap[k]? := h.block k hk hS
theorem ne_of_heap {w : World} {a b : Nat} {o o' : Obj} (h : w.heap[a]? = some o) (h' : w.heap[b]? = some o') (hne : o ≠ o') : a ≠ b := fun e => by subst e; rw [h] at h'; exact hne (Option.some.inj h')

/-! ### a block known whole -/
theorem blk_cell {w : World} {g : Nat} {t : TypeId} {cs : Array Value} (h : w.heap[g]? = some (.cells cs t (0, 0))) (i : Nat) : w.cell? ⟨g, i, none⟩ = cs[i]? := by simp [World.cell?, h]
theorem blk_frozen {w : World} {g : Nat} {t : TypeId} {cs : Array Value} (h : w.heap[g]? = some (.cells cs t (0, 0))) (i : Nat) : w.frozen? ⟨g, i, none⟩ = false := by simp [World.frozen?, h]
theorem blk_set {w : World} {g : Nat} {t : TypeId} {cs : Array Value} (h : w.heap[g]? = some (.cells cs t (0, 0))) (i : Nat) (u : Value) : (w.setCell ⟨g, i, none⟩ u).heap[g]? = some (.cells (cs.setIfInBounds i u) t (0, 0)) := by
  simp [World.setCell, Array.getElem?_modify, h]
theorem blk_far {w : World} {g : Nat} {o : Obj} (h : w.heap[g]? = some o) (p : Addr) (hp : g ≠ p.block) (u : Value) : (w.setCell p u).heap[g]? = some o := (Below.heap_setCell w p u g hp).trans h
theorem blk_alloc {w : World} {g : Nat} {o : Obj} (h : w.heap[g]? = some o) (o' : Obj) : (w.alloc o').heap[g]? = some o := (Below.heap_alloc w o' g (heap_lt h)).trans h
theorem blk_new (w : World) (o : Obj) : (w.alloc o).heap[w.heap.size]? = some o := heap_alloc_new w o
theorem blk_new' (w : World) (o : Obj) {k : Nat} (h : k = w.heap.size) : (w.alloc o).heap[k]? = some o := by rw [h]; exact heap_alloc_new w o
theorem setChan_other (w : World) (c c' cap : Nat) (buf : Array Value) (closed : Bool) (s r : Nat) (tm : Bool) (h : c ≠ c') : (w.setChan c cap buf closed s r tm).heap[c']? = w.heap[c']? := by
  simp [World.setChan, Array.getElem?_setIfInBounds_ne h]

/-! ### the greater and the lesser of two numbers, told without a test -/
def mx (a b : Int) : Int := if a < b then b else a
def mn (a b : Int) : Int := if b < a then b else a
theorem max2_mx (k k' : IntKind) (x y : Int) : Builtin.max2 (.int k x) (.int k' y) = pure (.int k (mx x y)) := by simp only [Builtin.max2, gt_iff_lt, mx]
theorem min2_mn (k k' : IntKind) (x y : Int) : Builtin.min2 (.int k x) (.int k' y) = pure (.int k (mn x y)) := by simp only [Builtin.min2, mn]
theorem max_two (ats : Array TypeId) (ty : TypeId) (a b : Value) : Builtin.max_ ats ty #[a, b] = (Builtin.max2 a b >>= fun s => pure s) := by simp only [Builtin.max_, List.foldlM_cons, List.foldlM_nil]
theorem min_two (ats : Array TypeId) (ty : TypeId) (a b : Value) : Builtin.min_ ats ty #[a, b] = (Builtin.min2 a b >>= fun s => pure s) := by simp only [Builtin.min_, List.foldlM_cons, List.foldlM_nil]

/-! ### a mask of low bits -/
theorem i64_and_mask (n : Int) (j : Nat) (m : Int) (hj : j ≤ 62) (hm : (BitVec.ofInt 64 m).toNat = 2 ^ j - 1) : bits .and .i64 n m = n % ((2 ^ j : Nat) : Int) := by
  have hp : 2 ^ j ≤ 2 ^ 62 := Nat.pow_le_pow_right (by omega) hj
  have hd : 2 ^ j ∣ 2 ^ 64 := Nat.pow_dvd_pow 2 (by omega)
  have h0 : 0 < 2 ^ j := Nat.pow_pos (by omega)
  have key : (BitVec.ofInt 64 n &&& BitVec.ofInt 64 m).toNat = (n % ((2 ^ 64 : Nat) : Int)).toNat % 2 ^ j := by
    rw [BitVec.toNat_and, BitVec.toNat_ofInt, hm, Nat.and_two_pow_sub_one_eq_mod]
  show IntKind.i64.wrap ((BitVec.ofInt 64 n &&& BitVec.ofInt 64 m).toNat : Nat) = _
  rw [key, IntKind.wrap_i64]
  have e : (((n % ((2 ^ 64 : Nat) : Int)).toNat % 2 ^ j : Nat) : Int) = n % ((2 ^ j : Nat) : Int) := by
    rw [Int.natCast_emod, Int.toNat_of_nonneg (Int.emod_nonneg _ (by omega)), Int.emod_emod_of_dvd _ (Int.natCast_dvd_natCast.2 hd)]
  rw [e]
  have h1 := Int.emod_nonneg n (b := ((2 ^ j : Nat) : Int)) (by omega)
  have h2 := Int.emod_lt_of_pos n (b := ((2 ^ j : Nat) : Int)) (by omega)
  omega
theorem i64_and1 (n : Int) : bits .and .i64 n 1 = n % 2 := i64_and_mask n 1 1 (by omega) (by decide)
theorem i64_and7 (n : Int) : bits .and .i64 n 7 = n % 8 := i64_and_mask n 3 7 (by omega) (by decide)
theorem i64_and15 (n : Int) : bits .and .i64 n 15 = n % 16 := i64_and_mask n 4 15 (by omega) (by decide)
theorem i64_and31 (n : Int) : bits .and .i64 n 31 = n % 32 := i64_and_mask n 5 31 (by omega) (by decide)
theorem i64_and63 (n : Int) : bits .and .i64 n 63 = n % 64 := i64_and_mask n 6 63 (by omega) (by decide)
theorem i64_and1023 (n : Int) : bits .and .i64 n 1023 = n % 1024 := i64_and_mask n 10 1023 (by omega) (by decide)
theorem i64_and4095 (n : Int) : bits .and .i64 n 4095 = n % 4096 := i64_and_mask n 12 4095 (by omega) (by decide)

/-! ### a walk over a normal frame -/
def wpN (P : Program) (c : Code) (Q : Exit → Act → World → Prop) (a : Act) (w : World) : Prop :=
  ∀ (b : Frame), b.kind ≠ .early → ∀ (k : List Item) (cs : List Frame),
    ∃ e a' w', Q e a' w' ∧ Arrives P (lone (b.at a (.code c :: k)) cs w) b k cs e a' w'
theorem wpN_of_wp {P : Program} {c : Code} {Q : Exit → Act → World → Prop} {a : Act} {w : World} (h : c.wp P Q a w) : wpN P c Q a w := fun b _ k cs => h b k cs

theorem wpN_seq {P : Program} {Q : Exit → Act → World → Prop} {a : Act} {w : World} {x y : Code} (h : wpN P x (Exit.then (wpN P y Q) Q) a w) : wpN P (Code.seq x y) Q a w := by
  intro b hb k cs
  obtain ⟨e, a₁, w₁, hq, harr⟩ := h b hb (.code y :: k) cs
  cases e with
  | normal =>
    obtain ⟨e₂, a₂, w₂, hq₂, harr₂⟩ := hq b hb k cs
    exact ⟨e₂, a₂, w₂, hq₂, .of_steps (.head step_seq harr) harr₂⟩
  | exit id => exact ⟨_, a₁, w₁, hq, .of_steps (.one step_seq) (.pass (x := .code y) rfl (fun _ _ => .inl (by simp)) harr)⟩
  | goto l => exact ⟨_, a₁, w₁, hq, .of_steps (.one step_seq) (.pass (x := .code y) rfl (fun _ _ => .inl (by simp)) harr)⟩
  | ret => exact ⟨_, a₁, w₁, hq, .of_steps (.one step_seq) (.pass (x := .code y) rfl (fun _ _ => .inl (by simp)) harr)⟩
  | panic ch => exact ⟨_, a₁, w₁, hq, .of_steps (.one step_seq) (.pass (x := .code y) rfl (fun _ _ => .inl (by simp)) harr)⟩
  | outgrown => exact ⟨_, a₁, w₁, hq, .of_steps (.one step_seq) (.pass (x := .code y) rfl (fun _ _ => .inl (by simp)) harr)⟩
/-- The first part by the kit's walk; the rest stands behind a variable meanwhile. -/
theorem wpN_seq_k {P : Program} {Q : Exit → Act → World → Prop} {a : Act} {w : World} {x y : Code}
    (h : ∀ K : Act → World → Prop, (∀ a w, wpN P y Q a w → K a w) → x.wp P (Exit.then K Q) a w) : wpN P (Code.seq x y) Q a w := wpN_seq (wpN_of_wp (h _ fun _ _ h => h))
theorem calls_of_wpN {P : Program} {f : FuncId} {fn : Func} {c : Code} {args : Array Value} {w : World} {R : Ending → World → Prop}
    (hf : P.funcs[f]? = some fn) (hb : fn.body = some c)
    (h : wpN P c (bodyPost P fn R) { tmps := args ++ Array.replicate (fn.ntmps - args.size) undef, defers := [] } w) : Calls P f args w R := by
  intro cs
  let b : Frame := { (default : Frame) with fn := f, kind := .normal }
  have henter : Frame.enter P f args .normal = b.at { tmps := args ++ Array.replicate (fn.ntmps - args.size) undef, defers := [] } [.code c] := by
    simp [Frame.enter, Frame.at, hf, hb, b]
  obtain ⟨e, a', w', hq, harr⟩ := h b (by simp [b]) [] cs
  rw [← henter] at harr
  cases e with
  | normal =>
    obtain ⟨hd, v, hr, hR⟩ := hq
    exact ⟨.returned v, w', _, hR, Steps.trans harr (.one step_end), rfl, rfl, hd, rfl, fn, hf, hr⟩
  | ret =>
    obtain ⟨hd, v, hr, hR⟩ := hq
    obtain ⟨todo, hs⟩ := harr
    exact ⟨.returned v, w', _, hR, hs, rfl, rfl, hd, rfl, fn, hf, hr⟩
  | panic chain =>
    obtain ⟨hd, hR⟩ := hq
    obtain ⟨todo, hs⟩ := harr
    exact ⟨.panicked chain, w', _, hR, hs, rfl, rfl, hd, fn, hf⟩
  | exit id => exact hq.elim
  | goto l => exact hq.elim
  | outgrown => exact ⟨.outgrown, w', b, hq, harr.resolve_left (by simp [b]), rfl, trivial⟩

/-- A region that begins with a communication at which one way is open: that step, then the rest as ever. -/
theorem wpN_comm {P : Program} {Q : Exit → Act → World → Prop} {a : Act} {w w' : World} {id : Nat} {o : Oper} {l : List Oper} {cases : Array CommCase} {blocking : Bool} {shape : CommShape} {v : Value}
    (hg : o.guard = none) (hrun : (execOp a.eval o).run P w = .ok (.comm cases blocking shape) w)
    (hstep : ∀ (fr : Frame) (cs : List Frame) (es : Array Event), stepG P true (G fr cs) w = .comm (G fr cs) cases blocking shape w es → step P (solo (G fr cs) w) = .next (solo (G (fr.finish v) cs) w'))
    (h : wpList P (o :: l).toArray Q l (a.put o.dst v) w') : wpN P (Code.region id (o :: l).toArray false) Q a w := by
  intro b hb k cs
  have hr : wpOps P (o :: l).toArray Q (List.range' 1 l.length) (a.put o.dst v) w' := by
    rw [wpOps_eq_wpList l 1 (fun j => by simp [Nat.add_comm 1 j])]; exact h
  obtain ⟨e, a', w'', hq, harr⟩ := wp_ops _ _ _ hr b k cs
  refine ⟨e, a', w'', hq, .of_steps (.head step_region (.one ?_)) harr⟩
  have hl : List.range (o :: l).toArray.size = 0 :: List.range' 1 l.length := by
    rw [List.range_eq_range']; simp [List.range'_succ]
  rw [hl]
  have hs := stepG_comm (P := P) (main := true) (b := b) (a := a) (k := k) (cs := cs) (w := w) (w' := w) (ops := (o :: l).toArray) (i := 0) (rest := List.range' 1 l.length) (o := o) (cases := cases) (blocking := blocking) (shape := shape) (by simp) (by simp [Region.wanted, hg]) hb hrun
  have := hstep _ cs _ hs
  rw [Frame.finish_at] at this
  simpa [lone_eq_solo, G] using this
theorem wpN_seq_comm {P : Program} {Q : Exit → Act → World → Prop} {a : Act} {w w' : World} {id : Nat} {o : Oper} {l : List Oper} {y : Code} {cases : Array CommCase} {blocking : Bool} {shape : CommShape} {v : Value}
    (hg : o.guard = none) (hrun : (execOp a.eval o).run P w = .ok (.comm cases blocking shape) w)
    (hstep : ∀ (fr : Frame) (cs : List Frame) (es : Array Event), stepG P true (G fr cs) w = .comm (G fr cs) cases blocking shape w es → step P (solo (G fr cs) w) = .next (solo (G (fr.finish v) cs) w'))
    (h : ∀ K : Act → World → Prop, (∀ a w, wpN P y Q a w → K a w) → wpList P (o :: l).toArray (Exit.then K Q) l (a.put o.dst v) w') : wpN P (Code.seq (Code.region id (o :: l).toArray false) y) Q a w :=
  wpN_seq (wpN_comm hg hrun hstep (h _ fun _ _ h => h))
end Go.Proofs.YtldjmacnokkjdaaDoor
