/- Rows of cells that lie in a block from its beginning: what they read as, what a copy and a store make of them. -/
import Derived.Test.YtldjmacnokkjdaaDoorText
import Derived.Laws.CopyRow
import Derived.Laws.IdiomCopy
import Derived.Deep.MidRow
import Derived.Deep.RegionLaw
import Derived.OwnWalkIn
namespace Go.Proofs.YtldjmacnokkjdaaDoor
open Go.RowKit
set_option linter.unusedVariables false
set_option linter.unusedSimpArgs false

def CellB (W : World) (g n cap : Nat) (L : List Cell) : Prop :=
  ∃ cur : Array Value, W.heap[g]? = some (.cells cur 27 (0, 0)) ∧ L.length = n ∧ n ≤ cap ∧ cap ≤ maxLen ∧ cur.size = cap * 4 ∧ cur.toList.take (n * 4) = L.flatMap Cell.vals
theorem CellB.own {W : World} {g n cap base : Nat} {L : List Cell} (h : CellB W g n cap L) (hb : base ≤ g) : W.ownsRow base 27 4 (.slice (some ⟨g, 0, none⟩) n cap) n (L.flatMap Cell.vals) := by
  obtain ⟨cur, h1, h2, h3, h4, h5, h6⟩ := h
  exact ⟨by rw [vals_len, h2], .inr ⟨g, cap, cur, rfl, hb, h1, h3, h4, h5, h6⟩⟩
theorem CellB.of_own {W : World} {g n cap base : Nat} {L : List Cell} (h : W.ownsRow base 27 4 (.slice (some ⟨g, 0, none⟩) n cap) n (L.flatMap Cell.vals)) (hl : L.length = n) : CellB W g n cap L ∧ base ≤ g := by
  obtain ⟨_, h2⟩ := h
  rcases h2 with ⟨h2, _⟩ | ⟨g', cap', cur, hv, hb, h1, h3, h4, h5, h6⟩
  · cases h2
  · simp only [Value.slice.injEq, Option.some.injEq, Addr.mk.injEq, true_and, and_true] at hv
    obtain ⟨rfl, rfl⟩ := hv
    exact ⟨⟨cur, h1, hl, h3, h4, h5, h6⟩, hb⟩
theorem CellB.len {W : World} {g n cap : Nat} {L : List Cell} (h : CellB W g n cap L) : L.length = n := by obtain ⟨cur, h1, h2, _⟩ := h; exact h2
theorem CellB.lt {W : World} {g n cap : Nat} {L : List Cell} (h : CellB W g n cap L) : g < W.heap.size := by obtain ⟨cur, h1, _⟩ := h; exact heap_lt h1
theorem CellB.keeps {W W' : World} {S : List Nat} {g n cap : Nat} {L : List Cell} (h : CellB W g n cap L) (hm : Mods S W W') (hg : g ∉ S) : CellB W' g n cap L := by
  obtain ⟨cur, h1, r⟩ := h
  exact ⟨cur, hm.at h1 hg, r⟩
theorem CellB.cell {W : World} {g n cap : Nat} {L : List Cell} (h : CellB W g n cap L) {i j : Nat} {c : Cell} (hi : L[i]? = some c) (hj : j < 4) : W.cell? ⟨g, i * 4 + j, none⟩ = c.vals[j]? := by
  obtain ⟨cur, h1, h2, h3, h4, h5, h6⟩ := h
  have hf := flat_get (rd := Cell.vals) (size := 4) (fun _ => rfl) hi hj
  have hlt : i < n := by rw [← h2]; exact (List.getElem?_eq_some_iff.1 hi).1
  rw [blk_cell h1, ← hf, ← h6, List.getElem?_take, if_pos (by omega)]
  simp
theorem CellB.frozen {W : World} {g n cap : Nat} {L : List Cell} (h : CellB W g n cap L) (i : Nat) : W.frozen? ⟨g, i, none⟩ = false := by
  obtain ⟨cur, h1, _⟩ := h
  exact blk_frozen h1 i
theorem addr_at (g o j : Nat) : (Addr.mk g o none).add j = ⟨g, o + j, none⟩ := by unfold Addr.add; split <;> simp_all
theorem CellB.reads_at {W : World} {g n cap : Nat} {L : List Cell} (h : CellB W g n cap L) (o k : Nat) (ho : o + k ≤ n) : ReadsRows W (some ⟨g, o * 4, none⟩) k 4 Cell.vals ((L.drop o).take k) := by
  obtain ⟨cur, h1, h2, h3, h4, h5, h6⟩ := id h
  refine ⟨by simp; omega, by omega, fun i c hi => ⟨_, rfl, fun j hj => ?_⟩⟩
  rw [List.getElem?_take] at hi
  split at hi
  · rw [List.getElem?_drop] at hi
    rw [addr_at, addr_at, ← h.cell hi hj]
    congr 2; omega
  · cases hi
theorem CellB.reads {W : World} {g n cap : Nat} {L : List Cell} (h : CellB W g n cap L) : ReadsRows W (some ⟨g, 0, none⟩) n 4 Cell.vals L := by
  have := h.reads_at 0 n (by omega)
  have hl := h.len
  simpa [List.take_of_length_le, hl] using this
/-- A part of what can be read. -/
theorem ReadsRows.cut {w : World} {a : Addr} {n : Nat} {L : List Cell} (h : ReadsRows w (some a) n 4 Cell.vals L) (o k : Nat) (ho : o + k ≤ n) : ReadsRows w (some (a.add (o * 4))) k 4 Cell.vals ((L.drop o).take k) := by
  have hl := h.1
  refine ⟨by simp; omega, by have := h.2.1; omega, fun i c hi => ⟨_, rfl, fun j hj => ?_⟩⟩
  rw [List.getElem?_take] at hi
  split at hi
  · rw [List.getElem?_drop] at hi
    obtain ⟨a', ha, hc⟩ := h.2.2 _ _ hi
    cases ha
    rw [← hc j hj]
    congr 1
    unfold Addr.add
    split <;> split <;> split <;> (try split) <;> (try split) <;> simp_all <;> omega
  · cases hi
theorem ReadsRows.first {w : World} {A : Option Addr} {n : Nat} {L : List Cell} (h : ReadsRows w A n 4 Cell.vals L) (k : Nat) (hk : k ≤ n) : ReadsRows w A k 4 Cell.vals (L.take k) := by
  have hl := h.1
  refine ⟨by simp; omega, by have := h.2.1; omega, fun i c hi => ?_⟩
  rw [List.getElem?_take] at hi
  split at hi
  · exact h.2.2 _ _ hi
  · cases hi
theorem flat_take (L : List Cell) (k : Nat) : (L.flatMap Cell.vals).take (k * 4) = (L.take k).flatMap Cell.vals := by
  induction L generalizing k with
  | nil => simp
  | cons c L ih =>
    cases k with
    | zero => simp
    | succ k =>
      rw [List.flatMap_cons, List.take_succ_cons, List.flatMap_cons, ← ih k]
      have : (k + 1) * 4 = (Cell.vals c).length + k * 4 := by simp [Cell.vals]; omega
      rw [this, List.take_length_add_append]
theorem flat_drop (L : List Cell) (k : Nat) : (L.flatMap Cell.vals).drop (k * 4) = (L.drop k).flatMap Cell.vals := by
  induction L generalizing k with
  | nil => simp
  | cons c L ih =>
    cases k with
    | zero => simp
    | succ k =>
      rw [List.flatMap_cons, List.drop_succ_cons, ← ih k]
      have : (k + 1) * 4 = (Cell.vals c).length + k * 4 := by simp [Cell.vals]; omega
      rw [this, List.drop_length_add_append]
theorem Mods.setRow {S : List Nat} {a w : World} (h : Mods S a w) (g : Nat) (cs : Array Value) (hg : g ∈ S ∨ a.heap.size ≤ g) : Mods S a (w.setRow g cs) :=
  h.then (S' := [g]) ⟨rfl, rfl, rfl, by simp [World.setRow], fun k _ hm => setRow_other w g k cs (by simpa using hm)⟩ (by simpa using hg)
/-- Cells laid over the row from a place on. -/
theorem CellB.setRow {W : World} {g n cap : Nat} {L : List Cell} (h : CellB W g n cap L) (o : Nat) (S : List Cell) (ho : o + S.length ≤ n) {cur : Array Value} (hc : W.heap[g]? = some (.cells cur 27 (0, 0))) :
    CellB (W.setRow g (cur.toList.take (o * 4) ++ S.flatMap Cell.vals ++ cur.toList.drop (o * 4 + (S.flatMap Cell.vals).length)).toArray) g n cap (L.take o ++ S ++ L.drop (o + S.length)) := by
  obtain ⟨cur', h1, h2, h3, h4, h5, h6⟩ := h
  rw [hc] at h1
  cases h1
  have hs : cur.toList.length = cap * 4 := by simpa using h5
  have hvl := vals_len S
  have hL : (L.take o ++ S ++ L.drop (o + S.length)).flatMap Cell.vals = (L.take o).flatMap Cell.vals ++ S.flatMap Cell.vals ++ (L.drop (o + S.length)).flatMap Cell.vals := by simp
  generalize S.flatMap Cell.vals = V at *
  refine ⟨_, setRow_heap W g _ _ _ _ hc, by simp; omega, h3, h4, by simp [hvl]; omega, ?_⟩
  rw [hL, hvl]
  have e1 : cur.toList.take (o * 4) = (L.take o).flatMap Cell.vals := by
    rw [← flat_take, ← h6, List.take_take]; congr 1; omega
  have e2 : (cur.toList.drop (o * 4 + S.length * 4)).take ((n - (o + S.length)) * 4) = (L.drop (o + S.length)).flatMap Cell.vals := by
    rw [← flat_drop, ← h6, List.drop_take]
    congr 1
    · omega
    · congr 1; omega
  show List.take (n * 4) (_ ++ _ ++ _) = _
  rw [← e1, ← e2, List.take_append, List.take_of_length_le (by simp [hvl]; omega)]
  congr 2
  simp [hvl]; omega
theorem setCells_row {P : Program} {w : World} {g o : Nat} {cur : Array Value} {t : TypeId} {vs : List Value} (hg : w.heap[g]? = some (.cells cur t (0, 0))) (ho : o + vs.length ≤ cur.size) (h1 : ∀ v ∈ vs, v.oneCell' = true) :
    w.setCells g o vs = w.setRow g (cur.toList.take o ++ vs ++ cur.toList.drop (o + vs.length)).toArray := by
  have e1 := run_storeCells_cells (P := P) g o vs 0 w (fun j hj => by simp [World.cell?, hg]; omega) (fun j hj => by simp [World.frozen?, hg]) h1
  have e2 := run_storeCells_at P g o t vs 0 cur w hg (by simpa using ho) h1
  rw [e1] at e2
  simpa using e2

theorem add_zero_addr (a : Addr) : a.add 0 = a := by unfold Addr.add; split <;> simp_all
theorem CellB.cast_len {W : World} {g n cap o k : Nat} {L S : List Cell} (h : CellB W g n cap (L.take o ++ S ++ L.drop (o + S.length))) (hk : S.length = k) : CellB W g n cap (L.take o ++ S ++ L.drop (o + k)) := by rw [← hk]; exact h
/-- 'copy' into such a row. -/
theorem copy_run {P : Program} {t e : TypeId} (ty : TypeId) (hu : P.underlying t = some (.slice e)) (hs : (P.info? e).map (·.size) = some 4) {W : World} {g n cap : Nat} {L : List Cell} (hB : CellB W g n cap L)
    (o dLen dCap sLen sCap : Nat) (dp sA : Option Addr) (S : List Cell) (hS : ReadsRows W sA sLen 4 Cell.vals S) (hfit : o + min sLen dLen ≤ n) (hdp : 0 < min sLen dLen → dp = some ⟨g, o * 4, none⟩) :
    ∃ W', (Builtin.copy_ #[t, t] ty #[.slice dp dLen dCap, .slice sA sLen sCap]).run P W = .ok (.int .i64 ((min sLen dLen : Nat) : Int)) W' ∧ CellB W' g n cap (L.take o ++ S.take (min sLen dLen) ++ L.drop (o + min sLen dLen)) ∧ Mods [g] W W' := by
  obtain ⟨cur, h1, h2, h3, h4, h5, h6⟩ := id hB
  cases hq : P.info? e with
  | none => simp [hq] at hs
  | some i =>
    have hi : i.size = 4 := by simpa [hq] using hs
    by_cases h0 : min sLen dLen = 0
    · have hl : ∀ (x : Addr), (loadCells x 0).run P W = .ok #[] W := fun x => by simpa using run_loadCells_list (P := P) W x [] (by simp)
      refine ⟨W, ?_, by simpa [h0] using hB, Mods.refl _ _⟩
      cases dp <;> cases sA <;> simp [Builtin.copy_, run_underlying hu, Builtin.lenOf, Builtin.firstCells, sizeOf, typeInfo, hq, hi, show Nat.min sLen dLen = 0 from h0, h0, storeCells, hl, goInt]
    · obtain rfl := hdp (by omega)
      have hSl := hS.1
      obtain ⟨c0, hc0⟩ : ∃ c, S[0]? = some c := ⟨_, List.getElem?_eq_getElem (by omega)⟩
      obtain ⟨a, rfl, _⟩ := hS.2.2 0 c0 hc0
      have hk : (S.take (min sLen dLen)).length = min sLen dLen := by simp; omega
      have hf := hS.first (min sLen dLen) (by omega)
      have hn := rows_news hf 0 (S.take (min sLen dLen)) [] (by simp)
      have hn' : ∀ j u, ((S.take (min sLen dLen)).flatMap Cell.vals)[j]? = some u → W.cell? (a.add j) = some u := fun j u hj => by
        have := hn j u hj
        rwa [Nat.zero_mul, add_zero_addr] at this
      have hl := run_loadCells_list (P := P) W a _ hn'
      have hst := run_storeCells_at P g (o * 4) 27 _ 0 cur W h1 (by rw [vals_len, hk, h5]; omega) (vals_one (S.take (min sLen dLen)))
      rw [vals_len, hk] at hl
      refine ⟨_, ?_, hB.setRow o (S.take (min sLen dLen)) (by rw [hk]; exact hfit) h1 |>.cast_len hk, (Mods.refl [g] W).setRow g _ (.inl (by simp))⟩
      simp only [Nat.add_zero] at hst
      simp [Builtin.copy_, run_underlying hu, Builtin.lenOf, Builtin.firstCells, sizeOf, typeInfo, hq, hi, show Nat.min sLen dLen = min sLen dLen from rfl, hl, hst, goInt]

section
variable {P : Program} {ops : Array Oper} {Q : Exit → Act → World → Prop} {a : Act} {rest : List Oper} {o : Oper}
/-- 'copy(d, s)' into such a row, as a step of a walk. -/
theorem copy_own {W : World} {g n cap : Nat} {L : List Cell} (hB : CellB W g n cap L) (hgd : o.guard = none) (d s : Operand) (t e : TypeId)
    (ho : o.op = .call { callee := .builtin .copy, args := #[d, s], argTypes := #[t, t] }) (hu : P.underlying t = some (.slice e)) (hs : (P.info? e).map (·.size) = some 4)
    (off dLen dCap sLen sCap : Nat) (dp sA : Option Addr) (hd : a.eval d = .slice dp dLen dCap) (hsv : a.eval s = .slice sA sLen sCap) (S : List Cell) (hS : ReadsRows W sA sLen 4 Cell.vals S) (hfit : off + min sLen dLen ≤ n) (hdp : 0 < min sLen dLen → dp = some ⟨g, off * 4, none⟩)
    (h : ∀ W', CellB W' g n cap (L.take off ++ S.take (min sLen dLen) ++ L.drop (off + min sLen dLen)) → Mods [g] W W' → wpList P ops Q rest (a.put o.dst (.int .i64 ((min sLen dLen : Nat) : Int))) W') :
    wpList P ops Q (o :: rest) a W := by
  refine wpList_plain hgd fun K hK => ?_
  obtain ⟨W', hrun, h1, h2⟩ := copy_run (P := P) o.type hu hs hB off dLen dCap sLen sCap dp sA S hS hfit hdp
  unfold Oper.wp
  simp only [execOp, ho, resolve, invoke, builtin, Sem.run_bind, Sem.run_pure, Result.andThen_ok, List.map_toArray, List.map_cons, List.map_nil, hd, hsv, hrun]
  exact hK _ _ (h W' h1 h2)
theorem step_copy_own {K : Act → World → Prop} {E : Prop} {W : World} {g n cap : Nat} {L : List Cell} (hB : CellB W g n cap L) (hgd : o.guard = none) (d s : Operand) (t e : TypeId)
    (ho : o.op = .call { callee := .builtin .copy, args := #[d, s], argTypes := #[t, t] }) (hu : P.underlying t = some (.slice e)) (hs : (P.info? e).map (·.size) = some 4)
    (off dLen dCap sLen sCap : Nat) (dp sA : Option Addr) (hd : a.eval d = .slice dp dLen dCap) (hsv : a.eval s = .slice sA sLen sCap) (S : List Cell) (hS : ReadsRows W sA sLen 4 Cell.vals S) (hfit : off + min sLen dLen ≤ n) (hdp : 0 < min sLen dLen → dp = some ⟨g, off * 4, none⟩)
    (h : ∀ W', CellB W' g n cap (L.take off ++ S.take (min sLen dLen) ++ L.drop (off + min sLen dLen)) → Mods [g] W W' → K (a.put o.dst (.int .i64 ((min sLen dLen : Nat) : Int))) W') :
    if Region.wanted o (yielded ops a.tmps) = true then Oper.wp P o a W K Q else E := by
  have hw : Region.wanted o (yielded ops a.tmps) = true := by simp [Region.wanted, hgd]
  rw [if_pos hw]
  obtain ⟨W', hrun, h1, h2⟩ := copy_run (P := P) o.type hu hs hB off dLen dCap sLen sCap dp sA S hS hfit hdp
  unfold Oper.wp
  simp only [execOp, ho, resolve, invoke, builtin, Sem.run_bind, Sem.run_pure, Result.andThen_ok, List.map_toArray, List.map_cons, List.map_nil, hd, hsv, hrun]
  exact h W' h1 h2
theorem copy_in {F : Fence} {m : Nat} {W : World} {g n cap : Nat} {L : List Cell} (hB : CellB W g n cap L) (hgd : o.guard = none) (d s : Operand) (t e : TypeId)
    (ho : o.op = .call { callee := .builtin .copy, args := #[d, s], argTypes := #[t, t] }) (hu : P.underlying t = some (.slice e)) (hs : (P.info? e).map (·.size) = some 4)
    (off dLen dCap sLen sCap : Nat) (dp sA : Option Addr) (hd : a.eval d = .slice dp dLen dCap) (hsv : a.eval s = .slice sA sLen sCap) (S : List Cell) (hS : ReadsRows W sA sLen 4 Cell.vals S) (hfit : off + min sLen dLen ≤ n) (hdp : 0 < min sLen dLen → dp = some ⟨g, off * 4, none⟩)
    (h : ∀ W', CellB W' g n cap (L.take off ++ S.take (min sLen dLen) ++ L.drop (off + min sLen dLen)) → Mods [g] W W' → wpListIn F m P ops Q rest (a.put o.dst (.int .i64 ((min sLen dLen : Nat) : Int))) W') :
    wpListIn F m P ops Q (o :: rest) a W := by
  refine wpListIn_plain hgd fun K hK => ?_
  obtain ⟨W', hrun, h1, h2⟩ := copy_run (P := P) o.type hu hs hB off dLen dCap sLen sCap dp sA S hS hfit hdp
  unfold Oper.wpIn
  refine ⟨?_, ?_⟩
  · simp [Oper.about, ho, resolve, Target.leads, Sem.run_pure]
  · rw [Oper.semAt_plain F _ _ (by rw [ho]; intro c hc'; cases hc')]
    simp only [execOp, ho, resolve, invoke, builtin, Sem.run_bind, Sem.run_pure, Result.andThen_ok, List.map_toArray, List.map_cons, List.map_nil, hd, hsv, hrun]
    exact hK _ _ (h W' h1 h2)
/-- A whole cell stored into such a row. -/
theorem store_cell {W : World} {g n cap : Nat} {L : List Cell} (hB : CellB W g n cap L) (hgd : o.guard = none) (p x : Operand) (T : TypeId) (ho : o.op = .store T p x) (hi : (P.info? T).map (·.size) = some 4)
    (i off : Nat) (hoff : off = i * 4) (c : Cell) (hp : a.eval p = .pointer (some ⟨g, off, none⟩)) (hx : a.eval x = c.val) (hlt : i < n)
    (h : ∀ W', CellB W' g n cap (L.set i c) → Mods [g] W W' → wpList P ops Q rest (a.put o.dst undef) W') : wpList P ops Q (o :: rest) a W := by
  subst hoff
  refine wpList_plain hgd fun K hK => ?_
  obtain ⟨cur, h1, h2, h3, h4, h5, h6⟩ := id hB
  have hrun := run_storeAt_mid (P := P) W g (i * 4) T c.vals.toArray (fun j hj => ⟨by simp [World.cell?, h1]; simp [Cell.vals] at hj; omega, by simp [World.frozen?, h1]⟩) (by simpa [Cell.vals] using hi) (by simp [Cell.vals, Value.oneCell'])
  rw [setCells_row (P := P) h1 (by simp [Cell.vals]; omega) (by simpa using vals_one [c])] at hrun
  have hB2 := hB.setRow i [c] (by simp; omega) h1
  have e1 : [c].flatMap Cell.vals = c.vals := by simp
  rw [e1] at hB2
  have e2 : L.take i ++ [c] ++ L.drop (i + [c].length) = L.set i c := by
    rw [List.set_eq_take_append_cons_drop, if_pos (by omega)]; simp
  rw [e2] at hB2
  have hx' : a.eval x = .agg c.vals.toArray := hx
  unfold Oper.wp
  simp only [List.toList_toArray] at hrun
  simp [execOp, ho, hp, hx', hrun, Result.andThen]
  exact hK _ _ (h _ (by simpa [List.append_assoc] using hB2) ((Mods.refl [g] W).setRow g _ (.inl (by simp))))
/-- A whole struct stored into the block that holds it alone. -/
theorem store_blk {W : World} {g : Nat} {cs c' : Array Value} {t : TypeId} (hb : W.heap[g]? = some (.cells cs t (0, 0))) (hgd : o.guard = none) (p x : Operand) (T : TypeId) (ho : o.op = .store T p x) (hi : (P.info? T).map (·.size) = some c'.size)
    (hp : a.eval p = .pointer (some ⟨g, 0, none⟩)) (hx : a.eval x = .agg c') (hs : cs.size = c'.size) (h1 : c'.all (·.oneCell') = true)
    (h : ∀ W', W'.heap[g]? = some (.cells c' t (0, 0)) → Mods [g] W W' → wpList P ops Q rest (a.put o.dst undef) W') : wpList P ops Q (o :: rest) a W := by
  refine wpList_plain hgd fun K hK => ?_
  have h1' : ∀ v ∈ c'.toList, v.oneCell' = true := by intro v hv; rw [Array.all_eq_true'] at h1; exact h1 v (by simpa using hv)
  have hrun := run_storeAt_mid (P := P) W g 0 T c' (fun j hj => ⟨by simp [World.cell?, hb]; omega, by simp [World.frozen?, hb]⟩) hi h1
  rw [setCells_row (P := P) hb (by simp; omega) h1'] at hrun
  have e2 : cs.toList.take 0 ++ c'.toList ++ cs.toList.drop (0 + c'.toList.length) = c'.toList := by
    rw [List.take_zero, List.nil_append, Nat.zero_add, List.drop_of_length_le (by simp; omega), List.append_nil]
  rw [e2] at hrun
  unfold Oper.wp
  simp [execOp, ho, hp, hx, hrun, Result.andThen]
  exact hK _ _ (h _ (by simpa using setRow_heap W g _ c'.toList.toArray _ _ hb) ((Mods.refl [g] W).setRow g _ (.inl (by simp))))
end
end Go.Proofs.YtldjmacnokkjdaaDoor
