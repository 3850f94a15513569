/- Maps whose keys are ints: what the map's operations do to a block whose entries are known as a list. Over whatever program. -/
import Derived.Test.YtfdpfhjdjhoenaaBase
namespace Go.Proofs.Ytfdpfhjdjhoenaa
open Go.RowKit
set_option linter.unusedSimpArgs false

/-- An entry: its key, its value, when it was born. -/
structure Ent where
  key : Int
  val : Value
  born : Nat
def Ent.entry (e : Ent) : MapEntry := ⟨.int .i64 e.key, e.val, e.born⟩
def ents (l : List Ent) : Array MapEntry := (l.map Ent.entry).toArray
def look (l : List Ent) (k : Int) : Option Value := (l.find? (·.key == k)).map (·.val)
def putE (l : List Ent) (k : Int) (v : Value) (clock : Nat) : List Ent := if (l.any (·.key == k)) then l.map (fun e => if e.key == k then { e with val := v } else e) else l ++ [⟨k, v, clock⟩]
def delE (l : List Ent) (k : Int) : List Ent := l.eraseP (·.key == k)

theorem findNow_ents (k : Int) : ∀ (l : List Ent) (i : Nat), Instr.findNow (.int .i64) (.int .i64 k) (l.map Ent.entry) i = some ((l.findIdx? (·.key == k)).map fun j => (i + j, ((l[j]?).map (·.val)).getD undef))
  | [], i => by simp [Instr.findNow]
  | e :: l, i => by
    simp only [List.map_cons, Instr.findNow, Ent.entry, Instr.sameNow, if_true]
    by_cases h : e.key = k
    · simp [h, List.findIdx?_cons]
    · have h1 : (k == e.key) = false := by simpa using fun x => h x.symm
      have h2 : (e.key == k) = false := by simpa using h
      simp only [h1, findNow_ents k l (i + 1), List.findIdx?_cons, h2]
      cases l.findIdx? (·.key == k) <;> simp [Nat.add_assoc, Nat.add_comm 1]

section
variable {P : Program} {w : World} {t kt et : TypeId} {m clock : Nat} {l : List Ent}

theorem rgo (hb : w.heap[m]? = some (.map (ents l) clock)) : (getObj m).run P w = .ok (.map (ents l) clock) w := by simp [getObj, Sem.run, hb]
theorem rso (o : Obj) (hb : w.heap[m]? = some (.map (ents l) clock)) : (setObj m o).run P w = .ok () { w with heap := w.heap.setIfInBounds m o } := by simp [setObj, Sem.run, hb]
theorem run_findKey_i (hk : P.underlying kt = some (.int .i64)) (k : Int) (w : World) : (Instr.findKey kt (.int .i64 k) (ents l).toList).run P w = .ok ((l.findIdx? (·.key == k)).map fun j => (j, ((l[j]?).map (·.val)).getD undef)) w := by
  unfold Instr.findKey
  simp only [Sem.run_bind, run_underlying hk, Result.andThen, ents, List.toList_toArray, findNow_ents, Nat.zero_add]
  rfl
theorem run_checkKey_i (hk : P.underlying kt = some (.int .i64)) (e : Bool) (n : Nat) (k : Int) (w : World) : (Instr.checkKey e (n + 1) kt (.int .i64 k)).run P w = .ok () w := by
  unfold Instr.checkKey
  simp only [Sem.run_bind, run_underlying hk, Result.andThen]
  rfl

theorem look_idx (l : List Ent) (k : Int) : look l k = (l.findIdx? (·.key == k)).map fun j => ((l[j]?).map (·.val)).getD undef := by
  induction l with
  | nil => rfl
  | cons e l ih =>
    unfold look at ih ⊢
    by_cases h : e.key = k
    · simp [h, List.findIdx?_cons]
    · have h2 : (e.key == k) = false := by simpa using h
      simp only [List.find?_cons, h2, List.findIdx?_cons, ih]
      cases l.findIdx? (·.key == k) <;> simp

theorem run_lookup_i (ht : P.underlying t = some (.map kt et)) (hk : P.underlying kt = some (.int .i64)) {z : Value} (hz : ∀ w, (zeroValue et).run P w = .ok z w) (hm : w.heap[m]? = some (.map (ents l) clock)) (k : Int) :
    (Instr.lookup t (.map (some m)) (.int .i64 k) false).run P w = .ok ((look l k).getD z) w := by
  unfold Instr.lookup
  simp only [Sem.run_bind, run_underlying ht, Result.andThen, rgo hm, run_checkKey_i hk, run_findKey_i hk]
  rw [look_idx]
  cases hf : l.findIdx? (·.key == k) <;> simp [hz, run_findKey_i hk, hf, Result.andThen]

/-- The block behind an operation that turns the map. -/
def _root_.Go.World.setMap (w : World) (m : Nat) (l : List Ent) (clock : Nat) : World := { w with heap := w.heap.setIfInBounds m (.map (ents l) clock) }
theorem heap_setMap (hm : m < w.heap.size) (l : List Ent) (c : Nat) : (w.setMap m l c).heap[m]? = some (.map (ents l) c) := by simp [World.setMap, hm]
theorem setMap_other {g : Nat} (l : List Ent) (c : Nat) (h : m ≠ g) : (w.setMap m l c).heap[g]? = w.heap[g]? := by simp [World.setMap, Array.getElem?_setIfInBounds_ne h]
theorem size_setMap (l : List Ent) (c : Nat) : (w.setMap m l c).heap.size = w.heap.size := by simp [World.setMap]

theorem putE_new {k : Int} (h : l.findIdx? (·.key == k) = none) (v : Value) (clock : Nat) : putE l k v clock = l ++ [⟨k, v, clock⟩] := by
  have : l.any (·.key == k) = false := by
    rw [List.findIdx?_eq_none_iff] at h
    simpa using h
  simp [putE, this]

theorem run_mapUpdate_new (ht : P.underlying t = some (.map kt et)) (hk : P.underlying kt = some (.int .i64)) (hm : w.heap[m]? = some (.map (ents l) clock)) (k : Int) (v : Value) (hnew : look l k = none) :
    (Instr.mapUpdate t (.map (some m)) (.int .i64 k) v).run P w = .ok () (w.setMap m (l ++ [⟨k, v, clock⟩]) (clock + 1)) := by
  have hf : l.findIdx? (·.key == k) = none := by
    rw [look_idx] at hnew
    cases h : l.findIdx? (·.key == k) <;> simp_all
  unfold Instr.mapUpdate
  simp only [Sem.run_bind, run_underlying ht, Result.andThen, rgo hm, run_checkKey_i hk, run_findKey_i hk, hf, Option.map_none]
  rw [rso _ hm]
  simp [World.setMap, ents, Ent.entry]

theorem ents_size : (ents l).size = l.length := by simp [ents]
theorem run_len_i (ht : P.underlying t = some (.map kt et)) (hm : w.heap[m]? = some (.map (ents l) clock)) (ty : TypeId) : (Builtin.len_ #[t] ty #[.map (some m)]).run P w = .ok (.int .i64 l.length) w := by
  simp [Builtin.len_, run_underlying ht, rgo hm, goInt, ents_size]
theorem List.map_eraseIdx {α β : Type} (f : α → β) : ∀ (l : List α) (j : Nat), (l.map f).eraseIdx j = (l.eraseIdx j).map f
  | [], _ => rfl
  | _ :: _, 0 => rfl
  | a :: l, j + 1 => by simp [List.map_eraseIdx f l j]
theorem ents_erase (j : Nat) : (ents l).eraseIdxIfInBounds j = ents (l.eraseIdx j) := by
  unfold ents
  rw [← Array.toList_inj]
  simp only [Array.eraseIdxIfInBounds]
  split
  · simp only [List.eraseIdx_toArray, List.map_eraseIdx]
  · rename_i h; simp at h; simp [List.eraseIdx_of_length_le h]
theorem delE_idx (l : List Ent) (k : Int) : delE l k = match l.findIdx? (·.key == k) with | some j => l.eraseIdx j | none => l := by
  unfold delE
  rw [List.eraseP_eq_eraseIdx]
  cases l.findIdx? (·.key == k) <;> rfl
theorem run_delete_i (ht : P.underlying t = some (.map kt et)) (hk : P.underlying kt = some (.int .i64)) (hm : w.heap[m]? = some (.map (ents l) clock)) (k : Int) (ty u : TypeId) :
    (Builtin.delete_ #[t, u] ty #[.map (some m), .int .i64 k]).run P w = .ok (.tuple #[]) (w.setMap m (delE l k) clock) := by
  unfold Builtin.delete_
  have hlt := heap_lt hm
  rw [delE_idx]
  simp only [Sem.run_bind, List.getElem?_toArray, List.getElem?_cons_zero, List.getElem?_cons_succ, run_underlying ht, Result.andThen, rgo hm, run_checkKey_i hk, run_findKey_i hk]
  cases hf : l.findIdx? (·.key == k) with
  | none => simp [rso _ hm, World.setMap, Result.andThen]
  | some j => simp [rso _ hm, World.setMap, Result.andThen, ents_erase]
theorem run_clear_i (ht : P.underlying t = some (.map kt et)) (hm : w.heap[m]? = some (.map (ents l) clock)) (ty : TypeId) :
    (Builtin.clear_ #[t] ty #[.map (some m)]).run P w = .ok (.tuple #[]) (w.setMap m [] clock) := by
  unfold Builtin.clear_
  simp [run_underlying ht, Result.andThen, rgo hm, rso _ hm, World.setMap, ents]
theorem Mods.setMap {S : List Nat} {a w : World} (h : Mods S a w) (m : Nat) (l : List Ent) (c : Nat) (hm : m ∈ S ∨ a.heap.size ≤ m) : Mods S a (w.setMap m l c) :=
  h.then (S' := [m]) ⟨rfl, rfl, rfl, by simp [World.setMap], fun k _ hk => setMap_other l c (by simpa using fun e => hk (by simp [e]))⟩ (by simpa using hm)
end
end Go.Proofs.Ytfdpfhjdjhoenaa
