/- What IDs of package kids does: the children's numbers, sorted. -/
import Derived.Test.YtfdpfhjdjhoenaaKids
import Derived.Test.YtfdpfhjdjhoenaaIter
import Derived.Lib.SlKeysI
namespace Go.Proofs.Ytfdpfhjdjhoenaa
open Go.RowKit Go.Conc Go.Maps Go.Sort Go.Shelf
set_option linter.unusedVariables false
set_option linter.unusedSimpArgs false

theorem sorts (m : Nat) : AnyZI.SortsIn Try.prog Try.sortedA_ren Fence.wide m :=
  ⟨fun blk off cap ss W hH hblk hsz => callsIn_wide.2 (AnyM.slices_Sort_int Try.sortA blk off cap ss W hH hblk hsz),
   fun p cap W => callsIn_wide.2 (AnyM.slices_Sort_int_none Try.sortA p cap W)⟩

def sortedIds (L : List Kid) : List Int := (L.map (·.id)).mergeSort (fun x y => decide (x ≤ y))
def anyElem : Value → Option (DataW Unit × List MemPlace) := fun _ => some (.nil, [])
theorem ids_wf {x : Int} (h : 0 ≤ x ∧ x ≤ 15) : (Lit.int .i64 x).wf = true := by
  have h1 : IntKind.i64.min = -9223372036854775808 := by decide
  have h2 : IntKind.i64.max = 9223372036854775807 := by decide
  simp only [Lit.wf, h1, h2, Bool.and_eq_true, decide_eq_true_eq]
  omega

noncomputable def idsData (L : List Kid) : DataW Unit := .map (((ents (L.map Kid.ent)).toList.map (WideElems.rg Try.prog 3 anyElem)).foldr DataW.insert [])
theorem rd_ent {x : Kid} (h : 0 ≤ x.id ∧ x.id ≤ 15) : WideElems.rd Try.prog 3 anyElem x.ent.entry = some (.int .i64 x.id, .nil) := by
  unfold WideElems.rd keyOf
  rw [Try.underlying3]
  simp [mapKey, Try.underlying3, Ent.entry, Kid.ent, ids_wf h, anyElem]
theorem intKeys_ids (L : List Kid) (h : ∀ x ∈ L, 0 ≤ x.id ∧ x.id ≤ 15) : (intKeys (idsData L)).Perm (L.map (·.id)) := by
  unfold idsData intKeys
  refine ((WideShapes.sorted_perm _).map _).trans ?_
  have e : ((ents (L.map Kid.ent)).toList.map (WideElems.rg Try.prog 3 anyElem)).map (fun p => Go.intOf p.1) = L.map (·.id) := by
    simp only [ents, List.map_map]
    refine List.map_congr_left fun x hx => ?_
    simp only [Function.comp, WideElems.rg, rd_ent (h x hx), Option.getD_some, Go.intOf]
  exact e ▸ List.Perm.refl _
theorem owns_ids {w : World} {k m : Nat} {room queue last : Int} {L : List Kid} (h : KAt w k m room queue last L) : w.ownsMap Try.prog 3 anyElem m L.length (idsData L) := by
  obtain ⟨clock, hm, hb1, hb2⟩ := h.map
  have hl := h.len
  have hr := h.room0
  refine ⟨_, clock, hm, ⟨by rw [ents_size]; simp; unfold maxLen; omega, ⟨?_, ?_, ?_⟩, ?_⟩, by rw [ents_size]; simp, rfl⟩
  · intro x hx
    simp only [ents, List.map_map, List.toList_toArray, List.mem_map] at hx
    obtain ⟨y, hy, rfl⟩ := hx
    exact hb1 y hy
  · simp only [ents, List.map_map]
    exact hb2
  · have := h.ids
    simp only [ents, List.map_map]
    have e : L.map ((fun x : MapEntry => x.key) ∘ Ent.entry ∘ Kid.ent) = (L.map (·.id)).map (Value.int .i64) := by
      rw [List.map_map]; rfl
    show (L.map ((fun x : MapEntry => x.key) ∘ Ent.entry ∘ Kid.ent)).Nodup
    rw [e]
    exact List.Pairwise.map _ (fun a b hab e => hab (by simpa using e)) this
  · intro x hx
    simp only [ents, List.map_map, List.toList_toArray, List.mem_map] at hx
    obtain ⟨y, hy, rfl⟩ := hx
    exact ⟨_, rd_ent (h.bound y hy)⟩

set_option maxHeartbeats 1000000 in
theorem kids_IDs (w : World) (k m : Nat) (room queue last : Int) (L : List Kid) (h : KAt w k m room queue last L) :
    Calls Try.prog 25 #[.pointer (some ⟨k, 0, none⟩)] w fun e w' => ∃ v : Value, e = .returned v ∧
      w'.ownsRow w.heap.size 3 1 v L.length ((sortedIds L).map encZ) ∧ (v = .slice none 0 0 ↔ L = []) ∧ Below w.heap.size w w' := by
  have hown := owns_ids h
  have hkeys := intKeys_ids L h.bound
  have hsize : Maps.size (idsData L) = L.length := by
    have := hkeys.length_eq
    simp only [List.length_map] at this
    rw [← this]
    unfold idsData Maps.size intKeys
    simp
  have C := fun i => blk_cell h.head i
  have HK := Lib.hid h
  have hlen : L.length ≤ 15 := by have := h.len; have := h.room0; omega
  clear h
  have hbl := hown.lt
  refine (callsIn_wide (n := 6)).1 ?_
  have hseq : SeqGives Fence.wide 2 Try.prog 41 #[.pointer (some ⟨w.heap.size, 0, none⟩)] encZ (fun ss => ss.Perm (intKeys (idsData L))) (Maps.size (idsData L)) (w.alloc (.cells #[.map (some m)] 50)) :=
    AnyZI.keys_gives (ρ := Try.keysA_ren) { Try.keysA with } Fence.wide _ trivial rfl (by omega) w.heap.size m L.length (idsData L) _ (by simp) (by simp) (by
      obtain ⟨es, clock, hb, Ft, hs, hD⟩ := hown
      exact ⟨es, clock, (Below.heap_alloc _ _ m hbl).trans hb, Ft, hs, hD⟩)
  have cK : ∀ mb W, CallsIn Fence.wide 5 Try.prog 35 #[.map mb] W fun e w' => e = .returned (.func (.func 41) #[] #[.pointer (some ⟨W.heap.size, 0, none⟩)]) ∧ w' = W.alloc (.cells #[.map mb] 50) := fun mb W => AnyZI.keys_in Try.keysA Fence.wide 5 trivial rfl mb W
  have cS := AnyZI.sorted_in Try.sortedA Fence.wide 5 trivial trivial trivial trivial rfl (by omega) (sorts _) (enters_of Try.func40 (by kernel_rfl) rfl) 41 #[.pointer (some ⟨w.heap.size, 0, none⟩)] trivial (enters_of Try.func41 (by kernel_rfl) rfl) _ _ (by rw [hsize]; unfold maxLen; omega) (by rw [hsize]; omega) _ hseq
  change CallsIn _ _ Try.prog 34 _ _ _ at cS
  have hfK : Fence.wide.fn 35 := trivial
  have hfS : Fence.wide.fn 34 := trivial
  refine callsIn_of_wp Try.func25 rfl trivial ?_ rfl
  simp only [Try.ntmps25, List.size_toArray, List.length_cons, List.length_nil, Nat.reduceAdd, Nat.reduceSub, Array.replicate_succ, Array.replicate_zero, List.push_toArray, List.append_toArray, List.nil_append, List.cons_append]
  have HKE := Lib.hid hkeys
  have HSZ := Lib.hid hsize
  clear hkeys hsize hown hseq
  gi_wp2_with (first
    | (gi_at_call 35; refine (cK _ _).mono ?_; rintro e w' ⟨rfl, rfl⟩)
    | (gi_at_call 34; refine cS.mono ?_; rintro e w' ⟨v, ss, rfl, hS, hrow, hnil, hb⟩))
  go_ret
  have hp := hS.trans HKE.out
  have hle : ss.length = L.length := by simpa using hp.length_eq
  have hms : ss.mergeSort (fun x y => decide (x ≤ y)) = sortedIds L := mergeSort_of_perm_i hp
  rw [hms, hle] at hrow
  refine ⟨v, rfl, ownsRow_base_a hrow (by simp), ?_, ((Below.refl _ w).alloc (Nat.le_refl _) _).trans (hb.mono (by simp))⟩
  rw [hnil, ← List.length_eq_zero_iff, hle, List.length_eq_zero_iff]
end Go.Proofs.Ytfdpfhjdjhoenaa
