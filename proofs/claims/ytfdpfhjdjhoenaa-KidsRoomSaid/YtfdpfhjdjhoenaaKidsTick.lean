/- What Tick of package kids does. -/
import Derived.Test.YtfdpfhjdjhoenaaKidsIter
import Derived.Test.YtfdpfhjdjhoenaaSlices
namespace Go.Proofs.Ytfdpfhjdjhoenaa
open Go.RowKit Go.Conc
set_option linter.unusedVariables false
set_option linter.unusedSimpArgs false

/-! ### a tick, as data: behind the children of P -/
def tk1 (P : List Int) (x : Kid) : Option Kid := if x.id ∈ P then (if 8 < x.silent + 1 then none else some { x with silent := x.silent + 1 }) else some x
def tk (P : List Int) (L : List Kid) : List Kid := L.filterMap (tk1 P)
theorem tk_nil (L : List Kid) : tk [] L = L := by
  unfold tk
  have : tk1 [] = some := by funext x; simp [tk1]
  rw [this, List.filterMap_some]
theorem tk1_id {P : List Int} {x y : Kid} (h : tk1 P x = some y) : y.id = x.id := by
  unfold tk1 at h
  split at h
  · split at h
    · cases h
    · cases h; rfl
  · cases h; rfl
theorem tk_ids (P : List Int) (L : List Kid) : ((tk P L).map (·.id)).Sublist (L.map (·.id)) := by
  unfold tk
  induction L with
  | nil => simp
  | cons x L ih =>
    rw [List.filterMap_cons]
    cases h : tk1 P x with
    | none => exact ih.cons _
    | some y => simp only [List.map_cons, tk1_id h]; exact ih.cons_cons _
theorem tk_blocks {P : List Int} {L : List Kid} : (blocksOf (tk P L)).Sublist (blocksOf L) := by
  unfold tk blocksOf
  induction L with
  | nil => simp
  | cons x L ih =>
    rw [List.filterMap_cons, List.flatMap_cons]
    cases h : tk1 P x with
    | none => exact List.Sublist.trans ih (List.sublist_append_right _ _)
    | some y =>
      have : y.blocks = x.blocks := by
        unfold tk1 at h
        split at h
        · split at h
          · cases h
          · cases h; rfl
        · cases h; rfl
      simp only [List.flatMap_cons, this]
      exact List.Sublist.append (List.Sublist.refl _) ih
theorem setS_away {L : List Kid} {id s : Int} (h : id ∉ L.map (·.id)) : setS L id s = L := by
  unfold setS
  conv => rhs; rw [← List.map_id L]
  refine List.map_congr_left fun x hx => ?_
  have : (x.id == id) = false := by simpa using fun e => h (List.mem_map.2 ⟨x, hx, e⟩)
  simp [this]
theorem dropK_away {L : List Kid} {id : Int} (h : id ∉ L.map (·.id)) : dropK L id = L := by
  unfold dropK
  refine List.eraseP_of_forall_not fun x hx e => h (List.mem_map.2 ⟨x, hx, by simpa using e⟩)
theorem tk_away {P : List Int} {L : List Kid} {id : Int} (h : id ∉ L.map (·.id)) : tk (P ++ [id]) L = tk P L := by
  unfold tk
  induction L with
  | nil => rfl
  | cons y L ih =>
    have hy : y.id ≠ id := fun e => h (by simp [e])
    have e1 : tk1 (P ++ [id]) y = tk1 P y := by simp [tk1, hy]
    have e2 := ih (fun hm => h (by simp only [List.map_cons, List.mem_cons]; exact .inr hm))
    rw [List.filterMap_cons, List.filterMap_cons, e1, e2]
theorem away_tk {P : List Int} {L : List Kid} {id : Int} (h : id ∉ L.map (·.id)) : id ∉ (tk P L).map (·.id) := fun hm => h ((tk_ids P L).subset hm)

theorem tk_step {P : List Int} {L : List Kid} {x : Kid} (hnd : (L.map (·.id)).Nodup) (hx : x ∈ L) (hP : x.id ∉ P) :
    find (tk P L) x.id = some x ∧ tk (P ++ [x.id]) L = if 8 < x.silent + 1 then dropK (setS (tk P L) x.id (x.silent + 1)) x.id else setS (tk P L) x.id (x.silent + 1) := by
  induction L with
  | nil => cases hx
  | cons y L ih =>
    simp only [List.map_cons, List.nodup_cons] at hnd
    obtain ⟨hy, hnd⟩ := hnd
    rcases List.mem_cons.1 hx with e | hx'
    · subst e
      have h1 : tk1 P x = some x := by simp [tk1, hP]
      have h2 : tk P (x :: L) = x :: tk P L := by simp [tk, List.filterMap_cons, h1]
      have ha := away_tk (P := P) hy
      refine ⟨by rw [h2]; simp [find], ?_⟩
      rw [h2]
      have h3 : setS (x :: tk P L) x.id (x.silent + 1) = { x with silent := x.silent + 1 } :: tk P L := by
        have := setS_away (s := x.silent + 1) ha
        unfold setS at this ⊢
        rw [List.map_cons, this, beq_self_eq_true]; rfl
      rw [h3]
      by_cases h8 : 8 < x.silent + 1
      · rw [if_pos h8]
        have h4 : tk1 (P ++ [x.id]) x = none := by simp [tk1, h8]
        simp [tk, List.filterMap_cons, h4, dropK]
        exact tk_away hy
      · rw [if_neg h8]
        have h4 : tk1 (P ++ [x.id]) x = some { x with silent := x.silent + 1 } := by simp [tk1, h8]
        simp [tk, List.filterMap_cons, h4]
        exact tk_away hy
    · obtain ⟨f1, f2⟩ := ih hnd hx'
      have hne : y.id ≠ x.id := fun e => hy (List.mem_map.2 ⟨x, hx', e.symm⟩)
      have h1 : tk1 (P ++ [x.id]) y = tk1 P y := by simp [tk1, hne]
      cases h2 : tk1 P y with
      | none =>
        have h3 : ∀ Z, (Z = P ∨ Z = P ++ [x.id]) → tk Z (y :: L) = tk Z L := by
          rintro Z (rfl | rfl) <;> simp [tk, List.filterMap_cons, h1, h2]
        rw [h3 _ (.inl rfl), h3 _ (.inr rfl)]
        exact ⟨f1, f2⟩
      | some z =>
        have hz : z.id ≠ x.id := by rw [tk1_id h2]; exact hne
        have hz' : (z.id == x.id) = false := by simpa using hz
        have h3 : tk P (y :: L) = z :: tk P L := by simp [tk, List.filterMap_cons, h2]
        have h4 : tk (P ++ [x.id]) (y :: L) = z :: tk (P ++ [x.id]) L := by simp [tk, List.filterMap_cons, h1, h2]
        rw [h3, h4, f2]
        have h5 : ∀ s, setS (z :: tk P L) x.id s = z :: setS (tk P L) x.id s := by intro s; unfold setS; rw [List.map_cons, hz']; rfl
        refine ⟨by unfold find at f1 ⊢; rw [List.find?_cons, hz']; exact f1, ?_⟩
        rw [h5]
        split
        · unfold dropK; rw [List.eraseP_cons, hz']; rfl
        · rfl

/-! ### the sorted ids -/
theorem sorted_perm (L : List Kid) : (sortedIds L).Perm (L.map (·.id)) := List.mergeSort_perm _ _
theorem sorted_len (L : List Kid) : (sortedIds L).length = L.length := by simpa using (sorted_perm L).length_eq
theorem sorted_nodup {L : List Kid} (h : (L.map (·.id)).Nodup) : (sortedIds L).Nodup := (sorted_perm L).nodup_iff.2 h
theorem sorted_at {L : List Kid} {i : Nat} (hi : i < L.length) : ∃ x ∈ L, (sortedIds L)[i]? = some x.id := by
  have hi' : i < (sortedIds L).length := by rw [sorted_len]; exact hi
  have hm : (sortedIds L)[i] ∈ L.map (·.id) := (sorted_perm L).subset (List.getElem_mem hi')
  obtain ⟨x, hx, e⟩ := List.mem_map.1 hm
  exact ⟨x, hx, by rw [List.getElem?_eq_getElem hi', e]⟩
theorem not_mem_take {xs : List Int} (h : xs.Nodup) {i : Nat} {a : Int} (ha : xs[i]? = some a) : a ∉ xs.take i := by
  intro hm
  obtain ⟨j, hj, e⟩ := List.mem_take_iff_getElem.1 hm
  obtain ⟨hi, e2⟩ := List.getElem?_eq_some_iff.1 ha
  have hji : j < i := by omega
  exact List.pairwise_iff_getElem.1 h j i (by omega) hi hji (e.trans e2.symm)
theorem tk_all {L : List Kid} : tk (sortedIds L) L = tk (L.map (·.id)) L := by
  unfold tk
  congr 1
  funext x
  simp only [tk1, (sorted_perm L).mem_iff]

def TickRel (w1 : World) (k m : Nat) (room queue last : Int) (L : List Kid) (ids : Value) (base : Nat) (kk : Nat) (out idx : Value) (wr : World) : Prop :=
  ∃ (i n : Nat) (xs : List Value), idx = .int .i64 i ∧ i ≤ L.length ∧ n ≤ i ∧ KAt wr k m room queue last (tk ((sortedIds L).take i) L) ∧ wr.ownsRow base 3 1 ids L.length ((sortedIds L).map encZ) ∧
    wr.ownsRow w1.heap.size 3 1 out n xs ∧ Mods (m :: L.map (·.kb)) w1 wr ∧ kk + i = L.length

set_option maxHeartbeats 2000000 in
theorem kids_Tick (w : World) (k m : Nat) (room queue last : Int) (L : List Kid) (h : KAt w k m room queue last L) (hs : ∀ x ∈ L, 0 ≤ x.silent ∧ x.silent ≤ 8) :
    Calls Try.prog 24 #[.pointer (some ⟨k, 0, none⟩)] w fun e w' => ∃ v, e = .returned v ∧ KAt w' k m room queue last (tk (L.map (·.id)) L) ∧ Mods (m :: L.map (·.kb)) w w' := by
  have HS := Lib.hid hs
  have HK := Lib.hid h
  have hll : L.length ≤ 15 := by have := h.len; have := h.room0; omega
  have hnd := h.ids
  have HN := Lib.hid hnd
  clear h hs hnd
  have tokA : True := trivial
  go_enter Try.func24, Try.ntmps24
  go_wp2_with (go_at_call 25; refine (kids_IDs _ k m room queue last L HK.out).mono ?_; rintro e w1 ⟨v, rfl, hown, hnil, hb⟩; obtain ⟨A, cp, rfl, hn1, hn2, hA⟩ := own_slice' hown)
  have hM1 := Mods.of_below hb
  have hk1 := HK.out.keeps hM1 (by simp)
  have HM1 := Lib.hid hM1
  have hws := hM1.size
  unfold maxLen at hn2
  clear hM1 hnil hb
  go_loopg [3, 10] L.length (TickRel w1 k m room queue last L (.slice A L.length cp) w.heap.size)
  case atStart => exact ⟨0, 0, [], rfl, by omega, by omega, by rw [List.take_zero, tk_nil]; exact hk1, hown, own_nil _ _ _ _, Mods.refl _ _, by omega⟩
  case round =>
    clear hk1
    obtain ⟨i, n, xs, rfl, hi, hni, hk, hids, hout, hM, hkk⟩ := hrel
    have HKK := Lib.hid hkk
    clear hkk
    by_cases hlt : i < L.length
    · obtain ⟨g, rfl⟩ := hA (by omega)
      obtain ⟨x, hx, hxi⟩ := sorted_at hlt
      have c0 := own_cells hids i (u := .int .i64 x.id) (by rw [List.getElem?_map, hxi]; rfl)
      obtain ⟨hf, hstep⟩ := tk_step (P := (sortedIds L).take i) HN.out hx (not_mem_take (sorted_nodup HN.out) hxi)
      have hts : (sortedIds L).take (i + 1) = (sortedIds L).take i ++ [x.id] := by rw [List.take_add_one, hxi]; rfl
      rw [← hts] at hstep
      obtain ⟨s0, s8⟩ := HS.out x hx
      obtain ⟨hxt, hxid⟩ := find_mem hf
      obtain ⟨clock, hmap, hbn⟩ := hk.map
      have hl := run_lookup_i (P := Try.prog) Try.underlying50 Try.underlying3 zero_kidptr hmap x.id
      rw [look_find, hf] at hl
      simp only [ptrOf, Option.map_some] at hl
      have C := fun i => blk_cell hk.head i
      have C2 := fun i => blk_cell (hk.kid x hxt).head i
      have F2 := fun i => blk_frozen (hk.kid x hxt).head i
      obtain ⟨hk3, hm3⟩ := hk.hear hf (x.silent + 1)
      have hids3 := own_mods hids hm3 (by intro b hb hm; simp at hm; have := own_base hids b hb; have := HK.out.lt x.kb (by simp; exact .inr (.inr (mem_blocksOf hx (by simp [Kid.blocks])))); omega)
      have hxg : x.kb ≠ g := by have := own_base hids g rfl; have := HK.out.lt x.kb (by simp; exact .inr (.inr (mem_blocksOf hx (by simp [Kid.blocks])))); omega
      have hout3 := own_mods hout hm3 (by intro b hb hm; simp at hm; have := own_base hout b hb; have := HK.out.lt x.kb (by simp; exact .inr (.inr (mem_blocksOf hx (by simp [Kid.blocks])))); omega)
      have hM3 := hM.trans (hm3.mono (S' := m :: L.map (·.kb)) (fun b hb => .inl (by simp at hb; subst hb; simp; exact .inr ⟨x, hx, rfl⟩)))
      have hMs := hM.size
      by_cases h8 : 8 < x.silent + 1
      · have HST := Lib.hid hstep
        clear hstep hk hids hout hM
        go_wp2_with (first
          | (go_at_call 22; go_must (refine (kids_Drop _ k m room queue last x.id _ hk5).mono ?_); rintro e w6 ⟨rfl, hk6, hm6⟩)
          | (at_builtin; go_must (refine append_one w1.heap.size rfl (.tmp 32) (.tmp 34) 43 3 (.int .i64 0) 1 8 rfl Try.underlying43 (by kernel_rfl) rfl (by decide) (by decide) u3 _ _ [.int .i64 x.id] rfl (by simp only [World.size_setCell]; rfl) rfl (by simp [Value.oneCell']) hout3 hM3 (by have := hm3.size; omega) (by omega) (by omega) ?_); intro v1 w5 hown1 hm5 hgr hblk
             go_must (have hm35 : Mods u3.ownBlock.toList (wr.setCell ⟨x.kb, 1, none⟩ (.int .i64 (x.silent + 1))) w5 := (Mods.refl _ _).grown hgr (fun b hb => .inl (by simpa using hb)))
             go_must (have hk5 := hk3.keeps hm35 (by
               intro b hb hm
               have h1 := own_base hout3 b (by simpa using hm)
               have h2 : b < w.heap.size := by
                 refine HK.out.lt b ?_
                 rw [hear_blocks] at hb
                 simp only [List.mem_cons] at hb ⊢
                 rcases hb with hb | hb | hb
                 · exact .inl hb
                 · exact .inr (.inl hb)
                 · exact .inr (.inr (tk_blocks.subset hb))
               omega))
             go_must (have hids5 := own_mods hids3 hm35 (by intro b hb hm; have h1 := own_base hout3 b (by simpa using hm); have h2 := own_lt hown b hb; omega))
             clear hgr))
        have hmk : m < w.heap.size := HK.out.lt m (by simp)
        have hids6 := own_mods hids5 hm6 (by intro b hb hm; simp at hm; have := own_base hids5 b hb; omega)
        have hout6 := own_mods hown1 hm6 (by intro b hb hm; simp at hm; have := own_base hown1 b hb; omega)
        have HKK2 := HKK.out
        rw [if_pos h8] at HST
        go_roundg (gk - 1)
        case measure => omega
        case rel => exact ⟨i + 1, n + 1, _, by go_num, by omega, by omega, by rw [HST.out]; exact hk6, hids6, hout6, hm5.then hm6 (by simp), by omega⟩
      · have HST := Lib.hid hstep
        have HKK2 := HKK.out
        rw [if_neg h8] at HST
        clear hstep hk hids hout hM
        go_wp2
        go_roundg (gk - 1)
        case measure => omega
        case rel => exact ⟨i + 1, n, _, by go_num, by omega, by omega, by rw [HST.out]; exact hk3, hids3, hout3, hM3, by omega⟩
    · have e : i = L.length := by omega
      subst e
      go_wp2
      go_ret
      rw [List.take_of_length_le (by rw [sorted_len]; exact Nat.le_refl _), tk_all] at hk
      exact ⟨_, rfl, hk, (HM1.out.mono (by simp)).trans hM⟩
end Go.Proofs.Ytfdpfhjdjhoenaa
