/- What the functions of package kids do, over a table of any content. -/
import Derived.Test.YtfdpfhjdjhoenaaQueue
import Derived.Test.YtfdpfhjdjhoenaaIMap
import Derived.Deep.RegionHeld3
import Derived.Deep.QuietTactic
import Derived.BigQuiet
namespace Go.Proofs.Ytfdpfhjdjhoenaa
open Go.RowKit Go.Conc
attribute [local go_sem] max2_mx min2_mn max_two min_two
set_option linter.unusedVariables false
set_option linter.unusedSimpArgs false

/-! ### a table, as data, with where it lies -/
structure Kid where
  id : Int
  silent : Int
  q : Qu
  kb : Nat
  qb : Nat
  qc : Nat
  born : Nat
def Kid.ent (x : Kid) : Ent := ⟨x.id, .pointer (some ⟨x.kb, 0, none⟩), x.born⟩
def Kid.blocks (x : Kid) : List Nat := [x.kb, x.qb, x.qc]
def blocksOf (L : List Kid) : List Nat := L.flatMap Kid.blocks
def find (L : List Kid) (id : Int) : Option Kid := L.find? (·.id == id)
def ptrOf (o : Option Kid) : Value := .pointer (o.map fun x => ⟨x.kb, 0, none⟩)

structure KidAt (w : World) (x : Kid) : Prop where
  head : w.heap[x.kb]? = some (.cells #[.pointer (some ⟨x.qb, 0, none⟩), .int .i64 x.silent] 55 (0, 0))
  q : QAt w x.qb x.qc x.q
/-- The entries' birthdays: each below the clock, no two alike. -/
def Born (L : List Kid) (clock : Nat) : Prop := (∀ x ∈ L, x.born < clock) ∧ (L.map (·.born)).Nodup
theorem Born.sub {L L' : List Kid} {c : Nat} (h : Born L c) (hs : L'.Sublist L) : Born L' c := ⟨fun x hx => h.1 x (hs.subset hx), (hs.map _).nodup h.2⟩
theorem Born.snoc {L : List Kid} {c : Nat} (h : Born L c) (x : Kid) (hx : x.born = c) : Born (L ++ [x]) (c + 1) := by
  refine ⟨fun y hy => ?_, ?_⟩
  · rcases List.mem_append.1 hy with hy | hy
    · have := h.1 y hy; omega
    · simp only [List.mem_singleton] at hy; subst hy; omega
  · simp only [List.map_append, List.map_cons, List.map_nil]
    rw [List.nodup_append]
    refine ⟨h.2, by simp, fun a ha b hb e => ?_⟩
    simp only [List.mem_singleton] at hb
    obtain ⟨y, hy, e2⟩ := List.mem_map.1 ha
    have := h.1 y hy
    omega
structure KAt (w : World) (k m : Nat) (room queue last : Int) (L : List Kid) : Prop where
  head : w.heap[k]? = some (.cells #[.int .i64 room, .int .i64 queue, .map (some m), .int .i64 last] 52 (0, 0))
  map : ∃ clock, w.heap[m]? = some (.map (ents (L.map Kid.ent)) clock) ∧ Born L clock
  kid : ∀ x ∈ L, KidAt w x
  ids : (L.map (·.id)).Nodup
  apart : (k :: m :: blocksOf L).Nodup
  room0 : 0 ≤ room ∧ room ≤ 15
  len : (L.length : Int) ≤ room
  bound : ∀ x ∈ L, 0 ≤ x.id ∧ x.id ≤ 15

theorem KidAt.keeps {w w' : World} {x : Kid} {S : List Nat} (h : KidAt w x) (hm : Mods S w w') (hS : ∀ b ∈ x.blocks, b ∉ S) : KidAt w' x :=
  ⟨hm.at h.head (hS _ (by simp [Kid.blocks])), h.q.keeps hm (hS _ (by simp [Kid.blocks])) (hS _ (by simp [Kid.blocks]))⟩
theorem KidAt.lt {w : World} {x : Kid} (h : KidAt w x) : ∀ b ∈ x.blocks, b < w.heap.size := by
  have := h.q.lt
  have := heap_lt h.head
  simp [Kid.blocks]; omega
theorem KAt.lt {w : World} {k m : Nat} {room queue last : Int} {L : List Kid} (h : KAt w k m room queue last L) : ∀ b ∈ k :: m :: blocksOf L, b < w.heap.size := by
  intro b hb
  simp only [List.mem_cons, blocksOf, List.mem_flatMap] at hb
  rcases hb with rfl | rfl | ⟨x, hx, hb⟩
  · exact heap_lt h.head
  · obtain ⟨c, hc, _⟩ := h.map; exact heap_lt hc
  · exact (h.kid x hx).lt b hb
theorem mem_blocksOf {L : List Kid} {x : Kid} (hx : x ∈ L) {b : Nat} (hb : b ∈ x.blocks) : b ∈ blocksOf L := List.mem_flatMap.2 ⟨x, hx, hb⟩
theorem KAt.keeps {w w' : World} {k m : Nat} {room queue last : Int} {L : List Kid} {S : List Nat} (h : KAt w k m room queue last L) (hm : Mods S w w') (hS : ∀ b ∈ k :: m :: blocksOf L, b ∉ S) : KAt w' k m room queue last L := by
  obtain ⟨hhead, ⟨c, hmap, hbn⟩, hkid, hids, hapart, hr0, hlen, hbd⟩ := h
  exact ⟨hm.at hhead (hS _ (by simp)), ⟨c, hm.at hmap (hS _ (by simp)), hbn⟩, fun x hx => (hkid x hx).keeps hm (fun b hb => hS b (by simp [mem_blocksOf hx hb])), hids, hapart, hr0, hlen, hbd⟩
theorem look_find (L : List Kid) (id : Int) : (look (L.map Kid.ent) id).getD (.pointer none) = ptrOf (find L id) := by
  unfold look find ptrOf
  induction L with
  | nil => rfl
  | cons x L ih =>
    simp only [List.map_cons, List.find?_cons, Kid.ent]
    cases h : x.id == id
    · simpa [Kid.ent] using ih
    · rfl
theorem zero_kidptr : ∀ w : World, (zeroValue 53).run Try.prog w = .ok (.pointer none) w := by intro w; kernel_rfl

theorem kids_of_nil (w : World) (id : Int) : Calls Try.prog 33 #[.pointer none, .int .i64 id] w fun e w' => e = .returned (.pointer none) ∧ w = w' := by
  go_enter Try.func33, Try.ntmps33
  go_wp2
  go_ret
  exact ⟨rfl, rfl⟩
theorem kids_of (w : World) (k m : Nat) (room queue last id : Int) (L : List Kid) (h : KAt w k m room queue last L) :
    Calls Try.prog 33 #[.pointer (some ⟨k, 0, none⟩), .int .i64 id] w fun e w' => e = .returned (ptrOf (find L id)) ∧ w = w' := by
  obtain ⟨clock, hm, hbn⟩ := h.map
  have hl := run_lookup_i (P := Try.prog) Try.underlying50 Try.underlying3 zero_kidptr hm id
  rw [look_find] at hl
  have C := fun i => blk_cell h.head i
  clear h hm hbn
  go_enter Try.func33, Try.ntmps33
  go_wp2
  go_ret
  exact ⟨rfl, rfl⟩

theorem kids_Has_nil (w : World) (id : Int) : Calls Try.prog 27 #[.pointer none, .int .i64 id] w fun e w' => e = .returned (.bool false) ∧ w = w' := by
  go_enter Try.func27, Try.ntmps27
  go_wp2_with (go_at_call 33; refine (kids_of_nil _ id).mono ?_; rintro e w1 ⟨rfl, rfl⟩)
  go_ret
  exact ⟨rfl, rfl⟩
theorem kids_Has (w : World) (k m : Nat) (room queue last id : Int) (L : List Kid) (h : KAt w k m room queue last L) :
    Calls Try.prog 27 #[.pointer (some ⟨k, 0, none⟩), .int .i64 id] w fun e w' => e = .returned (.bool (find L id).isSome) ∧ w = w' := by
  have HK := Lib.hid h
  clear h
  cases hf : find L id with
  | none =>
    have HF := Lib.hid hf
    clear hf
    go_enter Try.func27, Try.ntmps27
    go_wp2_with (go_at_call 33; refine (kids_of _ k m room queue last id L HK.out).mono ?_; rw [HF.out]; simp only [ptrOf, Option.map_none]; rintro e w1 ⟨rfl, rfl⟩)
    go_ret
    exact ⟨rfl, rfl⟩
  | some x =>
    have HF := Lib.hid hf
    clear hf
    go_enter Try.func27, Try.ntmps27
    go_wp2_with (go_at_call 33; refine (kids_of _ k m room queue last id L HK.out).mono ?_; rw [HF.out]; simp only [ptrOf, Option.map_some]; rintro e w1 ⟨rfl, rfl⟩)
    go_ret
    exact ⟨rfl, rfl⟩

theorem kids_Full_nil (w : World) : Calls Try.prog 26 #[.pointer none] w fun e w' => e = .returned (.bool true) ∧ Mods [] w w' := by
  go_enter Try.func26, Try.ntmps26
  go_wp2_with fail
  go_quiet (fail)
  go_wp2
  go_ret
  exact ⟨rfl, (Mods.refl _ _).drewN _⟩
theorem kids_Full (w : World) (k m : Nat) (room queue last : Int) (L : List Kid) (h : KAt w k m room queue last L) :
    Calls Try.prog 26 #[.pointer (some ⟨k, 0, none⟩)] w fun e w' => e = .returned (.bool (decide (room ≤ L.length))) ∧ Mods [] w w' := by
  obtain ⟨clock, hm, hbn⟩ := h.map
  have hl := fun n => run_len_i (P := Try.prog) (w := w.drewN n) Try.underlying50 hm
  simp only [List.length_map] at hl
  have C := fun i => blk_cell h.head i
  clear h hm hbn
  go_enter Try.func26, Try.ntmps26
  go_wp2_with fail
  go_quiet (fail)
  go_wp2
  go_ret
  exact ⟨rfl, (Mods.refl _ _).drewN _⟩

theorem kids_Add_not (w : World) (k m : Nat) (room queue last id : Int) (L : List Kid) (h : KAt w k m room queue last L) (hf : find L id = none) (hbad : id < 0 ∨ 15 < id ∨ room ≤ L.length) :
    Calls Try.prog 20 #[.pointer (some ⟨k, 0, none⟩), .int .i64 id] w fun e w' => e = .returned (.bool false) ∧ Mods [] w w' := by
  have HK := Lib.hid h
  have HF := Lib.hid hf
  clear h hf
  have h3 : id < 0 ∨ (0 ≤ id ∧ 15 < id) ∨ (0 ≤ id ∧ id ≤ 15 ∧ decide (room ≤ (L.length : Int)) = true) := by
    simp only [decide_eq_true_eq]; omega
  clear hbad
  rcases h3 with h1 | ⟨h1, h2⟩ | ⟨h1, h2, h3⟩
  all_goals
    go_enter Try.func20, Try.ntmps20
    go_wp2_with (first
      | (go_at_call 27; refine (kids_Has _ k m room queue last id L HK.out).mono ?_; rw [HF.out]; rintro e w1 ⟨rfl, rfl⟩)
      | (go_at_call 26; refine (kids_Full _ k m room queue last L HK.out).mono ?_; rw [h3]; rintro e w1 ⟨rfl, hm1⟩))
    go_ret
    first | exact ⟨rfl, Mods.refl _ _⟩ | exact ⟨rfl, hm1⟩

theorem kids_Add_new (w : World) (k m : Nat) (room queue last id : Int) (L : List Kid) (h : KAt w k m room queue last L) (hf : find L id = none) (h1 : 0 ≤ id) (h2 : id ≤ 15) (hroom : (L.length : Int) < room) :
    Calls Try.prog 20 #[.pointer (some ⟨k, 0, none⟩), .int .i64 id] w fun e w' => ∃ x : Kid, e = .returned (.bool true) ∧ x.id = id ∧ x.silent = 0 ∧ x.q = Qu.new queue ∧ (∀ b ∈ x.blocks, w.heap.size ≤ b) ∧ KAt w' k m room queue last (L ++ [x]) ∧ Mods [m] w w' := by
  have h3 : decide (room ≤ (L.length : Int)) = false := by simp; omega
  have HK := Lib.hid h
  have HF := Lib.hid hf
  have HR := Lib.hid hroom
  obtain ⟨clock, hm, hbn⟩ := h.map
  have C := fun i => blk_cell h.head i
  have hmu : ∀ (W : World) (v : Value), W.heap[m]? = some (.map (ents (L.map Kid.ent)) clock) → (Instr.mapUpdate 50 (.map (some m)) (.int .i64 id) v).run Try.prog W = .ok () (W.setMap m (L.map Kid.ent ++ [⟨id, v, clock⟩]) (clock + 1)) := by
    intro W v hW
    refine run_mapUpdate_new Try.underlying50 Try.underlying3 hW id v ?_
    have := hf
    unfold look
    unfold find at this
    rw [List.find?_map]
    simpa [Function.comp, Kid.ent] using this
  have hkm : k ≠ m := by have := h.apart; simp at this; exact this.1.1
  have HBN := Lib.hid hbn
  clear h hf hroom hbn
  go_enter Try.func20, Try.ntmps20
  go_wp2_with (first
    | (go_at_call 27; refine (kids_Has _ k m room queue last id L HK.out).mono ?_; rw [HF.out]; rintro e w1 ⟨rfl, rfl⟩)
    | (go_at_call 26; refine (kids_Full _ k m room queue last L HK.out).mono ?_; rw [h3]; rintro e w1 ⟨rfl, hm1⟩))
  have g0 : w1.cell? ⟨k, 2, none⟩ = some (.map (some m)) := hm1.cell (C 2) (by simp)
  have g1 : w1.cell? ⟨k, 1, none⟩ = some (.int .i64 queue) := hm1.cell (C 1) (by simp)
  have g2 : w1.heap[m]? = some (.map (ents (L.map Kid.ent)) clock) := hm1.at hm (by simp)
  clear C
  go_region_held3 (fun W => W.cell? ⟨k, 2, none⟩ = some (.map (some m)) ∧ W.cell? ⟨k, 1, none⟩ = some (.int .i64 queue))
    (first
      | exact ⟨g0, g1⟩
      | exact ⟨hm2.cell g0 (by simp), hm2.cell g1 (by simp)⟩
      | exact ⟨(hm2.alloc _).cell g0 (by simp), (hm2.alloc _).cell g1 (by simp)⟩
      | exact ⟨(((hm2.mono (S' := [m]) (by simp)).alloc _).setMap m _ _ (.inl (by simp))).cell g0 (by simpa using hkm), (((hm2.mono (S' := [m]) (by simp)).alloc _).setMap m _ _ (.inl (by simp))).cell g1 (by simpa using hkm)⟩)
    (first | (go_at_call 10; refine (queue_New queue _).mono ?_; rintro e w2 ⟨qb, qc, rfl, hq2, hm2, hb2, hc2⟩; have hmu2 := fun o v => hmu (w2.alloc o) v (blk_alloc (hm2.at g2 (by simp)) o)))
  go_wp2
  go_ret
  have hsz := hm1.size
  have hsz2 := hm2.size
  have hz : w1.drew.heap.size = w1.heap.size := rfl
  obtain ⟨hqb, hqc⟩ := hq2.lt
  have hqbc : qb ≠ qc := by obtain ⟨s, r, hc⟩ := hq2.chan; exact ne_of_heap hq2.head hc (by simp)
  have hM1 : Mods [] w w2 := hm1.drew.trans hm2
  have hM2 : Mods [m] w ((w2.alloc (Obj.cells #[Value.pointer (some ⟨qb, 0, none⟩), Value.int IntKind.i64 0] 55)).setMap m (L.map Kid.ent ++ [⟨id, .pointer (some ⟨w2.heap.size, 0, none⟩), clock⟩]) (clock + 1)) := ((hM1.mono (S' := [m]) (by simp)).alloc _).setMap m _ _ (.inl (by simp))
  have hK := HK.out
  obtain ⟨hhead, hmap, hkid, hids, hapart, hr0, hlen, hbd⟩ := hK
  refine ⟨⟨id, 0, Qu.new queue, w2.heap.size, qb, qc, clock⟩, rfl, rfl, rfl, rfl, ?_, ⟨?_, ⟨clock + 1, ?_, HBN.out.snoc _ rfl⟩, ?_, ?_, ?_, hr0, ?_, ?_⟩, hM2⟩
  · simp [Kid.blocks]; omega
  · exact hM2.at hhead (by simpa using hkm)
  · have := heap_setMap (w := w2.alloc (Obj.cells #[Value.pointer (some ⟨qb, 0, none⟩), Value.int IntKind.i64 0] 55)) (m := m) (by have := HK.out.lt m (by simp); simp; omega) (L.map Kid.ent ++ [⟨id, .pointer (some ⟨w2.heap.size, 0, none⟩), clock⟩]) (clock + 1)
    simpa [Kid.ent] using this
  · have hml := HK.out.lt m (by simp)
    intro y hy
    rcases List.mem_append.1 hy with hy | hy
    · refine (hkid y hy).keeps hM2 (fun b hb => ?_)
      have := mem_blocksOf hy hb
      simp at hapart
      simp only [List.mem_singleton]
      intro e; subst e
      exact hapart.2.1 this
    · simp only [List.mem_singleton] at hy
      subst hy
      have e1 : m ≠ w2.heap.size := by omega
      refine ⟨(setMap_other _ _ e1).trans (blk_new _ _), hq2.keeps (((Mods.refl [m] w2).alloc _).setMap m _ _ (.inl (by simp))) (by simp; omega) (by simp; omega)⟩
  · simp only [List.map_append, List.map_cons, List.map_nil]
    rw [List.nodup_append]
    refine ⟨hids, by simp, fun a ha b hb => ?_⟩
    simp only [List.mem_singleton] at hb
    subst hb
    intro e
    obtain ⟨y, hy, e2⟩ := List.mem_map.1 ha
    have hF := HF.out
    unfold find at hF
    rw [List.find?_eq_none] at hF
    have := hF y hy
    simp at this
    exact this (by rw [e2]; exact e)
  · have hall := HK.out.lt
    have e0 : blocksOf (L ++ [⟨id, 0, Qu.new queue, w2.heap.size, qb, qc, clock⟩]) = blocksOf L ++ [w2.heap.size, qb, qc] := by simp [blocksOf, Kid.blocks]
    rw [e0, ← List.cons_append, ← List.cons_append, List.nodup_append]
    refine ⟨hapart, by simp; omega, fun a ha b hb e => ?_⟩
    have := hall a ha
    simp at hb
    omega
  · have := HR.out
    simp; omega
  · intro y hy
    rcases List.mem_append.1 hy with hy | hy
    · exact hbd y hy
    · simp only [List.mem_singleton] at hy; subst hy; exact ⟨h1, h2⟩

/-! ### Heard; Add of one that is there -/
def setS (L : List Kid) (id s : Int) : List Kid := L.map fun x => if x.id == id then { x with silent := s } else x
@[reducible] def hearL (L : List Kid) (id : Int) : List Kid := setS L id 0
theorem hear_blocks (L : List Kid) (id s : Int) : blocksOf (setS L id s) = blocksOf L := by
  unfold blocksOf setS
  rw [List.flatMap_map]
  congr 1
  funext x
  split <;> rfl
theorem hear_ents (L : List Kid) (id s : Int) : (setS L id s).map Kid.ent = L.map Kid.ent := by
  unfold setS
  rw [List.map_map]
  congr 1
  funext x
  simp only [Function.comp]
  split <;> rfl
theorem hear_ids (L : List Kid) (id s : Int) : (setS L id s).map (·.id) = L.map (·.id) := by
  unfold setS
  rw [List.map_map]
  congr 1
  funext x
  simp only [Function.comp]
  split <;> rfl
theorem hear_born {L : List Kid} {c : Nat} (h : Born L c) (id s : Int) : Born (setS L id s) c := by
  refine ⟨fun x hx => ?_, ?_⟩
  · simp only [setS, List.mem_map] at hx
    obtain ⟨y, hy, rfl⟩ := hx
    have := h.1 y hy
    split <;> exact this
  · have e : (setS L id s).map (·.born) = L.map (·.born) := by
      unfold setS; rw [List.map_map]; congr 1; funext x; simp only [Function.comp]; split <;> rfl
    rw [e]; exact h.2
theorem hear_bound {L : List Kid} (h : ∀ x ∈ L, 0 ≤ x.id ∧ x.id ≤ 15) (id s : Int) : ∀ x ∈ setS L id s, 0 ≤ x.id ∧ x.id ≤ 15 := by
  intro x hx
  simp only [setS, List.mem_map] at hx
  obtain ⟨y, hy, rfl⟩ := hx
  have := h y hy
  split <;> exact this
theorem find_mem {L : List Kid} {id : Int} {x : Kid} (h : find L id = some x) : x ∈ L ∧ x.id = id := by
  unfold find at h
  exact ⟨List.mem_of_find?_eq_some h, by simpa using List.find?_some h⟩
theorem ids_inj {L : List Kid} (h : (L.map (·.id)).Nodup) {x y : Kid} (hx : x ∈ L) (hy : y ∈ L) (e : x.id = y.id) : x = y := by
  induction L with
  | nil => cases hx
  | cons a L ih =>
    simp only [List.map_cons, List.nodup_cons] at h
    rcases List.mem_cons.1 hx with hx' | hx' <;> rcases List.mem_cons.1 hy with hy' | hy'
    · rw [hx', hy']
    · subst hx'; exact absurd (List.mem_map.2 ⟨y, hy', e.symm⟩) h.1
    · subst hy'; exact absurd (List.mem_map.2 ⟨x, hx', e⟩) h.1
    · exact ih h.2 hx' hy'
theorem blocks_apart {L : List Kid} (h : (blocksOf L).Nodup) {x y : Kid} (hx : x ∈ L) (hy : y ∈ L) {b : Nat} (hbx : b ∈ x.blocks) (hby : b ∈ y.blocks) : x = y := by
  induction L with
  | nil => cases hx
  | cons a L ih =>
    simp only [blocksOf, List.flatMap_cons, List.nodup_append] at h
    rcases List.mem_cons.1 hx with hx' | hx' <;> rcases List.mem_cons.1 hy with hy' | hy'
    · rw [hx', hy']
    · subst hx'; exact absurd rfl (h.2.2 _ hbx _ (List.mem_flatMap.2 ⟨y, hy', hby⟩))
    · subst hy'; exact absurd rfl (h.2.2 _ hby _ (List.mem_flatMap.2 ⟨x, hx', hbx⟩))
    · exact ih h.2.1 hx' hy'

theorem KAt.hear {w : World} {k m : Nat} {room queue last id : Int} {L : List Kid} (h : KAt w k m room queue last L) {x : Kid} (hf : find L id = some x) (s : Int) :
    KAt (w.setCell ⟨x.kb, 1, none⟩ (.int .i64 s)) k m room queue last (setS L id s) ∧ Mods [x.kb] w (w.setCell ⟨x.kb, 1, none⟩ (.int .i64 s)) := by
  have hM : Mods [x.kb] w (w.setCell ⟨x.kb, 1, none⟩ (.int .i64 s)) := (Mods.refl _ _).setCell _ _ (.inl (by simp))
  obtain ⟨hx, hid⟩ := find_mem hf
  obtain ⟨hhead, ⟨c, hmap, hbn⟩, hkid, hids, hapart, hr0, hlen, hbd⟩ := h
  have hap := hapart
  simp only [List.nodup_cons] at hap
  have hkb := mem_blocksOf hx (b := x.kb) (by simp [Kid.blocks])
  have n1 : k ∉ [x.kb] := by simp only [List.mem_singleton]; intro e; exact hap.1 (by simp [e, hkb])
  have n2 : m ∉ [x.kb] := by simp only [List.mem_singleton]; intro e; exact hap.2.1 (by simp [e, hkb])
  refine ⟨⟨hM.at hhead n1, ⟨c, by rw [hear_ents]; exact hM.at hmap n2, hear_born hbn _ _⟩, ?_, by rw [hear_ids]; exact hids, by rw [hear_blocks]; exact hapart, hr0, by simpa [setS] using hlen, hear_bound hbd _ _⟩, hM⟩
  · intro y hy
    simp only [setS, List.mem_map] at hy
    obtain ⟨z, hz, rfl⟩ := hy
    by_cases e : z.id = id
    · have : z = x := ids_inj hids hz hx (e.trans hid.symm)
      subst this
      simp only [e, beq_self_eq_true, if_true]
      have hk := hkid z hz
      have hn : z.kb ≠ z.qb ∧ z.kb ≠ z.qc := by
        have := hap.2.2
        obtain ⟨l1, l2, rfl⟩ := List.append_of_mem hz
        simp only [blocksOf, List.flatMap_append, List.flatMap_cons, List.nodup_append] at this
        have h3 := this.2.1.1
        simp [Kid.blocks] at h3
        exact ⟨h3.1.1, h3.1.2⟩
      exact ⟨by simpa using blk_set hk.head 1 (.int .i64 s), hk.q.keeps hM (by simpa using fun e => hn.1 e.symm) (by simpa using fun e => hn.2 e.symm)⟩
    · have e' : (z.id == id) = false := by simpa using e
      simp only [e', Bool.false_eq_true, if_false]
      refine (hkid z hz).keeps hM (fun b hb hm => ?_)
      simp only [List.mem_singleton] at hm
      subst hm
      have := blocks_apart hap.2.2 hz hx hb (by simp [Kid.blocks])
      exact e (by rw [this]; exact hid)

theorem kids_Heard_nil (w : World) (id : Int) : Calls Try.prog 28 #[.pointer none, .int .i64 id] w fun e w' => e = .returned (.tuple #[]) ∧ w = w' := by
  go_enter Try.func28, Try.ntmps28
  go_wp2_with (go_at_call 33; refine (kids_of_nil _ id).mono ?_; rintro e w1 ⟨rfl, rfl⟩)
  exact bodyPost_end (results_none rfl _ _ _) rfl ⟨rfl, rfl⟩
theorem kids_Heard_none (w : World) (k m : Nat) (room queue last id : Int) (L : List Kid) (h : KAt w k m room queue last L) (hf : find L id = none) :
    Calls Try.prog 28 #[.pointer (some ⟨k, 0, none⟩), .int .i64 id] w fun e w' => e = .returned (.tuple #[]) ∧ w = w' := by
  have HK := Lib.hid h
  have HF := Lib.hid hf
  clear h hf
  go_enter Try.func28, Try.ntmps28
  go_wp2_with (go_at_call 33; refine (kids_of _ k m room queue last id L HK.out).mono ?_; rw [HF.out]; simp only [ptrOf, Option.map_none]; rintro e w1 ⟨rfl, rfl⟩)
  exact bodyPost_end (results_none rfl _ _ _) rfl ⟨rfl, rfl⟩
theorem kids_Heard (w : World) (k m : Nat) (room queue last id : Int) (L : List Kid) (h : KAt w k m room queue last L) (x : Kid) (hf : find L id = some x) :
    Calls Try.prog 28 #[.pointer (some ⟨k, 0, none⟩), .int .i64 id] w fun e w' => e = .returned (.tuple #[]) ∧ KAt w' k m room queue last (hearL L id) ∧ Mods [x.kb] w w' := by
  have HK := Lib.hid h
  have HF := Lib.hid hf
  have C := fun i => blk_cell (h.kid x (find_mem hf).1).head i
  have F := fun i => blk_frozen (h.kid x (find_mem hf).1).head i
  clear h hf
  go_enter Try.func28, Try.ntmps28
  go_wp2_with (go_at_call 33; refine (kids_of _ k m room queue last id L HK.out).mono ?_; rw [HF.out]; simp only [ptrOf, Option.map_some]; rintro e w1 ⟨rfl, rfl⟩)
  exact bodyPost_end (results_none rfl _ _ _) rfl ⟨rfl, HK.out.hear HF.out 0⟩
theorem kids_Add_there (w : World) (k m : Nat) (room queue last id : Int) (L : List Kid) (h : KAt w k m room queue last L) (x : Kid) (hf : find L id = some x) :
    Calls Try.prog 20 #[.pointer (some ⟨k, 0, none⟩), .int .i64 id] w fun e w' => e = .returned (.bool true) ∧ KAt w' k m room queue last (hearL L id) ∧ Mods [x.kb] w w' := by
  have HK := Lib.hid h
  have HF := Lib.hid hf
  clear h hf
  go_enter Try.func20, Try.ntmps20
  go_wp2_with (first
    | (go_at_call 27; refine (kids_Has _ k m room queue last id L HK.out).mono ?_; rw [HF.out]; simp only [Option.isSome_some]; rintro e w1 ⟨rfl, rfl⟩)
    | (go_at_call 28; refine (kids_Heard _ k m room queue last id L HK.out x HF.out).mono ?_; rintro e w1 ⟨rfl, hk1, hm1⟩))
  go_ret
  exact ⟨rfl, hk1, hm1⟩

/-! ### Queue, New, Drop -/
theorem kids_Queue_nil (w : World) (id : Int) : Calls Try.prog 21 #[.pointer none, .int .i64 id] w fun e w' => e = .returned (.pointer none) ∧ w = w' := by
  go_enter Try.func21, Try.ntmps21
  go_wp2_with (go_at_call 33; refine (kids_of_nil _ id).mono ?_; rintro e w1 ⟨rfl, rfl⟩)
  go_ret
  exact ⟨rfl, rfl⟩
theorem kids_Queue (w : World) (k m : Nat) (room queue last id : Int) (L : List Kid) (h : KAt w k m room queue last L) :
    Calls Try.prog 21 #[.pointer (some ⟨k, 0, none⟩), .int .i64 id] w fun e w' => e = .returned (.pointer ((find L id).map fun x => ⟨x.qb, 0, none⟩)) ∧ w = w' := by
  have HK := Lib.hid h
  cases hf : find L id with
  | none =>
    have HF := Lib.hid hf
    clear h hf
    go_enter Try.func21, Try.ntmps21
    go_wp2_with (go_at_call 33; refine (kids_of _ k m room queue last id L HK.out).mono ?_; rw [HF.out]; simp only [ptrOf, Option.map_none]; rintro e w1 ⟨rfl, rfl⟩)
    go_ret
    exact ⟨rfl, rfl⟩
  | some x =>
    have C := fun i => blk_cell (h.kid x (find_mem hf).1).head i
    have HF := Lib.hid hf
    clear h hf
    go_enter Try.func21, Try.ntmps21
    go_wp2_with (go_at_call 33; refine (kids_of _ k m room queue last id L HK.out).mono ?_; rw [HF.out]; simp only [ptrOf, Option.map_some]; rintro e w1 ⟨rfl, rfl⟩)
    go_ret
    exact ⟨rfl, rfl⟩
def kroom (room : Int) : Int := mn (mx room 0) 15
theorem kroom_le (room : Int) : 0 ≤ kroom room ∧ kroom room ≤ 15 := by unfold kroom mn mx; split <;> split <;> omega
theorem kids_New (w : World) (room queue : Int) : Calls Try.prog 19 #[.int .i64 room, .int .i64 queue] w fun e w' =>
    ∃ k m, e = .returned (.pointer (some ⟨k, 0, none⟩)) ∧ KAt w' k m (kroom room) queue (-1) [] ∧ Mods [] w w' ∧ w.heap.size ≤ k ∧ w.heap.size ≤ m := by
  have hmm := @run_makeMap Try.prog
  go_enter Try.func19, Try.ntmps19
  go_wp2
  go_ret
  refine ⟨w.heap.size + 1, w.heap.size, rfl, ⟨blk_new' _ _ (by simp), ⟨0, blk_alloc (blk_new _ _) _, by simp [Born]⟩, by simp, by simp, by simp [blocksOf], kroom_le room, by simpa using (kroom_le room).1, by simp⟩, ((Mods.refl _ _).alloc _).alloc _, by omega, by omega⟩
def dropK (L : List Kid) (id : Int) : List Kid := L.eraseP (·.id == id)
theorem dropK_ents (L : List Kid) (id : Int) : (dropK L id).map Kid.ent = delE (L.map Kid.ent) id := by
  unfold dropK delE
  induction L with
  | nil => rfl
  | cons x L ih =>
    simp only [List.map_cons, List.eraseP_cons, Kid.ent]
    cases h : x.id == id
    · simpa [Kid.ent] using ih
    · rfl
theorem dropK_sub (L : List Kid) (id : Int) : (dropK L id).Sublist L := List.eraseP_sublist
theorem blocksOf_sub {L L' : List Kid} (h : L'.Sublist L) : (blocksOf L').Sublist (blocksOf L) := by
  induction h with
  | slnil => exact List.Sublist.refl _
  | cons a _ ih => exact ih.trans (List.sublist_append_right _ _)
  | cons_cons a _ ih => exact ih.append_left _
theorem KAt.drop {w : World} {k m : Nat} {room queue last : Int} {L : List Kid} (h : KAt w k m room queue last L) (id : Int) (clock : Nat) (hbc : Born L clock) :
    KAt (w.setMap m ((dropK L id).map Kid.ent) clock) k m room queue last (dropK L id) ∧ Mods [m] w (w.setMap m ((dropK L id).map Kid.ent) clock) := by
  have hM : Mods [m] w (w.setMap m ((dropK L id).map Kid.ent) clock) := (Mods.refl _ _).setMap _ _ _ (.inl (by simp))
  have hml := h.lt m (by simp)
  obtain ⟨hhead, ⟨c, hmap, hbn⟩, hkid, hids, hapart, hr0, hlen, hbd⟩ := h
  have hap := hapart
  simp only [List.nodup_cons] at hap
  have hsub := dropK_sub L id
  have hbs : (blocksOf (dropK L id)).Sublist (blocksOf L) := blocksOf_sub hsub
  refine ⟨⟨hM.at hhead (by simpa using fun e => hap.1 (by simp [e])), ⟨clock, heap_setMap hml _ _, hbc.sub hsub⟩, fun x hx => ?_, (hsub.map _).nodup hids, (List.Sublist.cons_cons k (List.Sublist.cons_cons m hbs)).nodup hapart, hr0, by have := hsub.length_le; omega, fun x hx => hbd x (hsub.subset hx)⟩, hM⟩
  refine (hkid x (hsub.subset hx)).keeps hM (fun b hb => ?_)
  simp only [List.mem_singleton]
  intro e
  subst e
  exact hap.2.1 (mem_blocksOf (hsub.subset hx) hb)
theorem kids_Drop_nil (w : World) (id : Int) : Calls Try.prog 22 #[.pointer none, .int .i64 id] w fun e w' => e = .returned (.bool false) ∧ w = w' := by
  go_enter Try.func22, Try.ntmps22
  go_wp2_with (go_at_call 27; refine (kids_Has_nil _ id).mono ?_; rintro e w1 ⟨rfl, rfl⟩)
  go_ret
  exact ⟨rfl, rfl⟩
theorem dropK_none {L : List Kid} {id : Int} (h : find L id = none) : dropK L id = L := by
  unfold find at h
  unfold dropK
  rw [List.find?_eq_none] at h
  exact List.eraseP_of_forall_not h
theorem kids_Drop (w : World) (k m : Nat) (room queue last id : Int) (L : List Kid) (h : KAt w k m room queue last L) :
    Calls Try.prog 22 #[.pointer (some ⟨k, 0, none⟩), .int .i64 id] w fun e w' => e = .returned (.bool (find L id).isSome) ∧ KAt w' k m room queue last (dropK L id) ∧ Mods [m] w w' := by
  have HK := Lib.hid h
  obtain ⟨clock, hm, hbn⟩ := h.map
  cases hf : find L id with
  | none =>
    have HF := Lib.hid hf
    clear h hf
    go_enter Try.func22, Try.ntmps22
    go_wp2_with (go_at_call 27; refine (kids_Has _ k m room queue last id L HK.out).mono ?_; rw [HF.out]; simp only [Option.isSome_none]; rintro e w1 ⟨rfl, rfl⟩)
    go_ret
    exact ⟨rfl, by rw [dropK_none HF.out]; exact HK.out, Mods.refl _ _⟩
  | some x =>
    have C := fun i => blk_cell h.head i
    have hd := run_delete_i (P := Try.prog) Try.underlying50 Try.underlying3 hm id
    rw [← dropK_ents] at hd
    have HF := Lib.hid hf
    have HBN := Lib.hid hbn
    clear h hf hbn
    go_enter Try.func22, Try.ntmps22
    go_wp2_with (go_at_call 27; refine (kids_Has _ k m room queue last id L HK.out).mono ?_; rw [HF.out]; simp only [Option.isSome_some]; rintro e w1 ⟨rfl, rfl⟩)
    go_ret
    exact ⟨rfl, HK.out.drop id clock HBN.out⟩

/-! ### a child's queue turns -/
def setQ (L : List Kid) (id : Int) (q : Qu) : List Kid := L.map fun x => if x.id == id then { x with q := q } else x
theorem setQ_blocks (L : List Kid) (id : Int) (q : Qu) : blocksOf (setQ L id q) = blocksOf L := by
  unfold blocksOf setQ
  rw [List.flatMap_map]
  congr 1
  funext x
  split <;> rfl
theorem setQ_ents (L : List Kid) (id : Int) (q : Qu) : (setQ L id q).map Kid.ent = L.map Kid.ent := by
  unfold setQ
  rw [List.map_map]
  congr 1
  funext x
  simp only [Function.comp]
  split <;> rfl
theorem setQ_ids (L : List Kid) (id : Int) (q : Qu) : (setQ L id q).map (·.id) = L.map (·.id) := by
  unfold setQ
  rw [List.map_map]
  congr 1
  funext x
  simp only [Function.comp]
  split <;> rfl
theorem setQ_born {L : List Kid} {c : Nat} (h : Born L c) (id : Int) (q : Qu) : Born (setQ L id q) c := by
  refine ⟨fun x hx => ?_, ?_⟩
  · simp only [setQ, List.mem_map] at hx
    obtain ⟨y, hy, rfl⟩ := hx
    have := h.1 y hy
    split <;> exact this
  · have e : (setQ L id q).map (·.born) = L.map (·.born) := by
      unfold setQ; rw [List.map_map]; congr 1; funext x; simp only [Function.comp]; split <;> rfl
    rw [e]; exact h.2
theorem setQ_bound {L : List Kid} (h : ∀ x ∈ L, 0 ≤ x.id ∧ x.id ≤ 15) (id : Int) (q : Qu) : ∀ x ∈ setQ L id q, 0 ≤ x.id ∧ x.id ≤ 15 := by
  intro x hx
  simp only [setQ, List.mem_map] at hx
  obtain ⟨y, hy, rfl⟩ := hx
  have := h y hy
  split <;> exact this
theorem KAt.setQ {w w' : World} {k m : Nat} {room queue last id : Int} {L : List Kid} (h : KAt w k m room queue last L) {x : Kid} (hf : find L id = some x) {q' : Qu} (hM : Mods [x.qb, x.qc] w w') (hq : QAt w' x.qb x.qc q') :
    KAt w' k m room queue last (setQ L id q') := by
  obtain ⟨hx, hid⟩ := find_mem hf
  obtain ⟨hhead, ⟨c, hmap, hbn⟩, hkid, hids, hapart, hr0, hlen, hbd⟩ := h
  have hap := hapart
  simp only [List.nodup_cons] at hap
  have hkb := mem_blocksOf hx (b := x.qb) (by simp [Kid.blocks])
  have hkc := mem_blocksOf hx (b := x.qc) (by simp [Kid.blocks])
  have n1 : k ∉ [x.qb, x.qc] := by
    simp only [List.mem_cons, List.not_mem_nil, or_false]; rintro (e | e)
    · exact hap.1 (by simp [e, hkb])
    · exact hap.1 (by simp [e, hkc])
  have n2 : m ∉ [x.qb, x.qc] := by
    simp only [List.mem_cons, List.not_mem_nil, or_false]; rintro (e | e)
    · exact hap.2.1 (by simp [e, hkb])
    · exact hap.2.1 (by simp [e, hkc])
  refine ⟨hM.at hhead n1, ⟨c, by rw [setQ_ents]; exact hM.at hmap n2, setQ_born hbn _ _⟩, ?_, by rw [setQ_ids]; exact hids, by rw [setQ_blocks]; exact hapart, hr0, by simpa [Go.Proofs.Ytfdpfhjdjhoenaa.setQ] using hlen, setQ_bound hbd _ _⟩
  intro y hy
  simp only [Go.Proofs.Ytfdpfhjdjhoenaa.setQ, List.mem_map] at hy
  obtain ⟨z, hz, rfl⟩ := hy
  by_cases e : z.id = id
  · have : z = x := ids_inj hids hz hx (e.trans hid.symm)
    subst this
    simp only [e, beq_self_eq_true, if_true]
    have hk := hkid z hz
    have hn : z.kb ≠ z.qb ∧ z.kb ≠ z.qc := by
      have := hap.2.2
      obtain ⟨l1, l2, rfl⟩ := List.append_of_mem hz
      simp only [blocksOf, List.flatMap_append, List.flatMap_cons, List.nodup_append] at this
      have h3 := this.2.1.1
      simp [Kid.blocks] at h3
      exact ⟨h3.1.1, h3.1.2⟩
    exact ⟨hM.at hk.head (by simpa using hn), hq⟩
  · have e' : (z.id == id) = false := by simpa using e
    simp only [e', Bool.false_eq_true, if_false]
    refine (hkid z hz).keeps hM (fun b hb hm => ?_)
    simp only [List.mem_cons, List.not_mem_nil, or_false] at hm
    have := blocks_apart hap.2.2 hz hx hb (by rcases hm with rfl | rfl <;> simp [Kid.blocks])
    exact e (by rw [this]; exact hid)
end Go.Proofs.Ytfdpfhjdjhoenaa
