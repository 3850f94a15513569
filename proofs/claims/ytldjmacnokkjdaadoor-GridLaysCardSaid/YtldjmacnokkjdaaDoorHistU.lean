/- Push of package history. -/
import Derived.Test.YtldjmacnokkjdaaDoorHistR
namespace Go.Proofs.YtldjmacnokkjdaaDoor
open Go.RowKit
set_option linter.unusedVariables false
set_option linter.unusedSimpArgs false

theorem flat_get {α : Type} {rd : α → List Value} {size : Nat} (hrd : ∀ o, (rd o).length = size) {xs : List α} {i j : Nat} {o : α} (hi : xs[i]? = some o) (hj : j < size) : (xs.flatMap rd)[i * size + j]? = (rd o)[j]? := by
  induction xs generalizing i with
  | nil => simp at hi
  | cons x xs ih =>
    cases i with
    | zero =>
      simp at hi
      subst hi
      rw [List.flatMap_cons, Nat.zero_mul, Nat.zero_add, List.getElem?_append_left (by rw [hrd]; exact hj)]
    | succ i =>
      rw [List.flatMap_cons, List.getElem?_append_right (by rw [hrd]; rw [Nat.add_mul]; omega), hrd]
      have e : (i + 1) * size + j - size = i * size + j := by rw [Nat.add_mul]; omega
      rw [e]
      exact ih (by simpa using hi)
/-- A row of the call's own, as one that can be read. -/
theorem own_reads {w : World} {base : Nat} {e : TypeId} {A : Option Addr} {n c : Nat} {row : List Cell} (h : w.ownsRow base e 4 (.slice A n c) n (row.flatMap Cell.vals)) (hl : row.length = n) (hn : n ≤ 1000000) :
    ReadsRows w A n 4 Cell.vals row ∧ n ≤ c ∧ (A = none → c = 0) ∧ ∀ a, A = some a → base ≤ a.block ∧ a.block < w.heap.size := by
  rcases own_slice h with ⟨e1, rfl⟩ | ⟨g, cap, e1, h1, h2⟩
  · simp at e1
    obtain ⟨rfl, rfl⟩ := e1
    have : row = [] := List.eq_nil_of_length_eq_zero hl
    subst this
    exact ⟨⟨rfl, by simp, fun i o h => by simp at h⟩, Nat.le_refl _, fun _ => rfl, fun a ha => by cases ha⟩
  · simp at e1
    obtain ⟨rfl, rfl⟩ := e1
    refine ⟨⟨hl, by unfold maxLen; omega, fun i o hi => ⟨_, rfl, fun j hj => ?_⟩⟩, h1, (by simp), fun a ha => ?_⟩
    · have e2 : ((Addr.mk g 0 none).add (i * 4)).add j = ⟨g, i * 4 + j, none⟩ := by
        unfold Addr.add
        simp
        split <;> simp_all <;> split <;> simp_all
      have hf := flat_get (rd := Cell.vals) (size := 4) (fun _ => rfl) hi hj
      obtain ⟨u, hu⟩ : ∃ u, (Cell.vals o)[j]? = some u := ⟨_, List.getElem?_eq_getElem (by simp [Cell.vals]; omega)⟩
      rw [e2, own_cells h _ (hf.trans hu), hu]
    · cases ha
      exact ⟨own_base h g rfl, own_lt h g rfl⟩
def pushS (room : Nat) (st : Nat × List (List Cell)) (x : List Cell) : Nat × List (List Cell) := (putF room st.1 st.2, putR room st.1 st.2 (mend x))
/-- What is pushed: rows that can be read, laid side by side in one block. -/
def PRow (w : World) (bad : List Nat) (g : Nat) (xs : List (List Cell)) : Prop := ∀ (i : Nat) (x : List Cell), xs[i]? = some x → ∃ A cap, w.cell? ⟨g, i, none⟩ = some (.slice A x.length cap) ∧ x.length ≤ cap ∧ x.length ≤ 1000000 ∧ ReadsRows w A x.length 4 Cell.vals x ∧ (g < w.heap.size ∧ g ∉ bad) ∧ ∀ a, A = some a → a.block < w.heap.size ∧ a.block ∉ bad
theorem PRow.keeps {w w' : World} {bad bad' S : List Nat} {g : Nat} {xs : List (List Cell)} (h : PRow w bad g xs) (hm : Mods S w w') (hS : ∀ b, b < w.heap.size → b ∉ bad → b ∉ S) (hb : ∀ b, b < w.heap.size → b ∉ bad → b ∉ bad') : PRow w' bad' g xs := by
  intro i x hx
  obtain ⟨A, cap, h1, h2, h3, h4, ⟨h5, h5'⟩, h6⟩ := h i x hx
  exact ⟨A, cap, hm.cell h1 (hS _ h5 h5'), h2, h3, h4.keepsM (fun _ => rfl) hm (fun a ha => hS _ (h6 a ha).1 (h6 a ha).2), ⟨Nat.lt_of_lt_of_le h5 hm.size, hb _ h5 h5'⟩, fun a ha => ⟨Nat.lt_of_lt_of_le (h6 a ha).1 hm.size, hb _ (h6 a ha).1 (h6 a ha).2⟩⟩
/-- One row that is pushed. -/
theorem prow_one {W1 : World} {bad : List Nat} {A : Option Addr} {c : Nat} {row : List Cell} {t : TypeId} (h : row.length ≤ c ∧ row.length ≤ 1000000 ∧ ReadsRows W1 A row.length 4 Cell.vals row ∧ ∀ a, A = some a → a.block < W1.heap.size ∧ a.block ∉ bad) (hb : ∀ b ∈ bad, b < W1.heap.size) :
    PRow (W1.alloc (.cells #[.slice A row.length c] t)) bad W1.heap.size [row] := by
  obtain ⟨h1, h2, h3, h4⟩ := h
  intro i x hx
  have hi : i = 0 := by
    have := (List.getElem?_eq_some_iff.1 hx).1
    simp at this; omega
  subst hi
  simp at hx
  subst hx
  have hM : Mods [] W1 (W1.alloc (.cells #[.slice A row.length c] t)) := (Mods.refl [] W1).alloc _
  exact ⟨A, c, blk_cell (blk_new W1 _) 0, h1, h2, h3.keepsM (fun _ => rfl) hM (by simp), ⟨heap_lt (blk_new W1 _), fun hm => Nat.lt_irrefl _ (hb _ hm)⟩, fun a ha => ⟨Nat.lt_of_lt_of_le (h4 a ha).1 hM.size, (h4 a ha).2⟩⟩
theorem own_old {w : World} {h lo : Nat} {lv : Value} {room first : Nat} {rows : List (List Cell)} {vs : List Value} (hh : HAt w h lo lv room first rows vs) : ∀ b ∈ h :: lv.ownBlock.toList, b < w.heap.size := by
  intro b hb
  simp only [List.mem_cons] at hb
  rcases hb with rfl | hb
  · exact heap_lt hh.head
  · exact own_lt hh.own b (by simpa using hb)
def PushRel (w0 : World) (lv0 : Value) (h lo room : Nat) (xs : List (List Cell)) (st : Nat × List (List Cell)) (g k : Nat) (kk : Nat) (idx : Value) (wr : World) : Prop :=
  ∃ (i : Nat) (lv : Value) (vs : List Value), idx = .int .i64 i ∧ i ≤ k ∧ HAt wr h lo lv room ((xs.take i).foldl (pushS room) st).1 ((xs.take i).foldl (pushS room) st).2 vs ∧ Mods (h :: lv0.ownBlock.toList) w0 wr ∧ (lv.ownBlock = lv0.ownBlock ∨ ∃ b, lv.ownBlock = some b ∧ w0.heap.size ≤ b) ∧ PRow wr (h :: lv.ownBlock.toList) g xs ∧ kk + i = k

set_option maxHeartbeats 1000000 in
theorem history_Push (w w0 : World) (h lo : Nat) (lv : Value) (room first : Nat) (rows : List (List Cell)) (vs : List Value) (g k c : Nat) (xs : List (List Cell)) (hk : xs.length = k) (hks : k ≤ 100)
    (hh : HAt w h lo lv room first rows vs) (hx : PRow w (h :: lv.ownBlock.toList) g xs) (hM : Mods [] w0 w) (hlo : w0.heap.size ≤ lo) (hlw : lo ≤ w.heap.size) :
    Calls Tryd.prog 11 #[.pointer (some ⟨h, 0, none⟩), .slice (some ⟨g, 0, none⟩) k c] w fun e w' => e = .returned (.tuple #[]) ∧ (∃ lv' vs', HAt w' h lo lv' room (xs.foldl (pushS room) (first, rows)).1 (xs.foldl (pushS room) (first, rows)).2 vs' ∧ (lv'.ownBlock = lv.ownBlock ∨ ∃ b, lv'.ownBlock = some b ∧ w.heap.size ≤ b)) ∧ Mods [] w0 w' ∧ lo ≤ w'.heap.size ∧ Mods (h :: lv.ownBlock.toList) w w' := by
  have HH := Lib.hid hh
  have HX := Lib.hid hx
  have HK := Lib.hid hk
  clear hh hx hk
  go_enter Tryd.func11, Tryd.ntmps11
  go_wp2
  go_loopg [10] k (PushRel w lv h lo room xs (first, rows) g k)
  case atStart => exact ⟨0, lv, vs, rfl, by omega, HH.out, Mods.refl _ _, .inl rfl, HX.out, by omega⟩
  case round =>
    obtain ⟨i, lv', vs', rfl, hi, hh, hM', hob, hx, hkk⟩ := hrel
    have hlw' : lo ≤ wr.heap.size := Nat.le_trans hlw hM'.size
    have HOB := Lib.hid hob
    clear hob
    have HKK := Lib.hid hkk
    have HH' := Lib.hid hh
    have HX' := Lib.hid hx
    clear hkk hh hx
    by_cases hlt : i < k
    · obtain ⟨x, hxi⟩ : ∃ x, xs[i]? = some x := ⟨_, List.getElem?_eq_getElem (by rw [HK.out]; exact hlt)⟩
      obtain ⟨A, cap, c0, q1, q2, q3, q4, q5⟩ := HX'.out i x hxi
      have HXI := Lib.hid hxi
      have HQ3 := Lib.hid q3
      clear hxi q3 q4 q5
      have hnew : ∀ b, wr.heap.size ≤ b → b ∉ h :: lv'.ownBlock.toList := by
        intro b hb hm
        simp only [List.mem_cons] at hm
        rcases hm with rfl | hm
        · have := heap_lt HH'.out.head; omega
        · have := own_lt HH'.out.own b (by simpa using hm); omega
      go_upto_region 4 with fail
      go_region_held3 (fun W => True) (first | exact trivial)
        (first
          | (go_at_call 34; refine (cell_Mend _ A x.length cap x (HQ3.out.keepsM (fun _ => rfl) (S := []) ((Mods.refl [] wr).drew) (by simp)) q1 q2).mono ?_; rintro e w1 ⟨v1, rfl, hown1, hml, hm1⟩; obtain ⟨A1, c1, rfl, _, _, _⟩ := own_slice' hown1; obtain ⟨r1, r2, r3, r4⟩ := own_reads hown1 hml q2
             have hput := ring_put w1 h lo lv' room _ _ vs' A1 c1 (mend x) (HH'.out.keeps ((Mods.refl [] wr).drew.trans hm1)) ⟨A1, c1, rfl, ⟨by rw [hml]; exact r2, r3⟩, by rw [hml]; exact r1, fun a ha => ⟨hnew a.block (r4 a ha).1, (r4 a ha).2⟩⟩ (Nat.le_trans hlw' hm1.size)
             rw [hml] at hput)
          | (go_at_call 33; refine hput.mono ?_; rintro e w2 ⟨rfl, ⟨lv2, vs2, hh2, hb2⟩, hm2⟩))
      have hh1 := HH'.out.hlo
      have hM1 : Mods [] wr w1 := (Mods.refl [] wr).drew.trans hm1
      have hww : w.heap.size ≤ wr.heap.size := hM'.size
      have hM2 : Mods (h :: lv.ownBlock.toList) w w2 := (hM'.trans (hM1.mono (by simp))).then hm2 (by
        intro b hb
        rcases HOB.out with e | ⟨b', e, hb'⟩
        · rw [e] at hb; exact .inl hb
        · rw [e] at hb
          simp only [List.mem_cons, Option.toList_some, List.not_mem_nil, or_false] at hb ⊢
          rcases hb with rfl | rfl
          · exact .inl (.inl rfl)
          · exact .inr hb')
      have hob2 : lv2.ownBlock = lv.ownBlock ∨ ∃ b, lv2.ownBlock = some b ∧ w.heap.size ≤ b := by
        rcases hb2 with e | ⟨b', e, hb'⟩
        · rw [e]; exact HOB.out
        · exact .inr ⟨b', e, Nat.le_trans hww (Nat.le_trans hM1.size hb')⟩
      have HOB2 := Lib.hid hob2
      clear hob2
      have hX2 : PRow w2 (h :: lv2.ownBlock.toList) g xs := by
        have hX1 := HX'.out.keeps hM1 (bad' := h :: lv'.ownBlock.toList) (by simp) (fun b _ hb => hb)
        refine hX1.keeps hm2 (fun b _ hb => hb) (fun b hb hn hm => ?_)
        rcases hb2 with e | ⟨b', e, hb'⟩
        · rw [e] at hm; exact hn hm
        · rw [e] at hm
          simp at hm hn
          rcases hm with hm | hm
          · exact hn.1 hm
          · omega
      have hk2 := HKK.out
      have hs2 := hm2.size
      have hs1 := hM1.size
      have ht : xs.take (i + 1) = xs.take i ++ [x] := by rw [List.take_add_one, HXI.out]; rfl
      have HT := Lib.hid ht
      clear ht c0
      go_wp2
      go_roundg (gk - 1)
      case measure => omega
      case rel => exact ⟨i + 1, lv2, vs2, by go_num, by omega, by rw [HT.out, List.foldl_append]; exact hh2, hM2, HOB2.out, hX2, by omega⟩
    · go_wp2
      have e : i = k := by omega
      subst e
      have := HH'.out
      rw [List.take_of_length_le (by rw [HK.out]; exact Nat.le_refl _)] at this
      refine bodyPost_end (results_none rfl _ _ _) rfl ⟨rfl, ⟨_, _, this, HOB.out⟩, hM.then hM' ?_, hlw', hM'⟩
      intro b hb
      have hh1 := HH.out.hlo
      simp only [List.mem_cons] at hb
      rcases hb with rfl | hb
      · exact .inr (by omega)
      · have := own_base HH.out.own b (by simpa using hb)
        exact .inr (by omega)
end Go.Proofs.YtldjmacnokkjdaaDoor
