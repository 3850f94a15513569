/- Package history, as data: a ring of rows. -/
import Derived.Test.YtldjmacnokkjdaaDoorCellM
namespace Go.Proofs.YtldjmacnokkjdaaDoor
open Go.RowKit
attribute [local go_sem] max2_mx min2_mn max_two min_two
set_option linter.unusedVariables false
set_option linter.unusedSimpArgs false

section
variable {P : Program} {ops : Array Oper} {Q : Exit → Act → World → Prop} {a : Act} {rest : List Oper} {o : Oper}
/-- 's = append(s, x)' of one element, s of one's own from before the call. -/
theorem append_old {W : World} (base : Nat) (hgd : o.guard = none) (s x : Operand) (t e : TypeId) (z : Value) (size bytes : Nat)
    (ho : o.op = .call { callee := .builtin .append, args := #[s, x], argTypes := #[t, t] })
    (ht : P.underlying t = some (.slice e)) (hinfo : (P.info? e).map (fun i => (i.zero, i.size, i.bytes)) = some (some z, size, bytes)) (hz : z.cells.size = size) (hs0 : 0 < size) (hb0 : 0 < bytes)
    (v : Value) (n : Nat) (xs ys : List Value) (hs : a.eval s = v) (hx : a.eval x = .slice (some ⟨W.heap.size, 0, none⟩) 1 1) (hys : ys.length = size) (h1 : ∀ u ∈ ys, u.oneCell' = true)
    (HO : W.ownsRow base e size v n xs) (hbase : base ≤ W.heap.size) (hl : (n + 1) * bytes ≤ 140737488355328)
    (h : ∀ v1 w1, w1.ownsRow base e size v1 (n + 1) (xs ++ ys) → Mods v.ownBlock.toList W w1 → (v1.ownBlock = v.ownBlock ∨ ∃ b, v1.ownBlock = some b ∧ W.heap.size ≤ b) → wpList P ops Q rest (a.put o.dst v1) w1) :
    wpList P ops Q (o :: rest) a (W.alloc (.cells ys.toArray e)) := by
  obtain ⟨i0, hi, hzz⟩ := Option.map_eq_some_iff.1 hinfo
  simp only [Prod.mk.injEq] at hzz
  obtain ⟨hz0, hz1, hz2⟩ := hzz
  have hlen : n + 1 ≤ 140737488355328 := Nat.le_trans (Nat.le_mul_of_pos_right _ hb0) hl
  refine wpList_append_own_at (W.alloc (.cells ys.toArray e)) hgd s x t ho base e i0 z size bytes ht hi hz0 hz1 hz2 hz hs0 v n xs hs (HO.alloc _) ⟨W.heap.size, 0, none⟩ 1 1 ys hx (by rw [hys]; simp)
    (by simpa using World.news_of_block (cs := ys.toArray) (t := e) (fr := (0, 0)) (heap_alloc_new W (.cells ys.toArray e))) h1 (by simp only [maxLen]; omega) hl (by simp; omega) ?_
  intro v1 w1 hown hg _ hat
  refine h v1 w1 hown (((Mods.refl _ W).alloc _).grown hg (fun k hk => .inl (by simpa using hk))) ?_
  rcases hat with hat | hat
  · exact .inl hat
  · exact .inr ⟨_, hat, by simp⟩
end

/-! ### as data -/
def HRow (w : World) (bad : List Nat) (v : Value) (row : List Cell) : Prop := ∃ A cap, v = .slice A row.length cap ∧ (row.length ≤ cap ∧ (A = none → cap = 0)) ∧ ReadsRows w A row.length 4 Cell.vals row ∧ ∀ a, A = some a → a.block ∉ bad ∧ a.block < w.heap.size
theorem HRow.keeps {w w' : World} {bad S : List Nat} {v : Value} {row : List Cell} (h : HRow w bad v row) (hm : Mods S w w') (hS : ∀ b, b < w.heap.size → b ∉ bad → b ∉ S) : HRow w' bad v row := by
  obtain ⟨A, cap, rfl, h1, h2, h3⟩ := h
  exact ⟨A, cap, rfl, h1, h2.keepsM (fun _ => rfl) hm (fun a ha => hS _ (h3 a ha).2 (h3 a ha).1), fun a ha => ⟨(h3 a ha).1, Nat.lt_of_lt_of_le (h3 a ha).2 hm.size⟩⟩
structure HAt (w : World) (h lo : Nat) (lv : Value) (room first : Nat) (rows : List (List Cell)) (vs : List Value) : Prop where
  head : w.heap[h]? = some (.cells #[.int .i64 (room : Int), lv, .int .i64 (first : Int)] 67 (0, 0))
  own : w.ownsRow lo 28 1 lv rows.length vs
  row : ∀ (j : Nat) (v : Value) (r : List Cell), vs[j]? = some v → rows[j]? = some r → HRow w (h :: lv.ownBlock.toList) v r
  hlo : lo ≤ h
  hne : lv.ownBlock ≠ some h
  room5 : room ≤ 500
  le : rows.length ≤ room
  fst : first = 0 ∨ (rows.length = room ∧ first < room)
def putF (room first : Nat) (rows : List (List Cell)) : Nat := if room = 0 then first else if rows.length < room then first else (first + 1) % room
def putR (room first : Nat) (rows : List (List Cell)) (x : List Cell) : List (List Cell) := if room = 0 then rows else if rows.length < room then rows ++ [x] else rows.set first x

theorem HAt.keeps {w w' : World} {h lo : Nat} {lv : Value} {room first : Nat} {rows : List (List Cell)} {vs : List Value} (hh : HAt w h lo lv room first rows vs) (hm : Mods [] w w') : HAt w' h lo lv room first rows vs :=
  ⟨hm.at hh.head (by simp), own_mods hh.own hm (by simp), fun j v r h1 h2 => (hh.row j v r h1 h2).keeps hm (by simp), hh.hlo, hh.hne, hh.room5, hh.le, hh.fst⟩
theorem history_New (w : World) (room : Int) : Calls Tryd.prog 10 #[.int .i64 room] w fun e w' => ∃ h, e = .returned (.pointer (some ⟨h, 0, none⟩)) ∧ HAt w' h w.heap.size (.slice none 0 0) (mn (mx room 0) 500).toNat 0 [] [] ∧ Mods [] w w' := by
  have hr : ((mn (mx room 0) 500).toNat : Int) = mn (mx room 0) 500 := by unfold mn mx; split <;> split <;> omega
  have hr5 : (mn (mx room 0) 500).toNat ≤ 500 := by unfold mn mx; split <;> split <;> omega
  go_enter Tryd.func10, Tryd.ntmps10
  go_wp2
  go_ret
  refine ⟨w.heap.size, rfl, ⟨?_, own_nil _ _ _ _, by simp, Nat.le_refl _, by simp [Value.ownBlock], hr5, by simp, .inl rfl⟩, (Mods.refl _ _).alloc _⟩
  rw [hr]
  exact blk_new w _
end Go.Proofs.YtldjmacnokkjdaaDoor
