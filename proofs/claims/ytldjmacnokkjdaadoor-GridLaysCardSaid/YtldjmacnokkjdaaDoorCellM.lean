/- What Mend of package cell makes of a row. -/
import Derived.Test.YtldjmacnokkjdaaDoorCellS
import Derived.Deep.RegionLaw
namespace Go.Proofs.YtldjmacnokkjdaaDoor
open Go.RowKit
set_option linter.unusedVariables false
set_option linter.unusedSimpArgs false

def Cell.blank (c : Cell) : Cell := ⟨32, c.fg, c.bg, 0⟩
def mend : List Cell → List Cell
  | [] => []
  | [c] => if sizeC [c] = 0 then [c.blank] else [c]
  | c :: d :: l => if sizeC (c :: d :: l) = 0 then c.blank :: mend (d :: l) else if sizeC (c :: d :: l) = 1 then c :: mend (d :: l) else c :: d :: mend l
theorem sizeC_cases (c : Cell) (l : List Cell) : sizeC (c :: l) = 0 ∨ sizeC (c :: l) = 1 ∨ (sizeC (c :: l) = 2 ∧ ∃ d l', l = d :: l') := by
  have hu : sizeC (c :: l) = if !c.ok || c.tail then 0 else if !c.wide then 1 else if l.head? = some c.behind then 2 else 0 := rfl
  rw [hu]
  by_cases h1 : (!c.ok || c.tail) = true
  · rw [if_pos h1]; exact .inl rfl
  · rw [if_neg h1]
    by_cases h2 : (!c.wide) = true
    · rw [if_pos h2]; exact .inr (.inl rfl)
    · rw [if_neg h2]
      by_cases h3 : l.head? = some c.behind
      · rw [if_pos h3]
        refine .inr (.inr ⟨rfl, ?_⟩)
        cases l with
        | nil => simp at h3
        | cons d l' => exact ⟨d, l', rfl⟩
      · rw [if_neg h3]; exact .inl rfl
theorem mend_0 {c : Cell} {l : List Cell} (h : sizeC (c :: l) = 0) : mend (c :: l) = c.blank :: mend l := by
  cases l with
  | nil => simp [mend, h]
  | cons d l => simp [mend, h]
theorem mend_1 {c : Cell} {l : List Cell} (h : sizeC (c :: l) = 1) : mend (c :: l) = c :: mend l := by
  cases l with
  | nil => simp [mend, h]
  | cons d l => simp [mend, h]
theorem mend_2' {c d : Cell} {l : List Cell} (h : sizeC (c :: d :: l) = 2) : mend (c :: d :: l) = c :: d :: mend l := by
  simp [mend, h]
theorem sizeC_split (c : Cell) (l : List Cell) : sizeC (c :: l) = 0 ∨ ∃ (k : Nat) (l1 l2 : List Cell), sizeC (c :: l) = k ∧ 1 ≤ k ∧ k ≤ 2 ∧ l1.length = k ∧ c :: l = l1 ++ l2 ∧ mend (c :: l) = l1 ++ mend l2 := by
  rcases sizeC_cases c l with h | h | ⟨h, d, l', rfl⟩
  · exact .inl h
  · exact .inr ⟨1, [c], l, h, by omega, by omega, rfl, rfl, mend_1 h⟩
  · exact .inr ⟨2, [c, d], l', h, by omega, by omega, rfl, rfl, mend_2' h⟩
theorem mend_2 {c d : Cell} {l : List Cell} (h : sizeC (c :: d :: l) = 2) : mend (c :: d :: l) = c :: d :: mend l := by
  simp [mend, h]
theorem vals_len (l : List Cell) : (l.flatMap Cell.vals).length = l.length * 4 := by
  induction l with
  | nil => rfl
  | cons c l ih => rw [List.flatMap_cons, List.length_append, ih]; simp [Cell.vals]; omega
theorem vals_one (l : List Cell) : ∀ u ∈ l.flatMap Cell.vals, u.oneCell' = true := by
  intro u hu
  obtain ⟨c, _, hc⟩ := List.mem_flatMap.1 hu
  simp only [Cell.vals, List.mem_cons, List.not_mem_nil, or_false] at hc
  rcases hc with rfl | rfl | rfl | rfl <;> rfl
/-- A cut of what can be read, flat. -/
theorem rows_news {W : World} {A : Addr} {n : Nat} {row : List Cell} (h : ReadsRows W (some A) n 4 Cell.vals row) (i : Nat) (l l' : List Cell) (hd : row.drop i = l ++ l') : ∀ j u, (l.flatMap Cell.vals)[j]? = some u → W.cell? ((A.add (i * 4)).add j) = some u := by
  induction l generalizing i with
  | nil => intro j u hu; simp at hu
  | cons c l ih =>
    intro j u hu
    rw [List.flatMap_cons] at hu
    have hc : row[i]? = some c := by
      have : (row.drop i)[0]? = some c := by rw [hd]; rfl
      simpa using this
    by_cases hj : j < 4
    · rw [List.getElem?_append_left (by simp [Cell.vals]; omega)] at hu
      obtain ⟨a, ha, hcs⟩ := h.2.2 i c hc
      cases ha
      rw [hcs j hj]; exact hu
    · rw [List.getElem?_append_right (by simp [Cell.vals]; omega)] at hu
      have hd' : row.drop (i + 1) = l ++ l' := by
        rw [← List.drop_drop, hd]; rfl
      have := ih (i + 1) hd' (j - 4) u (by simpa [Cell.vals] using hu)
      rw [← this]
      congr 1
      unfold Addr.add
      split <;> split <;> (try split) <;> simp_all <;> (try omega) <;> (try (split <;> simp_all <;> omega))

/-- append_one, as one step of a region that draws its order. -/
theorem step_append_one {P : Program} {ops : Array Oper} {o : Oper} {a : Act} {K : Act → World → Prop} {Q : Exit → Act → World → Prop} {E : Prop} {w W : World} {S : List Nat} (base : Nat) (hgd : o.guard = none) (s x : Operand) (t e : TypeId) (z : Value) (size bytes : Nat)
    (ho : o.op = .call { callee := .builtin .append, args := #[s, x], argTypes := #[t, t] })
    (ht : P.underlying t = some (.slice e)) (hinfo : (P.info? e).map (fun i => (i.zero, i.size, i.bytes)) = some (some z, size, bytes)) (hz : z.cells.size = size) (hs0 : 0 < size) (hb0 : 0 < bytes)
    (v : Value) (n : Nat) (xs ys : List Value) (hs : a.eval s = v) (hx : a.eval x = .slice (some ⟨W.heap.size, 0, none⟩) 1 1) (hys : ys.length = size) (h1 : ∀ u ∈ ys, u.oneCell' = true)
    (HO : W.ownsRow base e size v n xs) (HB : Mods S w W) (hbase : base ≤ W.heap.size) (hwb : w.heap.size ≤ base) (hl : (n + 1) * bytes ≤ 140737488355328)
    (h : ∀ v1 w1, w1.ownsRow base e size v1 (n + 1) (xs ++ ys) → Mods S w w1 → K (a.put o.dst v1) w1) :
    if Region.wanted o (yielded ops a.tmps) = true then Oper.wp P o a (W.alloc (.cells ys.toArray e)) K Q else E := by
  have hw : Region.wanted o (yielded ops a.tmps) = true := by simp [Region.wanted, hgd]
  rw [if_pos hw]
  obtain ⟨i0, hi, hzz⟩ := Option.map_eq_some_iff.1 hinfo
  simp only [Prod.mk.injEq] at hzz
  obtain ⟨hz0, hz1, hz2⟩ := hzz
  have hlen : n + 1 ≤ 140737488355328 := Nat.le_trans (Nat.le_mul_of_pos_right _ hb0) hl
  obtain ⟨v', w', hr, h2, h3, h4, h5⟩ := run_append_own_at (P := P) (W.alloc (.cells ys.toArray e)) base t o.type e i0 z size bytes ht hi hz0 hz1 hz2 hz hs0 v n xs (HO.alloc _) ⟨W.heap.size, 0, none⟩ 1 1 ys (by rw [hys]; simp)
    (by simpa using World.news_of_block (cs := ys.toArray) (t := e) (fr := (0, 0)) (heap_alloc_new W (.cells ys.toArray e))) h1 (by simp only [maxLen]; omega) hl (by simp; omega)
  unfold Oper.wp execOp
  simp only [ho, resolve, invoke, builtin, Sem.run_bind, Sem.run_pure, Result.andThen_ok, List.map_toArray, List.map_cons, List.map_nil, hs, hx, hr]
  exact h v' w' h2 ((HB.alloc _).grown h3 (fun k hk => .inr (Nat.le_trans hwb (own_base HO k hk))))
def MendRel (w : World) (row : List Cell) (n : Nat) (kk : Nat) (out idx : Value) (wr : World) : Prop :=
  ∃ (i : Nat) (acc : List Cell), idx = .int .i64 i ∧ i ≤ n ∧ acc.length = i ∧ acc ++ mend (row.drop i) = mend row ∧ wr.ownsRow w.heap.size 27 4 out i (acc.flatMap Cell.vals) ∧ Mods [] w wr ∧ kk + i = n

set_option maxRecDepth 4000 in
set_option maxHeartbeats 2000000 in
theorem cell_Mend (w : World) (A : Option Addr) (n cap : Nat) (row : List Cell) (h : ReadsRows w A n 4 Cell.vals row) (hcap : n ≤ cap) (hsm : n ≤ 1000000) :
    Calls Tryd.prog 34 #[.slice A n cap] w fun e w' => ∃ v, e = .returned v ∧ w'.ownsRow w.heap.size 27 4 v n ((mend row).flatMap Cell.vals) ∧ (mend row).length = n ∧ Mods [] w w' := by
  have HH := Lib.hid h
  have hl := h.1
  have HL := Lib.hid hl
  clear h hl
  go_enter Tryd.func34, Tryd.ntmps34
  go_wp2
  go_loopg [3, 4] n (MendRel w row n)
  case atStart => exact ⟨0, [], rfl, by omega, rfl, rfl, own_nil _ _ _ _, Mods.refl _ _, by omega⟩
  case round =>
    obtain ⟨i, acc, rfl, hi, hacc, hm, hown, hM, hkk⟩ := hrel
    have HKK := Lib.hid hkk
    have HM := Lib.hid hm
    have HA := Lib.hid hacc
    have HOWN := Lib.hid hown
    clear hkk hm hacc hown
    have hr := HH.out.keepsM (fun _ => rfl) hM (by simp)
    by_cases hlt : i < n
    · obtain ⟨c, hc⟩ : ∃ c, row[i]? = some c := ⟨_, List.getElem?_eq_getElem (by rw [HL.out]; exact hlt)⟩
      have hd : row.drop i = c :: row.drop (i + 1) := by rw [List.drop_eq_getElem?_toList_append, hc]; rfl
      have HD := Lib.hid hd
      have HR := Lib.hid hr
      rcases sizeC_split c (row.drop (i + 1)) with hs | ⟨k, l, l', hs, hk1, hk2, hlk, hdl, hmd⟩
      · rw [← hd] at hs
        have HS := Lib.hid hs
        clear hs hd hc hr
        go_upto_region 6 with (go_at_call 66; go_must (refine (cell_size _ A n cap i row HR.out hlt).mono ?_); rw [HS.out]; rintro e w1 ⟨rfl, hm1⟩)
        have hown1 := own_mods HOWN.out hm1 (by simp)
        have hM1 := hM.trans hm1
        have hr1 := HR.out.keepsM (fun _ => rfl) hm1 (by simp)
        have hc' : row[i]? = some c := by
          have := congrArg (fun l => l[0]?) HD.out
          simpa using this
        obtain ⟨a, rfl, c0, hcs⟩ := hr1.row hc'
        have c1 := hcs 0 (by omega)
        have c2 := hcs 1 (by omega)
        simp only [Cell.vals, List.getElem?_cons_zero, List.getElem?_cons_succ] at c0 c1 c2
        clear hcs hc' hr1
        have hw1 := hm1.size
        have hws := hM.size
        clear HR
        go_cut [3] from 6 to 41 (fun s3 wx => wx.ownsRow w.heap.size 27 4 s3 (i + 1) ((acc ++ [c.blank]).flatMap Cell.vals) ∧ Mods [] w wx)
        case first =>
          go_region_law (refine step_append_one (w := w) (S := []) (W := w1.drew) w.heap.size rfl (.tmp 15) (.tmp 27) 28 27 (.agg #[.int .i32 0, .int .u8 0, .int .u8 0, .int .u8 0]) 4 8 rfl Tryd.underlying28 (by kernel_rfl) rfl (by decide) (by decide) u3 i (acc.flatMap Cell.vals) c.blank.vals rfl rfl rfl (by simp [Cell.vals, Value.oneCell']) hown1 hM1.drew (show w.heap.size ≤ w1.heap.size by omega) (Nat.le_refl _) (by omega) ?_; intro v1 w2 hown2 hM2)
          all_goals
            go_wp2_with fail
            go_meet
            exact ⟨by rw [List.flatMap_append]; simpa using hown2, hM2⟩
        case rest =>
          obtain ⟨hown2, hM2⟩ := hcut
          have hm' := HM.out
          rw [HD.out] at hm'
          rw [mend_0 (HD.out ▸ HS.out)] at hm'
          have hk' := HKK.out
          have ha' := HA.out
          have HM' := Lib.hid hm'
          clear hm' c0 c1 c2 hown1
          go_wp2
          go_roundg (gk - 1)
          case measure => omega
          case rel => exact ⟨i + 1, acc ++ [c.blank], by go_num, by omega, by simp [ha'], by rw [List.append_assoc]; exact HM'.out, hown2, hM2, by omega⟩
      · rw [← hd] at hs hdl hmd
        have hik : i + k ≤ n := by
          have h1 := congrArg List.length hdl
          rw [List.length_drop, HL.out, List.length_append, hlk] at h1
          omega
        have hdr : l' = row.drop (i + k) := by
          rw [← List.drop_drop, hdl, List.drop_append_of_le_length (by omega), List.drop_of_length_le (by omega)]; rfl
        rw [hdr] at hmd hdl
        have HS := Lib.hid hs
        have HMD := Lib.hid hmd
        have HDL := Lib.hid hdl
        have hk0 : ((k : Int) == 0) = false := by simp; omega
        obtain ⟨a, rfl, c0, hcs⟩ := hr.row hc
        clear hs hd hc hr hmd hdl hdr c0 hcs
        go_upto_region 8 with (go_at_call 66; go_must (refine (cell_size _ _ n cap i row HR.out hlt).mono ?_); rw [HS.out]; rintro e w1 ⟨rfl, hm1⟩)
        have e1 : IntKind.i64.wrap ((i : Int) + (k : Int)) = ((i + k : Nat) : Int) := by rw [IntWalk.i64_in _ (by omega)]; simp
        have hown1 := own_mods HOWN.out hm1 (by simp)
        have hM1 := hM.trans hm1
        have hr1 := HR.out.keepsM (fun _ => rfl) hm1 (by simp)
        have HR1 := Lib.hid hr1
        have hw1 := hm1.size
        have hws := hM.size
        clear hr1
        go_wp2_with (at_builtin; go_must (refine append_src w.heap.size rfl (.tmp 31) (.tmp 37) 28 27 (.agg #[.int .i32 0, .int .u8 0, .int .u8 0, .int .u8 0]) 4 8 rfl Tryd.underlying28 (by kernel_rfl) rfl (by decide) (by decide) u3 i (acc.flatMap Cell.vals) (a.add (i * 4)) (i + k - i) (cap - i) (l.flatMap Cell.vals) rfl rfl (by rw [vals_len, hlk, Nat.add_sub_cancel_left]) (rows_news HR1.out i l _ HDL.out) (vals_one l) hown1 hM1 (by omega) (by omega) (by omega) ?_); intro v1 w2 hown2 hM2 hgr hblk; clear hgr hblk hown1; rw [Nat.add_sub_cancel_left] at hown2)
        have hm' := HM.out
        rw [HMD.out, ← List.append_assoc] at hm'
        have HM' := Lib.hid hm'
        have hk' := HKK.out
        have ha' := HA.out
        clear hm'
        go_roundg (gk - k)
        case measure => omega
        case rel => exact ⟨i + k, acc ++ l, by go_num, by omega, by simp [ha', hlk], HM'.out, by rw [List.flatMap_append]; exact hown2, hM2, by omega⟩
    · go_wp2
      go_ret
      have hin : i = n := by omega
      subst hin
      have := HM.out
      rw [List.drop_of_length_le (by rw [HL.out]; exact Nat.le_refl _)] at this
      simp only [mend, List.append_nil] at this
      rw [← this]
      exact ⟨_, rfl, HOWN.out, HA.out, hM⟩
end Go.Proofs.YtldjmacnokkjdaaDoor
