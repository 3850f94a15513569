/- What the functions of package queue (and frames.Check) do, over a queue of any content. -/
import Derived.Test.YtfdpfhjdjhoenaaBase
namespace Go.Proofs.Ytfdpfhjdjhoenaa
open Go.RowKit Go.Conc
attribute [local go_sem] max2_mx min2_mn max_two min_two
set_option linter.unusedVariables false
set_option linter.unusedSimpArgs false

/-! ### frames, as data -/
structure Fr where
  gen : Int
  seq : Int
  key : Bool
  body : ByteArray
def Fr.val (f : Fr) : Value := .agg #[.int .i64 f.gen, .int .i64 f.seq, .bool f.key, .string f.body]
def Fr.zero : Fr := ⟨0, 0, false, ⟨#[]⟩⟩
def Fr.may (f : Fr) : Bool := decide (0 ≤ mn f.gen f.seq) && decide (mx f.gen f.seq ≤ 1073741824)

/-! ### a queue, as data -/
structure Qu where
  room : Nat
  l : List Fr
  fed : Bool
  dropped : Int
def Qu.want (q : Qu) : Qu := { q with l := [], fed := false, dropped := wrap64 (q.dropped + q.l.length) }
def Qu.pop (q : Qu) : Qu := { q with l := q.l.tail }
def Qu.top (q : Qu) : Fr := q.l.headD Fr.zero
def Qu.put (q : Qu) (f : Fr) : Qu := if q.l.length < q.room then { q with l := q.l ++ [f] } else q
def Qu.drop1 (q : Qu) : Qu := { q with dropped := wrap64 (q.dropped + 1) }
def Qu.push (q : Qu) (f : Fr) : Qu × Bool :=
  if f.may then
    if f.key then ({ q.want with fed := true, l := [f] }, true)
    else if q.fed && decide (q.l.length < q.room) then ({ q with l := q.l ++ [f] }, true) else (q.want.drop1, false)
  else (q, false)

/-- A queue lies at block b, its channel at block c. -/
structure QAt (w : World) (b c : Nat) (q : Qu) : Prop where
  head : w.heap[b]? = some (.cells #[.chan (some c), .bool q.fed, .int .i64 q.dropped] 49 (0, 0))
  chan : ∃ s r, w.heap[c]? = some (.chan q.room (q.l.map Fr.val).toArray false s r false)
  room : 1 ≤ q.room
  len : q.l.length ≤ q.room
  num : wrap64 q.dropped = q.dropped

/-! ### frames.Check -/
theorem frames_of (f : Fr) (w : World) : Calls Try.prog 37 #[f.val] w fun e w' => e = .returned (.agg #[.int .i64 f.gen, .int .i64 f.seq]) ∧ Mods [] w w' := by
  unfold Fr.val
  go_enter Try.func37, Try.ntmps37
  go_wp2
  exact bodyPost_ret (v := .agg #[.int .i64 f.gen, .int .i64 f.seq]) (by simp [results, Try.results37, go_sem]) rfl ⟨rfl, ((Mods.refl _ _).alloc _).alloc _⟩

theorem frames_may (f : Fr) (w : World) : Calls Try.prog 38 #[.agg #[.int .i64 f.gen, .int .i64 f.seq]] w fun e w' => e = .returned (.bool f.may) ∧ Mods [] w w' := by
  by_cases h : 0 ≤ mn f.gen f.seq
  all_goals
    go_enter Try.func38, Try.ntmps38
    go_wp2
    go_ret
    exact ⟨by first | (simp [Fr.may, h]; done) | (simp [Fr.may]; omega), (Mods.refl _ _).alloc _⟩

theorem frames_Check (f : Fr) (w : World) : Calls Try.prog 31 #[f.val] w fun e w' => e = .returned (.bool f.may) ∧ Mods [] w w' := by
  have hf : f.val = .agg #[.int .i64 f.gen, .int .i64 f.seq, .bool f.key, .string f.body] := rfl
  rw [hf]
  go_enter Try.func31, Try.ntmps31
  go_wp2_with (first | (go_at_call 37; refine (frames_of f _).mono ?_; rintro e w1 ⟨rfl, hm1⟩) | (go_at_call 38; refine (frames_may f _).mono ?_; rintro e w2 ⟨rfl, hm2⟩))
  go_ret
  exact ⟨rfl, (((Mods.refl _ _).alloc _).trans hm1).trans hm2⟩

/-! ### queue.New -/
theorem info_frame : ∃ i, Try.prog.info? 29 = some i ∧ i.bytes = 40 := by
  have h : (Try.prog.info? 29).map (·.bytes) = some 40 := by kernel_rfl
  obtain ⟨i, hi, hb⟩ := Option.map_eq_some_iff.1 h
  exact ⟨i, hi, hb⟩
theorem chan_made (n : Nat) (hn : n ≤ 8) (w : World) : (Instr.makeChan 47 (.int .i64 n)).run Try.prog w = .ok (.chan (some w.heap.size)) (w.alloc (.chan n #[] false 0 0 false)) := by
  obtain ⟨i, hi, hb⟩ := info_frame
  exact run_makeChan (P := Try.prog) (w := w) Try.underlying47 hi .i64 n (by omega) (by rw [hb]; omega)
def roomOf (room : Int) : Nat := (mn (mx room 1) 8).toNat
theorem roomOf_le (room : Int) : 1 ≤ roomOf room ∧ roomOf room ≤ 8 := by unfold roomOf mn mx; split <;> split <;> omega
theorem roomOf_cast (room : Int) : mn (mx room 1) 8 = (roomOf room : Int) := by unfold roomOf mn mx; split <;> split <;> omega
def Qu.new (room : Int) : Qu := ⟨roomOf room, [], false, 0⟩
theorem queue_New (room : Int) (w : World) : Calls Try.prog 10 #[.int .i64 room] w fun e w' =>
    ∃ b c, e = .returned (.pointer (some ⟨b, 0, none⟩)) ∧ QAt w' b c (Qu.new room) ∧ Mods [] w w' ∧ w.heap.size ≤ b ∧ w.heap.size ≤ c := by
  have hr := roomOf_le room
  have hmk := chan_made (roomOf room) hr.2
  rw [← roomOf_cast] at hmk
  go_enter Try.func10, Try.ntmps10
  go_wp2
  go_ret
  refine ⟨w.heap.size + 1, w.heap.size, rfl, ⟨blk_new' _ _ (by simp), ⟨0, 0, ?_⟩, hr.1, by simp [Qu.new], by simp [Qu.new, wrap64]⟩, ((Mods.refl _ _).alloc _).alloc _, by omega, by omega⟩
  exact blk_alloc (blk_new _ _) _

/-! ### Pop -/
theorem pop_nil (w : World) : Calls Try.prog 11 #[.pointer none] w fun e w' => e = .returned (.tuple #[Fr.zero.val, .bool false]) ∧ Mods [] w w' := by
  go_enter Try.func11, Try.ntmps11
  go_wp2
  exact bodyPost_ret (v := .tuple #[Fr.zero.val, .bool false]) (by simp [results, Try.results11, go_sem, Fr.zero, Fr.val]) rfl ⟨rfl, (Mods.refl _ _).alloc _⟩


/-- Pop, up to its select. -/
theorem queue_Pop (w : World) (b c : Nat) (q : Qu) (h : QAt w b c q) : Calls Try.prog 11 #[.pointer (some ⟨b, 0, none⟩)] w fun e w' =>
    e = .returned (.tuple #[q.top.val, .bool (!q.l.isEmpty)]) ∧ QAt w' b c q.pop ∧ Mods [c] w w' := by
  obtain ⟨hb, ⟨s, r, hc⟩, hr, hl, hd⟩ := h
  have HD := Lib.hid hd
  clear hd
  have hbc : b ≠ c := ne_of_heap hb hc (by simp)
  have hbl := heap_lt hb
  have hcl := heap_lt hc
  have h0 := blk_cell hb 0
  refine calls_of_wpN Try.func11 rfl ?_
  simp only [Try.ntmps11, List.size_toArray, List.length_cons, List.length_nil, Nat.reduceAdd, Nat.reduceSub, Array.replicate_succ,
     Array.replicate_zero, List.push_toArray, List.append_toArray, List.nil_append, List.cons_append]
  refine wpN_seq_k fun K hK => ?_
  go_wp2
  refine wpN_seq_k fun K hK => ?_
  go_wp2
  refine wpN_seq_k fun K hK => ?_
  go_wp2
  cases hql : q.l with
  | nil =>
    rw [hql] at hc
    refine wpN_seq_comm (cases := #[rcase c Fr.zero.val]) (blocking := false) (shape := .select) (v := .tuple #[goInt (-1), .bool false, Fr.zero.val]) (w' := w.alloc (Obj.cells #[Value.int IntKind.i64 0, Value.int IntKind.i64 0, Value.bool false, Value.string ⟨#[]⟩] 29)) rfl (by simp [go_sem, execOp, rcase, Act.eval, Fr.zero, Fr.val]) ?_ ?_
    · intro fr cs es hs
      exact step_lone_select_default hs (blk_alloc hc _)
    intro K hK
    go_wp2
    refine wpN_of_wp ?_
    go_wp2
    refine bodyPost_ret (v := .tuple #[Fr.zero.val, .bool false]) (by simp [results, Try.results11, go_sem, Fr.zero, Fr.val]) rfl ⟨by simp [Qu.top, hql], ⟨blk_alloc hb _, ⟨s, r, ?_⟩, hr, by simp [Qu.pop, hql], HD.out⟩, (Mods.refl _ _).alloc _⟩
    simpa [Qu.pop, hql] using blk_alloc hc _
  | cons f t =>
    rw [hql] at hc
    obtain ⟨w2, hw2⟩ : ∃ w2, w2 = (w.alloc (Obj.cells #[Value.int IntKind.i64 0, Value.int IntKind.i64 0, Value.bool false, Value.string ⟨#[]⟩] 29)).setChan c q.room (t.map Fr.val).toArray false s (r + 1) false := ⟨_, rfl⟩
    refine wpN_seq_comm (cases := #[rcase c Fr.zero.val]) (blocking := false) (shape := .select) (v := .tuple #[goInt 0, .bool true, .agg #[.int .i64 f.gen, .int .i64 f.seq, .bool f.key, .string f.body]]) (w' := w2) rfl (by simp [go_sem, execOp, rcase, Act.eval, Fr.zero, Fr.val]) ?_ ?_
    · intro fr cs es hs
      have := step_lone_select_recv_buf hs (blk_alloc hc _) (by simp)
      rw [hw2]
      simpa [List.take_of_length_le, Fr.val] using this
    have g0 : w2.heap[w.heap.size]? = some (.cells #[Value.int IntKind.i64 0, Value.int IntKind.i64 0, Value.bool false, Value.string ⟨#[]⟩] 29 (0, 0)) := by
      rw [hw2, setChan_other _ _ _ _ _ _ _ _ _ (by omega)]; exact blk_new _ _
    have gb : w2.heap[b]? = some (.cells #[Value.chan (some c), Value.bool q.fed, Value.int .i64 q.dropped] 49 (0, 0)) := by rw [hw2, setChan_other _ _ _ _ _ _ _ _ _ (by omega)]; exact blk_alloc hb _
    have gc : w2.heap[c]? = some (.chan q.room (t.map Fr.val).toArray false s (r + 1) false) := by rw [hw2]; exact heap_setChan _ _ _ _ _ _ _ _ (by simp; omega)
    have gm : Mods [c] w w2 := by rw [hw2]; exact ((Mods.refl _ _).alloc _).setChan _ _ _ _ _ _ _ (.inl (by simp))
    have gs : w2.heap.size = w.heap.size + 1 := by rw [hw2]; simp [size_setChan]
    clear hw2
    have c0 := blk_cell g0 0
    have c1 := blk_cell g0 1
    have c2 := blk_cell g0 2
    have c3 := blk_cell g0 3
    have f0 := blk_frozen g0 0
    have f1 := blk_frozen g0 1
    have f2 := blk_frozen g0 2
    have f3 := blk_frozen g0 3
    intro K hK
    go_wp2
    refine wpN_of_wp ?_
    go_wp2
    have G := blk_alloc (blk_set (blk_set (blk_set (blk_set g0 0 (.int .i64 f.gen)) 1 (.int .i64 f.seq)) 2 (.bool f.key)) 3 (.string f.body)) (Obj.cells #[Value.int IntKind.i64 f.gen, Value.int IntKind.i64 f.seq, Value.bool f.key, Value.string f.body] 29)
    have G0 := blk_cell G 0
    have G1 := blk_cell G 1
    have G2 := blk_cell G 2
    have G3 := blk_cell G 3
    refine bodyPost_ret (v := .tuple #[.agg #[.int .i64 f.gen, .int .i64 f.seq, .bool f.key, .string f.body], .bool true]) (by clear c0 c1 c2 c3 f0 f1 f2 f3; simp [results, Try.results11, go_sem, G0, G1, G2, G3]) rfl ⟨by simp [Qu.top, hql, Fr.val], ⟨?_, ⟨s, r + 1, ?_⟩, hr, by simp [Qu.pop, hql] at hl ⊢; omega, HD.out⟩, ?_⟩
    · exact blk_alloc (blk_far (blk_far (blk_far (blk_far gb _ (by simp; omega) _) _ (by simp; omega) _) _ (by simp; omega) _) _ (by simp; omega) _) _
    · simp only [Qu.pop, hql, List.tail_cons]
      exact blk_alloc (blk_far (blk_far (blk_far (blk_far gc _ (by simp; omega) _) _ (by simp; omega) _) _ (by simp; omega) _) _ (by simp; omega) _) _
    · exact ((((gm.setCell _ _ (.inr (by simp))).setCell _ _ (.inr (by simp))).setCell _ _ (.inr (by simp))).setCell _ _ (.inr (by simp))).alloc _

/-! ### put -/
theorem queue_put (w : World) (b c : Nat) (q : Qu) (f : Fr) (h : QAt w b c q) : Calls Try.prog 32 #[.pointer (some ⟨b, 0, none⟩), f.val] w fun e w' =>
    e = .returned (.bool (decide (q.l.length < q.room))) ∧ QAt w' b c (q.put f) ∧ Mods [c] w w' := by
  obtain ⟨hb, ⟨s, r, hc⟩, hr, hl, hd⟩ := h
  have HD := Lib.hid hd
  clear hd
  have hbc : b ≠ c := ne_of_heap hb hc (by simp)
  have hbl := heap_lt hb
  have hcl := heap_lt hc
  have h0 := blk_cell hb 0
  unfold Fr.val
  refine calls_of_wpN Try.func32 rfl ?_
  simp only [Try.ntmps32, List.size_toArray, List.length_cons, List.length_nil, Nat.reduceAdd, Nat.reduceSub, Array.replicate_succ,
     Array.replicate_zero, List.push_toArray, List.append_toArray, List.nil_append, List.cons_append]
  refine wpN_seq_k fun K hK => ?_
  go_wp2
  refine wpN_seq_k fun K hK => ?_
  go_wp2
  by_cases hlt : q.l.length < q.room
  · obtain ⟨w2, hw2⟩ : ∃ w2, w2 = (w.alloc (Obj.cells #[Value.int IntKind.i64 f.gen, Value.int IntKind.i64 f.seq, Value.bool f.key, Value.string f.body] 29)).setChan c q.room ((q.l ++ [f]).map Fr.val).toArray false (s + 1) r false := ⟨_, rfl⟩
    refine wpN_seq_comm (cases := #[scase c f.val Fr.zero.val]) (blocking := false) (shape := .select) (v := .tuple #[goInt 0, .bool false]) (w' := w2) rfl (by simp [go_sem, execOp, scase, Act.eval, Fr.zero, Fr.val]) ?_ ?_
    · intro fr cs es hs
      have := step_lone_select_send_room hs (blk_alloc hc _) (by simpa using hlt)
      rw [hw2]
      simpa using this
    have gb : w2.heap[b]? = some (.cells #[Value.chan (some c), Value.bool q.fed, Value.int .i64 q.dropped] 49 (0, 0)) := by rw [hw2, setChan_other _ _ _ _ _ _ _ _ _ (by omega)]; exact blk_alloc hb _
    have gc : w2.heap[c]? = some (.chan q.room ((q.l ++ [f]).map Fr.val).toArray false (s + 1) r false) := by rw [hw2]; exact heap_setChan _ _ _ _ _ _ _ _ (by simp; omega)
    have gm : Mods [c] w w2 := by rw [hw2]; exact ((Mods.refl _ _).alloc _).setChan _ _ _ _ _ _ _ (.inl (by simp))
    clear hw2
    intro K hK
    go_wp2
    refine wpN_of_wp ?_
    go_wp2
    go_ret
    refine ⟨by simp [hlt], ⟨?_, ⟨s + 1, r, ?_⟩, ?_, ?_, ?_⟩, gm⟩
    · simpa [Qu.put, hlt] using gb
    · simpa [Qu.put, hlt] using gc
    · simpa [Qu.put, hlt] using hr
    · simp [Qu.put, hlt]; omega
    · simpa [Qu.put, hlt] using HD.out
  · refine wpN_seq_comm (cases := #[scase c f.val Fr.zero.val]) (blocking := false) (shape := .select) (v := .tuple #[goInt (-1), .bool false]) (w' := w.alloc (Obj.cells #[Value.int IntKind.i64 f.gen, Value.int IntKind.i64 f.seq, Value.bool f.key, Value.string f.body] 29)) rfl (by simp [go_sem, execOp, scase, Act.eval, Fr.zero, Fr.val]) ?_ ?_
    · intro fr cs es hs
      exact step_lone_select_send_full hs (blk_alloc hc _) (by simp; omega)
    intro K hK
    go_wp2
    refine wpN_of_wp ?_
    go_wp2
    go_ret
    have hp : q.put f = q := by simp [Qu.put, hlt]
    rw [hp]
    exact ⟨by simp [hlt], ⟨blk_alloc hb _, ⟨s, r, blk_alloc hc _⟩, hr, hl, HD.out⟩, (Mods.refl _ _).alloc _⟩

/-! ### Needs, Len, Dropped -/
theorem needs_nil (w : World) : Calls Try.prog 16 #[.pointer none] w fun e w' => e = .returned (.bool false) ∧ w = w' := by
  go_enter Try.func16, Try.ntmps16
  go_wp2
  go_ret
  exact ⟨rfl, rfl⟩
theorem queue_Needs (w : World) (b c : Nat) (q : Qu) (h : QAt w b c q) : Calls Try.prog 16 #[.pointer (some ⟨b, 0, none⟩)] w fun e w' => e = .returned (.bool (!q.fed)) ∧ w = w' := by
  have h1 := blk_cell h.head 1
  clear h
  go_enter Try.func16, Try.ntmps16
  go_wp2
  go_ret
  exact ⟨rfl, rfl⟩
theorem len_nil (w : World) : Calls Try.prog 15 #[.pointer none] w fun e w' => e = .returned (.int .i64 0) ∧ w = w' := by
  go_enter Try.func15, Try.ntmps15
  go_wp2
  go_ret
  exact ⟨rfl, rfl⟩
theorem queue_Len (w : World) (b c : Nat) (q : Qu) (h : QAt w b c q) : Calls Try.prog 15 #[.pointer (some ⟨b, 0, none⟩)] w fun e w' => e = .returned (.int .i64 q.l.length) ∧ w = w' := by
  have h0 := blk_cell h.head 0
  obtain ⟨s, r, hc⟩ := h.chan
  have hlen := fun ty => run_len_chan (P := Try.prog) 47 ty Try.underlying47 hc
  clear h hc
  go_enter Try.func15, Try.ntmps15
  go_wp2
  go_ret
  exact ⟨by simp [goInt], rfl⟩
theorem dropped_nil (w : World) : Calls Try.prog 17 #[.pointer none] w fun e w' => e = .returned (.int .i64 0) ∧ w = w' := by
  go_enter Try.func17, Try.ntmps17
  go_wp2
  go_ret
  exact ⟨rfl, rfl⟩
theorem queue_Dropped (w : World) (b c : Nat) (q : Qu) (h : QAt w b c q) : Calls Try.prog 17 #[.pointer (some ⟨b, 0, none⟩)] w fun e w' => e = .returned (.int .i64 q.dropped) ∧ w = w' := by
  have h2 := blk_cell h.head 2
  clear h
  go_enter Try.func17, Try.ntmps17
  go_wp2
  go_ret
  exact ⟨rfl, rfl⟩

/-! ### Want -/
theorem want_nil (w : World) : Calls Try.prog 12 #[.pointer none] w fun e w' => e = .returned (.tuple #[]) ∧ w = w' := by
  go_enter Try.func12, Try.ntmps12
  go_wp2
  exact bodyPost_ret (results_none rfl _ _ _) rfl ⟨rfl, rfl⟩

theorem wrap64_add (x y : Int) : wrap64 (wrap64 x + y) = wrap64 (x + y) := by unfold wrap64; omega
theorem wrap64_wrap64 (x : Int) : wrap64 (wrap64 x) = wrap64 x := by unfold wrap64; omega
def WantRel (w : World) (b c : Nat) (q : Qu) (k : Nat) (is : Value) (wr : World) : Prop :=
  ∃ n, n ≤ q.l.length ∧ QAt wr b c { q with l := q.l.drop n, dropped := wrap64 (q.dropped + n) } ∧ Mods [b, c] w wr ∧ ((is = .bool true ∧ k = q.l.length - n + 1) ∨ (is = .bool false ∧ n = q.l.length ∧ k = 0))

theorem queue_Want (w : World) (b c : Nat) (q : Qu) (h : QAt w b c q) : Calls Try.prog 12 #[.pointer (some ⟨b, 0, none⟩)] w fun e w' =>
    e = .returned (.tuple #[]) ∧ QAt w' b c q.want ∧ Mods [b, c] w w' := by
  have h0 : WantRel w b c q (q.l.length + 1) (.bool true) w := ⟨0, Nat.zero_le _, by simpa [h.num] using h, Mods.refl _ _, .inl ⟨rfl, rfl⟩⟩
  clear h
  go_enter Try.func12, Try.ntmps12
  go_wp2
  go_loopg [2] (q.l.length + 1) (WantRel w b c q)
  case atStart => exact h0
  case round =>
    clear h0
    obtain ⟨n, hn, hq, hm, ⟨rfl, hk⟩ | ⟨rfl, hk⟩⟩ := hrel
    · have HN := Lib.hid hk
      have HM := Lib.hid hm
      clear hk hm
      by_cases hlt : n < q.l.length
      · have he : (List.drop n q.l).isEmpty = false := by simp; omega
        go_wp2_with (first | (go_at_call 11; refine (queue_Pop _ b c _ hq).mono ?_; rintro e w1 ⟨rfl, hq1, hm1⟩; have d2 := blk_cell hq1.head 2; have d3 := blk_frozen hq1.head 2; have HQ := Lib.hid hq1; have HM1 := Lib.hid hm1; clear hq1 hm1))
        go_roundg (q.l.length - (n + 1) + 1)
        case measure => have := HN.out; omega
        case rel =>
          have hq1 := HQ.out
          obtain ⟨hb, ⟨s, r, hc⟩, hr, hl, hd⟩ := hq1
          have hn1 : wrap64 (q.dropped + ((n + 1 : Nat) : Int)) = wrap64 (wrap64 (q.dropped + n) + 1) := by rw [wrap64_add]; congr 1; omega
          have hbc : b ≠ c := ne_of_heap hb hc (by simp)
          refine ⟨n + 1, hlt, ⟨?_, ⟨s, r, ?_⟩, hr, ?_, wrap64_wrap64 _⟩, ?_, .inl ⟨rfl, rfl⟩⟩
          · have := blk_set hb 2 (.int .i64 (wrap64 (wrap64 (q.dropped + n) + 1)))
            rw [hn1]
            simpa [Qu.pop] using this
          · have := blk_far hc ⟨b, 2, none⟩ (fun e => hbc e.symm) (.int .i64 (wrap64 (wrap64 (q.dropped + n) + 1)))
            simpa [Qu.pop] using this
          · simp [Qu.pop] at hl ⊢; omega
          · exact ((HM.out.trans (HM1.out.mono (by simp))).setCell _ _ (.inl (by simp)))
      · have he : (List.drop n q.l).isEmpty = true := by simp; omega
        go_wp2_with (first | (go_at_call 11; refine (queue_Pop _ b c _ hq).mono ?_; rintro e w1 ⟨rfl, hq1, hm1⟩; have HQ := Lib.hid hq1; have HM1 := Lib.hid hm1; clear hq1 hm1))
        go_roundg 0
        case measure => have := HN.out; omega
        case rel =>
          have hl : List.drop n q.l = [] := by simpa using he
          have hn' : n = q.l.length := by omega
          refine ⟨n, hn, ?_, HM.out.trans (HM1.out.mono (by simp)), .inr ⟨rfl, hn', rfl⟩⟩
          simpa [Qu.pop, hl] using HQ.out
    · obtain ⟨rfl, rfl⟩ := hk
      have d1 := blk_cell hq.head 1
      have d2 := blk_frozen hq.head 1
      have HM := Lib.hid hm
      have HQ := Lib.hid hq
      clear hm hq
      go_wp2
      obtain ⟨hb, ⟨s, r, hc⟩, hr, hl, hd⟩ := HQ.out
      have hbc : b ≠ c := ne_of_heap hb hc (by simp)
      refine bodyPost_end (results_none rfl _ _ _) rfl ⟨rfl, ⟨?_, ⟨s, r, ?_⟩, hr, by simp [Qu.want], hd⟩, HM.out.setCell _ _ (.inl (by simp))⟩
      · have := blk_set hb 1 (.bool false)
        simpa [Qu.want] using this
      · have := blk_far hc ⟨b, 1, none⟩ (fun e => hbc e.symm) (.bool false)
        simpa [Qu.want] using this

/-! ### Push -/
theorem push_nil (w : World) (f : Fr) : Calls Try.prog 13 #[.pointer none, f.val] w fun e w' => e = .returned (.bool false) ∧ Mods [] w w' := by
  unfold Fr.val
  go_enter Try.func13, Try.ntmps13
  go_wp2
  go_ret
  exact ⟨rfl, (Mods.refl _ _).alloc _⟩

theorem QAt.setFed {w : World} {b c : Nat} {q : Qu} (h : QAt w b c q) (v : Bool) : QAt (w.setCell ⟨b, 1, none⟩ (.bool v)) b c { q with fed := v } := by
  obtain ⟨hb, ⟨s, r, hc⟩, hr, hl, hd⟩ := h
  have hbc : b ≠ c := ne_of_heap hb hc (by simp)
  exact ⟨by simpa using blk_set hb 1 (.bool v), ⟨s, r, blk_far hc ⟨b, 1, none⟩ (fun e => hbc e.symm) _⟩, hr, hl, hd⟩
theorem QAt.setDropped {w : World} {b c : Nat} {q : Qu} (h : QAt w b c q) (d : Int) (hd' : wrap64 d = d) : QAt (w.setCell ⟨b, 2, none⟩ (.int .i64 d)) b c { q with dropped := d } := by
  obtain ⟨hb, ⟨s, r, hc⟩, hr, hl, hd⟩ := h
  have hbc : b ≠ c := ne_of_heap hb hc (by simp)
  exact ⟨by simpa using blk_set hb 2 (.int .i64 d), ⟨s, r, blk_far hc ⟨b, 2, none⟩ (fun e => hbc e.symm) _⟩, hr, hl, hd'⟩
theorem QAt.keeps {w w' : World} {b c : Nat} {q : Qu} {S : List Nat} (h : QAt w b c q) (hm : Mods S w w') (hb : b ∉ S) (hc : c ∉ S) : QAt w' b c q := by
  obtain ⟨h1, ⟨s, r, h2⟩, hr, hl, hd⟩ := h
  exact ⟨hm.at h1 hb, ⟨s, r, hm.at h2 hc⟩, hr, hl, hd⟩
theorem QAt.lt {w : World} {b c : Nat} {q : Qu} (h : QAt w b c q) : b < w.heap.size ∧ c < w.heap.size := ⟨heap_lt h.head, by obtain ⟨s, r, hc⟩ := h.chan; exact heap_lt hc⟩

theorem queue_Push (w : World) (b c : Nat) (q : Qu) (f : Fr) (h : QAt w b c q) : Calls Try.prog 13 #[.pointer (some ⟨b, 0, none⟩), f.val] w fun e w' =>
    e = .returned (.bool (q.push f).2) ∧ QAt w' b c (q.push f).1 ∧ Mods [b, c] w w' := by
  have hf : f.val = .agg #[.int .i64 f.gen, .int .i64 f.seq, .bool f.key, .string f.body] := rfl
  rw [hf]
  obtain ⟨hbl, hcl⟩ := h.lt
  cases hmay : f.may with
  | false =>
    go_enter Try.func13, Try.ntmps13
    go_wp2_with (first | (go_at_call 31; refine (frames_Check f _).mono ?_; rintro e w1 ⟨rfl, hm1⟩))
    go_ret
    have hp : q.push f = (q, false) := by simp [Qu.push, hmay]
    rw [hp]
    have hm := ((Mods.refl [] w).alloc (Obj.cells #[Value.int IntKind.i64 f.gen, Value.int IntKind.i64 f.seq, Value.bool f.key, Value.string f.body] 29)).trans hm1
    exact ⟨rfl, h.keeps hm (by simp) (by simp), hm.mono (by simp)⟩
  | true =>
    have HM := Lib.hid hmay
    clear hmay hf
    obtain ⟨gen, seq, key, body⟩ := f
    cases key with
    | true =>
      go_enter Try.func13, Try.ntmps13
      go_wp2_with (first
        | (go_at_call 31; refine (frames_Check ⟨gen, seq, true, body⟩ _).mono ?_; rw [HM.out]; rintro e w1 ⟨rfl, hm1⟩
           have g := hm1.at (blk_new w (Obj.cells #[Value.int IntKind.i64 gen, Value.int IntKind.i64 seq, Value.bool true, Value.string body] 29)) (by simp)
           have C := fun i => blk_cell g i
           have hm1' := ((Mods.refl [] w).alloc _).trans hm1
           have hs := hm1'.size
           have hq1 := h.keeps hm1' (by simp) (by simp))
        | (go_at_call 12; refine (queue_Want _ b c q hq1).mono ?_; rintro e w2 ⟨rfl, hq2, hm2⟩
           clear C
           have g2 := hm2.at g (by simp; omega)
           have C := fun i => blk_cell g2 i
           have B := fun i => blk_cell hq2.head i
           have F := fun i => blk_frozen hq2.head i)
        | (go_at_call 32; go_must (refine (queue_put _ b c _ ⟨gen, seq, true, body⟩ (hq2.setFed true)).mono ?_); rintro e w3 ⟨rfl, hq3, hm3⟩))
      go_ret
      have hr := hq3.room
      have hp : q.push ⟨gen, seq, true, body⟩ = (Qu.put { q.want with fed := true } ⟨gen, seq, true, body⟩, true) := by
        have : 0 < q.room := by have := h.room; omega
        simp [Qu.push, HM.out, Qu.put, Qu.want, this]
      rw [hp]
      refine ⟨?_, hq3, ?_⟩
      · have : 0 < q.room := by have := h.room; omega
        simp [Qu.want, this]
      · exact ((hm1'.mono (by simp)).trans ((hm2.setCell _ _ (.inl (by simp))).then hm3 (by simp)))
    | false =>
      cases hfed : q.fed with
      | false =>
        have HF := Lib.hid hfed
        go_enter Try.func13, Try.ntmps13
        go_wp2_with (first
          | (go_at_call 31; refine (frames_Check ⟨gen, seq, false, body⟩ _).mono ?_; rw [HM.out]; rintro e w1 ⟨rfl, hm1⟩
             have g := hm1.at (blk_new w (Obj.cells #[Value.int IntKind.i64 gen, Value.int IntKind.i64 seq, Value.bool false, Value.string body] 29)) (by simp)
             have C := fun i => blk_cell g i
             have hm1' := ((Mods.refl [] w).alloc _).trans hm1
             have hs := hm1'.size
             have hq1 := h.keeps hm1' (by simp) (by simp)
             have B := fun i => blk_cell hq1.head i)
          | (go_at_call 12; go_must (refine (queue_Want _ b c q hq1).mono ?_); rintro e w2 ⟨rfl, hq2, hm2⟩
             clear B
             have B := fun i => blk_cell hq2.head i
             have F := fun i => blk_frozen hq2.head i))
        go_ret
        have hp : q.push ⟨gen, seq, false, body⟩ = (q.want.drop1, false) := by simp [Qu.push, HM.out, HF.out]
        rw [hp]
        exact ⟨rfl, hq2.setDropped _ (wrap64_wrap64 _), (hm1'.mono (by simp)).trans (hm2.setCell _ _ (.inl (by simp)))⟩
      | true =>
        have HF := Lib.hid hfed
        by_cases hlt : q.l.length < q.room
        · go_enter Try.func13, Try.ntmps13
          go_wp2_with (first
            | (go_at_call 31; refine (frames_Check ⟨gen, seq, false, body⟩ _).mono ?_; rw [HM.out]; rintro e w1 ⟨rfl, hm1⟩
               have g := hm1.at (blk_new w (Obj.cells #[Value.int IntKind.i64 gen, Value.int IntKind.i64 seq, Value.bool false, Value.string body] 29)) (by simp)
               have C := fun i => blk_cell g i
               have hm1' := ((Mods.refl [] w).alloc _).trans hm1
               have hs := hm1'.size
               have hq1 := h.keeps hm1' (by simp) (by simp)
               have B := fun i => blk_cell hq1.head i)
            | (go_at_call 32; go_must (refine (queue_put _ b c _ ⟨gen, seq, false, body⟩ hq1).mono ?_); rintro e w3 ⟨rfl, hq3, hm3⟩))
          go_ret
          have hp : q.push ⟨gen, seq, false, body⟩ = (q.put ⟨gen, seq, false, body⟩, true) := by simp [Qu.push, HM.out, HF.out, hlt, Qu.put]
          rw [hp]
          exact ⟨rfl, hq3, (hm1'.mono (by simp)).trans (hm3.mono (by simp))⟩
        · go_enter Try.func13, Try.ntmps13
          have HL := Lib.hid hlt
          have hd : decide (q.l.length < q.room) = false := by simpa using hlt
          clear hlt
          go_wp2_with (first
            | (go_at_call 31; refine (frames_Check ⟨gen, seq, false, body⟩ _).mono ?_; rw [HM.out]; rintro e w1 ⟨rfl, hm1⟩
               have g := hm1.at (blk_new w (Obj.cells #[Value.int IntKind.i64 gen, Value.int IntKind.i64 seq, Value.bool false, Value.string body] 29)) (by simp)
               have C := fun i => blk_cell g i
               have hm1' := ((Mods.refl [] w).alloc _).trans hm1
               have hs := hm1'.size
               have hq1 := h.keeps hm1' (by simp) (by simp)
               have B := fun i => blk_cell hq1.head i)
            | (go_at_call 32; go_must (refine (queue_put _ b c _ ⟨gen, seq, false, body⟩ hq1).mono ?_); rw [hd]; rintro e w3 ⟨rfl, hq3, hm3⟩)
            | (go_at_call 12; go_must (refine (queue_Want _ b c _ hq3).mono ?_); rintro e w2 ⟨rfl, hq2, hm2⟩
               clear B
               have B := fun i => blk_cell hq2.head i
               have F := fun i => blk_frozen hq2.head i))
          go_ret
          have hp : q.push ⟨gen, seq, false, body⟩ = (q.want.drop1, false) := by simp [Qu.push, HM.out, HF.out, HL.out]
          have hpq : q.put ⟨gen, seq, false, body⟩ = q := by simp [Qu.put, HL.out]
          rw [hp]
          rw [hpq] at hq2 ⊢
          exact ⟨rfl, hq2.setDropped _ (wrap64_wrap64 _), (hm1'.mono (by simp)).trans ((hm3.mono (by simp)).trans (hm2.setCell _ _ (.inl (by simp))))⟩
end Go.Proofs.Ytfdpfhjdjhoenaa
