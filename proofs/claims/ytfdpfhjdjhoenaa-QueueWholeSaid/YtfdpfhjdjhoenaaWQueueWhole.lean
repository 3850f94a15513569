/- The walk of the law QueueWhole. -/
import Derived.Test.YtfdpfhjdjhoenaaQLaw
namespace Go.Proofs.Ytfdpfhjdjhoenaa
open Go.RowKit Go.Conc Go.ChangeShapes Go.WideShapes
set_option linter.unusedVariables false
set_option linter.unusedSimpArgs false

theorem push_key (q : Qu) (g s : Int) (b : ByteArray) (hm : Fr.may ⟨g, s, true, b⟩ = true) : q.push ⟨g, s, true, b⟩ = (⟨q.room, [⟨g, s, true, b⟩], true, q.want.dropped⟩, true) := by simp [Qu.push, hm, Qu.want]
theorem push_fed (R : Nat) (D g s : Int) (b : ByteArray) (hR : 1 ≤ R) (hm : Fr.may ⟨g, s, false, b⟩ = true) : Qu.push ⟨R, [], true, D⟩ ⟨g, s, false, b⟩ = (⟨R, [⟨g, s, false, b⟩], true, D⟩, true) := by
  have : 0 < R := by omega
  simp [Qu.push, hm, this]
theorem push_unfed (R : Nat) (D g s : Int) (b : ByteArray) (hm : Fr.may ⟨g, s, false, b⟩ = true) : Qu.push ⟨R, [], false, D⟩ ⟨g, s, false, b⟩ = (⟨R, [], false, wrap64 (wrap64 (D + 0) + 1)⟩, false) := by
  simp [Qu.push, hm, Qu.want, Qu.drop1]

def WholeRel (w : World) (b ch : Nat) (len : Nat) (k : Nat) (i7 : Value) (wr : World) : Prop :=
  ∃ (i : Nat) (q : Qu), i7 = .int .i64 i ∧ i ≤ len ∧ i ≤ 40 ∧ QAt wr b ch q ∧ Below w.heap.size w wr ∧ k + i = 40

set_option maxHeartbeats 4000000 in
theorem qwhole_core (w : World) (room : Int) (A : Option Addr) (m cp : Nat) (ops : List QOp) (hops : ReadsRows w A m 5 QOp.cells ops) (hcap : m ≤ cp) :
    Calls Try.prog 4 #[.int .i64 room, .slice A m cp] w fun e w' => e = .returned (.bool true) ∧ Below w.heap.size w w' := by
  have hn := hops.2.1
  unfold maxLen at hn
  have HO := Lib.hid hops
  clear hops
  go_enter Try.func4, Try.ntmps4
  go_wp2_with (first
    | (go_at_call 9; refine (awake_true _).mono ?_; rintro e w1 ⟨rfl, hm1⟩)
    | (go_at_call 10; go_must (refine (queue_New room _).mono ?_); rintro e w2 ⟨b, ch, rfl, hq2, hm2, hb2, hc2⟩))
  have hB := (hm1.trans hm2).below
  have hs := hm1.size
  go_loopg [7] 40 (WholeRel w b ch m)
  case atStart => exact ⟨0, _, rfl, by omega, by omega, hq2, hB, by omega⟩
  case round =>
    clear hq2 hm2 hm1 hB
    obtain ⟨i, q, rfl, hi, hi6, hq, hB, hk⟩ := hrel
    have HK := Lib.hid hk
    have HB := Lib.hid hB
    clear hk hB
    by_cases hend : i < m ∧ i < 40
    · obtain ⟨hlt, hlt6⟩ := hend
      obtain ⟨o, ho⟩ : ∃ o, ops[i]? = some o := ⟨_, List.getElem?_eq_getElem (by rw [HO.out.1]; exact hlt)⟩
      obtain ⟨a, rfl, c0, hc⟩ := ((HO.out.keeps (fun _ => rfl) HB.out).row ho)
      have c1 := hc 0 (by omega)
      have c2 := hc 1 (by omega)
      have c3 := hc 2 (by omega)
      have c4 := hc 3 (by omega)
      simp only [QOp.cells] at c0 c1 c2 c3 c4
      clear hc ho
      have hqa := hq.keeps ((Mods.refl [] wr).alloc (Obj.cells #[Value.int .i64 o.kind, Value.int .i64 o.gen, Value.int .i64 o.seq, Value.bool o.key, Value.bool o.far] 27)) (by simp) (by simp)
      have HM := Mods.of_below (HB.out.alloc HB.out.size (Obj.cells #[Value.int .i64 o.kind, Value.int .i64 o.gen, Value.int .i64 o.seq, Value.bool o.key, Value.bool o.far] 27))
      go_wp2_with (first
          | (go_at_call 11; refine (queue_Pop _ b ch _ hqa).mono ?_; rintro e w3 ⟨rfl, hq3, hm3⟩)
          | (go_at_call 14; refine (op_frame o _).mono ?_; rintro e w3 ⟨rfl, hm3⟩; have hq3 := hqa.keeps hm3 (by simp) (by simp))
          | (go_at_call 13; refine (queue_Push _ b ch _ o.fr hq3).mono ?_; rintro e w4 ⟨rfl, hq4, hm4⟩))
      all_goals
        have hk := HK.out
        go_roundg (gk - 1)
        case measure => omega
        case rel => first
          | exact ⟨i + 1, _, by go_num, by omega, by omega, hq4, ((HM.trans hm3).then hm4 (by simp; omega)).below, by omega⟩
          | exact ⟨i + 1, _, by go_num, by omega, by omega, hq3, (HM.then hm3 (by simp; omega)).below, by omega⟩
    · have hor : ¬ i < m ∨ (i < m ∧ ¬ i < 40) := by omega
      clear hend
      have hR := hq.room
      rcases hor with h1 | ⟨h1, h2⟩
      all_goals
        have tokA : True := trivial
        go_wp2_with (first
          | (go_at_call 13; have _t := tokA; go_must (refine (queue_Push _ b ch _ ⟨3, 7, true, ⟨#[119]⟩⟩ hq).mono ?_; rw [push_key q 3 7 ⟨#[119]⟩ (by decide)]); rintro e w3 ⟨rfl, hq3, hm3⟩; clear tokA _t; have tokB : True := trivial)
          | (go_at_call 15; have _t := tokB; refine (queue_Len _ b ch _ hq3).mono ?_; simp only [List.length_cons, List.length_nil]; rintro e w4 ⟨rfl, rfl⟩; clear _t)
          | (go_at_call 16; have _t := tokB; refine (queue_Needs _ b ch _ hq3).mono ?_; simp only [Bool.not_true]; rintro e w4 ⟨rfl, rfl⟩; clear _t)
          | (go_at_call 11; have _t := tokB; refine (queue_Pop _ b ch _ hq3).mono ?_; simp only [Qu.top, List.headD_cons, List.isEmpty_cons, Bool.not_false, Fr.val, Qu.pop, List.tail_cons]; rintro e w4 ⟨rfl, hq4, hm4⟩; clear tokB _t; have tokC : True := trivial
             have C0 := blk_new w4 (Obj.cells #[.int .i64 3, .int .i64 7, .bool true, .string ⟨#[119]⟩] 29)
             have hq4' := hq4.keeps ((Mods.refl [] w4).alloc (Obj.cells #[.int .i64 3, .int .i64 7, .bool true, .string ⟨#[119]⟩] 29)) (by simp) (by simp)
             have z4 := hq4.lt)
          | (go_at_call 13; have _t := tokC; go_must (refine (queue_Push _ b ch _ ⟨3, 8, false, ⟨#[]⟩⟩ hq4').mono ?_; rw [push_fed q.room q.want.dropped 3 8 ⟨#[]⟩ hR (by decide)]); rintro e w5 ⟨rfl, hq5, hm5⟩; clear tokC _t; have tokD : True := trivial
             have C1 := hm5.at C0 (not_two (by omega) (by omega)))
          | (go_at_call 15; have _t := tokD; refine (queue_Len _ b ch _ hq5).mono ?_; simp only [List.length_cons, List.length_nil]; rintro e w4 ⟨rfl, rfl⟩; clear _t)
          | (go_at_call 12; have _t := tokD; refine (queue_Want _ b ch _ hq5).mono ?_; simp only [Qu.want]; rintro e w6 ⟨rfl, hq6, hm6⟩; clear tokD _t; have tokE : True := trivial
             have C2 := hm6.at C1 (not_two (by omega) (by omega)))
          | (go_at_call 13; have _t := tokE; go_must (refine (queue_Push _ b ch _ ⟨3, 9, false, ⟨#[]⟩⟩ hq6).mono ?_; rw [push_unfed q.room _ 3 9 ⟨#[]⟩ (by decide)]); rintro e w7 ⟨rfl, hq7, hm7⟩; clear tokE _t; have tokF : True := trivial
             have C3 := hm7.at C2 (not_two (by omega) (by omega))
             have C := fun i => blk_cell C3 i)
          | (go_at_call 15; have _t := tokF; refine (queue_Len _ b ch _ hq7).mono ?_; simp only [List.length_cons, List.length_nil]; rintro e w4 ⟨rfl, rfl⟩; clear _t)
          | (go_at_call 16; have _t := tokF; refine (queue_Needs _ b ch _ hq7).mono ?_; simp only [Bool.not_true]; rintro e w4 ⟨rfl, rfl⟩; clear _t))
        go_ret
        have k : ∀ x, x ∈ [b, ch] → x ∈ ([] : List Nat) ∨ w.heap.size ≤ x := by simp; omega
        exact ⟨rfl, (((((Mods.of_below HB.out).then hm3 k).then hm4 (by simp; omega)).alloc _).then hm5 k |>.then hm6 k |>.then hm7 k).below⟩

theorem queueWhole_walk {H : Type} {enc : TypeId × Value → H} (w : World) {base b0 base1 b1 : Nat} {spare spare1 : Nat → Bool} {held held1 : Bool} {v v1 : Value} {d d1 : DataW H} {p p1 : List MemPlace}
    (h : DataW.Trod enc Try.prog w base spare held 3 v d p) (o : Value.okWide Try.prog w .any b0 3 v)
    (h1 : DataW.Trod enc Try.prog w base1 spare1 held1 22 v1 d1 p1) (o1 : Value.okWide Try.prog w .any b1 22 v1) :
    Calls Try.prog 4 #[v, v1] w fun e w' => e = .returned (.bool true) ∧ Below w.heap.size w w' := by
  obtain ⟨room, rfl, rfl, rfl, wr⟩ := open_int Try.underlying3 o h
  obtain ⟨A, m, cp, ops, rfl, hcap, hops, hk⟩ := arg_ops h1 o1
  exact qwhole_core w room A m cp ops hops hcap
end Go.Proofs.Ytfdpfhjdjhoenaa
