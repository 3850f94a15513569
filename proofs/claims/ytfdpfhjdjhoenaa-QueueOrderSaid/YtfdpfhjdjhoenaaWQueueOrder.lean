/- The walk of the law QueueOrder. -/
import Derived.Test.YtfdpfhjdjhoenaaQLaw
namespace Go.Proofs.Ytfdpfhjdjhoenaa
open Go.RowKit Go.Conc Go.ChangeShapes Go.WideShapes
set_option linter.unusedVariables false
set_option linter.unusedSimpArgs false

/-! ### the law's steps, as data -/
structure QOp where
  kind : Int
  gen : Int
  seq : Int
  key : Bool
  far : Bool
def QOp.zero : QOp := ⟨0, 0, 0, false, false⟩
theorem list5 {α : Type} {l : List α} (h : l.length = 5) : ∃ a b c d e, l = [a, b, c, d, e] := by
  match l, h with
  | [a, b, c, d, e], _ => exact ⟨a, b, c, d, e, rfl⟩
theorem read_qop {H : Type} {enc : TypeId × Value → H} {w : World} {base : Nat} {spare : Nat → Bool} {held : Bool} {fuel : Nat} {cs : List Value} {x : DataW H × List MemPlace}
    (h : DataW.trod enc Try.prog w base spare held fuel 27 cs = some x) :
    ∃ o : QOp, cs = [.int .i64 o.kind, .int .i64 o.gen, .int .i64 o.seq, .bool o.key, .bool o.far] ∧ (Lit.int .i64 o.kind).wf = true ∧ (Lit.int .i64 o.gen).wf = true ∧ (Lit.int .i64 o.seq).wf = true := by
  obtain ⟨hl, n, hf⟩ := trod_fields Try.underlying27 h
  have hc : Try.prog.cellsOf 27 = 5 := by kernel_rfl
  have hi : Try.prog.cellsOf 3 = 1 := by kernel_rfl
  have hb : Try.prog.cellsOf 4 = 1 := by kernel_rfl
  obtain ⟨a, b, c, d, e, rfl⟩ := list5 (hl.trans hc)
  obtain ⟨_, h0⟩ := hf 0 _ rfl
  obtain ⟨_, h1⟩ := hf 1 _ rfl
  obtain ⟨_, h2⟩ := hf 2 _ rfl
  obtain ⟨_, h3⟩ := hf 3 _ rfl
  obtain ⟨_, h4⟩ := hf 4 _ rfl
  obtain ⟨n0, e0, w0⟩ := trod_i Try.underlying3 h0
  obtain ⟨n1, e1, w1⟩ := trod_i Try.underlying3 h1
  obtain ⟨n2, e2, w2⟩ := trod_i Try.underlying3 h2
  obtain ⟨n3, e3⟩ := trod_b Try.underlying4 h3
  obtain ⟨n4, e4⟩ := trod_b Try.underlying4 h4
  simp [hi, hb] at e0 e1 e2 e3 e4
  exact ⟨⟨n0, n1, n2, n3, n4⟩, by simp [e0, e1, e2, e3, e4], w0, w1, w2⟩

def QOp.cells (o : QOp) : List Value := [.int .i64 o.kind, .int .i64 o.gen, .int .i64 o.seq, .bool o.key, .bool o.far]
theorem arg_ops {H : Type} {enc : TypeId × Value → H} {w : World} {base b0 : Nat} {spare : Nat → Bool} {held : Bool} {v : Value} {d : DataW H} {p : List MemPlace}
    (h : DataW.Trod enc Try.prog w base spare held 22 v d p) (o : Value.okWide Try.prog w .any b0 22 v) :
    ∃ A n c ops, v = .slice A n c ∧ n ≤ c ∧ ReadsRows w A n 5 QOp.cells ops ∧ ∀ x ∈ ops, (Lit.int .i64 x.kind).wf = true :=
  arg_rows Try.underlying22 (by kernel_rfl) QOp.cells _ (fun _ _ _ h => by obtain ⟨o, h1, h2, _⟩ := read_qop h; exact ⟨o, h1, h2⟩) h o

/-! ### what holds at every step -/
structure QInv (q : Qu) (n last : Int) : Prop where
  n0 : 0 ≤ n
  l0 : -1 ≤ last
  ln : last < n
  fed : q.fed = true → (∀ (i : Nat) f, q.l[i]? = some f → f.gen = 0 ∧ f.seq = n - q.l.length + i) ∧ last < n - q.l.length ∧ (q.l = [] → last = n - 1) ∧ (∀ f, q.l.head? = some f → f.key = true ∨ f.seq = last + 1)
  unfed : q.fed = false → q.l = []

theorem QInv.pop_cons {room : Nat} {f : Fr} {t : List Fr} {fed : Bool} {d n last : Int} (h : QInv ⟨room, f :: t, fed, d⟩ n last) :
    QInv ⟨room, t, fed, d⟩ n f.seq ∧ last < f.seq ∧ f.seq < n ∧ (f.key = true ∨ f.seq = last + 1) := by
  obtain ⟨n0, l0, ln, hf, hu⟩ := h
  cases fed with
  | false => simp at hu
  | true =>
    obtain ⟨ha, hb, _, hd⟩ := hf rfl
    have h0 := ha 0 f rfl
    simp at h0 hb hd
    have hs : f.seq = n - (t.length + 1) := h0.2
    refine ⟨⟨n0, by omega, by omega, fun _ => ⟨fun i g hg => ?_, by simp; omega, ?_, ?_⟩, by simp⟩, by omega, by omega, hd⟩
    · have := ha (i + 1) g (by simpa using hg)
      simp at this ⊢
      exact ⟨this.1, by omega⟩
    · intro ht; simp at ht; subst ht; simp at hs; omega
    · intro g hg
      right
      cases t with
      | nil => simp at hg
      | cons g' t' =>
        simp at hg; subst hg
        have := ha 1 g' rfl
        simp at this hs ⊢
        omega
theorem QInv.want {q : Qu} {n last : Int} (h : QInv q n last) : QInv q.want n last := ⟨h.n0, h.l0, h.ln, by simp [Qu.want], by simp [Qu.want]⟩
theorem QInv.push {q : Qu} {n last : Int} (h : QInv q n last) (key : Bool) (body : ByteArray) (hn : n ≤ 60) : QInv (q.push ⟨0, n, key, body⟩).1 (n + 1) last := by
  obtain ⟨n0, l0, ln, hf, hu⟩ := h
  have hm : Fr.may ⟨0, n, key, body⟩ = true := by simp [Fr.may, mn, mx]; split <;> split <;> omega
  unfold Qu.push
  rw [hm]
  cases key with
  | true =>
    simp
    exact ⟨by omega, l0, by omega, fun _ => ⟨fun i g hg => by cases i <;> simp at hg ⊢; subst hg; simp, by simp; omega, by simp, by simp⟩, by simp⟩
  | false =>
    by_cases hc : q.fed = true ∧ q.l.length < q.room
    · obtain ⟨hfe, hlt⟩ := hc
      obtain ⟨ha, hb, hc, hd⟩ := hf hfe
      simp [hfe, hlt]
      refine ⟨by omega, l0, by omega, fun _ => ⟨fun i g hg => ?_, by simp; omega, by simp, ?_⟩, by simp [hfe]⟩
      · by_cases hi : i < q.l.length
        · have := ha i g (by simpa [List.getElem?_append_left hi] using hg)
          simp; exact ⟨this.1, by omega⟩
        · have hi' : i = q.l.length := by
            have := (List.getElem?_eq_some_iff.1 hg).1
            simp at this; omega
          subst hi'
          simp at hg; subst hg; simp; omega
      · intro g hg
        cases hl : q.l with
        | nil => rw [hl] at hg; simp at hg; subst hg; right; have := hc hl; simp; omega
        | cons g' t' => rw [hl] at hg; simp at hg; subst hg; exact hd _ (by rw [hl]; rfl)
    · have : (q.fed && decide (q.l.length < q.room)) = false := by
        cases hfe : q.fed <;> simp [hfe] at hc ⊢; omega
      simp [this]
      exact ⟨by omega, l0, by omega, by simp [Qu.want, Qu.drop1], by simp [Qu.want, Qu.drop1]⟩

def OrdRel (w : World) (b ch : Nat) (len : Nat) (k : Nat) (n7 l8 i9 : Value) (wr : World) : Prop :=
  ∃ (i : Nat) (n last : Int) (q : Qu), n7 = .int .i64 n ∧ l8 = .int .i64 last ∧ i9 = .int .i64 i ∧ i ≤ len ∧ i ≤ 60 ∧ n ≤ i ∧ QAt wr b ch q ∧ QInv q n last ∧ Below w.heap.size w wr ∧ k + i = 60

set_option maxHeartbeats 4000000 in
theorem qorder_core (w : World) (room : Int) (A : Option Addr) (m cp : Nat) (ops : List QOp) (hops : ReadsRows w A m 5 QOp.cells ops) (hcap : m ≤ cp) (hkind : ∀ x ∈ ops, (Lit.int .i64 x.kind).wf = true) :
    Calls Try.prog 3 #[.int .i64 room, .slice A m cp] w fun e w' => e = .returned (.bool true) ∧ Below w.heap.size w w' := by
  have hn := hops.2.1
  unfold maxLen at hn
  have HO := Lib.hid hops
  clear hops
  go_enter Try.func3, Try.ntmps3
  go_wp2_with (first
    | (go_at_call 9; refine (awake_true _).mono ?_; rintro e w1 ⟨rfl, hm1⟩)
    | (go_at_call 10; go_must (refine (queue_New room _).mono ?_); rintro e w2 ⟨b, ch, rfl, hq2, hm2, hb2, hc2⟩))
  have hB := (hm1.trans hm2).below
  have hs := hm1.size
  go_loopg [7, 8, 9] 60 (OrdRel w b ch m)
  case atStart => exact ⟨0, 0, -1, _, rfl, rfl, rfl, by omega, by omega, by omega, hq2, ⟨by omega, by omega, by omega, by simp [Qu.new], by simp [Qu.new]⟩, hB, by omega⟩
  case round =>
    clear hq2 hm2 hm1 hB
    obtain ⟨i, n, last, q, rfl, rfl, rfl, hi, hi6, hni, hq, hI, hB, hk⟩ := hrel
    have hn0 := hI.n0
    have hl0 := hI.l0
    have hln := hI.ln
    have HI := Lib.hid hI
    have HK := Lib.hid hk
    have HB := Lib.hid hB
    clear hI hk hB
    by_cases hend : i < m ∧ i < 60
    · obtain ⟨hlt, hlt6⟩ := hend
      obtain ⟨o, ho⟩ : ∃ o, ops[i]? = some o := ⟨_, List.getElem?_eq_getElem (by rw [HO.out.1]; exact hlt)⟩
      obtain ⟨a, rfl, c0, hc⟩ := ((HO.out.keeps (fun _ => rfl) HB.out).row ho)
      have c1 := hc 0 (by omega)
      have c2 := hc 1 (by omega)
      have c3 := hc 2 (by omega)
      have c4 := hc 3 (by omega)
      simp only [QOp.cells] at c0 c1 c2 c3 c4
      clear hc
      have HO' := Lib.hid ho
      clear ho
      obtain ⟨room', l, fed, dropped⟩ := q
      cases l with
      | nil =>
        go_wp2_with (first
          | (go_at_call 11; refine (queue_Pop _ b ch _ (hq.keeps ((Mods.refl [] wr).alloc _) (by simp) (by simp))).mono ?_; simp only [Qu.top, List.headD_nil, List.isEmpty_nil, Bool.not_true, Fr.val, Fr.zero]; rintro e w3 ⟨rfl, hq3, hm3⟩)
          | (go_at_call 12; refine (queue_Want _ b ch _ (hq.keeps ((Mods.refl [] wr).alloc _) (by simp) (by simp))).mono ?_; rintro e w3 ⟨rfl, hq3, hm3⟩)
          | (go_at_call 13; refine (queue_Push _ b ch _ ⟨0, n, o.key, ⟨#[]⟩⟩ (hq.keeps ((Mods.refl [] wr).alloc _) (by simp) (by simp))).mono ?_; rintro e w3 ⟨rfl, hq3, hm3⟩))
        all_goals
          have HM := Mods.of_below (HB.out.alloc HB.out.size (Obj.cells #[Value.int .i64 o.kind, Value.int .i64 o.gen, Value.int .i64 o.seq, Value.bool o.key, Value.bool o.far] 27))
          have QI := HI.out
          have hk := HK.out
          go_roundg (gk - 1)
          case measure => omega
          case rel => first
            | exact ⟨i + 1, n, last, _, rfl, rfl, by go_num, by omega, by omega, by omega, hq3.keeps ((Mods.refl [] _).alloc _) (by simp) (by simp), QI, ((HM.then hm3 (by simp; omega)).alloc _).below, by omega⟩
            | exact ⟨i + 1, n, last, _, rfl, rfl, by go_num, by omega, by omega, by omega, hq3, QI.want, (HM.then hm3 (by simp; omega)).below, by omega⟩
            | exact ⟨i + 1, n + 1, last, _, rfl, rfl, by go_num, by omega, by omega, by omega, hq3, QI.push _ _ (by omega), (HM.then hm3 (by simp; omega)).below, by omega⟩
      | cons f t =>
        obtain ⟨QP, hf1, hf2, hf3⟩ := HI.out.pop_cons
        have HQP := Lib.hid QP
        clear QP
        obtain ⟨fg, fs, fk, fb⟩ := f
        simp only at hf1 hf2 hf3
        cases fk with
        | true =>
          clear hf3
          go_wp2_with (first
            | (go_at_call 11; refine (queue_Pop _ b ch _ (hq.keeps ((Mods.refl [] wr).alloc _) (by simp) (by simp))).mono ?_; simp only [Qu.top, List.headD_cons, List.isEmpty_cons, Bool.not_false, Fr.val]; rintro e w3 ⟨rfl, hq3, hm3⟩)
            | (go_at_call 12; refine (queue_Want _ b ch _ (hq.keeps ((Mods.refl [] wr).alloc _) (by simp) (by simp))).mono ?_; rintro e w3 ⟨rfl, hq3, hm3⟩)
            | (go_at_call 13; refine (queue_Push _ b ch _ ⟨0, n, o.key, ⟨#[]⟩⟩ (hq.keeps ((Mods.refl [] wr).alloc _) (by simp) (by simp))).mono ?_; rintro e w3 ⟨rfl, hq3, hm3⟩))
          all_goals
            have HM := Mods.of_below (HB.out.alloc HB.out.size (Obj.cells #[Value.int .i64 o.kind, Value.int .i64 o.gen, Value.int .i64 o.seq, Value.bool o.key, Value.bool o.far] 27))
            have QI := HI.out
            have hk := HK.out
            go_roundg (gk - 1)
            case measure => omega
            case rel => first
              | exact ⟨i + 1, n, fs, _, rfl, rfl, by go_num, by omega, by omega, by omega, hq3.keeps ((Mods.refl [] _).alloc _) (by simp) (by simp), HQP.out, ((HM.then hm3 (by simp; omega)).alloc _).below, by omega⟩
              | exact ⟨i + 1, n, last, _, rfl, rfl, by go_num, by omega, by omega, by omega, hq3, QI.want, (HM.then hm3 (by simp; omega)).below, by omega⟩
              | exact ⟨i + 1, n + 1, last, _, rfl, rfl, by go_num, by omega, by omega, by omega, hq3, QI.push _ _ (by omega), (HM.then hm3 (by simp; omega)).below, by omega⟩
        | false =>
          obtain rfl : fs = last + 1 := by simpa using hf3
          clear hf3
          go_wp2_with (first
            | (go_at_call 11; refine (queue_Pop _ b ch _ (hq.keeps ((Mods.refl [] wr).alloc _) (by simp) (by simp))).mono ?_; simp only [Qu.top, List.headD_cons, List.isEmpty_cons, Bool.not_false, Fr.val]; rintro e w3 ⟨rfl, hq3, hm3⟩)
            | (go_at_call 12; refine (queue_Want _ b ch _ (hq.keeps ((Mods.refl [] wr).alloc _) (by simp) (by simp))).mono ?_; rintro e w3 ⟨rfl, hq3, hm3⟩)
            | (go_at_call 13; refine (queue_Push _ b ch _ ⟨0, n, o.key, ⟨#[]⟩⟩ (hq.keeps ((Mods.refl [] wr).alloc _) (by simp) (by simp))).mono ?_; rintro e w3 ⟨rfl, hq3, hm3⟩))
          all_goals
            have HM := Mods.of_below (HB.out.alloc HB.out.size (Obj.cells #[Value.int .i64 o.kind, Value.int .i64 o.gen, Value.int .i64 o.seq, Value.bool o.key, Value.bool o.far] 27))
            have QI := HI.out
            have hk := HK.out
            go_roundg (gk - 1)
            case measure => omega
            case rel => first
              | exact ⟨i + 1, n, last + 1, _, rfl, rfl, by go_num, by omega, by omega, by omega, hq3.keeps ((Mods.refl [] _).alloc _) (by simp) (by simp), HQP.out, ((HM.then hm3 (by simp; omega)).alloc _).below, by omega⟩
              | exact ⟨i + 1, n, last, _, rfl, rfl, by go_num, by omega, by omega, by omega, hq3, QI.want, (HM.then hm3 (by simp; omega)).below, by omega⟩
              | exact ⟨i + 1, n + 1, last, _, rfl, rfl, by go_num, by omega, by omega, by omega, hq3, QI.push _ _ (by omega), (HM.then hm3 (by simp; omega)).below, by omega⟩
    · have hor : ¬ i < m ∨ (i < m ∧ ¬ i < 60) := by omega
      clear hend hq
      rcases hor with h1 | ⟨h1, h2⟩
      all_goals
        go_wp2
        go_ret
        exact ⟨rfl, HB.out⟩

theorem queueOrder_walk {H : Type} {enc : TypeId × Value → H} (w : World) {base b0 base1 b1 : Nat} {spare spare1 : Nat → Bool} {held held1 : Bool} {v v1 : Value} {d d1 : DataW H} {p p1 : List MemPlace}
    (h : DataW.Trod enc Try.prog w base spare held 3 v d p) (o : Value.okWide Try.prog w .any b0 3 v)
    (h1 : DataW.Trod enc Try.prog w base1 spare1 held1 22 v1 d1 p1) (o1 : Value.okWide Try.prog w .any b1 22 v1) :
    Calls Try.prog 3 #[v, v1] w fun e w' => e = .returned (.bool true) ∧ Below w.heap.size w w' := by
  obtain ⟨room, rfl, rfl, rfl, wr⟩ := open_int Try.underlying3 o h
  obtain ⟨A, m, cp, ops, rfl, hcap, hops, hk⟩ := arg_ops h1 o1
  exact qorder_core w room A m cp ops hops hcap hk
end Go.Proofs.Ytfdpfhjdjhoenaa
