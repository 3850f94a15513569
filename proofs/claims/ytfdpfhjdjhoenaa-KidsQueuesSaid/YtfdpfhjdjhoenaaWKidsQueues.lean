/- The walk of the law KidsQueues. -/
import Derived.Test.YtfdpfhjdjhoenaaKids
import Derived.Test.YtfdpfhjdjhoenaaLawBase
namespace Go.Proofs.Ytfdpfhjdjhoenaa
open Go.RowKit Go.Conc Go.ChangeShapes Go.WideShapes
attribute [local go_sem] i64_and15
set_option linter.unusedVariables false
set_option linter.unusedSimpArgs false

set_option maxHeartbeats 1000000 in
theorem kawake_true (w : World) : Calls Try.prog 18 #[] w fun e w' => e = .returned (.bool true) ∧ Mods [] w w' := by
  go_enter Try.func18, Try.ntmps18
  have tokA : True := trivial
  go_wp2_with (first
    | (go_at_call 19; go_must (refine (kids_New _ 1 2).mono ?_); rintro e w1 ⟨k, m, rfl, hk1, hm1, hb1, hb2⟩)
    | (go_at_call 20; have _t := tokA; go_must (refine (kids_Add_new _ k m (kroom 1) 2 (-1) 3 [] hk1 rfl (by omega) (by omega) (by decide)).mono ?_); rintro e w2 ⟨x, rfl, hx1, hx2, hx3, hx4, hk2, hm2⟩; clear tokA _t; have tokB : True := trivial; have hx1' := Lib.hid hx1; clear hx1 hx2 hx3)
    | (go_at_call 20; have _t := tokB; go_must (refine (kids_Add_not _ k m (kroom 1) 2 (-1) 4 ([] ++ [x]) hk2 (by simp [find, hx1'.out]) (by right; right; simp [kroom, mn, mx])).mono ?_); rintro e w3 ⟨rfl, hm3⟩; clear tokB _t; have tokC : True := trivial; have hk3 := hk2.keeps hm3 (by simp))
    | (go_at_call 20; have _t := tokC; go_must (refine (kids_Add_there _ k m (kroom 1) 2 (-1) 3 ([] ++ [x]) hk3 x (by simp [find, hx1'.out])).mono ?_); rintro e w4 ⟨rfl, hk4, hm4⟩; clear tokC _t)
    | (go_at_call 27; go_must (refine (kids_Has _ k m (kroom 1) 2 (-1) 3 _ hk4).mono ?_; rw [show (find (hearL ([] ++ [x]) 3) 3).isSome = true by simp [find, hearL, hx1'.out]]); rintro e w5 ⟨rfl, rfl⟩)
    | (go_at_call 26; go_must (refine (kids_Full _ k m (kroom 1) 2 (-1) _ hk4).mono ?_; rw [show decide (kroom 1 ≤ ((hearL ([] ++ [x]) 3).length : Int)) = true by simp [hearL, kroom, mn, mx]]); rintro e w6 ⟨rfl, hm6⟩))
  go_ret
  refine ⟨rfl, ?_⟩
  have hs := hm1.size
  exact (((hm1.then hm2 (by simp; omega)).trans hm3).then hm4 (by have := hx4 x.kb (by simp [Kid.blocks]); simp; omega)).trans hm6

theorem find_1 (X Y : Kid) : find [X, Y] X.id = some X := by simp [find]
theorem find_2 (X Y : Kid) (h : X.id ≠ Y.id) : find [X, Y] Y.id = some Y := by simp [find, h]
theorem rem14 (b : Int) : -14 < b.tmod 14 ∧ b.tmod 14 < 14 := ⟨Int.lt_tmod_of_pos b (by omega), Int.tmod_lt_of_pos b (by omega)⟩
def fr0 : Fr := ⟨0, 0, true, ⟨#[]⟩⟩
theorem push_len (frames : Int) : ((Qu.new frames).push fr0).1.l.length = 1 := by simp [Qu.push, fr0, Fr.may, mn, mx]

set_option maxHeartbeats 2000000 in
theorem kidsQueues_core (w : World) (frames a b : Int) : Calls Try.prog 6 #[.int .i64 frames, .int .i64 a, .int .i64 b] w fun e w' => e = .returned (.bool true) ∧ Below w.heap.size w w' := by
  have a0 : 0 ≤ a % 16 := by omega
  have a1 : a % 16 < 16 := by omega
  obtain ⟨b0, b1⟩ := rem14 b
  go_enter Try.func6, Try.ntmps6
  go_wp2_with (first
    | (go_at_call 18; refine (kawake_true _).mono ?_; rintro e w1 ⟨rfl, hm1⟩)
    | (go_at_call 19; go_must (refine (kids_New _ 15 frames).mono ?_); rintro e w2 ⟨k, m, rfl, hk2, hm2, hz1, hz2⟩))
  have y0 : 0 ≤ (a % 16 + 1 + b.tmod 14 % 14) % 16 := by omega
  have y1 : (a % 16 + 1 + b.tmod 14 % 14) % 16 ≤ 15 := by omega
  have hne : a % 16 ≠ (a % 16 + 1 + b.tmod 14 % 14) % 16 := by omega
  generalize (a % 16 + 1 + b.tmod 14 % 14) % 16 = y at *
  have x1 : a % 16 ≤ 15 := by omega
  generalize b.tmod 14 % 14 = bb at *
  generalize b.tmod 14 = bb' at *
  generalize a % 16 = x at *
  clear b0 b1 a1
  have HNE := Lib.hid hne
  clear hne
  have hs1 := hm1.size
  have hs2 := hm2.size
  have hR : kroom 15 = 15 := by simp [kroom, mn, mx]
  rw [hR] at hk2
  have HQ1 := Lib.hid (push_len frames)
  obtain ⟨Q1, hQ1⟩ : ∃ Q, Q = ((Qu.new frames).push fr0).1 := ⟨_, rfl⟩
  rw [← hQ1] at HQ1
  have tokA : True := trivial
  go_wp2_with (first
    | (go_at_call 20; have _t := tokA; go_must (refine (kids_Add_new _ k m 15 frames (-1) x [] hk2 rfl (by omega) (by omega) (by simp)).mono ?_); rintro e w3 ⟨⟨id1, s1, q1, kb1, qb1, qc1, bn1⟩, rfl, rfl, rfl, rfl, hx4, hk3, hm3⟩; clear tokA _t; have tokB : True := trivial)
    | (go_at_call 20; have _t := tokB; go_must (refine (kids_Add_new _ k m 15 frames (-1) y _ hk3 (by simp [find, HNE.out]) (by omega) (by omega) (by simp)).mono ?_); rintro e w4 ⟨⟨id2, s2, q2, kb2, qb2, qc2, bn2⟩, rfl, rfl, rfl, rfl, hy4, hk4, hm4⟩; clear tokB _t; have tokC : True := trivial; simp only [List.nil_append, List.cons_append] at hk4
       have F1 := Lib.hid (find_1 ⟨id1, 0, Qu.new frames, kb1, qb1, qc1, bn1⟩ ⟨id2, 0, Qu.new frames, kb2, qb2, qc2, bn2⟩)
       have F2 := Lib.hid (find_2 ⟨id1, 0, Qu.new frames, kb1, qb1, qc1, bn1⟩ ⟨id2, 0, Qu.new frames, kb2, qb2, qc2, bn2⟩ HNE.out)
       have A1 := (hk4.kid _ (find_mem F1.out).1).q
       have A2 := (hk4.kid _ (find_mem F2.out).1).q
       have hk := hk4)
    | (go_at_call 21; (with_reducible refine (kids_Queue _ k m 15 frames (-1) id1 _ hk).mono ?_); rw [F1.out]; simp only [Option.map_some]; rintro e wq ⟨rfl, rfl⟩)
    | (go_at_call 21; (with_reducible refine (kids_Queue _ k m 15 frames (-1) id2 _ hk).mono ?_); rw [F2.out]; simp only [Option.map_some]; rintro e wq ⟨rfl, rfl⟩)
    | (go_at_call 21; (with_reducible refine (kids_Queue _ k m 15 frames (-1) id1 _ hk).mono ?_); rw [N1.out]; simp only [Option.map_none]; rintro e wq ⟨rfl, rfl⟩)
    | (go_at_call 13; have _t := tokC; go_must (refine (queue_Push _ qb1 qc1 (Qu.new frames) fr0 A1).mono ?_); rintro e w5 ⟨rfl, hq5, hm5⟩; clear tokC _t; have tokD : True := trivial
       have hk5 := hk.setQ F1.out hm5 hq5
       rw [← hQ1] at hk5
       have e5 : setQ [⟨id1, 0, Qu.new frames, kb1, qb1, qc1, bn1⟩, ⟨id2, 0, Qu.new frames, kb2, qb2, qc2, bn2⟩] id1 Q1 = [⟨id1, 0, Q1, kb1, qb1, qc1, bn1⟩, ⟨id2, 0, Qu.new frames, kb2, qb2, qc2, bn2⟩] := by have := HNE.out; simp [setQ]; exact fun e => absurd e.symm this
       rw [e5] at hk5
       clear hk F1 F2 A1 A2 e5
       have F1 := Lib.hid (find_1 ⟨id1, 0, Q1, kb1, qb1, qc1, bn1⟩ ⟨id2, 0, Qu.new frames, kb2, qb2, qc2, bn2⟩)
       have F2 := Lib.hid (find_2 ⟨id1, 0, Q1, kb1, qb1, qc1, bn1⟩ ⟨id2, 0, Qu.new frames, kb2, qb2, qc2, bn2⟩ HNE.out)
       have A1 := (hk5.kid _ (find_mem F1.out).1).q
       have A2 := (hk5.kid _ (find_mem F2.out).1).q
       have hk := hk5)
    | (go_at_call 15; (with_reducible refine (queue_Len _ qb1 qc1 Q1 A1).mono ?_); rw [HQ1.out]; rintro e wq ⟨rfl, rfl⟩)
    | (go_at_call 15; (with_reducible refine (queue_Len _ _ _ (Qu.new frames) A2).mono ?_); simp only [Qu.new, List.length_nil]; rintro e wq ⟨rfl, rfl⟩)
    | (go_at_call 20; have _t := tokD; go_must (refine (kids_Add_there _ k m 15 frames (-1) id1 _ hk _ F1.out).mono ?_); rintro e w6 ⟨rfl, hk6, hm6⟩; clear tokD _t; have tokE : True := trivial
       have e6 : hearL [⟨id1, 0, Q1, kb1, qb1, qc1, bn1⟩, ⟨id2, 0, Qu.new frames, kb2, qb2, qc2, bn2⟩] id1 = [⟨id1, 0, Q1, kb1, qb1, qc1, bn1⟩, ⟨id2, 0, Qu.new frames, kb2, qb2, qc2, bn2⟩] := by have := HNE.out; simp [hearL]
       rw [e6] at hk6
       clear hk A1 A2 e6
       have A1 := (hk6.kid _ (find_mem F1.out).1).q
       have A2 := (hk6.kid _ (find_mem F2.out).1).q
       have hk := hk6)
    | (go_at_call 22; have _t := tokE; go_must (refine (kids_Drop _ k m 15 frames (-1) id1 _ hk).mono ?_; rw [F1.out]; simp only [Option.isSome_some]); rintro e w7 ⟨rfl, hk7, hm7⟩; clear tokE _t; have tokF : True := trivial
       go_must (have e7 : dropK [⟨id1, 0, Q1, kb1, qb1, qc1, bn1⟩, ⟨id2, 0, Qu.new frames, kb2, qb2, qc2, bn2⟩] id1 = [⟨id2, 0, Qu.new frames, kb2, qb2, qc2, bn2⟩] := by simp [dropK])
       rw [e7] at hk7
       clear hk A1 A2 e7 F1 F2
       go_must (have N1 := Lib.hid (show find [⟨id2, 0, Qu.new frames, kb2, qb2, qc2, bn2⟩] id1 = none from by have := HNE.out; simp [find]; exact fun e => this e.symm))
       have hk := hk7)
    | (go_at_call 20; have _t := tokF; go_must (refine (kids_Add_new _ k m 15 frames (-1) id1 _ hk N1.out (by omega) (by omega) (by simp)).mono ?_); rintro e w8 ⟨⟨id3, s3, q3, kb3, qb3, qc3, bn3⟩, rfl, e8, rfl, rfl, hx8, hk8, hm8⟩; clear tokF _t; have tokG : True := trivial
       simp only at e8
       rw [e8] at hk8
       clear e8
       simp only [List.nil_append, List.cons_append] at hk8
       clear hk N1
       have F1 := Lib.hid (find_2 ⟨id2, 0, Qu.new frames, kb2, qb2, qc2, bn2⟩ ⟨id1, 0, Qu.new frames, kb3, qb3, qc3, bn3⟩ (fun e => HNE.out e.symm))
       have F2 := Lib.hid (find_1 ⟨id2, 0, Qu.new frames, kb2, qb2, qc2, bn2⟩ ⟨id1, 0, Qu.new frames, kb3, qb3, qc3, bn3⟩)
       have A2 := (hk8.kid _ (find_mem F1.out).1).q
       have A3 := (hk8.kid _ (find_mem F2.out).1).q
       have hk := hk8)
    | (go_at_call 16; (with_reducible refine (queue_Needs _ _ _ (Qu.new frames) A2).mono ?_); simp only [Qu.new, Bool.not_false]; rintro e wq ⟨rfl, rfl⟩)
    | (go_at_call 16; (with_reducible refine (queue_Needs _ _ _ (Qu.new frames) A3).mono ?_); simp only [Qu.new, Bool.not_false]; rintro e wq ⟨rfl, rfl⟩))
  go_ret
  refine ⟨rfl, Mods.below ?_⟩
  have k1 : ∀ x, x ∈ [m] → x ∈ ([] : List Nat) ∨ w.heap.size ≤ x := by simp; omega
  have g1 := hx4 qb1 (by simp [Kid.blocks])
  have g2 := hx4 qc1 (by simp [Kid.blocks])
  have g3 := hx4 kb1 (by simp [Kid.blocks])
  exact ((((((hm1.trans hm2).then hm3 k1).then hm4 k1).then hm5 (by simp; omega)).then hm6 (by simp; omega)).then hm7 k1).then hm8 k1

theorem kidsQueues_walk {H : Type} {enc : TypeId × Value → H} (w : World) {base b0 base1 b1 base2 b2 : Nat} {spare spare1 spare2 : Nat → Bool} {held held1 held2 : Bool} {v v1 v2 : Value} {d d1 d2 : DataW H} {p p1 p2 : List MemPlace}
    (h : DataW.Trod enc Try.prog w base spare held 3 v d p) (o : Value.okWide Try.prog w .any b0 3 v)
    (h1 : DataW.Trod enc Try.prog w base1 spare1 held1 3 v1 d1 p1) (o1 : Value.okWide Try.prog w .any b1 3 v1)
    (h2 : DataW.Trod enc Try.prog w base2 spare2 held2 3 v2 d2 p2) (o2 : Value.okWide Try.prog w .any b2 3 v2) :
    Calls Try.prog 6 #[v, v1, v2] w fun e w' => e = .returned (.bool true) ∧ Below w.heap.size w w' := by
  obtain ⟨x, rfl, rfl, rfl, _⟩ := open_int Try.underlying3 o h
  obtain ⟨x1, rfl, rfl, rfl, _⟩ := open_int Try.underlying3 o1 h1
  obtain ⟨x2, rfl, rfl, rfl, _⟩ := open_int Try.underlying3 o2 h2
  exact kidsQueues_core w x x1 x2
end Go.Proofs.Ytfdpfhjdjhoenaa
