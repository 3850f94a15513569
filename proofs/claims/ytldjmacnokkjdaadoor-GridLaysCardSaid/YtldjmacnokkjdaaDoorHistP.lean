/- What put of package history does to a ring. -/
import Derived.Test.YtldjmacnokkjdaaDoorHist
import Derived.StillTailTactics
namespace Go.Proofs.YtldjmacnokkjdaaDoor
open Go.RowKit
set_option linter.unusedVariables false
set_option linter.unusedSimpArgs false

theorem own_set {w : World} {base : Nat} {e : TypeId} {n g cap : Nat} {xs : List Value} (h : w.ownsRow base e 1 (.slice (some ⟨g, 0, none⟩) n cap) n xs) (j : Nat) (hj : j < n) (u : Value) :
    (w.setCell ⟨g, j, none⟩ u).ownsRow base e 1 (.slice (some ⟨g, 0, none⟩) n cap) n (xs.set j u) := by
  obtain ⟨h1, h2⟩ := h
  refine ⟨by simpa using h1, ?_⟩
  rcases h2 with ⟨h2, _⟩ | ⟨g', cap', cur, hv, hb, hg, hnc, hcm, hcs, ht⟩
  · simp at h2
  · simp at hv
    obtain ⟨rfl, rfl⟩ := hv
    refine .inr ⟨g, cap, cur.setIfInBounds j u, rfl, hb, blk_set hg j u, hnc, hcm, by simpa using hcs, ?_⟩
    rw [← ht]
    simp only [Array.toList_setIfInBounds, List.take_set]

theorem own_len {w : World} {base : Nat} {e : TypeId} {n : Nat} {v : Value} {xs : List Value} (h : w.ownsRow base e 1 v n xs) : xs.length = n := by simpa using h.1

set_option maxRecDepth 4000 in
set_option maxHeartbeats 2000000 in
theorem ring_put (w : World) (h lo : Nat) (lv : Value) (room first : Nat) (rows : List (List Cell)) (vs : List Value) (A : Option Addr) (cap : Nat) (x : List Cell)
    (hh : HAt w h lo lv room first rows vs) (hx : HRow w (h :: lv.ownBlock.toList) (.slice A x.length cap) x) (hlw : lo ≤ w.heap.size) :
    Calls Tryd.prog 33 #[.pointer (some ⟨h, 0, none⟩), .slice A x.length cap] w fun e w' => e = .returned (.tuple #[]) ∧ (∃ lv' vs', HAt w' h lo lv' room (putF room first rows) (putR room first rows x) vs' ∧ (lv'.ownBlock = lv.ownBlock ∨ ∃ b, lv'.ownBlock = some b ∧ w.heap.size ≤ b)) ∧ Mods (h :: lv.ownBlock.toList) w w' := by
  have C := fun i => blk_cell hh.head i
  have F := fun i => blk_frozen hh.head i
  have hr5 := hh.room5
  have hle := hh.le
  have hhl := heap_lt hh.head
  have HH := Lib.hid hh
  have HX := Lib.hid hx
  by_cases h0 : room = 0
  · subst h0
    clear hh hx
    go_enter Tryd.func33, Tryd.ntmps33
    go_wp2
    exact bodyPost_end (results_none rfl _ _ _) rfl ⟨rfl, ⟨lv, vs, by simpa [putF, putR] using HH.out, .inl rfl⟩, Mods.refl _ _⟩
  · obtain ⟨LA, lc, hlv, hl1, hl2, hl3⟩ := own_slice' hh.own
    have hl2' := hl2
    unfold maxLen at hl2'
    have hfst := hh.fst
    by_cases hlt : rows.length < room
    · have hf0 : first = 0 := by omega
      have hdec : decide ((rows.length : Int) < (room : Int)) = true := by simp; omega
      have HLV := Lib.hid hlv
      have Cd : ∀ n i, (w.drewN n).cell? ⟨h, i, none⟩ = #[Value.int .i64 (room : Int), lv, Value.int .i64 (first : Int)][i]? := fun n i => blk_cell hh.head i
      rw [hlv] at C Cd
      clear hh hx hlv hfst
      go_enter Tryd.func33, Tryd.ntmps33
      go_upto_region 3 with fail
      go_quiet (fail)
      have C1 : (w.drewN nq).cell? ⟨h, 1, none⟩ = some (.slice LA rows.length lc) := Cd nq 1
      clear Cd C
      have HO := HH.out.own
      rw [HLV.out] at HO
      have hne := HH.out.hne
      rw [HLV.out] at hne
      have hhd := HH.out.head
      rw [HLV.out] at hhd
      have HHD := Lib.hid hhd
      clear hhd
      have hww : (w.drewN nq).heap.size = w.heap.size := rfl
      go_wp2_with (at_builtin; go_must (refine append_old (W := w.drewN nq) lo rfl (.tmp 48) (.tmp 50) 63 28 (.slice none 0 0) 1 24 rfl Tryd.underlying63 (by kernel_rfl) rfl (by decide) (by decide) (.slice LA rows.length lc) rows.length vs [.slice A x.length cap] rfl rfl rfl (by simp [Value.oneCell']) HO hlw (by omega) ?_); intro v1 w5 hown5 hM5 hblk5; go_must (obtain ⟨A1, c1, rfl, q1, q2, q3⟩ := own_slice' hown5); go_must (have hhd5 := hM5.at (k := h) HHD.out (by simpa using hne)); go_must (have C5 := fun i => blk_cell hhd5 i); go_must (have F5 := fun i => blk_frozen hhd5 i); have HHD5 := Lib.hid hhd5; clear hhd5)
      have hb5 : ∀ b, (Value.slice A1 (rows.length + 1) c1).ownBlock = some b → b ≠ h := by
        intro b hb
        rcases hblk5 with e | ⟨b', e, hb'⟩
        · rw [e] at hb; exact fun eh => hne (by rw [hb, eh])
        · rw [e] at hb; cases hb; omega
      have hM6 : Mods (h :: (Value.slice LA rows.length lc).ownBlock.toList) w (w5.setCell ⟨h, 1, none⟩ (Value.slice A1 (rows.length + 1) c1)) :=
        (((Mods.refl _ w).drewN nq).trans (hM5.mono (fun b hb => .inl (List.mem_cons_of_mem _ hb)))).setCell _ _ (.inl (by simp))
      have hbad : ∀ b, b < w.heap.size → b ∉ (h :: (Value.slice LA rows.length lc).ownBlock.toList) → b ∉ h :: (Value.slice A1 (rows.length + 1) c1).ownBlock.toList := by
        intro b hb hn hm
        simp only [List.mem_cons, not_or] at hn hm
        rcases hm with hm | hm
        · exact hn.1 hm
        · rcases hblk5 with e | ⟨b', e, hb'⟩
          · rw [e] at hm; exact hn.2 hm
          · rw [e] at hm; simp at hm; omega
      have hrow : ∀ v r, HRow w (h :: lv.ownBlock.toList) v r → HRow (w5.setCell ⟨h, 1, none⟩ (Value.slice A1 (rows.length + 1) c1)) (h :: (Value.slice A1 (rows.length + 1) c1).ownBlock.toList) v r := by
        intro v r hr
        rw [HLV.out] at hr
        obtain ⟨A', c', rfl, q1, q2, q3⟩ := hr.keeps hM6 (fun b _ hb => hb)
        obtain ⟨A2, c2, e2, _, _, q4⟩ := hr
        simp only [Value.slice.injEq] at e2
        obtain ⟨rfl, _, _⟩ := e2
        exact ⟨A', c', rfl, q1, q2, fun a ha => ⟨hbad _ (q4 a ha).2 (q4 a ha).1, (q3 a ha).2⟩⟩
      have hlen := own_len HO
      have hfin : HAt (w5.setCell ⟨h, 1, none⟩ (Value.slice A1 (rows.length + 1) c1)) h lo (Value.slice A1 (rows.length + 1) c1) room (putF room first rows) (putR room first rows x) (vs ++ [.slice A x.length cap]) := by
        have e1 : putF room first rows = first := by simp [putF, h0, hlt]
        have e2 : putR room first rows x = rows ++ [x] := by simp [putR, h0, hlt]
        rw [e1, e2]
        refine ⟨by simpa using blk_set HHD5.out 1 (Value.slice A1 (rows.length + 1) c1), ?_, ?_, HH.out.hlo, fun e => hb5 h e rfl, hr5, by simp; omega, .inl hf0⟩
        · have := own_mods (S := [h]) hown5 ((Mods.refl _ w5).setCell ⟨h, 1, none⟩ (Value.slice A1 (rows.length + 1) c1) (.inl (by simp))) (by intro b hb; simpa using hb5 b hb)
          simpa using this
        · intro j v r hv hr
          by_cases hj : j < rows.length
          · rw [List.getElem?_append_left (by omega)] at hv hr
            exact hrow v r (HH.out.row j v r hv hr)
          · rw [List.getElem?_append_right (by omega)] at hv hr
            have hj0 : j - rows.length = 0 := by
              have := (List.getElem?_eq_some_iff.1 hr).1
              simp at this; omega
            rw [hlen, hj0] at hv
            rw [hj0] at hr
            simp at hv hr
            subst hv hr
            exact hrow _ _ HX.out
      exact bodyPost_end (results_none rfl _ _ _) rfl ⟨rfl, ⟨(Value.slice A1 (rows.length + 1) c1), _, hfin, by rw [HLV.out]; exact hblk5⟩, by rw [HLV.out]; exact hM6⟩
    · have hle2 : rows.length = room := by omega
      obtain ⟨g, hg⟩ := hl3 (by omega)
      subst hg
      have hf : first < room := by omega
      have hdec : decide ((rows.length : Int) < (room : Int)) = false := by simp; omega
      have HLV := Lib.hid hlv
      have hne := hh.hne
      have hro : rows.length * 1 = vs.length := by rw [Nat.mul_one]; exact (own_len hh.own).symm
      have Cd : ∀ n i, (w.drewN n).cell? ⟨h, i, none⟩ = #[Value.int .i64 (room : Int), lv, Value.int .i64 (first : Int)][i]? := fun n i => blk_cell hh.head i
      rw [hlv] at C Cd hne
      obtain ⟨u, hu⟩ : ∃ u, vs[first]? = some u := ⟨_, List.getElem?_eq_getElem (by omega)⟩
      have hown := hh.own
      rw [hlv] at hown
      have G := own_cells hown first hu
      have FG : w.frozen? ⟨g, first, none⟩ = false := by
        obtain ⟨_, h2⟩ := hown
        rcases h2 with ⟨h2, _⟩ | ⟨g', cap', cur, hv, hb, hgg, _⟩
        · simp at h2
        · simp at hv
          obtain ⟨rfl, _⟩ := hv
          exact blk_frozen hgg first
      have HOWN := Lib.hid hown
      have HNE := Lib.hid hne
      clear hh hx hlv hfst hown hne
      go_enter Tryd.func33, Tryd.ntmps33
      go_upto_region 3 with fail
      go_quiet (fail)
      clear hdec
      have hi0 : (0 : Int) ≤ (first : Int) := by omega
      have hi1 : (first : Int) < (rows.length : Int) := by omega
      have C1 : ∀ n, (w.drewN n).cell? ⟨h, 1, none⟩ = some (.slice (some ⟨g, 0, none⟩) rows.length lc) := fun n => Cd n 1
      have C2 : ∀ n, (w.drewN n).cell? ⟨h, 2, none⟩ = some (.int .i64 (first : Int)) := fun n => Cd n 2
      have G1 : ∀ n, (w.drewN n).cell? ⟨g, first, none⟩ = some u := fun _ => G
      have G2 : ∀ n, (w.drewN n).frozen? ⟨g, first, none⟩ = false := fun _ => FG
      clear C Cd G FG F
      go_upto_region 0 with fail
      go_region
      have hgh : h ≠ g := by intro e; exact HNE.out (by simp [e, Value.ownBlock])
      have hM2 : Mods [g] w ((w.drewN (nq + 1)).setCell ⟨g, first, none⟩ (.slice A x.length cap)) := ((Mods.refl _ w).drewN _).setCell _ _ (.inl (by simp))
      have own2 : ((w.drewN (nq + 1)).setCell ⟨g, first, none⟩ (.slice A x.length cap)).ownsRow lo 28 1 (.slice (some ⟨g, 0, none⟩) rows.length lc) rows.length (vs.set first (.slice A x.length cap)) :=
        own_set (w := w.drewN (nq + 1)) HOWN.out first (by omega) _
      have hd2 := hM2.at HH.out.head (by simpa using hgh)
      rw [HLV.out] at hd2
      generalize (w.drewN (nq + 1)).setCell ⟨g, first, none⟩ (.slice A x.length cap) = W2 at *
      have OWN2 := Lib.hid own2
      have HD2 := Lib.hid hd2
      have D0 : ∀ n, (W2.drewN n).cell? ⟨h, 0, none⟩ = some (.int .i64 (room : Int)) := fun _ => blk_cell hd2 0
      have D2 : ∀ n, (W2.drewN n).cell? ⟨h, 2, none⟩ = some (.int .i64 (first : Int)) := fun _ => blk_cell hd2 2
      have E2 : ∀ n, (W2.drewN n).frozen? ⟨h, 2, none⟩ = false := fun _ => blk_frozen hd2 2
      have D0' : W2.drew.cell? ⟨h, 0, none⟩ = some (.int .i64 (room : Int)) := blk_cell hd2 0
      have D2' : W2.drew.cell? ⟨h, 2, none⟩ = some (.int .i64 (first : Int)) := blk_cell hd2 2
      have E2' : W2.drew.frozen? ⟨h, 2, none⟩ = false := blk_frozen hd2 2
      clear own2 hd2 C1 C2 G1 G2
      have e1 : IntKind.i64.wrap ((first : Int) + 1) = (first : Int) + 1 := IntWalk.i64_in _ (by omega)
      have e2 : ((room : Int) == 0) = false := by simp; omega
      go_upto_region 1 with fail
      go_region
      have hM3 : Mods (h :: lv.ownBlock.toList) w (W2.setCell ⟨h, 2, none⟩ (.int .i64 (((first : Int) + 1) % (room : Int)))).drew := by
        rw [HLV.out]
        exact ((hM2.mono (by simp [Value.ownBlock])).setCell _ _ (.inl (by simp))).drew
      have hlen := own_len HOWN.out
      have hfin : HAt (W2.setCell ⟨h, 2, none⟩ (.int .i64 (((first : Int) + 1) % (room : Int)))).drew h lo (.slice (some ⟨g, 0, none⟩) rows.length lc) room (putF room first rows) (putR room first rows x) (vs.set first (.slice A x.length cap)) := by
        have e1 : putF room first rows = (first + 1) % room := by simp [putF, h0, hlt]
        have e2 : putR room first rows x = rows.set first x := by simp [putR, h0, hlt]
        have e3 : (((first + 1) % room : Nat) : Int) = ((first : Int) + 1) % (room : Int) := by simp
        rw [e1, e2]
        refine ⟨?_, ?_, ?_, HH.out.hlo, by simpa [Value.ownBlock] using fun e => hgh e.symm, hr5, by simpa using hle, .inr ⟨by simpa using hle2, Nat.mod_lt _ (by omega)⟩⟩
        · rw [e3]
          have := blk_set HD2.out 2 (.int .i64 (((first : Int) + 1) % (room : Int)))
          simp at this
          exact this
        · rw [List.length_set]
          exact own_mods (S := [h]) OWN2.out (((Mods.refl _ W2).setCell ⟨h, 2, none⟩ _ (.inl (by simp))).drew) (by intro b hb; simp [Value.ownBlock] at hb; simp; omega)
        · intro j v r hv hr
          have key : ∀ v r, HRow w (h :: lv.ownBlock.toList) v r → HRow (W2.setCell ⟨h, 2, none⟩ (.int .i64 (((first : Int) + 1) % (room : Int)))).drew (h :: (Value.slice (some ⟨g, 0, none⟩) rows.length lc).ownBlock.toList) v r := by
            intro v r hr
            have := hr.keeps hM3 (fun b _ hb => hb)
            rw [HLV.out] at this
            exact this
          by_cases hj : first = j
          · subst hj
            rw [List.getElem?_set_self (by omega)] at hv hr
            simp at hv hr
            subst hv hr
            exact key _ _ HX.out
          · rw [List.getElem?_set_ne hj] at hv hr
            exact key v r (HH.out.row j v r hv hr)
      go_wp2
      exact bodyPost_end (results_none rfl _ _ _) rfl ⟨rfl, ⟨_, _, hfin, .inl (by rw [HLV.out])⟩, hM3⟩
end Go.Proofs.YtldjmacnokkjdaaDoor
