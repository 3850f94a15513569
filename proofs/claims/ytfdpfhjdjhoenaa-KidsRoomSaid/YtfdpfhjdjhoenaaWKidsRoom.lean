/- The walk of the law KidsRoom. -/
import Derived.Test.YtfdpfhjdjhoenaaKLaw
import Derived.Test.YtfdpfhjdjhoenaaKidsTick
import Derived.Deep.QuietTactic
import Derived.BigQuiet
import Derived.IntWalk
import Derived.Deep.DeepCutAuto
import Derived.Deep.CutBlock
import Derived.Deep.CutRange
namespace Go.Proofs.Ytfdpfhjdjhoenaa
open Go.RowKit Go.Conc Go.ChangeShapes Go.WideShapes
attribute [local go_sem] max2_mx min2_mn max_two min_two i64_and15 i64_and7
set_option linter.unusedVariables false
set_option linter.unusedSimpArgs false

structure KOp where
  kind : Int
  id : Int
  far : Bool
def KOp.cells (o : KOp) : List Value := [.int .i64 o.kind, .int .i64 o.id, .bool o.far]
def KOp.who (o : KOp) : Int := if o.far then o.id else o.id % 8

theorem kop_id (w : World) (o : KOp) : Calls Try.prog 23 #[.agg o.cells.toArray] w fun e w' => e = .returned (.int .i64 o.who) ∧ Mods [] w w' := by
  obtain ⟨kind, id, far⟩ := o
  have hM := (Mods.refl [] w).alloc (.cells #[Value.int .i64 kind, Value.int .i64 id, Value.bool far] 42)
  cases far
  all_goals
    go_enter Try.func23, Try.ntmps23
    simp only [KOp.cells]
    go_wp2
    go_ret
    exact ⟨rfl, hM⟩

def Sil (L : List Kid) : Prop := ∀ x ∈ L, 0 ≤ x.silent ∧ x.silent ≤ 8
theorem Sil.setS {L : List Kid} (h : Sil L) (id : Int) : Sil (setS L id 0) := by
  intro x hx
  simp only [Go.Proofs.Ytfdpfhjdjhoenaa.setS, List.mem_map] at hx
  obtain ⟨y, hy, rfl⟩ := hx
  split
  · simp
  · exact h y hy
theorem Sil.tk {L : List Kid} (h : Sil L) (P : List Int) : Sil (tk P L) := by
  intro x hx
  simp only [Go.Proofs.Ytfdpfhjdjhoenaa.tk, List.mem_filterMap] at hx
  obtain ⟨y, hy, e⟩ := hx
  have := h y hy
  unfold tk1 at e
  split at e
  · split at e
    · cases e
    · cases e; simp; omega
  · cases e; exact this

theorem kids_Add_any (w : World) (k m : Nat) (room queue last id : Int) (L : List Kid) (h : KAt w k m room queue last L) (hs : Sil L) :
    Calls Try.prog 20 #[.pointer (some ⟨k, 0, none⟩), .int .i64 id] w fun e w' => ∃ v L', e = .returned v ∧ KAt w' k m room queue last L' ∧ Sil L' ∧ Mods (m :: blocksOf L) w w' ∧ ∀ b ∈ blocksOf L', b ∈ blocksOf L ∨ w.heap.size ≤ b := by
  cases hf : find L id with
  | some x =>
    refine (kids_Add_there w k m room queue last id L h x hf).mono ?_
    rintro e w' ⟨rfl, h1, h2⟩
    exact ⟨_, _, rfl, h1, hs.setS _, h2.mono (by intro b hb; simp at hb; subst hb; exact .inl (by simp; exact .inr (mem_blocksOf (find_mem hf).1 (by simp [Kid.blocks])))), by rw [hear_blocks]; exact fun b hb => .inl hb⟩
  | none =>
    by_cases hbad : id < 0 ∨ 15 < id ∨ room ≤ L.length
    · refine (kids_Add_not w k m room queue last id L h hf hbad).mono ?_
      rintro e w' ⟨rfl, h1⟩
      exact ⟨_, L, rfl, h.keeps h1 (by simp), hs, h1.mono (by simp), fun b hb => .inl hb⟩
    · refine (kids_Add_new w k m room queue last id L h hf (by omega) (by omega) (by omega)).mono ?_
      rintro e w' ⟨x, rfl, hx1, hx2, hx3, hx4, h1, h2⟩
      refine ⟨_, _, rfl, h1, ?_, h2.mono (by simp), ?_⟩
      · intro y hy
        rcases List.mem_append.1 hy with hy | hy
        · exact hs y hy
        · simp at hy; subst hy; omega
      · intro b hb
        simp only [blocksOf, List.flatMap_append, List.flatMap_cons, List.flatMap_nil, List.append_nil, List.mem_append] at hb
        rcases hb with hb | hb
        · exact .inl hb
        · exact .inr (hx4 b hb)
theorem kids_Drop_any (w : World) (k m : Nat) (room queue last id : Int) (L : List Kid) (h : KAt w k m room queue last L) (hs : Sil L) :
    Calls Try.prog 22 #[.pointer (some ⟨k, 0, none⟩), .int .i64 id] w fun e w' => ∃ v L', e = .returned v ∧ KAt w' k m room queue last L' ∧ Sil L' ∧ Mods (m :: blocksOf L) w w' ∧ ∀ b ∈ blocksOf L', b ∈ blocksOf L ∨ w.heap.size ≤ b := by
  refine (kids_Drop w k m room queue last id L h).mono ?_
  rintro e w' ⟨rfl, h1, h2⟩
  exact ⟨_, _, rfl, h1, fun x hx => hs x ((dropK_sub L id).subset hx), h2.mono (by simp), fun b hb => .inl ((blocksOf_sub (dropK_sub L id)).subset hb)⟩
theorem kids_Tick_any (w : World) (k m : Nat) (room queue last : Int) (L : List Kid) (h : KAt w k m room queue last L) (hs : Sil L) :
    Calls Try.prog 24 #[.pointer (some ⟨k, 0, none⟩)] w fun e w' => ∃ v L', e = .returned v ∧ KAt w' k m room queue last L' ∧ Sil L' ∧ Mods (m :: blocksOf L) w w' ∧ ∀ b ∈ blocksOf L', b ∈ blocksOf L ∨ w.heap.size ≤ b := by
  refine (kids_Tick w k m room queue last L h hs).mono ?_
  rintro e w' ⟨v, rfl, h1, h2⟩
  refine ⟨_, _, rfl, h1, hs.tk _, h2.mono ?_, fun b hb => .inl (tk_blocks.subset hb)⟩
  intro b hb
  left
  simp only [List.mem_cons, List.mem_map] at hb ⊢
  rcases hb with hb | ⟨x, hx, rfl⟩
  · exact .inl hb
  · exact .inr (mem_blocksOf hx (by simp [Kid.blocks]))

theorem sorted_lt {L : List Kid} (h : (L.map (·.id)).Nodup) {i j : Nat} {a b : Int} (hij : i < j) (ha : (sortedIds L)[i]? = some a) (hb : (sortedIds L)[j]? = some b) : a < b := by
  obtain ⟨hi, ea⟩ := List.getElem?_eq_some_iff.1 ha
  obtain ⟨hj, eb⟩ := List.getElem?_eq_some_iff.1 hb
  have h1 : (sortedIds L).Pairwise (fun x y => decide (x ≤ y)) := List.pairwise_mergeSort (le := fun x y => decide (x ≤ y)) (by intro a b c h1 h2; simp at *; omega) (by intro a b; simp; omega) _
  have h2 := List.pairwise_iff_getElem.1 h1 i j hi hj hij
  have h3 := List.pairwise_iff_getElem.1 (sorted_nodup h) i j hi hj hij
  simp only [decide_eq_true_eq] at h2
  rw [← ea, ← eb]
  omega
theorem find_some {L : List Kid} {x : Kid} (hx : x ∈ L) : (find L x.id).isSome = true := by
  cases h : find L x.id with
  | some _ => rfl
  | none =>
    unfold find at h
    rw [List.find?_eq_none] at h
    exact absurd (beq_self_eq_true x.id) (h x hx)

def RoomRel (w : World) (k m len : Nat) (n : Int) (kk : Nat) (i8 : Value) (wr : World) : Prop :=
  ∃ (i : Nat) (L : List Kid), i8 = .int .i64 i ∧ i ≤ len ∧ i ≤ 80 ∧ KAt wr k m n 2 (-1) L ∧ Sil L ∧ Below w.heap.size w wr ∧ (∀ b ∈ k :: m :: blocksOf L, w.heap.size ≤ b) ∧ kk + i = 80
def InRel (w5 : World) (len : Nat) (kk : Nat) (j11 : Value) (wr : World) : Prop :=
  ∃ (j : Nat), j11 = .int .i64 j ∧ j ≤ len ∧ (∃ n, wr = w5.drewN n) ∧ kk + j = len

set_option maxRecDepth 4000 in
set_option maxHeartbeats 4000000 in
theorem kroom_core (w : World) (room : Int) (A : Option Addr) (q cp : Nat) (ops : List KOp) (hops : ReadsRows w A q 3 KOp.cells ops) (hcap : q ≤ cp) :
    Calls Try.prog 7 #[.int .i64 room, .slice A q cp] w fun e w' => e = .returned (.bool true) ∧ Below w.heap.size w w' := by
  have hn := hops.2.1
  unfold maxLen at hn
  have HO := Lib.hid hops
  clear hops
  go_enter Try.func7, Try.ntmps7
  go_wp2_with (first
    | (go_at_call 18; refine (kawake_true _).mono ?_; rintro e w1 ⟨rfl, hm1⟩)
    | (go_at_call 19; go_must (refine (kids_New _ room 2).mono ?_); rintro e w2 ⟨k, m, rfl, hk2, hm2, hz1, hz2⟩))
  obtain ⟨N, hN⟩ : ∃ N, N = kroom room := ⟨_, rfl⟩
  have hN' : mn (mx room 0) 15 = N := hN.symm
  obtain ⟨n0, n15⟩ := kroom_le room
  rw [hN']
  rw [← hN] at hk2 n0 n15
  clear hN hN'
  have hB := (hm1.trans hm2).below
  have hs := hm1.size
  go_loopg [8] 80 (RoomRel w k m q N)
  case atStart => exact ⟨0, [], rfl, by omega, by omega, hk2, by intro x hx; simp at hx, hB, by simp [blocksOf]; omega, by omega⟩
  case round =>
    clear hk2 hm2 hm1 hB
    obtain ⟨i, L, rfl, hi, hi8, hk, hsil, hB, hblk, hkk⟩ := hrel
    obtain ⟨G, hG⟩ : ∃ G, G = gk := ⟨gk, rfl⟩
    subst hG
    have HKK := Lib.hid hkk
    have HB := Lib.hid hB
    have HBLK := Lib.hid hblk
    clear hkk hB hblk
    by_cases hend : i < q ∧ i < 80
    · obtain ⟨hlt, hlt8⟩ := hend
      obtain ⟨o, ho⟩ : ∃ o, ops[i]? = some o := ⟨_, List.getElem?_eq_getElem (by rw [HO.out.1]; exact hlt)⟩
      obtain ⟨a, rfl, c0, hc⟩ := ((HO.out.keeps (fun _ => rfl) HB.out).row ho)
      have c1 := hc 0 (by omega)
      have c2 := hc 1 (by omega)
      simp only [KOp.cells] at c0 c1 c2
      clear hc
      have HO' := Lib.hid ho
      clear ho
      have hkA := hk.keeps ((Mods.refl [] wr).alloc (Obj.cells #[Value.int .i64 o.kind, Value.int .i64 o.id, Value.bool o.far] 42)) (by simp)
      have HM := Mods.of_below (HB.out.alloc HB.out.size (Obj.cells #[Value.int .i64 o.kind, Value.int .i64 o.id, Value.bool o.far] 42))
      have HSIL := Lib.hid hsil
      clear hk hsil
      go_upto_block 2 with fail
      go_cut [] from 20 to 108 (fun wx => ∃ L', KAt wx k m N 2 (-1) L' ∧ Sil L' ∧ Below w.heap.size w wx ∧ (∀ b ∈ k :: m :: blocksOf L', w.heap.size ≤ b))
      case first =>
        go_wp2_with (first
          | (go_at_call 23; go_must (refine (kop_id _ o).mono ?_); rintro e w3 ⟨rfl, hm3⟩)
          | (go_at_call 22; go_must (refine (kids_Drop_any _ k m N 2 (-1) o.who L (hkA.keeps hm3 (by simp)) HSIL.out).mono ?_); rintro e w4 ⟨v4, L4, rfl, hk4, hs4, hm4, hb4⟩)
          | (go_at_call 20; go_must (refine (kids_Add_any _ k m N 2 (-1) o.who L (hkA.keeps hm3 (by simp)) HSIL.out).mono ?_); rintro e w4 ⟨v4, L4, rfl, hk4, hs4, hm4, hb4⟩)
          | (go_at_call 24; go_must (refine (kids_Tick_any _ k m N 2 (-1) L hkA HSIL.out).mono ?_); rintro e w4 ⟨v4, L4, rfl, hk4, hs4, hm4, hb4⟩))
        all_goals
          go_meet
          have hM5 : Mods (m :: blocksOf L) w w4 := by
            first
              | exact ((HM.mono (by simp)).trans (hm3.mono (by simp))).then hm4 (fun b hb => .inl hb)
              | exact (HM.mono (by simp)).then hm4 (fun b hb => .inl hb)
          have hbel5 : Below w.heap.size w w4 := (hM5.mono (S' := []) (fun b hb => .inr (HBLK.out b (List.mem_cons_of_mem _ hb)))).below
          have hblk5 : ∀ b ∈ k :: m :: blocksOf L4, w.heap.size ≤ b := by
            intro b hb
            simp only [List.mem_cons] at hb
            rcases hb with hb | hb | hb
            · exact HBLK.out b (by simp [hb])
            · exact HBLK.out b (by simp [hb])
            · rcases hb4 b hb with hb | hb
              · exact HBLK.out b (by simp [hb])
              · have h1 := HM.size
                have h2 := HB.out.size
                first
                  | (have h3 := hm3.size; simp at h3; omega)
                  | (simp at hb; omega)
          exact ⟨L4, hk4, hs4, hbel5, hblk5⟩
      case rest =>
        clear HB HBLK HM HSIL hkA c0 c1 c2 HO'
        obtain ⟨L4, hk4, hs4, hbel5, hblk5⟩ := hcut
        have hl4 := hk4.len
        have hnd := hk4.ids
        have hbd := hk4.bound
        have HK4 := Lib.hid hk4
        have HND := Lib.hid hnd
        have HBD := Lib.hid hbd
        have HS4 := Lib.hid hs4
        have HBEL5 := Lib.hid hbel5
        have HBLK5 := Lib.hid hblk5
        have hl15 : L4.length ≤ 15 := by omega
        clear hk4 hnd hbd hs4 hbel5 hblk5
        go_upto_block 3 with (first
            | (go_at_call 25; go_must (refine (kids_IDs _ k m N 2 (-1) L4 HK4.out).mono ?_); rintro e w5 ⟨v, rfl, hown, hnil, hb5⟩; obtain ⟨A5, cp5, rfl, hn1, hn2, hA5⟩ := own_slice' hown; unfold maxLen at hn2)
            | (go_at_call 26; go_must (refine (kids_Full _ k m N 2 (-1) L4 (HK4.out.keeps (Mods.of_below hb5) (by simp))).mono ?_); go_must (rintro e w6 ⟨rfl, hm6⟩); go_must (have hown6 := own_mods hown hm6 (by simp)); go_must (have hk6 := (HK4.out.keeps (Mods.of_below hb5) (by simp)).keeps hm6 (by simp))))
        have HK6 := Lib.hid hk6
        have hM6 : Mods [] wc w6 := (Mods.of_below hb5).trans hm6
        have HM6 := Lib.hid hM6
        have HOWN6 := Lib.hid hown6
        clear hown hb5 hm6 hk6 hM6 hown6
        go_wp2
        go_loopg [11] L4.length (InRel w6 L4.length)
        case atStart => exact ⟨0, rfl, by omega, ⟨0, rfl⟩, by omega⟩
        case round =>
          obtain ⟨j, rfl, hj, ⟨nd, hwr⟩, hjj⟩ := hrel
          have HWR := Lib.hid hwr
          clear hwr
          have HJJ := Lib.hid hjj
          clear hjj
          by_cases hlj : j < L4.length
          · obtain ⟨g5, rfl⟩ := hA5 (by omega)
            obtain ⟨x, hx, hxj⟩ := sorted_at hlj
            have cj : ∀ n, (wr.drewN n).cell? ⟨g5, j, none⟩ = some (.int .i64 x.id) := fun n => by rw [HWR.out]; exact own_cells HOWN6.out j (by rw [List.getElem?_map, hxj]; rfl)
            obtain ⟨x0, x15⟩ := HBD.out x hx
            have hfx := find_some hx
            have HFX := Lib.hid hfx
            clear hfx
            have d1 : decide (x.id < 0) = false := by simp; omega
            have d2 : decide (15 < x.id) = false := by simp; omega
            have KW : ∀ n, KAt (wr.drewN n) k m N 2 (-1) L4 := fun n => by rw [HWR.out]; exact HK6.out.keeps (((Mods.refl [] _).drewN _).drewN _) (by simp)
            have HJ2 := HJJ.out
            have hc : ∀ n, Calls Try.prog 27 #[.pointer (some ⟨k, 0, none⟩), .int .i64 x.id] (wr.drewN n) fun e w' => e = .returned (.bool true) ∧ w' = wr.drewN n := by
              intro n
              refine (kids_Has _ k m N 2 (-1) x.id L4 (KW n)).mono ?_
              rintro e w' ⟨rfl, rfl⟩
              rw [HFX.out]
              exact ⟨rfl, rfl⟩
            have HC := Lib.hid hc
            clear hc KW
            by_cases hj0 : 0 < j
            · obtain ⟨y, hy, hyj⟩ := sorted_at (show j - 1 < L4.length by omega)
              have cj' : ∀ n, (wr.drewN n).cell? ⟨g5, j - 1, none⟩ = some (.int .i64 y.id) := fun n => by rw [HWR.out]; exact own_cells HOWN6.out (j - 1) (by rw [List.getElem?_map, hyj]; rfl)
              have hlt2 := sorted_lt HND.out (show j - 1 < j by omega) hyj hxj
              have d0 : decide ((0 : Int) < (j : Int)) = true := by simp; omega
              have d3 : decide (x.id ≤ y.id) = false := by simp; omega
              have w1 : IntKind.i64.wrap ((j : Int) - 1) = (j : Int) - 1 := IntWalk.i64_in _ (by omega)
              have w2 : ((j : Int) - 1).toNat = j - 1 := by omega
              have w3 : (0 : Int) ≤ (j : Int) - 1 := by omega
              go_wp2_with (fail)
              go_big_quiet ((go_at_call 27; exact Calls.quiet_of_same (HC.out _)))
              clear w1 w2 w3 d3 d2 d1
              go_wp2
              go_roundg (gk - 1)
              case measure => omega
              case rel => exact ⟨j + 1, by go_num, by omega, ⟨nd + nq, by rw [HWR.out, World.drewN_drewN]⟩, by omega⟩
            · have d0 : decide ((0 : Int) < (j : Int)) = false := by simp; omega
              go_wp2_with (fail)
              go_big_quiet ((go_at_call 27; exact Calls.quiet_of_same (HC.out _)))
              go_wp2
              go_roundg (gk - 1)
              case measure => omega
              case rel => exact ⟨j + 1, by go_num, by omega, ⟨nd + nq, by rw [HWR.out, World.drewN_drewN]⟩, by omega⟩
          · have HKK2 := HKK.out
            clear HJJ
            go_wp2
            go_roundg (G - 1)
            case measure => omega
            case rel =>
              have hM7 : Mods [] wc wr := by rw [HWR.out]; exact HM6.out.drewN _
              exact ⟨i + 1, L4, by go_num, by omega, by omega, HK4.out.keeps hM7 (by simp), HS4.out, ((Mods.of_below HBEL5.out).then hM7 (by simp)).below, HBLK5.out, by omega⟩
    · by_cases hlt : i < q
      · have e80 : i = 80 := by omega
        subst e80
        go_wp2
        go_ret
        exact ⟨rfl, HB.out⟩
      · go_wp2
        go_ret
        exact ⟨rfl, HB.out⟩

theorem list3 {α : Type} {l : List α} (h : l.length = 3) : ∃ a b c, l = [a, b, c] := by
  match l, h with
  | [a, b, c], _ => exact ⟨a, b, c, rfl⟩
theorem read_kop {H : Type} {enc : TypeId × Value → H} {w : World} {base : Nat} {spare : Nat → Bool} {held : Bool} {fuel : Nat} {cs : List Value} {x : DataW H × List MemPlace}
    (h : DataW.trod enc Try.prog w base spare held fuel 42 cs = some x) :
    ∃ o : KOp, cs = [.int .i64 o.kind, .int .i64 o.id, .bool o.far] ∧ (Lit.int .i64 o.kind).wf = true := by
  obtain ⟨hl, n, hf⟩ := trod_fields Try.underlying42 h
  have hc : Try.prog.cellsOf 42 = 3 := by kernel_rfl
  have hi : Try.prog.cellsOf 3 = 1 := by kernel_rfl
  have hb : Try.prog.cellsOf 4 = 1 := by kernel_rfl
  obtain ⟨a, b, c, rfl⟩ := list3 (hl.trans hc)
  obtain ⟨_, h0⟩ := hf 0 _ rfl
  obtain ⟨_, h1⟩ := hf 1 _ rfl
  obtain ⟨_, h2⟩ := hf 2 _ rfl
  obtain ⟨n0, e0, w0⟩ := trod_i Try.underlying3 h0
  obtain ⟨n1, e1, w1⟩ := trod_i Try.underlying3 h1
  obtain ⟨n3, e3⟩ := trod_b Try.underlying4 h2
  simp [hi, hb] at e0 e1 e3
  exact ⟨⟨n0, n1, n3⟩, by simp [e0, e1, e3], w0⟩

theorem arg_kops {H : Type} {enc : TypeId × Value → H} {w : World} {base b0 : Nat} {spare : Nat → Bool} {held : Bool} {v : Value} {d : DataW H} {p : List MemPlace}
    (h : DataW.Trod enc Try.prog w base spare held 40 v d p) (o : Value.okWide Try.prog w .any b0 40 v) :
    ∃ A n c ops, v = .slice A n c ∧ n ≤ c ∧ ReadsRows w A n 3 KOp.cells ops ∧ ∀ x ∈ ops, (Lit.int .i64 x.kind).wf = true :=
  arg_rows Try.underlying40 (by kernel_rfl) KOp.cells _ (fun _ _ _ h => by obtain ⟨o, h1, h2⟩ := read_kop h; exact ⟨o, h1, h2⟩) h o

theorem kidsRoom_walk {H : Type} {enc : TypeId × Value → H} (w : World) {base b0 base1 b1 : Nat} {spare spare1 : Nat → Bool} {held held1 : Bool} {v v1 : Value} {d d1 : DataW H} {p p1 : List MemPlace}
    (h : DataW.Trod enc Try.prog w base spare held 3 v d p) (o : Value.okWide Try.prog w .any b0 3 v)
    (h1 : DataW.Trod enc Try.prog w base1 spare1 held1 40 v1 d1 p1) (o1 : Value.okWide Try.prog w .any b1 40 v1) :
    Calls Try.prog 7 #[v, v1] w fun e w' => e = .returned (.bool true) ∧ Below w.heap.size w w' := by
  obtain ⟨x, rfl, rfl, rfl, _⟩ := open_int Try.underlying3 o h
  obtain ⟨A, m, cp, ops, rfl, hcap, hops, hk⟩ := arg_kops h1 o1
  exact kroom_core w x A m cp ops hops hcap
end Go.Proofs.Ytfdpfhjdjhoenaa
