/- The walk of the law KidsNil: no table. -/
import Derived.Test.YtfdpfhjdjhoenaaKLaw
namespace Go.Proofs.Ytfdpfhjdjhoenaa
open Go.RowKit Go.Conc Go.ChangeShapes Go.WideShapes
set_option linter.unusedVariables false
set_option linter.unusedSimpArgs false

theorem kids_IDs_nil (w : World) : Calls Try.prog 25 #[.pointer none] w fun e w' => e = .returned (.slice none 0 0) ∧ w = w' := by
  go_enter Try.func25, Try.ntmps25
  go_wp2_with fail
  go_ret
  exact ⟨rfl, rfl⟩
theorem kids_Add_nil (w : World) (id : Int) : Calls Try.prog 20 #[.pointer none, .int .i64 id] w fun e w' => e = .returned (.bool false) ∧ Mods [] w w' := by
  have h3 : id < 0 ∨ (0 ≤ id ∧ 15 < id) ∨ (0 ≤ id ∧ id ≤ 15) := by omega
  rcases h3 with h1 | ⟨h1, h2⟩ | ⟨h1, h2⟩
  all_goals
    go_enter Try.func20, Try.ntmps20
    go_wp2_with (first
      | (go_at_call 27; refine (kids_Has_nil _ id).mono ?_; rintro e w1 ⟨rfl, rfl⟩)
      | (go_at_call 26; refine (kids_Full_nil _).mono ?_; rintro e w1 ⟨rfl, hm1⟩))
    go_ret
    first | exact ⟨rfl, Mods.refl _ _⟩ | exact ⟨rfl, hm1⟩
theorem kids_Clear_nil (w : World) : Calls Try.prog 29 #[.pointer none] w fun e w' => e = .returned (.tuple #[]) ∧ w = w' := by
  go_enter Try.func29, Try.ntmps29
  go_wp2
  exact bodyPost_end (results_none rfl _ _ _) rfl ⟨rfl, rfl⟩
theorem kids_Tick_nil (w : World) : Calls Try.prog 24 #[.pointer none] w fun e w' => e = .returned (.slice none 0 0) ∧ w = w' := by
  go_enter Try.func24, Try.ntmps24
  go_wp2_with (first | (go_at_call 25; refine (kids_IDs_nil _).mono ?_; rintro e w1 ⟨rfl, rfl⟩))
  refine wp_loop_once ?_
  go_wp2
  go_ret
  exact ⟨rfl, rfl⟩
theorem kids_Next_nil (w : World) : Calls Try.prog 30 #[.pointer none] w fun e w' => e = .returned (.int .i64 0) ∧ w = w' := by
  go_enter Try.func30, Try.ntmps30
  go_wp2_with (first | (go_at_call 25; refine (kids_IDs_nil _).mono ?_; rintro e w1 ⟨rfl, rfl⟩))
  go_ret
  exact ⟨rfl, rfl⟩

theorem kidsNil_core (w : World) (id : Int) : Calls Try.prog 8 #[.int .i64 id] w fun e w' => e = .returned (.bool true) ∧ Below w.heap.size w w' := by
  go_enter Try.func8, Try.ntmps8
  go_wp2_with (first
    | (go_at_call 28; refine (kids_Heard_nil _ id).mono ?_; rintro e w1 ⟨rfl, rfl⟩)
    | (go_at_call 29; refine (kids_Clear_nil _).mono ?_; rintro e w1 ⟨rfl, rfl⟩)
    | (go_at_call 18; refine (kawake_true _).mono ?_; rintro e w1 ⟨rfl, hm1⟩)
    | (go_at_call 20; refine (kids_Add_nil _ id).mono ?_; rintro e w2 ⟨rfl, hm2⟩)
    | (go_at_call 22; refine (kids_Drop_nil _ id).mono ?_; rintro e wd ⟨rfl, rfl⟩)
    | (go_at_call 27; refine (kids_Has_nil _ id).mono ?_; rintro e wd ⟨rfl, rfl⟩)
    | (go_at_call 24; refine (kids_Tick_nil _).mono ?_; rintro e wd ⟨rfl, rfl⟩)
    | (go_at_call 25; refine (kids_IDs_nil _).mono ?_; rintro e wd ⟨rfl, rfl⟩)
    | (go_at_call 21; refine (kids_Queue_nil _ id).mono ?_; rintro e wd ⟨rfl, rfl⟩)
    | (go_at_call 15; refine (len_nil _).mono ?_; rintro e wd ⟨rfl, rfl⟩)
    | (go_at_call 26; refine (kids_Full_nil _).mono ?_; rintro e w3 ⟨rfl, hm3⟩)
    | (go_at_call 30; refine (kids_Next_nil _).mono ?_; rintro e wd ⟨rfl, rfl⟩))
  go_ret
  exact ⟨rfl, ((hm1.trans hm2).trans hm3).below⟩

theorem kidsNil_walk {H : Type} {enc : TypeId × Value → H} (w : World) {base b0 : Nat} {spare : Nat → Bool} {held : Bool} {v : Value} {d : DataW H} {p : List MemPlace}
    (h : DataW.Trod enc Try.prog w base spare held 3 v d p) (o : Value.okWide Try.prog w .any b0 3 v) :
    Calls Try.prog 8 #[v] w fun e w' => e = .returned (.bool true) ∧ Below w.heap.size w w' := by
  obtain ⟨x, rfl, rfl, rfl, _⟩ := open_int Try.underlying3 o h
  exact kidsNil_core w x
end Go.Proofs.Ytfdpfhjdjhoenaa
