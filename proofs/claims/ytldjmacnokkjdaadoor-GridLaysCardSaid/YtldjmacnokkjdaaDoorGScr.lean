/- Rows that are scrolled, and scrolled back: the plain law. -/
import Derived.Test.YtldjmacnokkjdaaDoorAwk6
import Derived.Test.YtldjmacnokkjdaaDoorGBes
namespace Go.Proofs.YtldjmacnokkjdaaDoor
set_option linter.unusedVariables false
set_option linter.unusedSimpArgs false

theorem plain_size (c : Cell) (hc : (c.ok && decide (c.attr.val < 64)) = true) (l : List Cell) : sizeC (c :: l) = 1 := by
  obtain ⟨p1, p2, p3⟩ := plain_no c hc
  unfold sizeC
  simp [p1, p2, p3]
theorem right_fill (c : Cell) (hc : (c.ok && decide (c.attr.val < 64)) = true) (n : Nat) : rightC (List.replicate n c) = true := by
  induction n with
  | zero => rfl
  | succ n ih =>
    rw [List.replicate_succ, rightC_1, ih]
    exact plain_size c hc _
theorem rightG_row {w h : Nat} {L : List Cell} (hr : rightG w h L = true) {y : Nat} (hy : y < h) : rightC (rowC w y L) = true := by
  unfold rightG at hr
  rw [List.all_eq_true] at hr
  exact hr y (by simpa using hy)
/-- A row behind a scroll. -/
theorem rowC_scroll {w h n : Nat} {L : List Cell} {top en k : Int} {c : Cell} (hl : L.length = n) (hn : n = w * h) (hr : rightG w h L = true) (hc : (c.ok && decide (c.attr.val < 64)) = true) {y : Nat} (hy : y < h) :
    rowC w y (scrollG w h L top en k c) = if (mn (mx top 0) h).toNat ≤ y ∧ y < (mn (mx en 0) h).toNat then scrollRow w (mn (mx top 0) h).toNat (mn (mx en 0) h).toNat k c L y else rowC w y L := by
  obtain ⟨T, hT, hT2⟩ := clampG top h
  obtain ⟨E, hE, hE2⟩ := clampG en h
  unfold scrollG
  rw [hT, hE, Int.toNat_natCast, Int.toNat_natCast]
  rw [rowC_changed (fun y r _ => scrollRow_len hl hn hE2) L hl hn hE2 hy]
  split
  · refine mend_right _ ?_
    unfold scrollRow
    split
    · rename_i h1
      exact rightG_row hr (by omega)
    · exact right_fill c hc w
  · rfl
theorem scrollG_len {w h n : Nat} {L : List Cell} {top en k : Int} {c : Cell} (hl : L.length = n) (hn : n = w * h) : (scrollG w h L top en k c).length = n := by
  obtain ⟨T, hT, hT2⟩ := clampG top h
  obtain ⟨E, hE, hE2⟩ := clampG en h
  unfold scrollG
  rw [hT, hE, Int.toNat_natCast, Int.toNat_natCast]
  exact changed_len (fun y r _ => scrollRow_len hl hn hE2) L hl hn hE2
theorem right_scrollG {w h n : Nat} {L : List Cell} {top en k : Int} {c : Cell} (hl : L.length = n) (hn : n = w * h) (hr : rightG w h L = true) : rightG w h (scrollG w h L top en k c) = true := by
  obtain ⟨T, hT, hT2⟩ := clampG top h
  obtain ⟨E, hE, hE2⟩ := clampG en h
  unfold scrollG
  rw [hT, hE, Int.toNat_natCast, Int.toNat_natCast]
  exact right_changed (fun y r _ => scrollRow_len hl hn hE2) L hl hn hE2 hr
theorem rowC_at {w y x : Nat} {A : List Cell} (hx : x < w) : A[y * w + x]? = (rowC w y A)[x]? := (rowC_get hx).symm
theorem rep_at {w x : Nat} {c : Cell} (hx : x < w) : (List.replicate w c)[x]? = some c := by simp [hx]
/-- GridScrolls, of lists. -/
theorem scroll_law {w h n : Nat} {L : List Cell} {c : Cell} (top en k : Nat) (hl : L.length = n) (hn : n = w * h) (hr : rightG w h L = true) (hc : (c.ok && decide (c.attr.val < 64)) = true) (y x : Nat) (hy : y < h) (hx : x < w) :
    ∃ a b d, L[y * w + x]? = some a ∧ (scrollG w h L top en k c)[y * w + x]? = some b ∧ (scrollG w h (scrollG w h L top en k c) top en (-(k : Int)) c)[y * w + x]? = some d ∧
      ((top ≤ y ∧ y < min en h ∧ y < top + k) → d = c) ∧ (¬ (top ≤ y ∧ y < min en h ∧ y < top + k) → d = a) ∧
      (top ≤ y → y < min en h → y + k < min en h → y + k < h ∧ L[(y + k) * w + x]? = some b) ∧ (top ≤ y → y < min en h → min en h ≤ y + k → b = c) := by
  have hT : (mn (mx (top : Int) 0) h).toNat = min top h := by unfold mn mx; split <;> split <;> omega
  have hE : (mn (mx (en : Int) 0) h).toNat = min en h := by unfold mn mx; split <;> split <;> omega
  obtain ⟨E, hEE⟩ : ∃ E, min en h = E := ⟨_, rfl⟩
  have hEh : E ≤ h := by omega
  have hU := fun {y : Nat} (hy : y < h) => rowC_scroll (top := top) (en := en) (k := k) hl hn hr hc hy
  have hH := fun {y : Nat} (hy : y < h) => rowC_scroll (top := top) (en := en) (k := -(k : Int)) (scrollG_len (top := top) (en := en) (k := k) (c := c) hl hn) hn (right_scrollG (top := top) (en := en) (k := k) (c := c) hl hn hr) hc hy
  have hlU := scrollG_len (top := (top : Int)) (en := en) (k := k) (c := c) hl hn
  have hlH := scrollG_len (top := (top : Int)) (en := en) (k := -(k : Int)) (c := c) hlU hn
  rw [hT, hE] at hU hH
  generalize scrollG w h L top en k c = U at *
  generalize scrollG w h U top en (-(k : Int)) c = H at *
  simp only [hEE] at *
  have hle := row_le hn hy
  obtain ⟨a, ha⟩ : ∃ a, L[y * w + x]? = some a := ⟨_, List.getElem?_eq_getElem (by omega)⟩
  obtain ⟨b, hb⟩ : ∃ a, U[y * w + x]? = some a := ⟨_, List.getElem?_eq_getElem (by omega)⟩
  obtain ⟨d, hd⟩ : ∃ a, H[y * w + x]? = some a := ⟨_, List.getElem?_eq_getElem (by omega)⟩
  have gU := hU hy
  have gH := hH hy
  have ea := ha
  have eb := hb
  have ed := hd
  rw [rowC_at hx] at ea eb ed
  rw [gU] at eb
  rw [gH] at ed
  have mU : ∀ y : Nat, min top h ≤ y → y < E → ((min top h : Nat) : Int) ≤ movedF y k (min top h : Nat) E ∧ (movedF y k (min top h : Nat) E < E ↔ y + k < E) ∧ (y + k < E → movedF y k (min top h : Nat) E = ((y + k : Nat) : Int)) := by
    intro y h1 h2
    unfold movedF mn mx
    split <;> split <;> omega
  have mH : ∀ y : Nat, min top h ≤ y → y < E → movedF y (-(k : Int)) (min top h : Nat) E < E ∧ (((min top h : Nat) : Int) ≤ movedF y (-(k : Int)) (min top h : Nat) E ↔ min top h + k ≤ y) ∧ (min top h + k ≤ y → movedF y (-(k : Int)) (min top h : Nat) E = ((y - k : Nat) : Int)) := by
    intro y h1 h2
    unfold movedF mn mx
    split <;> split <;> omega
  refine ⟨a, b, d, ha, hb, hd, ?_, ?_, ?_, ?_⟩
  · rintro ⟨h1, h2, h3⟩
    rw [if_pos (by omega)] at ed
    unfold scrollRow at ed
    obtain ⟨m1, m2, m3⟩ := mH y (by omega) h2
    rw [if_neg (fun hh => by have := m2.1 hh.1; omega), rep_at hx] at ed
    exact (Option.some.inj ed).symm
  · intro hno
    by_cases hin : min top h ≤ y ∧ y < E
    · rw [if_pos hin] at ed
      unfold scrollRow at ed
      obtain ⟨m1, m2, m3⟩ := mH y hin.1 hin.2
      have hk : min top h + k ≤ y := by omega
      rw [if_pos ⟨m2.2 hk, m1⟩, m3 hk, Int.toNat_natCast, hU (by omega), if_pos (by omega)] at ed
      unfold scrollRow at ed
      obtain ⟨p1, p2, p3⟩ := mU (y - k) (by omega) (by omega)
      rw [if_pos ⟨p1, p2.2 (by omega)⟩, p3 (by omega), Int.toNat_natCast, show y - k + k = y by omega] at ed
      rw [ea] at ed
      exact (Option.some.inj ed).symm
    · rw [if_neg hin, gU, if_neg hin, ea] at ed
      exact (Option.some.inj ed).symm
  · intro h1 h2 h3
    refine ⟨by omega, ?_⟩
    rw [if_pos (by omega)] at eb
    unfold scrollRow at eb
    obtain ⟨p1, p2, p3⟩ := mU y (by omega) h2
    rw [if_pos ⟨p1, p2.2 h3⟩, p3 h3, Int.toNat_natCast] at eb
    rw [rowC_at hx]; exact eb
  · intro h1 h2 h3
    rw [if_pos (by omega)] at eb
    unfold scrollRow at eb
    obtain ⟨p1, p2, p3⟩ := mU y (by omega) h2
    rw [if_neg (fun hh => by have := p2.1 hh.2; omega), rep_at hx] at eb
    exact (Option.some.inj eb).symm
end Go.Proofs.YtldjmacnokkjdaaDoor
