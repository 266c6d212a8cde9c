/- Contract of huff's find, Bits, Code, Size. -/
import Derived.Test.YtgnoiheekgmleaaHb
namespace Go.Proofs.Ytgnoiheekgmleaa
open Go.ChangeShapes Go.WideShapes Go.RowKit
set_option linter.unusedVariables false

/-- Block b holds the table. -/
def HasTab (w : World) (b : Nat) : Prop := w.heap[b]? = some (.cells (cellsOf tabF) 141 (0, 0))

theorem HasTab.lt {w : World} {b : Nat} (h : HasTab w b) : b < w.heap.size := by
  rcases Nat.lt_or_ge b w.heap.size with h1 | h1
  · exact h1
  · have := h
    unfold HasTab at this
    rw [Array.getElem?_eq_none h1] at this
    simp at this
theorem HasTab.next {w w' : World} {b : Nat} (h : HasTab w b) (h2 : Below w.heap.size w w') : HasTab w' b := by
  unfold HasTab
  rw [h2.block b h.lt]
  exact h
theorem HasTab.cell {w : World} {b : Nat} (h : HasTab w b) (i : Nat) : w.cell? ⟨b, i, none⟩ = (cellsOf tabF)[i]? := by
  unfold World.cell?
  rw [h]
  simp

theorem tabF_codes : tabF.codes = codesT := by have h : ∀ (T : Tab) (f : List Nat), ({ T with from_ := f } : Tab).codes = T.codes := fun _ _ => rfl; rw [tabF, h, tab_codes]
theorem tabF_first : tabF.first = firstT := by have h : ∀ (T : Tab) (f : List Nat), ({ T with from_ := f } : Tab).first = T.first := fun _ _ => rfl; rw [tabF, h, tab_first]
theorem tabF_from : tabF.from_ = fromT := by have h : ∀ (T : Tab) (f : List Nat), ({ T with from_ := f } : Tab).from_ = f := fun _ _ => rfl; rw [tabF, h, tab_from]
theorem tabF_order : tabF.order = orderT := by have h : ∀ (T : Tab) (f : List Nat), ({ T with from_ := f } : Tab).order = T.order := fun _ _ => rfl; rw [tabF, h, tab_order]
theorem tabF_ok : tabF.ok := by
  unfold Tab.ok
  rw [tabF_codes, tabF_first, tabF_from, tabF_order]
  decide +kernel
theorem cellF_code {w : World} {b : Nat} (h : HasTab w b) (i : Nat) (hi : i < 257) : w.cell? ⟨b, i, none⟩ = some (.int .u16 (hcode i : Nat)) := by
  rw [h.cell, cells_codes tabF tabF_ok i hi, tabF_codes, hcode]
theorem cellF_first {w : World} {b : Nat} (h : HasTab w b) (i : Nat) (hi : i < 14) : w.cell? ⟨b, 257 + i, none⟩ = some (.int .u16 (firstF i : Nat)) := by
  rw [h.cell, cells_first tabF tabF_ok i hi, tabF_first, firstF]
theorem cellF_from {w : World} {b : Nat} (h : HasTab w b) (i : Nat) (hi : i < 14) : w.cell? ⟨b, 271 + i, none⟩ = some (.int .i64 (fromF i : Nat)) := by
  rw [h.cell, cells_from tabF tabF_ok i hi, tabF_from, fromF]
theorem cellF_order {w : World} {b : Nat} (h : HasTab w b) (i : Nat) (hi : i < 257) : w.cell? ⟨b, 285 + i, none⟩ = some (.int .i64 (ord i : Nat)) := by
  rw [h.cell, cells_order tabF tabF_ok i hi, tabF_order, ord]

theorem first_le : ∀ n, n < 14 → firstF n ≤ 4000 := by decide +kernel

theorem find_neg (b n code : Nat) (w : World) (h : HasTab w b) (hn : n ≤ 12) (hcl : code < 65536) (hc : code < firstF n) :
    Calls Try.prog 88 #[.pointer (some ⟨b, 0, none⟩), .int .i64 (n : Int), .int .u16 (code : Int)] w fun e w' => e = .returned (.tuple #[.int .i64 0, .bool false]) ∧ Below w.heap.size w w' := by
  have hc1 := cellF_first h n (by omega)
  have hfl := first_le n (by omega)
  obtain ⟨f, hf⟩ : ∃ f, firstF n = f := ⟨_, rfl⟩
  rw [hf] at hc1 hfl hc
  have hd : decide ((code : Int) - (f : Int) < 0) = true := by rw [decide_eq_true_eq]; omega
  clear hf h
  go_enter Try.func88, Try.ntmps88
  go_wp2
  go_quiet (fail)
  go_wp2
  go_ret2
  exact ⟨rfl, below_drewN (Below.refl _ _) _⟩

theorem find_far (b n code : Nat) (w : World) (h : HasTab w b) (hn : n ≤ 12) (hcl : code < 65536) (hc : firstF n ≤ code) (hk : fromF (n + 1) ≤ fromF n + (code - firstF n)) :
    Calls Try.prog 88 #[.pointer (some ⟨b, 0, none⟩), .int .i64 (n : Int), .int .u16 (code : Int)] w fun e w' => e = .returned (.tuple #[.int .i64 0, .bool false]) ∧ Below w.heap.size w w' := by
  have hc1 := cellF_first h n (by omega)
  have hc2 := cellF_from h n (by omega)
  have hc3 := cellF_from h (n + 1) (by omega)
  have hfl := first_le n (by omega)
  have hl1 := from_le n (by omega)
  have hl2 := from_le (n + 1) (by omega)
  obtain ⟨f, hf⟩ : ∃ f, firstF n = f := ⟨_, rfl⟩
  obtain ⟨g, hg⟩ : ∃ g, fromF n = g := ⟨_, rfl⟩
  obtain ⟨k, hk2⟩ : ∃ k, fromF (n + 1) = k := ⟨_, rfl⟩
  rw [hf] at hc1 hfl hc hk
  rw [hg] at hc2 hl1 hk
  rw [hk2] at hc3 hl2 hk
  obtain ⟨d, hd⟩ : ∃ d : Nat, (code : Int) - (f : Int) = (d : Int) := ⟨code - f, by omega⟩
  obtain ⟨e, he⟩ : ∃ e : Nat, (g : Int) + (d : Int) = (e : Int) := ⟨g + d, by omega⟩
  have hke : (k : Int) ≤ (e : Int) := by omega
  have hd1 : decide ((d : Int) < 0) = false := by rw [decide_eq_false_iff_not]; omega
  clear hf h hg hk2 hk
  go_enter Try.func88, Try.ntmps88
  go_wp2
  go_quiet (fail)
  go_wp2
  go_ret2
  exact ⟨rfl, below_drewN (Below.refl _ _) _⟩

theorem find_yes (b n code : Nat) (w : World) (h : HasTab w b) (hn : n ≤ 12) (hcl : code < 65536) (hc : firstF n ≤ code) (hk : fromF n + (code - firstF n) < fromF (n + 1)) :
    Calls Try.prog 88 #[.pointer (some ⟨b, 0, none⟩), .int .i64 (n : Int), .int .u16 (code : Int)] w fun e w' => e = .returned (.tuple #[.int .i64 (ord (fromF n + (code - firstF n)) : Nat), .bool true]) ∧ Below w.heap.size w w' := by
  have hc1 := cellF_first h n (by omega)
  have hc2 := cellF_from h n (by omega)
  have hc3 := cellF_from h (n + 1) (by omega)
  have hfl := first_le n (by omega)
  have hl1 := from_le n (by omega)
  have hl2 := from_le (n + 1) (by omega)
  have hc4 := cellF_order h (fromF n + (code - firstF n)) (by omega)
  obtain ⟨f, hf⟩ : ∃ f, firstF n = f := ⟨_, rfl⟩
  obtain ⟨g, hg⟩ : ∃ g, fromF n = g := ⟨_, rfl⟩
  obtain ⟨k, hk2⟩ : ∃ k, fromF (n + 1) = k := ⟨_, rfl⟩
  rw [hf, hg] at hk hc4 ⊢
  rw [hf] at hc1 hfl hc
  rw [hg] at hc2 hl1
  rw [hk2] at hc3 hl2 hk
  obtain ⟨d, hd⟩ : ∃ d : Nat, (code : Int) - (f : Int) = (d : Int) := ⟨code - f, by omega⟩
  obtain ⟨e, he⟩ : ∃ e : Nat, (g : Int) + (d : Int) = (e : Int) := ⟨g + d, by omega⟩
  rw [show g + (code - f) = e by omega] at hc4 ⊢
  have hke : (e : Int) < (k : Int) := by omega
  have hd1 : decide ((d : Int) < 0) = false := by rw [decide_eq_false_iff_not]; omega
  have he257 : e < 257 := by omega
  clear hf h hg hk2 hk
  go_enter Try.func88, Try.ntmps88
  go_wp2
  go_quiet (fail)
  go_wp2
  go_quiet (fail)
  go_wp2
  go_ret2
  exact ⟨rfl, below_drewN (below_drewN (Below.refl _ _) _) _⟩

/-- What find answers. -/
def findF (n code : Nat) : Int × Bool := match lookN n code with
  | some x => (x, true)
  | none => (0, false)

theorem find_any (b n code : Nat) (w : World) (h : HasTab w b) (hn : n ≤ 12) (hcl : code < 65536) :
    Calls Try.prog 88 #[.pointer (some ⟨b, 0, none⟩), .int .i64 (n : Int), .int .u16 (code : Int)] w fun e w' => e = .returned (.tuple #[.int .i64 (findF n code).1, .bool (findF n code).2]) ∧ Below w.heap.size w w' := by
  unfold findF lookN
  by_cases hc : firstF n ≤ code
  · by_cases hk : fromF n + (code - firstF n) < fromF (n + 1)
    · rw [if_pos ⟨hc, hk⟩]
      exact find_yes b n code w h hn hcl hc hk
    · rw [if_neg (fun x => hk x.2)]
      exact find_far b n code w h hn hcl hc (by omega)
  · rw [if_neg (fun x => hc x.1)]
    exact find_neg b n code w h hn hcl (by omega)

theorem Bits_any (n : Nat) (w : World) (hn : n < 256) :
    Calls Try.prog 87 #[.int .u8 (n : Int)] w fun e w' => e = .returned (.int .i64 (hlen n : Nat)) ∧ w = w' := by
  go_enter Try.func87, Try.ntmps87
  go_wp2_with (go_at_call 92; refine (length_any n _ (by omega)).mono ?_; rintro e w' ⟨rfl, rfl⟩)
  go_ret
  exact ⟨rfl, rfl⟩

end Go.Proofs.Ytgnoiheekgmleaa
