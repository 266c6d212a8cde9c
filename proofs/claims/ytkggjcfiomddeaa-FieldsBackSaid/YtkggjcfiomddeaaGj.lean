/- fields: lists of lists of fields, as they come in. -/
import Derived.Test.YtkggjcfiomddeaaGi
namespace Go.Proofs.Ytkggjcfiomddeaa
open Go.ChangeShapes Go.WideShapes Go.RowKit
set_option linter.unusedVariables false
set_option linter.unusedSimpArgs false

/-- A list within a list: where it lies, its room, its fields. -/
structure In1 where
  p : Option Addr
  cap : Nat
  L : List Fl

def InLl (w : World) (p : Option Addr) (X : List In1) : Prop :=
  (0 < X.length → ∃ g o, p = some ⟨g, o, none⟩ ∧ g < w.heap.size ∧ ∀ (i : Nat) x, X[i]? = some x → w.cell? ⟨g, o + i, none⟩ = some (.slice x.p x.L.length x.cap)) ∧ (∀ x ∈ X, InFl w x.p x.L) ∧ X.length ≤ maxLen

theorem InLl.below {w w' : World} {p : Option Addr} {X : List In1} (h : InLl w p X) (hb : Below w.heap.size w w') : InLl w' p X := by
  refine ⟨fun hl => ?_, fun x hx => (h.2.1 x hx).below hb, h.2.2⟩
  obtain ⟨g, o, e, hg, hc⟩ := h.1 hl
  exact ⟨g, o, e, Nat.lt_of_lt_of_le hg hb.size, fun i x hx => (hb.cell (p := ⟨g, o + i, none⟩) hg).trans (hc i x hx)⟩

section
variable {H : Type} {enc : TypeId × Value → H} {w : World} {base : Nat} {spare : Nat → Bool} {held : Bool}

theorem lists_view {a : Option Addr} {len cap : Nat} {fuel : Nat} {x : DataW H × List MemPlace} (h : DataW.trod enc Try.prog w base spare held fuel 34 [.slice a len cap] = some x) :
    ∃ X : List In1, X.length = len ∧ InLl w a X := by
  obtain ⟨hm, hv⟩ := rows_view (C := 1) Try.underlying34 (by kernel_rfl) (by omega) h
  rcases Nat.eq_zero_or_pos len with h0 | h0
  · subst h0
    exact ⟨[], rfl, fun h => by simp at h, fun f hf => (by cases hf), Nat.zero_le _⟩
  · obtain ⟨g, o, n, rfl, hg, hi⟩ := hv h0
    obtain ⟨X, hl, hp⟩ := list_of (α := In1) (p := fun i x => w.cell? ⟨g, o + i, none⟩ = some (.slice x.p x.L.length x.cap) ∧ InFl w x.p x.L) (n := len) (by
      intro i hil
      obtain ⟨cs, y, h1, h2, h3⟩ := hi i hil
      match cs, h1 with
      | [c0], _ =>
        have hc := h2 0 c0 rfl
        rw [Nat.mul_one, Nat.add_zero] at hc
        rcases DataW.trod_slice Try.underlying30 h3 with ⟨hcs, _⟩ | ⟨A, l, c, elems, rest, n2, _, hcs, _⟩
        · simp at hcs
          subst hcs
          exact ⟨⟨none, 0, []⟩, hc, fun h => by simp at h, fun f hf => (by cases hf), Nat.zero_le _, fun g o h => by simp at h⟩
        · simp at hcs
          subst hcs
          obtain ⟨L, hL, hF⟩ := fields_view h3
          exact ⟨⟨some A, c, L⟩, by rw [hL]; exact hc, hF⟩)
    refine ⟨X, hl, fun _ => ⟨g, o, rfl, hg, fun i x hx => (hp i x hx).1⟩, fun x hx => ?_, by rw [hl]; exact hm⟩
    obtain ⟨i, hi', rfl⟩ := List.getElem_of_mem hx
    exact (hp i _ (List.getElem?_eq_getElem hi')).2
end

end Go.Proofs.Ytkggjcfiomddeaa
