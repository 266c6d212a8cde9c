/- ranges: clear of a row's tail; a row's beginning is a row. No program in sight. -/
import Derived.Test.YtcpkpofmapjgdaaMa
import Derived.Lib.SliceRun
namespace Go.Proofs.Ytcpkpofmapjgdaa
open Go.ChangeShapes Go.WideShapes Go.RowKit
set_option linter.unusedVariables false

theorem run_clear_any {P : Program} (w : World) (t e ty : TypeId) (z : Value) (ht : P.underlying t = some (.slice e)) (hv : ∀ w, (zeroValue e).run P w = .ok z w) (b o n c : Nat) (hn : 0 < n)
    (h1 : ∀ v ∈ (Builtin.zeroCells z.cells n).toList, v.oneCell' = true)
    (hc : ∀ j, j < (Builtin.zeroCells z.cells n).toList.length → (w.cell? ⟨b, o + j, none⟩).isSome = true) (hf : ∀ j, j < (Builtin.zeroCells z.cells n).toList.length → w.frozen? ⟨b, o + j, none⟩ = false) :
    (Builtin.clear_ #[t] ty #[.slice (some ⟨b, o, none⟩) n c]).run P w = .ok (.tuple #[]) (w.setCells b o (Builtin.zeroCells z.cells n).toList) := by
  have hst := run_storeCells_cells (P := P) b o (Builtin.zeroCells z.cells n).toList 0 w hc hf h1
  simp only [Nat.add_zero] at hst
  obtain ⟨m, rfl⟩ : ∃ m, n = m + 1 := ⟨n - 1, by omega⟩
  simp [Builtin.clear_, run_underlying ht, hv, hst]

/-- A row's beginning is a row: the slice that is cut off behind it. -/
theorem own_prefix {w : World} {base : Nat} {e : TypeId} {size : Nat} {p : Option Addr} {n cap : Nat} {xs : List Value} (h : w.ownsRow base e size (.slice p n cap) n xs) (k : Nat) (hk : k ≤ n) :
    w.ownsRow base e size (.slice p k cap) k (xs.take (k * size)) := by
  obtain ⟨h0, h⟩ := h
  have hm : k * size ≤ n * size := Nat.mul_le_mul_right _ hk
  refine ⟨by rw [List.length_take]; omega, ?_⟩
  rcases h with ⟨hv, hn⟩ | ⟨g, c2, cur, hv, h1, h2, h3, h4, h5, h6⟩
  · injection hv with e1 e2 e3
    subst e1 e3
    left
    have : k = 0 := by omega
    subst this
    exact ⟨rfl, rfl⟩
  · injection hv with e1 e2 e3
    subst e1 e3
    refine .inr ⟨g, cap, cur, rfl, h1, h2, by omega, h4, h5, ?_⟩
    rw [← h6, List.take_take]
    congr 1
    omega

/-- Cells that are written from o on: what lies ahead of o is as it was. -/
theorem setCells_block (g : Nat) (T : TypeId) : ∀ (vs : List Value) (o : Nat) (w : World) (cur : Array Value), w.heap[g]? = some (.cells cur T (0, 0)) →
    ∃ cur', (w.setCells g o vs).heap[g]? = some (.cells cur' T (0, 0)) ∧ cur'.size = cur.size ∧ ∀ k, k ≤ o → cur'.toList.take k = cur.toList.take k
  | [], o, w, cur, h => ⟨cur, h, rfl, fun _ _ => rfl⟩
  | v :: vs, o, w, cur, h => by
    have h1 := heap_setCell_same w g o cur T v h
    obtain ⟨cur', k1, k2, k3⟩ := setCells_block g T vs (o + 1) (w.setCell ⟨g, o, none⟩ v) _ h1
    refine ⟨cur', k1, by rw [k2]; simp, fun k hk => ?_⟩
    rw [k3 k (by omega)]
    simp only [Array.toList_setIfInBounds]
    rw [List.take_set_of_le hk]
theorem setCells_only (g : Nat) : ∀ (vs : List Value) (o : Nat) (w : World), Only (fun k => k = g) w (w.setCells g o vs)
  | [], o, w => Only.refl _ _
  | v :: vs, o, w => (Only.setCell (S := fun k => k = g) (p := ⟨g, o, none⟩) (Only.refl _ w) (.inl rfl) v).trans (setCells_only g vs (o + 1) _)

/-- A row's beginning, when what lies behind it was written. -/
theorem own_setCells {w : World} {base : Nat} {e : TypeId} {size : Nat} {g n cap : Nat} {xs : List Value} (h : w.ownsRow base e size (.slice (some ⟨g, 0, none⟩) n cap) n xs) (vs : List Value) (o : Nat) (ho : n * size ≤ o) :
    (w.setCells g o vs).ownsRow base e size (.slice (some ⟨g, 0, none⟩) n cap) n xs := by
  obtain ⟨h0, h⟩ := h
  refine ⟨h0, ?_⟩
  rcases h with ⟨hv, hn⟩ | ⟨g2, c2, cur, hv, h1, h2, h3, h4, h5, h6⟩
  · cases hv
  · injection hv with e1 e2 e3
    injection e1 with e1
    injection e1 with e1
    subst e1 e3
    obtain ⟨cur', k1, k2, k3⟩ := setCells_block g e vs o w cur h2
    exact .inr ⟨g, cap, cur', rfl, h1, k1, h3, h4, by rw [k2, h5], by rw [k3 _ ho, h6]⟩

end Go.Proofs.Ytcpkpofmapjgdaa
