/- ranges: acts, and pairs of bytes, as they come in. -/
import Derived.Test.YtcpkpofmapjgdaaPf
namespace Go.Proofs.Ytcpkpofmapjgdaa
open Go.ChangeShapes Go.WideShapes Go.RowKit
set_option linter.unusedVariables false

structure Act1 where
  kind : Int
  lo : Nat
  hi : Nat
/-- Acts that came in. -/
def ActsAt (w : World) (p : Option Addr) (xs : List Act1) : Prop :=
  0 < xs.length → ∃ g o, p = some ⟨g, o, none⟩ ∧ g < w.heap.size ∧ ∀ i a, xs[i]? = some a → (w.cell? ⟨g, o + i * 3, none⟩ = some (.int .i64 a.kind) ∧ w.cell? ⟨g, o + i * 3 + 1, none⟩ = some (.int .u64 (a.lo : Int)) ∧ w.cell? ⟨g, o + i * 3 + 2, none⟩ = some (.int .u64 (a.hi : Int))) ∧ a.lo < 18446744073709551616 ∧ a.hi < 18446744073709551616
/-- Pairs of bytes that came in. -/
def PairsAt (w : World) (p : Option Addr) (xs : List Rg) : Prop :=
  0 < xs.length → ∃ g o, p = some ⟨g, o, none⟩ ∧ g < w.heap.size ∧ ∀ i a, xs[i]? = some a → (w.cell? ⟨g, o + i * 2, none⟩ = some (.int .u8 (a.1 : Int)) ∧ w.cell? ⟨g, o + i * 2 + 1, none⟩ = some (.int .u8 (a.2 : Int))) ∧ a.1 < 256 ∧ a.2 < 256

section
variable {H : Type} {enc : TypeId × Value → H} {P : Program} {w : World} {base : Nat} {spare : Nat → Bool} {held : Bool}

theorem trod_array2 {t e : TypeId} {fuel : Nat} {c0 c1 : Value} {x : DataW H × List MemPlace} (ht : P.underlying t = some (.array 2 e)) (hce : P.cellsOf e = 1)
    (h : DataW.trod enc P w base spare held fuel t [c0, c1] = some x) :
    ∃ y0 y1 n, DataW.trod enc P w base spare held n e [c0] = some y0 ∧ DataW.trod enc P w base spare held n e [c1] = some y1 := by
  cases fuel with
  | zero => simp [DataW.trod] at h
  | succ n =>
    unfold DataW.trod at h
    rw [ht] at h
    have r2 : List.range 2 = [0, 1] := rfl
    simp [r2, hce] at h
    obtain ⟨_, h⟩ := h
    cases h0 : DataW.trod enc P w base spare held n e [c0] with
    | none => simp [h0] at h
    | some y0 =>
      cases h1 : DataW.trod enc P w base spare held n e [c1] with
      | none => simp [h0, h1] at h
      | some y1 => exact ⟨y0, y1, n, h0, h1⟩
theorem nat_of_u8 {x : Int} (h : (Lit.int .u8 x).wf = true) : ∃ n : Nat, x = (n : Int) ∧ n < 256 := by
  have := bounds_u8 h
  obtain ⟨n, rfl⟩ := Int.eq_ofNat_of_zero_le this.1
  exact ⟨n, rfl, by omega⟩

theorem acts_view {a : Option Addr} {len cap : Nat} {fuel : Nat} {x : DataW H × List MemPlace} (h : DataW.trod enc Try.prog w base spare held fuel 22 [.slice a len cap] = some x) :
    ∃ xs : List Act1, xs.length = len ∧ ActsAt w a xs ∧ len ≤ maxLen := by
  obtain ⟨hm, hv⟩ := rows_view (C := 3) Try.underlying22 (by kernel_rfl) (by omega) h
  rcases Nat.eq_zero_or_pos len with h0 | h0
  · subst h0
    exact ⟨[], rfl, fun h => by simp at h, hm⟩
  · obtain ⟨g, o, n, rfl, hg, hi⟩ := hv h0
    obtain ⟨xs, hl, hp⟩ := list_of (p := fun i (a : Act1) => (w.cell? ⟨g, o + i * 3, none⟩ = some (.int .i64 a.kind) ∧ w.cell? ⟨g, o + i * 3 + 1, none⟩ = some (.int .u64 (a.lo : Int)) ∧ w.cell? ⟨g, o + i * 3 + 2, none⟩ = some (.int .u64 (a.hi : Int))) ∧ a.lo < 18446744073709551616 ∧ a.hi < 18446744073709551616) (n := len) (by
      intro i hil
      obtain ⟨cs, y, h1, h2, h3⟩ := hi i hil
      match cs, h1 with
      | [c0, c1, c2], _ =>
        obtain ⟨_, _, z0⟩ := field_one Try.underlying32 h3 0 _ c0 rfl rfl (by kernel_rfl) rfl
        obtain ⟨_, _, z1⟩ := field_one Try.underlying32 h3 1 _ c1 rfl rfl (by kernel_rfl) rfl
        obtain ⟨_, _, z2⟩ := field_one Try.underlying32 h3 2 _ c2 rfl rfl (by kernel_rfl) rfl
        obtain ⟨n0, e0, _, f0⟩ := DataW.trod_int Try.underlying3 z0
        obtain ⟨n1, e1, _, f1⟩ := DataW.trod_int Try.underlying23 z1
        obtain ⟨n2, e2, _, f2⟩ := DataW.trod_int Try.underlying23 z2
        obtain ⟨k1, rfl, b1⟩ := nat_of_u64 f1
        obtain ⟨k2, rfl, b2⟩ := nat_of_u64 f2
        simp at e0 e1 e2
        subst e0
        subst e1
        subst e2
        exact ⟨⟨n0, k1, k2⟩, ⟨h2 0 _ rfl, h2 1 _ rfl, h2 2 _ rfl⟩, b1, b2⟩)
    exact ⟨xs, hl, fun _ => ⟨g, o, rfl, hg, hp⟩, hm⟩

theorem pairs_view {a : Option Addr} {len cap : Nat} {fuel : Nat} {x : DataW H × List MemPlace} (h : DataW.trod enc Try.prog w base spare held fuel 51 [.slice a len cap] = some x) :
    ∃ xs : List Rg, xs.length = len ∧ PairsAt w a xs ∧ len ≤ maxLen := by
  obtain ⟨hm, hv⟩ := rows_view (C := 2) Try.underlying51 (by kernel_rfl) (by omega) h
  rcases Nat.eq_zero_or_pos len with h0 | h0
  · subst h0
    exact ⟨[], rfl, fun h => by simp at h, hm⟩
  · obtain ⟨g, o, n, rfl, hg, hi⟩ := hv h0
    obtain ⟨xs, hl, hp⟩ := list_of (α := Rg) (p := fun i a => (w.cell? ⟨g, o + i * 2, none⟩ = some (.int .u8 (a.1 : Int)) ∧ w.cell? ⟨g, o + i * 2 + 1, none⟩ = some (.int .u8 (a.2 : Int))) ∧ a.1 < 256 ∧ a.2 < 256) (n := len) (by
      intro i hil
      obtain ⟨cs, y, h1, h2, h3⟩ := hi i hil
      match cs, h1 with
      | [c0, c1], _ =>
        obtain ⟨y0, y1, m, z0, z1⟩ := trod_array2 Try.underlying52 (by kernel_rfl) h3
        obtain ⟨n0, e0, _, f0⟩ := DataW.trod_int Try.underlying5 z0
        obtain ⟨n1, e1, _, f1⟩ := DataW.trod_int Try.underlying5 z1
        obtain ⟨k0, rfl, b0⟩ := nat_of_u8 f0
        obtain ⟨k1, rfl, b1⟩ := nat_of_u8 f1
        simp at e0 e1
        subst e0
        subst e1
        exact ⟨(k0, k1), ⟨h2 0 _ rfl, h2 1 _ rfl⟩, b0, b1⟩)
    exact ⟨xs, hl, fun _ => ⟨g, o, rfl, hg, hp⟩, hm⟩
end

end Go.Proofs.Ytcpkpofmapjgdaa
