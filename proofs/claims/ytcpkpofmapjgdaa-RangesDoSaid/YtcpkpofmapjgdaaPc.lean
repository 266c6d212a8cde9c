/- ranges: plain laws of Covers; ranges as they come in. -/
import Derived.Test.YtcpkpofmapjgdaaPb
import Derived.Test.YtcpkpofmapjgdaaMv
import Derived.Deep.RegionHeld
import Derived.StillTailTactics
namespace Go.Proofs.Ytcpkpofmapjgdaa
open Go.ChangeShapes Go.WideShapes Go.RowKit
set_option linter.unusedVariables false

theorem covers_iff {L : List Rg} (h : OkR L) (low high : Nat) : coversR L low high = true ↔ low ≤ high ∧ ∃ r ∈ L, r.1 ≤ low ∧ high ≤ r.2 := by
  have hp := fun i r hr => place_iff L _ low h i r hr
  have hple := place_le L low
  unfold coversR
  rw [Bool.and_eq_true, decide_eq_true_iff]
  constructor
  · rintro ⟨h1, h2⟩
    refine ⟨h1, ?_⟩
    cases hq : L[placeR L low]? with
    | none => rw [hq] at h2; cases h2
    | some r =>
      rw [hq] at h2
      have h3 := of_decide_eq_true h2
      have := hp _ r hq
      exact ⟨r, List.mem_of_getElem? hq, by omega, h3⟩
  · rintro ⟨h1, r, hr, h2, h3⟩
    refine ⟨h1, ?_⟩
    obtain ⟨i, hi, e⟩ := List.getElem_of_mem hr
    have hi2 : L[i]? = some r := by rw [List.getElem?_eq_getElem hi, e]
    have h4 := hp i r hi2
    have hpi : placeR L low ≤ i := by omega
    obtain ⟨q, hq⟩ : ∃ q, L[placeR L low]? = some q := ⟨_, List.getElem?_eq_getElem (by omega)⟩
    rw [hq]
    show decide (high ≤ q.2) = true
    rw [decide_eq_true_iff]
    rcases Nat.eq_or_lt_of_le hpi with e2 | e2
    · rw [e2, hi2] at hq
      injection hq with hq
      subst hq
      exact h3
    · -- the place lies ahead of i: then its range is not above, and ranges fall
      have h5 := hp _ q hq
      have : q.1 ≤ low := by omega
      have hfall : ∀ (L : List Rg) (t : Nat), OkB t L → ∀ (a b : Nat) (x y : Rg), L[a]? = some x → L[b]? = some y → a < b → y.2 + 2 ≤ x.1 := by
        intro L
        induction L with
        | nil => intro t _ a b x y ha; simp at ha
        | cons z L ih =>
          intro t ho a b x y ha hb hab
          cases a with
          | zero =>
            simp at ha
            subst ha
            obtain ⟨b, rfl⟩ : ∃ b', b = b' + 1 := ⟨b - 1, by omega⟩
            simp at hb
            exact (OkB.below ho.2.2 y (List.mem_of_getElem? hb)).2
          | succ a =>
            obtain ⟨b, rfl⟩ : ∃ b', b = b' + 1 := ⟨b - 1, by omega⟩
            simp at ha hb
            exact ih _ ho.2.2 a b x y ha hb (by omega)
      have h6 := hfall L _ h _ _ q r hq hi2 e2
      omega
theorem has_iff {L : List Rg} (h : OkR L) (n : Nat) : coversR L n n = true ↔ hasR L n := by
  rw [covers_iff h]
  unfold hasR
  exact ⟨fun h => h.2, fun h => ⟨Nat.le_refl _, h⟩⟩

theorem merge_wide : ∀ (B : List Rg) (low high : Nat), (mergeR B low high).1 ≤ low ∧ high ≤ (mergeR B low high).2.1
  | [], _, _ => ⟨Nat.le_refl _, Nat.le_refl _⟩
  | r :: B, low, high => by
    unfold mergeR
    split
    · have := merge_wide B (min low r.1) (max high r.2)
      omega
    · exact ⟨Nat.le_refl _, Nat.le_refl _⟩
theorem put_covers : ∀ (L : List Rg) (low high : Nat), ∃ r ∈ putR L low high, r.1 ≤ low ∧ high ≤ r.2
  | [], low, high => ⟨(low, high), by unfold putR; simp, Nat.le_refl _, Nat.le_refl _⟩
  | r :: B, low, high => by
    unfold putR
    split
    · obtain ⟨q, hq, h⟩ := put_covers B low high
      exact ⟨q, List.mem_cons_of_mem _ hq, h⟩
    · have := merge_wide (r :: B) low high
      exact ⟨_, List.mem_cons_self .., this.1, this.2⟩

/-- What Add did, in plain words. -/
theorem add_spec {L : List Rg} (h : OkR L) (low high : Nat) :
    (addE L low high = 0 → low ≤ high ∧ high ≤ 4611686018427387903 ∧ addR L low high = putR L low high ∧ ∀ n, hasR (addR L low high) n ↔ (low ≤ n ∧ n ≤ high) ∨ hasR L n) ∧
    (addE L low high ≠ 0 → addR L low high = L) ∧ (addE L low high = 3 ↔ high < low ∨ 4611686018427387903 < high) ∧ (addE L low high = 4 → 200 ≤ L.length) ∧
    (addE L low high = 0 ∨ addE L low high = 3 ∨ addE L low high = 4) := by
  unfold addR
  by_cases h1 : high < low ∨ 4611686018427387903 < high
  · have e : addE L low high = 3 := by unfold addE; rw [if_pos h1]
    rw [e]
    simp [h1]
  · by_cases h2 : freshR L low high = true ∧ 200 ≤ L.length
    · have e : addE L low high = 4 := by unfold addE; rw [if_neg h1, if_pos h2]
      rw [e]
      simp [h1, h2.2]
    · have e : addE L low high = 0 := by unfold addE; rw [if_neg h1, if_neg h2]
      rw [e]
      simp only [if_true, true_implies, ne_eq, not_true, false_implies, true_and, true_or, and_true]
      refine ⟨⟨by omega, by omega, (put_spec L _ low high h (by omega) (by omega)).2⟩, ?_, ?_⟩
      · constructor
        · intro h; cases h
        · intro h; exact absurd h h1
      · intro h; cases h
theorem addR_len (L : List Rg) (low high : Nat) : (addR L low high).length ≤ L.length + 1 := by
  unfold addR
  split
  · exact (put_len L low high).1
  · omega

/-- A range of those that came in, and a set under way. -/
def ArgSt (w : World) (g o i : Nat) (r : Rg) (b : Nat) (v : Value) (L : List Rg) (x : World) : Prop :=
  (x.cell? ⟨g, o + i * 2, none⟩ = some (.int .u64 (r.1 : Int)) ∧ x.cell? ⟨g, o + i * 2 + 1, none⟩ = some (.int .u64 (r.2 : Int))) ∧ St w b v L x
theorem ArgSt.of {w : World} {g o i : Nat} {r : Rg} {b : Nat} {v : Value} {L : List Rg} (hg : g < w.heap.size) (hc : w.cell? ⟨g, o + i * 2, none⟩ = some (.int .u64 (r.1 : Int)) ∧ w.cell? ⟨g, o + i * 2 + 1, none⟩ = some (.int .u64 (r.2 : Int))) {x : World} (h : St w b v L x) :
    ArgSt w g o i r b v L x :=
  ⟨⟨(h.bel.cell (p := ⟨g, o + i * 2, none⟩) hg).trans hc.1, (h.bel.cell (p := ⟨g, o + i * 2 + 1, none⟩) hg).trans hc.2⟩, h⟩
theorem St.drew {w0 w : World} {b : Nat} {v : Value} {L : List Rg} (h : St w0 b v L w) : St w0 b v L w.drew := h.next (Below.drew2 (Below.refl _ _))
theorem St.drewN {w0 w : World} {b : Nat} {v : Value} {L : List Rg} (h : St w0 b v L w) (k : Nat) : St w0 b v L (w.drewN k) := h.next ⟨rfl, rfl, rfl, Nat.le_refl _, fun _ _ => rfl⟩

/-- Ranges that came in. -/
def RgAt (w : World) (p : Option Addr) (rs : List Rg) : Prop :=
  0 < rs.length → ∃ g o, p = some ⟨g, o, none⟩ ∧ g < w.heap.size ∧ ∀ i r, rs[i]? = some r → (w.cell? ⟨g, o + i * 2, none⟩ = some (.int .u64 (r.1 : Int)) ∧ w.cell? ⟨g, o + i * 2 + 1, none⟩ = some (.int .u64 (r.2 : Int))) ∧ r.1 < 18446744073709551616 ∧ r.2 < 18446744073709551616

section
variable {H : Type} {enc : TypeId × Value → H} {w : World} {base : Nat} {spare : Nat → Bool} {held : Bool}

theorem ranges_view {a : Option Addr} {len cap : Nat} {fuel : Nat} {x : DataW H × List MemPlace} (h : DataW.trod enc Try.prog w base spare held fuel 25 [.slice a len cap] = some x) :
    ∃ rs : List Rg, rs.length = len ∧ RgAt w a rs ∧ len ≤ maxLen := by
  obtain ⟨hm, hv⟩ := rows_view (C := 2) Try.underlying25 (by kernel_rfl) (by omega) h
  rcases Nat.eq_zero_or_pos len with h0 | h0
  · subst h0
    exact ⟨[], rfl, fun h => by simp at h, hm⟩
  · obtain ⟨g, o, n, rfl, hg, hi⟩ := hv h0
    obtain ⟨rs, hl, hp⟩ := list_of (α := Rg) (p := fun i r => (w.cell? ⟨g, o + i * 2, none⟩ = some (.int .u64 (r.1 : Int)) ∧ w.cell? ⟨g, o + i * 2 + 1, none⟩ = some (.int .u64 (r.2 : Int))) ∧ r.1 < 18446744073709551616 ∧ r.2 < 18446744073709551616) (n := len) (by
      intro i hil
      obtain ⟨cs, y, h1, h2, h3⟩ := hi i hil
      match cs, h1 with
      | [c0, c1], _ =>
        obtain ⟨_, _, z0⟩ := field_one Try.underlying45 h3 0 _ c0 rfl rfl (by kernel_rfl) rfl
        obtain ⟨_, _, z1⟩ := field_one Try.underlying45 h3 1 _ c1 rfl rfl (by kernel_rfl) rfl
        obtain ⟨n0, e0, _, f0⟩ := DataW.trod_int Try.underlying23 z0
        obtain ⟨n1, e1, _, f1⟩ := DataW.trod_int Try.underlying23 z1
        obtain ⟨k0, rfl, b0⟩ := nat_of_u64 f0
        obtain ⟨k1, rfl, b1⟩ := nat_of_u64 f1
        simp at e0 e1
        subst e0
        subst e1
        exact ⟨(k0, k1), ⟨h2 0 _ rfl, h2 1 _ rfl⟩, b0, b1⟩)
    exact ⟨rs, hl, fun _ => ⟨g, o, rfl, hg, hp⟩, hm⟩
end

end Go.Proofs.Ytcpkpofmapjgdaa
