/- ranges: what is let go, place by place. Plain. -/
import Derived.Test.YtcpkpofmapjgdaaNp
namespace Go.Proofs.Ytcpkpofmapjgdaa
set_option linter.unusedVariables false

/-- How many ranges are kept. -/
def keepN : List Rg → Nat → Nat
  | [], _ => 0
  | r :: L, n => if r.2 < n then 0 else keepN L n + 1
theorem keep_le : ∀ (L : List Rg) (n : Nat), keepN L n ≤ L.length
  | [], n => Nat.le_refl _
  | r :: L, n => by
    unfold keepN
    have := keep_le L n
    split <;> simp <;> omega
theorem drop_len : ∀ (L : List Rg) (n : Nat), (dropR L n).length = keepN L n
  | [], n => rfl
  | r :: L, n => by
    unfold dropR keepN
    have := drop_len L n
    split
    · rfl
    · simp [this]
theorem keep_iff : ∀ (L : List Rg) (t n : Nat), OkB t L → ∀ i r, L[i]? = some r → (r.2 < n ↔ keepN L n ≤ i)
  | [], t, n, _, i, r, hr => by simp at hr
  | q :: L, t, n, h, i, r, hr => by
    unfold keepN
    cases i with
    | zero =>
      simp at hr
      subst hr
      by_cases hc : q.2 < n
      · rw [if_pos hc]; constructor <;> intro <;> omega
      · rw [if_neg hc]; constructor <;> intro <;> omega
    | succ i =>
      simp only [List.getElem?_cons_succ] at hr
      by_cases hc : q.2 < n
      · rw [if_pos hc]
        have := OkB.below h.2.2 r (List.mem_of_getElem? hr)
        have := h.1
        omega
      · rw [if_neg hc]
        have := keep_iff L q.1 n h.2.2 i r hr
        omega
/-- All but the last that is kept are as they were; the last one's lowest number isn't below. -/
theorem drop_at : ∀ (L : List Rg) (t n : Nat), OkB t L → ∀ i r, L[i]? = some r → i < keepN L n → (dropR L n)[i]? = some (if i + 1 = keepN L n then max r.1 n else r.1, r.2)
  | [], t, n, _, i, r, hr, _ => by simp at hr
  | q :: L, t, n, h, i, r, hr, hk => by
    unfold keepN at hk ⊢
    unfold dropR
    by_cases hc : q.2 < n
    · rw [if_pos hc] at hk; omega
    · rw [if_neg hc] at hk ⊢
      rw [if_neg hc]
      cases i with
      | zero =>
        simp at hr
        subst hr
        simp only [List.getElem?_cons_zero, Option.some.injEq, Prod.mk.injEq, and_true]
        by_cases h0 : keepN L n = 0
        · rw [if_pos (by omega)]
        · rw [if_neg (by omega)]
          have hl := keep_le L n
          have hl0 : 0 < L.length := by omega
          obtain ⟨s, hs⟩ : ∃ s, L[0]? = some s := ⟨_, List.getElem?_eq_getElem hl0⟩
          have h1 := keep_iff L q.1 n h.2.2 0 s hs
          have h2 := OkB.below h.2.2 s (List.mem_of_getElem? hs)
          omega
      | succ i =>
        simp only [List.getElem?_cons_succ] at hr ⊢
        rw [drop_at L q.1 n h.2.2 i r hr (by omega)]
        by_cases h0 : i + 1 = keepN L n
        · rw [if_pos h0, if_pos (by omega)]
        · rw [if_neg h0, if_neg (by omega)]

end Go.Proofs.Ytcpkpofmapjgdaa
