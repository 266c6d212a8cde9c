/- fields: the reference's Take in plain words: it takes off just what ours does. -/
import Derived.Test.YtkggjcfiomddeaaGa
namespace Go.Proofs.Ytkggjcfiomddeaa
open Go.ChangeShapes Go.WideShapes Go.RowKit
set_option linter.unusedVariables false
set_option linter.unusedSimpArgs false

/-- The bytes that follow, as they stand: the number, and how many. -/
def rG : Nat → Nat → Nat → List UInt8 → Option (Nat × Nat)
  | 0, _, _, _ => none
  | _ + 1, _, _, [] => none
  | k + 1, i, n, b :: r => if b.toNat < 128 then some (n + b.toNat % 128 * 128 ^ i, i + 1) else rG k (i + 1) (n + b.toNat % 128 * 128 ^ i) r

def chkF (l : List UInt8) (k high n c : Nat) : Nat × List UInt8 × Bool :=
  if 4294967296 < n ∨ numberF n k high ≠ l.take c then (0, [], false) else (n, l.drop c, true)
def rTakeF (l : List UInt8) (k : Nat) : Nat × List UInt8 × Bool :=
  match l with
  | [] => (0, [], false)
  | b :: r => if b.toNat % 2 ^ k < 2 ^ k - 1 then chkF (b :: r) k (b.toNat - b.toNat % 2 ^ k) (b.toNat % 2 ^ k) 1
    else match rG 9 0 0 r with
      | none => (0, [], false)
      | some (v, c) => chkF (b :: r) k (b.toNat - b.toNat % 2 ^ k) (2 ^ k - 1 + v) (c + 1)

/-- What the bytes that follow are worth: by places behind i. -/
theorem rG_spec : ∀ (k i n : Nat) (r : List UInt8) (v c : Nat), rG k i n r = some (v, c) →
    ∃ t d, v = n + 128 ^ i * t ∧ c = i + d ∧ 1 ≤ d ∧ d ≤ r.length ∧ (moreG k i n r = (v, r.drop d, (decide (i = 0) && decide (d = 1)) || decide ((r.getD (d - 1) 0).toNat ≠ 0))) ∧
      (tailF t = r.take d ↔ (d = 1 ∨ (r.getD (d - 1) 0).toNat ≠ 0)) ∧ (t = 0 → (r.getD (d - 1) 0).toNat = 0)
  | 0, i, n, r, v, c, h => by simp [rG] at h
  | k + 1, i, n, [], v, c, h => by simp [rG] at h
  | k + 1, i, n, b :: r, v, c, h => by
    unfold rG at h
    have hb8 : b.toNat < 256 := UInt8.toNat_lt b
    by_cases hb : b.toNat < 128
    · rw [if_pos hb] at h
      injection h with h
      injection h with h1 h2
      have hm : b.toNat % 128 = b.toNat := Nat.mod_eq_of_lt hb
      refine ⟨b.toNat, 1, by rw [← h1, hm, Nat.mul_comm], h2.symm, by omega, by simp, ?_, ?_, ?_⟩
      · rw [moreG, if_pos hb, h1]
        simp
      · rw [tailF_small _ hb]
        simp
      · intro h0
        simpa using h0
    · rw [if_neg hb] at h
      obtain ⟨t, d, e1, e2, e3, e4, e5, e6, e7⟩ := rG_spec k (i + 1) (n + b.toNat % 128 * 128 ^ i) r v c h
      have hget : (b :: r).getD (d + 1 - 1) 0 = r.getD (d - 1) 0 := by
        obtain ⟨d', rfl⟩ : ∃ d', d = d' + 1 := ⟨d - 1, by omega⟩
        simp
      refine ⟨b.toNat % 128 + 128 * t, d + 1, ?_, by omega, by omega, by simp; omega, ?_, ?_, ?_⟩
      · rw [e1, Nat.pow_succ, Nat.mul_add, Nat.mul_comm (b.toNat % 128), Nat.mul_assoc, ← Nat.add_assoc]
      · rw [moreG, if_neg hb, e5, hget]
        simp only [List.drop_succ_cons]
        have h2 : ¬ (d + 1 = 1) := by omega
        have a1 : (decide (i + 1 = 0) && decide (d = 1)) = false := by simp
        have a2 : (decide (i = 0) && decide (d + 1 = 1)) = false := by rw [decide_eq_false h2, Bool.and_false]
        rw [a1, a2]
      · rw [hget]
        have hmod : b.toNat % 128 < 128 := Nat.mod_lt _ (by omega)
        by_cases ht : t = 0
        · have h0 := e7 ht
          rw [ht, Nat.mul_zero, Nat.add_zero, tailF_small _ hmod, h0]
          constructor
          · intro h
            have := congrArg List.length h
            rw [List.length_take, List.length_cons, List.length_cons, List.length_nil] at this
            omega
          · rintro (h | h)
            · omega
            · exact absurd rfl h
        · rw [tailF_big _ (by omega), List.take_succ_cons]
          have q1 : (b.toNat % 128 + 128 * t) % 128 + 128 = b.toNat := by omega
          have q2 : (b.toNat % 128 + 128 * t) / 128 = t := by omega
          rw [q1, q2]
          have q3 : UInt8.ofNat b.toNat = b := by simp
          rw [q3]
          constructor
          · intro h
            injection h with _ hh
            rcases e6.1 hh with h | h
            · refine .inr ?_
              intro h0
              subst h
              have hs : r.take 1 = [r.getD 0 0] := by
                cases r with
                | nil => simp at e4
                | cons a r => simp
              rw [hs] at hh
              have ht8 : t < 128 := by
                by_cases h8 : t < 128
                · exact h8
                · rw [tailF_big t h8] at hh
                  have := congrArg List.length hh
                  simp at this
                  rw [tailF] at this
                  split at this <;> simp at this
              rw [tailF_small t ht8] at hh
              injection hh with hh _
              have hh2 : t = (r.getD 0 0).toNat := by
                rw [← hh]
                simp only [UInt8.toNat_ofNat']
                omega
              exact ht (hh2.trans h0)
            · exact .inr h
          · rintro (h | h)
            · omega
            · rw [e6.2 (.inr h)]
      · intro h0
        rw [hget]
        exact e7 (by omega)

theorem rG_none : ∀ (k i n : Nat) (r : List UInt8), rG k i n r = none → moreG k i n r = (0, [], false)
  | 0, i, n, r, h => by simp [moreG]
  | k + 1, i, n, [], h => by simp [moreG]
  | k + 1, i, n, b :: r, h => by
    unfold rG at h
    rw [moreG]
    by_cases hb : b.toNat < 128
    · rw [if_pos hb] at h; cases h
    · rw [if_neg hb] at h ⊢
      exact rG_none k (i + 1) _ r h

theorem sub_mod (x k : Nat) : (x - x % 2 ^ k) % 2 ^ k = 0 := by
  have h := Nat.div_add_mod x (2 ^ k)
  have e : x - x % 2 ^ k = 2 ^ k * (x / 2 ^ k) := by omega
  rw [e]
  exact Nat.mul_mod_right _ _

theorem rTake_eq (l : List UInt8) (k : Nat) (hk : 1 ≤ k ∧ k ≤ 8) : rTakeF l k = takeF l k := by
  cases l with
  | nil => rfl
  | cons b r =>
    have hb8 : b.toNat < 256 := UInt8.toNat_lt b
    obtain ⟨f1, f2⟩ := full_facts k hk
    have hmod : b.toNat % 2 ^ k < 2 ^ k := Nat.mod_lt _ (by omega)
    have hle := Nat.mod_le b.toNat (2 ^ k)
    have hsm := sub_mod b.toNat k
    unfold rTakeF takeF
    simp only
    by_cases hlt : b.toNat % 2 ^ k < 2 ^ k - 1
    · rw [if_pos hlt, if_pos hlt]
      unfold chkF
      have e : numberF (b.toNat % 2 ^ k) k (b.toNat - b.toNat % 2 ^ k) = [b] := by
        unfold numberF
        rw [if_pos hlt, high_or _ _ k hsm hmod]
        rw [show b.toNat - b.toNat % 2 ^ k + b.toNat % 2 ^ k = b.toNat by omega]
        simp
      rw [if_neg]
      · rfl
      · rintro (h | h)
        · omega
        · exact h (by rw [e]; rfl)
    · rw [if_neg hlt, if_neg hlt]
      cases hr : rG 9 0 0 r with
      | none =>
        have := rG_none 9 0 0 r hr
        have hm : moreF r = (0, [], false) := this
        rw [hm]
        simp
      | some vc =>
        obtain ⟨v, c⟩ := vc
        obtain ⟨t, d, e1, e2, e3, e4, e5, e6, e7⟩ := rG_spec 9 0 0 r v c hr
        rw [Nat.zero_add] at e1 e2
        rw [Nat.pow_zero, Nat.one_mul] at e1
        subst e1 e2
        have hm : moreF r = (v, r.drop c, (decide (0 = 0) && decide (c = 1)) || decide ((r.getD (c - 1) 0).toNat ≠ 0)) := e5
        have hiff : ((decide (0 = 0) && decide (c = 1)) || decide ((r.getD (c - 1) 0).toNat ≠ 0)) = true ↔ tailF v = r.take c := by
          rw [e6]
          simp
        generalize ((decide (0 = 0) && decide (c = 1)) || decide ((r.getD (c - 1) 0).toNat ≠ 0)) = fl at hm hiff
        rw [hm]
        simp only
        unfold chkF
        have hF : b.toNat % 2 ^ k = 2 ^ k - 1 := by omega
        have e : numberF (2 ^ k - 1 + v) k (b.toNat - b.toNat % 2 ^ k) = b :: tailF v := by
          unfold numberF
          rw [if_neg (by omega), high_or _ _ k hsm (by omega)]
          rw [show b.toNat - b.toNat % 2 ^ k + (2 ^ k - 1) = b.toNat by omega, show 2 ^ k - 1 + v - (2 ^ k - 1) = v by omega]
          simp
        rw [e, List.take_succ_cons, List.drop_succ_cons]
        by_cases hcan : tailF v = r.take c
        · rw [hiff.2 hcan]
          by_cases hbig : 4294967296 < 2 ^ k - 1 + v
          · rw [if_pos (.inl hbig), if_pos (.inr (by omega))]
          · rw [if_neg, if_neg]
            · rintro (h | h)
              · cases h
              · omega
            · rintro (h | h)
              · exact hbig h
              · exact h (by rw [hcan])
        · have hf : fl = false := by
            cases hh : fl
            · rfl
            · exact absurd (hiff.1 hh) hcan
          have hne : b :: tailF v ≠ b :: r.take c := by
            intro h
            injection h with _ h
            exact hcan h
          rw [hf, if_pos (.inr hne), if_pos (.inl rfl)]

end Go.Proofs.Ytkggjcfiomddeaa
