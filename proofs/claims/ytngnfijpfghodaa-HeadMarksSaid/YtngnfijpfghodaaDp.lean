/- Plain laws of a datagram's parts. -/
import Derived.Test.YtngnfijpfghodaaDg
namespace Go.Proofs.Ytngnfijpfghodaa
open Go.RowKit
set_option linter.unusedVariables false

/-- A step of a reader: it goes on from what it was, and never turns good again. -/
def Goes (r r' : Rd) : Prop := (r'.bad = false → r.bad = false) ∧ r'.s.length ≤ r.s.length

theorem Goes.refl (r : Rd) : Goes r r := ⟨id, Nat.le_refl _⟩
theorem Goes.trans {a b c : Rd} (h : Goes a b) (k : Goes b c) : Goes a c := ⟨fun e => h.1 (k.1 e), Nat.le_trans k.2 h.2⟩
theorem take_bad' (r : Rd) (n : Int) (h : r.bad = true) : (r.take n).2.bad = true := by
  unfold Rd.take
  rw [if_pos (.inl h)]
theorem goes_take (r : Rd) (n : Int) : Goes r (r.take n).2 := by
  refine ⟨?_, take_len r n⟩
  intro h
  cases hb : r.bad
  · rfl
  · rw [take_bad' r n hb] at h
    cases h
theorem goes_must (r : Rd) (c : Bool) : Goes r (r.must c) := ⟨fun h => by unfold Rd.must at h; simp only [Bool.or_eq_false_iff] at h; exact h.1, Nat.le_refl _⟩
theorem goes_one (r : Rd) : Goes r r.one.2 := goes_take r 1
theorem goes_cid (r : Rd) : Goes r r.cid.2 := (goes_one r).trans ((goes_must _ _).trans (goes_take _ _))
theorem goes_size (r : Rd) : Goes r r.size.2 := by
  unfold Rd.size
  split
  · exact ⟨fun h => by simp at h, Nat.le_refl _⟩
  · rename_i h
    simp only [Bool.or_eq_true, Bool.not_eq_true', Bool.and_eq_false_iff, not_or, decide_eq_false_iff_not, Decidable.not_not, Bool.not_eq_true] at h
    exact ⟨fun _ => h.1, takeL_rest _⟩
theorem goes_o1 (r : Rd) : Goes r.one.2 (o1 r) := goes_must _ _
theorem goes_o2 (r : Rd) : Goes r.one.2 (o2 r) := (goes_o1 r).trans ((goes_take _ _).trans (goes_must _ _))
theorem goes_o5 (r : Rd) : Goes r.one.2 (o5 r) := by
  have h : Goes r.one.2 (o2 r).cid.2.cid.2 := (goes_o2 r).trans ((goes_cid _).trans (goes_cid _))
  unfold o5
  split
  · exact h.trans ((goes_one _).trans (goes_must _ _))
  · exact h
theorem goes_open (r : Rd) : Goes r.one.2 (openF r).2.2 := (goes_o5 r).trans ((goes_size _).trans (goes_must _ _))

theorem part_less (s : List UInt8) (h : (partF s).bad = false) : (partF s).s.length < s.length := by
  have g := (goes_open ⟨s, false⟩).trans (goes_take (openF ⟨s, false⟩).2.2 (openF ⟨s, false⟩).2.1)
  have h1 : (⟨s, false⟩ : Rd).one.2.bad = false := g.1 h
  have h2 : (partF s).s.length ≤ (⟨s, false⟩ : Rd).one.2.s.length := g.2
  unfold Rd.one Rd.take at h1 h2
  split at h1
  · simp at h1
  · rename_i hn
    rw [if_neg hn] at h2
    simp only [not_or] at hn
    simp only [List.length_drop] at h2
    have : ¬ ((s.length : Int) < 1) := hn.2
    have e : (1 : Int).toNat = 1 := rfl
    rw [e] at h2
    omega

theorem whole_fuel : ∀ (k k' : Nat) (s : List UInt8), s.length < k → s.length < k' → wholeF k s = wholeF k' s
  | 0, _, s, h, _ => by omega
  | _, 0, s, _, h => by omega
  | k + 1, k' + 1, s, h, h' => by
    unfold wholeF
    by_cases hl : LongF s = false
    · rw [if_pos hl, if_pos hl]
    · rw [if_neg hl, if_neg hl]
      by_cases hb : (partF s).bad = true
      · rw [if_pos hb, if_pos hb]
      · rw [if_neg hb, if_neg hb]
        have := part_less s (by simpa using hb)
        rw [whole_fuel k k' _ (by omega) (by omega)]

/-- All of a datagram's packets. -/
def Whole (s : List UInt8) : Option (List (List UInt8)) := wholeF (s.length + 1) s

theorem whole_short (s : List UInt8) (hl : LongF s = false) : Whole s = if shortOk s then some [s] else none := by
  unfold Whole wholeF
  rw [if_pos hl]
theorem whole_bad (s : List UInt8) (hl : LongF s = true) (hb : (partF s).bad = true) : Whole s = none := by
  unfold Whole wholeF
  rw [if_neg (by rw [hl]; simp), if_pos hb]
theorem whole_last (s : List UInt8) (hl : LongF s = true) (hb : (partF s).bad = false) (he : (partF s).s = []) : Whole s = some [s] := by
  unfold Whole wholeF
  rw [if_neg (by rw [hl]; simp), if_neg (by rw [hb]; simp), if_pos he]
theorem whole_more (s : List UInt8) (hl : LongF s = true) (hb : (partF s).bad = false) (he : (partF s).s ≠ []) : Whole s = (Whole (partF s).s).map fun l => s.take (s.length - (partF s).s.length) :: l := by
  have := part_less s hb
  unfold Whole
  conv => lhs; unfold wholeF
  rw [if_neg (by rw [hl]; simp), if_neg (by rw [hb]; simp), if_neg he, whole_fuel s.length ((partF s).s.length + 1) _ (by omega) (by omega)]

/-- Where a reader stands in a text. -/
def Suf (s : List UInt8) (r : Rd) : Prop := r.bad = false → ∃ k, r.s = s.drop k
theorem suf_take {s : List UInt8} {r : Rd} (n : Int) (h : Suf s r) : Suf s (r.take n).2 := by
  intro hb
  have hr := (goes_take r n).1 hb
  obtain ⟨k, hk⟩ := h hr
  unfold Rd.take at hb ⊢
  split at hb
  · simp at hb
  · rename_i hn
    rw [if_neg hn]
    exact ⟨k + n.toNat, by simp only; rw [hk, List.drop_drop]⟩
theorem suf_must {s : List UInt8} {r : Rd} (c : Bool) (h : Suf s r) : Suf s (r.must c) := fun hb => h ((goes_must r c).1 hb)
theorem takeL_suf (l : List UInt8) (h : (takeL l).2.2 = 0) : ∃ k, (takeL l).2.1 = l.drop k := by
  cases l with
  | nil => simp [takeL] at h
  | cons b r =>
    by_cases hh : (b :: r).length < 2 ^ (b.toNat / 64)
    · simp only [takeL, if_pos hh] at h
      simp at h
    · simp only [takeL, if_neg hh]
      exact ⟨_, rfl⟩
theorem suf_size {s : List UInt8} {r : Rd} (h : Suf s r) : Suf s r.size.2 := by
  intro hb
  have hr := (goes_size r).1 hb
  obtain ⟨k, hk⟩ := h hr
  unfold Rd.size at hb ⊢
  split at hb
  · simp at hb
  · rename_i hn
    rw [if_neg hn]
    simp only [Bool.or_eq_true, Bool.not_eq_true', Bool.and_eq_false_iff, not_or, decide_eq_false_iff_not, Decidable.not_not, Bool.not_eq_true] at hn
    obtain ⟨j, hj⟩ := takeL_suf r.s hn.2.1
    exact ⟨k + j, by simp only; rw [hj, hk, List.drop_drop]⟩
theorem suf_open (s : List UInt8) (r : Rd) (h : Suf s r) : Suf s (openF r).2.2 := by
  have h2 : Suf s (o2 r) := suf_must _ (suf_take _ (suf_must _ (suf_take 1 h)))
  have h3 : Suf s (o2 r).cid.2.cid.2 := suf_take _ (suf_must _ (suf_take 1 (suf_take _ (suf_must _ (suf_take 1 h2)))))
  have h5 : Suf s (o5 r) := by
    unfold o5
    split
    · exact suf_must _ (suf_take 1 h3)
    · exact h3
  exact suf_must _ (suf_size h5)
theorem suf_part (s : List UInt8) : Suf s (partF s) := suf_take _ (suf_open s ⟨s, false⟩ (fun _ => ⟨0, by simp⟩))

theorem part_split (s : List UInt8) (hb : (partF s).bad = false) : s.take (s.length - (partF s).s.length) ++ (partF s).s = s := by
  obtain ⟨k, hk⟩ := suf_part s hb
  rw [hk, List.length_drop]
  by_cases h : k ≤ s.length
  · rw [show s.length - (s.length - k) = k by omega, List.take_append_drop]
  · rw [List.drop_of_length_le (by omega), show s.length - (s.length - k) = s.length by omega]
    simp

/-- A datagram's packets, one behind the other, are the datagram; all but the last have long heads. -/
theorem whole_laws : ∀ (k : Nat) (s : List UInt8) (l : List (List UInt8)), s.length ≤ k → Whole s = some l → l.flatten = s ∧ l ≠ [] ∧ (∀ p ∈ l, p ≠ []) ∧ ∀ i, i + 1 < l.length → ∀ p, l[i]? = some p → LongF p = true := by
  intro k
  induction k with
  | zero =>
    intro s l hk h
    obtain rfl : s = [] := List.eq_nil_of_length_eq_zero (by omega)
    rw [whole_short [] rfl] at h
    simp [shortOk] at h
  | succ k ih =>
    intro s l hk h
    cases hl : LongF s
    · rw [whole_short s hl] at h
      split at h
      · rename_i ho
        injection h with h
        subst h
        refine ⟨by simp, by simp, ?_, ?_⟩
        · intro p hp
          simp at hp
          subst hp
          rintro rfl
          simp [shortOk] at ho
        · intro i hi
          simp at hi
      · cases h
    · cases hb : (partF s).bad
      · by_cases he : (partF s).s = []
        · rw [whole_last s hl hb he] at h
          injection h with h
          subst h
          refine ⟨by simp, by simp, ?_, ?_⟩
          · intro p hp
            simp at hp
            subst hp
            rintro rfl
            simp [LongF] at hl
          · intro i hi
            simp at hi
        · rw [whole_more s hl hb he] at h
          cases hw : Whole (partF s).s with
          | none => rw [hw] at h; cases h
          | some l2 =>
            rw [hw] at h
            simp only [Option.map_some] at h
            injection h with h
            subst h
            have hlt := part_less s hb
            obtain ⟨i1, i2, i3, i4⟩ := ih (partF s).s l2 (by omega) hw
            have hsp := part_split s hb
            have hne : s.take (s.length - (partF s).s.length) ≠ [] := by
              intro e
              have := congrArg List.length e
              rw [List.length_take, List.length_nil] at this
              omega
            refine ⟨by rw [List.flatten_cons, i1, hsp], by simp, ?_, ?_⟩
            · intro p hp
              rcases List.mem_cons.1 hp with rfl | hp
              · exact hne
              · exact i3 p hp
            · intro i hi p hp
              cases i with
              | zero =>
                simp at hp
                subst hp
                cases s with
                | nil => simp [LongF] at hl
                | cons b s =>
                  cases ht : ((b :: s).length - (partF (b :: s)).s.length) with
                  | zero => rw [ht] at hne; simp at hne
                  | succ j => rw [List.take_succ_cons]; exact hl
              | succ i =>
                simp only [List.getElem?_cons_succ] at hp
                exact i4 i (by simpa using hi) p hp
      · rw [whole_bad s hl hb] at h
        cases h

end Go.Proofs.Ytngnfijpfghodaa
