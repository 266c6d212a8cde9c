/- web: what its functions compute, in plain words; there and back. -/
import Derived.Test.YtgnoiheekgmleaaY4
import Derived.Test.YtgnoiheekgmleaaYt
namespace Go.Proofs.Ytgnoiheekgmleaa
set_option linter.unusedVariables false

def putB (n : Nat) : List UInt8 := (putF n).1
def frameB (kind : Nat) (d : List UInt8) : List UInt8 := if kind < 4611686018427387904 then putB kind ++ putB d.length ++ d else []
def wnum (l : List UInt8) : Nat × List UInt8 × Int :=
  if (takeL l).2.2 ≠ 0 then (0, [], 13) else if sizeF (takeL l).1 ≠ l.length - (takeL l).2.1.length then (0, [], 2) else ((takeL l).1, (takeL l).2.1, 0)
def badKind (k : Nat) : Bool := k == 2 || k == 6 || k == 8 || k == 9
def wtake2 (k : Nat) (l : List UInt8) : Nat × List UInt8 × List UInt8 × Int :=
  if (wnum l).2.2 ≠ 0 then (0, [], [], (wnum l).2.2) else if (wnum l).2.1.length < (wnum l).1 then (0, [], [], 13) else (k, (wnum l).2.1.take (wnum l).1, (wnum l).2.1.drop (wnum l).1, 0)
def wtake (l : List UInt8) : Nat × List UInt8 × List UInt8 × Int :=
  if (wnum l).2.2 ≠ 0 then (0, [], [], (wnum l).2.2) else if badKind (wnum l).1 = true then (0, [], [], 2) else wtake2 (wnum l).1 (wnum l).2.1

theorem putB_eq {n : Nat} (h : n < 4611686018427387904) : putB n = put (lst n) n := by unfold putB putF; rw [if_pos h]
theorem putB_length {n : Nat} (h : n < 4611686018427387904) : (putB n).length = sizeF n := by rw [putB_eq h, put_length]; unfold sizeF; rw [if_pos h]
theorem putB_pos {n : Nat} (h : n < 4611686018427387904) : 0 < (putB n).length := by rw [putB_eq h, put_length]; exact Nat.two_pow_pos _
theorem takeL_putB {n : Nat} (h : n < 4611686018427387904) (r : List UInt8) : takeL (putB n ++ r) = (n, r, 0) := by
  rw [putB_eq h]
  exact take_put (lst n) n r (lst_le n) (lst_lim n h)
theorem wnum_putB {n : Nat} (h : n < 4611686018427387904) (r : List UInt8) : wnum (putB n ++ r) = (n, r, 0) := by
  unfold wnum
  rw [takeL_putB h]
  simp only [ne_eq, not_true, if_false, List.length_append, putB_length h]
  rw [if_neg (by omega)]
theorem wtake2_frame (k : Nat) (d r : List UInt8) (hd : d.length < 4611686018427387904) : wtake2 k (putB d.length ++ (d ++ r)) = (k, d, r, 0) := by
  unfold wtake2
  rw [wnum_putB hd]
  simp only [ne_eq, not_true, if_false]
  rw [if_neg (by simp), List.take_left, List.drop_left]
theorem frameB_eq {k : Nat} (hk : k < 4611686018427387904) (d : List UInt8) : frameB k d = putB k ++ putB d.length ++ d := by unfold frameB; rw [if_pos hk]
theorem wtake_frame {k : Nat} (hk : k < 4611686018427387904) (hb : badKind k = false) (d r : List UInt8) (hd : d.length < 4611686018427387904) : wtake (frameB k d ++ r) = (k, d, r, 0) := by
  rw [frameB_eq hk, List.append_assoc, List.append_assoc]
  unfold wtake
  rw [wnum_putB hk]
  simp only [ne_eq, not_true, if_false, hb, Bool.false_eq_true]
  exact wtake2_frame k d r hd

theorem takeL_cons (b : UInt8) (r : List UInt8) : takeL (b :: r) = if (b :: r).length < 2 ^ (b.toNat / 64) then (0, [], 2) else (num ((b :: r).take (2 ^ (b.toNat / 64))) % lim (b.toNat / 64), (b :: r).drop (2 ^ (b.toNat / 64)), 0) := rfl
/-- What was taken off stays so, whatever follows. -/
theorem takeL_app {l : List UInt8} (h : (takeL l).2.2 = 0) (r : List UInt8) : takeL (l ++ r) = ((takeL l).1, (takeL l).2.1 ++ r, 0) ∧ (takeL l).2.1.length ≤ l.length := by
  cases l with
  | nil => simp [takeL] at h
  | cons b t =>
    by_cases hs : (b :: t).length < 2 ^ (b.toNat / 64)
    · rw [takeL_cons, if_pos hs] at h
      simp at h
    · have e : takeL (b :: t) = (num ((b :: t).take (2 ^ (b.toNat / 64))) % lim (b.toNat / 64), (b :: t).drop (2 ^ (b.toNat / 64)), 0) := by
        rw [takeL_cons, if_neg hs]
      have e2 : takeL ((b :: t) ++ r) = (num (((b :: t) ++ r).take (2 ^ (b.toNat / 64))) % lim (b.toNat / 64), ((b :: t) ++ r).drop (2 ^ (b.toNat / 64)), 0) := by
        rw [List.cons_append, takeL_cons, if_neg (by rw [List.length_cons, List.length_append]; rw [List.length_cons] at hs; omega)]
      rw [e2, e, List.take_append_of_le_length (Nat.le_of_not_lt hs), List.drop_append_of_le_length (Nat.le_of_not_lt hs)]
      exact ⟨rfl, by simp only [List.length_drop]; exact Nat.sub_le _ _⟩
theorem wnum_app {l : List UInt8} (h : (wnum l).2.2 = 0) (r : List UInt8) : wnum (l ++ r) = ((wnum l).1, (wnum l).2.1 ++ r, 0) ∧ (wnum l).2.1.length ≤ l.length := by
  unfold wnum at h ⊢
  by_cases h1 : (takeL l).2.2 ≠ 0
  · rw [if_pos h1] at h; cases h
  · have h1' : (takeL l).2.2 = 0 := by omega
    obtain ⟨e, hle⟩ := takeL_app h1' r
    rw [if_neg h1] at h ⊢
    by_cases h2 : sizeF (takeL l).1 ≠ l.length - (takeL l).2.1.length
    · rw [if_pos h2] at h; cases h
    · rw [if_neg h2] at h ⊢
      rw [e]
      simp only [ne_eq, not_true, if_false, List.length_append]
      rw [if_neg (by omega)]
      exact ⟨rfl, hle⟩
theorem wnum_bad {l : List UInt8} (h : (wnum l).2.2 = 2) (r : List UInt8) : (wnum (l ++ r)).2.2 = 2 := by
  unfold wnum at h ⊢
  by_cases h1 : (takeL l).2.2 ≠ 0
  · rw [if_pos h1] at h; cases h
  · have h1' : (takeL l).2.2 = 0 := by omega
    obtain ⟨e, hle⟩ := takeL_app h1' r
    rw [if_neg h1] at h
    by_cases h2 : sizeF (takeL l).1 ≠ l.length - (takeL l).2.1.length
    · rw [e]
      simp only [ne_eq, not_true, if_false, List.length_append]
      rw [if_pos (by omega)]
    · rw [if_neg h2] at h; cases h
theorem wnum_err (l : List UInt8) : (wnum l).2.2 = 0 ∨ (wnum l).2.2 = 13 ∨ (wnum l).2.2 = 2 := by
  unfold wnum
  split
  · exact .inr (.inl rfl)
  · split
    · exact .inr (.inr rfl)
    · exact .inl rfl
theorem wtake2_app (k : Nat) {l : List UInt8} (r : List UInt8) : ((wtake2 k l).2.2.2 = 0 → wtake2 k (l ++ r) = (k, (wtake2 k l).2.1, (wtake2 k l).2.2.1 ++ r, 0) ∧ (wtake2 k l).2.2.1.length ≤ l.length) ∧ ((wtake2 k l).2.2.2 = 2 → (wtake2 k (l ++ r)).2.2.2 = 2) := by
  unfold wtake2
  rcases wnum_err l with h | h | h
  · obtain ⟨e, hle⟩ := wnum_app h r
    rw [if_neg (by simp [h]), e]
    simp only [ne_eq, not_true, if_false]
    by_cases h2 : (wnum l).2.1.length < (wnum l).1
    · rw [if_pos h2]
      exact ⟨(fun h => by cases h), (fun h => by cases h)⟩
    · rw [if_neg h2, if_neg (by rw [List.length_append]; omega), List.take_append_of_le_length (by omega), List.drop_append_of_le_length (by omega)]
      exact ⟨fun _ => ⟨rfl, by simp only [List.length_drop]; omega⟩, (fun h => by cases h)⟩
  · rw [if_pos (by rw [h]; decide)]
    exact ⟨(fun h' => absurd (h.symm.trans h') (by decide)), (fun h' => absurd (h.symm.trans h') (by decide))⟩
  · have := wnum_bad h r
    rw [if_pos (by rw [h]; decide), if_pos (by rw [this]; decide)]
    exact ⟨(fun h' => absurd (h.symm.trans h') (by decide)), fun _ => this⟩
theorem wtake_app {l : List UInt8} (r : List UInt8) : ((wtake l).2.2.2 = 0 → wtake (l ++ r) = ((wtake l).1, (wtake l).2.1, (wtake l).2.2.1 ++ r, 0) ∧ (wtake l).2.2.1.length < l.length) ∧ ((wtake l).2.2.2 = 2 → (wtake (l ++ r)).2.2.2 = 2) := by
  unfold wtake
  rcases wnum_err l with h | h | h
  · obtain ⟨e, hle⟩ := wnum_app h r
    have hlt : (wnum l).2.1.length < l.length := by
      unfold wnum at h ⊢
      by_cases h1 : (takeL l).2.2 ≠ 0
      · rw [if_pos h1] at h; cases h
      · rw [if_neg h1] at h ⊢
        by_cases h2 : sizeF (takeL l).1 ≠ l.length - (takeL l).2.1.length
        · rw [if_pos h2] at h; cases h
        · rw [if_neg h2]
          have hle2 := (takeL_app (by omega : (takeL l).2.2 = 0) r).2
          have hs : 0 < sizeF (takeL l).1 := by
            cases l with
            | nil => simp [takeL] at h1
            | cons b t =>
              rw [takeL_cons] at h1 ⊢
              by_cases hs : (b :: t).length < 2 ^ (b.toNat / 64)
              · rw [if_pos hs] at h1; simp at h1
              · rw [if_neg hs]
                have hb : b.toNat / 64 ≤ 3 := by have := b.toNat_lt; omega
                have hl := lim_le (b.toNat / 64)
                have hp := lim_pos (b.toNat / 64)
                have := Nat.mod_lt (num ((b :: t).take (2 ^ (b.toNat / 64)))) hp
                unfold sizeF
                rw [if_pos (by omega)]
                exact Nat.two_pow_pos _
          show (takeL l).2.1.length < l.length
          omega
    rw [if_neg (by simp [h]), e]
    simp only [ne_eq, not_true, if_false]
    by_cases hb : badKind (wnum l).1 = true
    · rw [if_pos hb, if_pos hb]
      exact ⟨(fun h => by cases h), fun _ => rfl⟩
    · rw [if_neg hb, if_neg hb]
      obtain ⟨k1, k2⟩ := wtake2_app (wnum l).1 (l := (wnum l).2.1) r
      refine ⟨fun h0 => ?_, k2⟩
      obtain ⟨e1, e2⟩ := k1 h0
      rw [e1]
      have e3 : (wtake2 (wnum l).1 (wnum l).2.1).1 = (wnum l).1 := by
        unfold wtake2 at h0 ⊢
        split
        · rename_i h5; rw [if_pos h5] at h0; exact absurd h0 h5
        · rename_i h5
          rw [if_neg h5] at h0
          split
          · rename_i h6; rw [if_pos h6] at h0; cases h0
          · rfl
      rw [e3]
      exact ⟨rfl, by omega⟩
  · rw [if_pos (by rw [h]; decide)]
    exact ⟨(fun h' => absurd (h.symm.trans h') (by decide)), (fun h' => absurd (h.symm.trans h') (by decide))⟩
  · have := wnum_bad h r
    rw [if_pos (by rw [h]; decide), if_pos (by rw [this]; decide)]
    exact ⟨(fun h' => absurd (h.symm.trans h') (by decide)), fun _ => this⟩
theorem wtake_err (l : List UInt8) : (wtake l).2.2.2 = 0 ∨ (wtake l).2.2.2 = 13 ∨ (wtake l).2.2.2 = 2 := by
  unfold wtake
  split
  · exact wnum_err l
  · split
    · exact .inr (.inr rfl)
    · unfold wtake2
      split
      · exact wnum_err _
      · split
        · exact .inr (.inl rfl)
        · exact .inl rfl

/-- An inbox under way. -/
structure IB where
  came : List UInt8
  sec : List UInt8
  head : Bool
  body : List UInt8
def actF (b : IB) (kind : Nat) (d : List UInt8) : IB × Int :=
  if kind = 1 then (if b.head = true then (b, 22) else ({ b with head := true, sec := d }, 0))
  else if kind = 0 then (if b.head = true then ({ b with body := b.body ++ d }, 0) else (b, 22))
  else if kind = 4 ∨ kind = 7 then (b, 22) else (b, 0)
/-- All whole frames that came. -/
def loopF : Nat → IB → IB × Int
  | 0, b => (b, 0)
  | k + 1, b => if b.came = [] then (b, 0) else if (wtake b.came).2.2.2 = 13 then (b, 0) else if (wtake b.came).2.2.2 ≠ 0 then (b, (wtake b.came).2.2.2) else
    if (actF b (wtake b.came).1 (wtake b.came).2.1).2 ≠ 0 then actF b (wtake b.came).1 (wtake b.came).2.1 else loopF k { (actF b (wtake b.came).1 (wtake b.came).2.1).1 with came := (wtake b.came).2.2.1 }

theorem actF_came (b : IB) (kind : Nat) (d c : List UInt8) : actF { b with came := c } kind d = ({ (actF b kind d).1 with came := c }, (actF b kind d).2) := by
  unfold actF
  simp only
  split
  · split <;> rfl
  · split
    · split <;> rfl
    · split <;> rfl
theorem actF_came2 (b : IB) (kind : Nat) (d : List UInt8) : (actF b kind d).1.came = b.came := by
  unfold actF
  split
  · split <;> rfl
  · split
    · split <;> rfl
    · split <;> rfl
theorem actF_body (b : IB) (kind : Nat) (d : List UInt8) : ∃ m, (actF b kind d).1.body = b.body ++ m := by
  unfold actF
  split
  · split <;> exact ⟨[], (List.append_nil _).symm⟩
  · split
    · split
      · exact ⟨d, rfl⟩
      · exact ⟨[], (List.append_nil _).symm⟩
    · split <;> exact ⟨[], (List.append_nil _).symm⟩

/-- More fuel than bytes is all the same. -/
theorem loop_fuel : ∀ (k j : Nat) (b : IB), b.came.length ≤ k → b.came.length ≤ j → loopF k b = loopF j b := by
  intro k
  induction k with
  | zero =>
    intro j b hk hj
    have h0 : b.came = [] := List.eq_nil_of_length_eq_zero (by omega)
    cases j with
    | zero => rfl
    | succ j => unfold loopF; rw [if_pos h0]
  | succ k ih =>
    intro j b hk hj
    cases j with
    | zero =>
      have h0 : b.came = [] := List.eq_nil_of_length_eq_zero (by omega)
      unfold loopF
      rw [if_pos h0]
    | succ j =>
      unfold loopF
      by_cases h0 : b.came = []
      · rw [if_pos h0, if_pos h0]
      · rw [if_neg h0, if_neg h0]
        by_cases h1 : (wtake b.came).2.2.2 = 13
        · rw [if_pos h1, if_pos h1]
        · rw [if_neg h1, if_neg h1]
          by_cases h2 : (wtake b.came).2.2.2 ≠ 0
          · rw [if_pos h2, if_pos h2]
          · rw [if_neg h2, if_neg h2]
            by_cases h3 : (actF b (wtake b.came).1 (wtake b.came).2.1).2 ≠ 0
            · rw [if_pos h3, if_pos h3]
            · rw [if_neg h3, if_neg h3]
              have hlt := ((wtake_app (l := b.came) []).1 (by omega)).2
              exact ih j _ (by simp only; omega) (by simp only; omega)
def runF (b : IB) : IB × Int := loopF b.came.length b

theorem loop_body : ∀ (k : Nat) (b : IB), ∃ m, (loopF k b).1.body = b.body ++ m
  | 0, b => ⟨[], (List.append_nil _).symm⟩
  | k + 1, b => by
    unfold loopF
    split
    · exact ⟨[], (List.append_nil _).symm⟩
    · split
      · exact ⟨[], (List.append_nil _).symm⟩
      · split
        · exact ⟨[], (List.append_nil _).symm⟩
        · obtain ⟨m, hm⟩ := actF_body b (wtake b.came).1 (wtake b.came).2.1
          split
          · exact ⟨m, hm⟩
          · obtain ⟨m2, hm2⟩ := loop_body k { (actF b (wtake b.came).1 (wtake b.came).2.1).1 with came := (wtake b.came).2.2.1 }
            exact ⟨m ++ m2, by rw [hm2]; simp only; rw [hm, List.append_assoc]⟩

/-- IN WHATEVER PIECES: what is found in a beginning is found in the whole, and the rest goes on from there. -/
theorem run_app : ∀ (k : Nat) (b : IB) (s : List UInt8), b.came.length ≤ k →
    ((loopF k b).2 = 0 → runF { (loopF k b).1 with came := (loopF k b).1.came ++ s } = runF { b with came := b.came ++ s }) ∧
    ((loopF k b).2 ≠ 0 → (runF { b with came := b.came ++ s }).2 = (loopF k b).2) := by
  intro k
  induction k with
  | zero =>
    intro b s hk
    unfold loopF
    exact ⟨fun _ => rfl, fun h => absurd rfl h⟩
  | succ k ih =>
    intro b s hk
    unfold loopF
    by_cases h0 : b.came = []
    · rw [if_pos h0]
      exact ⟨fun _ => rfl, fun h => absurd rfl h⟩
    · rw [if_neg h0]
      by_cases h1 : (wtake b.came).2.2.2 = 13
      · rw [if_pos h1]
        exact ⟨fun _ => rfl, fun h => absurd rfl h⟩
      · rw [if_neg h1]
        obtain ⟨n, hn⟩ : ∃ n, (b.came ++ s).length = n + 1 := by
          rw [List.length_append]
          have : 0 < b.came.length := List.length_pos_iff.2 h0
          exact ⟨b.came.length + s.length - 1, by omega⟩
        have hne : b.came ++ s ≠ [] := fun h => h0 (List.append_eq_nil_iff.1 h).1
        by_cases h2 : (wtake b.came).2.2.2 ≠ 0
        · rw [if_pos h2]
          have h22 : (wtake b.came).2.2.2 = 2 := by rcases wtake_err b.came with h | h | h; exact absurd h h2; exact absurd h h1; exact h
          have := (wtake_app s).2 h22
          refine ⟨fun h => absurd h (by simp only; omega), fun _ => ?_⟩
          unfold runF
          simp only
          rw [hn]
          unfold loopF
          simp only
          rw [if_neg hne, if_neg (by rw [this]; decide), if_pos (by rw [this]; decide), this, h22]
        · have h20 : (wtake b.came).2.2.2 = 0 := by omega
          rw [if_neg h2]
          obtain ⟨e, hlt⟩ := (wtake_app s).1 h20
          have step : ∀ R, (if (actF b (wtake b.came).1 (wtake b.came).2.1).2 ≠ 0 then ({ (actF b (wtake b.came).1 (wtake b.came).2.1).1 with came := b.came ++ s }, (actF b (wtake b.came).1 (wtake b.came).2.1).2) else loopF n { (actF b (wtake b.came).1 (wtake b.came).2.1).1 with came := (wtake b.came).2.2.1 ++ s }) = R → runF { b with came := b.came ++ s } = R := by
            intro R hR
            unfold runF
            simp only
            rw [hn]
            unfold loopF
            simp only
            rw [if_neg hne, e]
            simp only [ne_eq, not_true, if_false]
            rw [if_neg (by decide), actF_came]
            exact hR
          by_cases h3 : (actF b (wtake b.came).1 (wtake b.came).2.1).2 ≠ 0
          · rw [if_pos h3]
            refine ⟨fun h => absurd h h3, fun _ => ?_⟩
            rw [step _ rfl, if_pos h3]
          · rw [if_neg h3]
            have hl : (b.came ++ s).length = b.came.length + s.length := List.length_append
            have := ih { (actF b (wtake b.came).1 (wtake b.came).2.1).1 with came := (wtake b.came).2.2.1 } s (by simp only; omega)
            simp only at this
            rw [step _ rfl, if_neg h3, loop_fuel n ((wtake b.came).2.2.1 ++ s).length _ (by simp only [List.length_append]; omega) (by simp only [List.length_append]; omega)]
            exact this

end Go.Proofs.Ytgnoiheekgmleaa
