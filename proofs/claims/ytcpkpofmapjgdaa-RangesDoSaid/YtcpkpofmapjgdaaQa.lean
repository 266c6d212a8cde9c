/- ranges: what the document's answer computes, in plain words, and that it is ours. -/
import Derived.Test.YtcpkpofmapjgdaaPv
namespace Go.Proofs.Ytcpkpofmapjgdaa
set_option linter.unusedVariables false

/-- Do ranges touch? -/
def touchB (a b : Rg) : Bool := decide (a.1 ≤ b.2 + 1) && decide (b.1 ≤ a.2 + 1)
/-- The first loop: what a range grows to. -/
def grow1 (low high : Nat) (acc q : Rg) : Rg := if touchB q (low, high) then (min acc.1 q.1, max acc.2 q.2) else acc
def grow (low high : Nat) (L : List Rg) : Rg := L.foldl (grow1 low high) (low, high)
/-- The second loop. -/
def lay1 (r : Rg) (acc : List Rg × Bool) (q : Rg) : List Rg × Bool :=
  if touchB q r then acc else if !acc.2 && decide (q.2 < r.1) then (acc.1 ++ [r] ++ [q], true) else (acc.1 ++ [q], acc.2)
def lay (r : Rg) (L : List Rg) : List Rg × Bool := L.foldl (lay1 r) ([], false)
def laid (r : Rg) (L : List Rg) : List Rg := if (lay r L).2 then (lay r L).1 else (lay r L).1 ++ [r]

theorem grow_take (low high : Nat) (L : List Rg) (j : Nat) (q : Rg) (h : L[j]? = some q) : grow low high (L.take (j + 1)) = grow1 low high (grow low high (L.take j)) q := by
  have hj : j < L.length := (List.getElem?_eq_some_iff.1 h).1
  have e : L[j] = q := by rw [List.getElem?_eq_getElem hj] at h; exact Option.some.inj h
  unfold grow
  rw [List.take_succ_eq_append_getElem hj, e, List.foldl_append]
  rfl
theorem lay_take (r : Rg) (L : List Rg) (j : Nat) (q : Rg) (h : L[j]? = some q) : lay r (L.take (j + 1)) = lay1 r (lay r (L.take j)) q := by
  have hj : j < L.length := (List.getElem?_eq_some_iff.1 h).1
  have e : L[j] = q := by rw [List.getElem?_eq_getElem hj] at h; exact Option.some.inj h
  unfold lay
  rw [List.take_succ_eq_append_getElem hj, e, List.foldl_append]
  rfl
theorem grow1_le (low high M : Nat) (acc q : Rg) (h : acc.2 ≤ M) (hq : q.2 ≤ M) : (grow1 low high acc q).2 ≤ M ∧ (grow1 low high acc q).1 ≤ acc.1 ∧ acc.2 ≤ (grow1 low high acc q).2 := by
  unfold grow1
  split
  · refine ⟨?_, ?_, ?_⟩ <;> simp only <;> omega
  · exact ⟨h, Nat.le_refl _, Nat.le_refl _⟩
theorem foldl_le (low high M : Nat) : ∀ (L : List Rg) (acc : Rg), acc.2 ≤ M → (∀ q ∈ L, q.2 ≤ M) → (L.foldl (grow1 low high) acc).2 ≤ M ∧ (L.foldl (grow1 low high) acc).1 ≤ acc.1 ∧ acc.2 ≤ (L.foldl (grow1 low high) acc).2
  | [], acc, h, _ => ⟨h, Nat.le_refl _, Nat.le_refl _⟩
  | q :: L, acc, h, hq => by
    obtain ⟨h1, h2, h3⟩ := grow1_le low high M acc q h (hq q (List.mem_cons_self ..))
    obtain ⟨k1, k2, k3⟩ := foldl_le low high M L (grow1 low high acc q) h1 (fun x hx => hq x (List.mem_cons_of_mem _ hx))
    exact ⟨k1, by simp only [List.foldl_cons]; omega, by simp only [List.foldl_cons]; omega⟩
theorem grow_le (low high M : Nat) (L : List Rg) (h : high ≤ M) (hq : ∀ q ∈ L, q.2 ≤ M) : (grow low high L).2 ≤ M ∧ (grow low high L).1 ≤ low ∧ high ≤ (grow low high L).2 := foldl_le low high M L (low, high) h hq

theorem touch_iff (a b : Rg) : touchB a b = true ↔ a.1 ≤ b.2 + 1 ∧ b.1 ≤ a.2 + 1 := by
  unfold touchB
  rw [Bool.and_eq_true, decide_eq_true_iff, decide_eq_true_iff]
theorem touch_no (a b : Rg) (h : b.2 + 1 < a.1 ∨ a.2 + 1 < b.1) : touchB a b = false := by
  rw [Bool.eq_false_iff]
  intro h2
  have := (touch_iff a b).1 h2
  omega
theorem touch_yes (a b : Rg) (h : a.1 ≤ b.2 + 1) (h2 : b.1 ≤ a.2 + 1) : touchB a b = true := (touch_iff a b).2 ⟨h, h2⟩

/-- What is laid behind something. -/
theorem lay_acc (r : Rg) : ∀ (L : List Rg) (A : List Rg) (b : Bool), L.foldl (lay1 r) (A, b) = (A ++ (L.foldl (lay1 r) ([], b)).1, (L.foldl (lay1 r) ([], b)).2)
  | [], A, b => by simp
  | q :: L, A, b => by
    simp only [List.foldl_cons]
    have key : lay1 r (A, b) q = (A ++ (lay1 r ([], b) q).1, (lay1 r ([], b) q).2) := by
      unfold lay1
      split
      · simp
      · split <;> simp
    rw [key, lay_acc r L (A ++ (lay1 r ([], b) q).1) (lay1 r ([], b) q).2, lay_acc r L (lay1 r ([], b) q).1 (lay1 r ([], b) q).2, List.append_assoc]

/-- None of those that are left touches, and it is laid. -/
theorem lay_rest (r : Rg) : ∀ (L : List Rg), (∀ q ∈ L, touchB q r = false) → L.foldl (lay1 r) ([], true) = (L, true)
  | [], _ => rfl
  | q :: L, h => by
    simp only [List.foldl_cons]
    have e : lay1 r ([], true) q = ([q], true) := by
      unfold lay1
      rw [if_neg (by rw [h q (List.mem_cons_self ..)]; simp)]
      simp
    rw [e, lay_acc, lay_rest r L (fun x hx => h x (List.mem_cons_of_mem _ hx))]
    rfl
def endL (r : Rg) (x : List Rg × Bool) : List Rg := if x.2 then x.1 else x.1 ++ [r]
theorem endL_acc (r : Rg) (A : List Rg) (x : List Rg × Bool) : endL r (A ++ x.1, x.2) = A ++ endL r x := by
  unfold endL
  split
  · rfl
  · rw [List.append_assoc]

theorem grow_none (low high : Nat) : ∀ (L : List Rg) (acc : Rg), (∀ q ∈ L, touchB q (low, high) = false) → L.foldl (grow1 low high) acc = acc
  | [], acc, _ => rfl
  | q :: L, acc, h => by
    simp only [List.foldl_cons]
    have e : grow1 low high acc q = acc := by unfold grow1; rw [if_neg (by rw [h q (List.mem_cons_self ..)]; simp)]
    rw [e]
    exact grow_none low high L acc (fun x hx => h x (List.mem_cons_of_mem _ hx))

/-- From the first one that lies no longer above. -/
theorem merge_is : ∀ (B : List Rg) (t low high low0 high0 : Nat), OkB t B → (∀ q ∈ B, q.1 ≤ high0 + 1) → low ≤ low0 → high0 ≤ high → (low = low0 ∨ low = t) →
    mergeR B low high = ((B.foldl (grow1 low0 high0) (low, high)).1, (B.foldl (grow1 low0 high0) (low, high)).2, (mergeR B low high).2.2) ∧
    endL (B.foldl (grow1 low0 high0) (low, high)) (B.foldl (lay1 (B.foldl (grow1 low0 high0) (low, high))) ([], false)) = (B.foldl (grow1 low0 high0) (low, high)) :: (mergeR B low high).2.2
  | [], t, low, high, low0, high0, _, _, _, _, _ => by
    refine ⟨rfl, rfl⟩
  | q :: B, t, low, high, low0, high0, hB, hq, hl, hh, ho => by
    obtain ⟨b1, b2, b3⟩ := hB
    have hq1 := hq q (List.mem_cons_self ..)
    by_cases hc : low ≤ q.2 + 1
    · have hm : mergeR (q :: B) low high = mergeR B (min low q.1) (max high q.2) := by
        conv => lhs; unfold mergeR
        rw [if_pos hc]
      have ht : touchB q (low0, high0) = true := touch_yes _ _ hq1 (by show low0 ≤ q.2 + 1; omega)
      have hg : grow1 low0 high0 (low, high) q = (min low q.1, max high q.2) := by unfold grow1; rw [if_pos ht]
      have ih := merge_is B q.1 (min low q.1) (max high q.2) low0 high0 b3 (fun x hx => hq x (List.mem_cons_of_mem _ hx)) (by omega) (by omega) (by omega)
      rw [hm]
      simp only [List.foldl_cons]
      rw [hg]
      obtain ⟨R, hR⟩ : ∃ R, B.foldl (grow1 low0 high0) (min low q.1, max high q.2) = R := ⟨_, rfl⟩
      have hR2 := foldl_le low0 high0 (max high q.2 + t) B (min low q.1, max high q.2) (by show max high q.2 ≤ _; omega) (fun x hx => by have := OkB.below b3 x hx; omega)
      rw [hR] at ih hR2 ⊢
      have htq : touchB q R = true := touch_yes _ _ (by omega) (by have := hR2.2.1; simp only at this; omega)
      refine ⟨ih.1, ?_⟩
      have e : lay1 R ([], false) q = ([], false) := by unfold lay1; rw [if_pos htq]
      rw [e]
      exact ih.2
    · have hm : mergeR (q :: B) low high = (low, high, q :: B) := by
        conv => lhs; unfold mergeR
        rw [if_neg hc]
      have hno : ∀ x ∈ q :: B, x.2 + 1 < low := by
        intro x hx
        rcases List.mem_cons.1 hx with rfl | hx
        · omega
        · have := OkB.below b3 x hx
          omega
      have hg : (q :: B).foldl (grow1 low0 high0) (low, high) = (low, high) := grow_none _ _ _ _ (fun x hx => touch_no _ _ (.inr (by have := hno x hx; show x.2 + 1 < low0; omega)))
      rw [hm, hg]
      refine ⟨rfl, ?_⟩
      simp only [List.foldl_cons]
      have hq2 := hno q (List.mem_cons_self ..)
      have e : lay1 (low, high) ([], false) q = ([(low, high)] ++ [q], true) := by
        unfold lay1
        rw [if_neg (by rw [touch_no q (low, high) (.inr hq2)]; simp), if_pos (by simp; omega)]
        rfl
      rw [e, lay_acc, lay_rest (low, high) B (fun x hx => touch_no _ _ (.inr (hno x (List.mem_cons_of_mem _ hx))))]
      unfold endL
      simp

/-- THE DOCUMENT'S ANSWER IS OURS. -/
theorem put_is : ∀ (L : List Rg) (t low high : Nat), OkB t L → low ≤ high → laid (grow low high L) L = putR L low high
  | [], t, low, high, _, _ => by
    unfold laid lay grow putR
    rfl
  | q :: B, t, low, high, hB, hlh => by
    have hB0 := hB
    obtain ⟨b1, b2, b3⟩ := hB
    by_cases hc : high + 1 < q.1
    · have hp : putR (q :: B) low high = q :: putR B low high := by
        conv => lhs; unfold putR
        rw [if_pos hc]
      have hn : touchB q (low, high) = false := touch_no _ _ (.inl hc)
      have hg : grow low high (q :: B) = grow low high B := by
        unfold grow
        simp only [List.foldl_cons]
        unfold grow1
        rw [if_neg (by rw [hn]; simp)]
      have ih := put_is B q.1 low high b3 hlh
      have hle := grow_le low high (q.1 - 2) B (by omega) (fun x hx => by have := OkB.below b3 x hx; omega)
      rw [hp, hg, ← ih]
      obtain ⟨R, hR⟩ : ∃ R, grow low high B = R := ⟨_, rfl⟩
      rw [hR] at hle ⊢
      have e : lay1 R ([], false) q = ([q], false) := by
        unfold lay1
        rw [if_neg (by rw [touch_no q R (.inl (by omega))]; simp), if_neg (by simp; omega)]
        rfl
      show endL R ((q :: B).foldl (lay1 R) ([], false)) = q :: endL R (B.foldl (lay1 R) ([], false))
      simp only [List.foldl_cons]
      rw [e, lay_acc, endL_acc]
      rfl
    · have hp : putR (q :: B) low high = ((mergeR (q :: B) low high).1, (mergeR (q :: B) low high).2.1) :: (mergeR (q :: B) low high).2.2 := by
        conv => lhs; unfold putR
        rw [if_neg hc]
      obtain ⟨m1, m2⟩ := merge_is (q :: B) t low high low high hB0 (fun x hx => by
        rcases List.mem_cons.1 hx with rfl | hx
        · omega
        · have := OkB.below b3 x hx
          omega) (Nat.le_refl _) (Nat.le_refl _) (.inl rfl)
      rw [hp]
      show endL (grow low high (q :: B)) ((q :: B).foldl (lay1 (grow low high (q :: B))) ([], false)) = _
      have e1 : (mergeR (q :: B) low high).1 = (grow low high (q :: B)).1 := by rw [m1]; rfl
      have e2 : (mergeR (q :: B) low high).2.1 = (grow low high (q :: B)).2 := by rw [m1]; rfl
      rw [e1, e2]
      exact m2

theorem fresh_len : ∀ (L : List Rg) (low high : Nat), freshR L low high = true → (putR L low high).length = L.length + 1
  | [], _, _, _ => rfl
  | q :: B, low, high, h => by
    unfold freshR at h
    unfold putR
    by_cases hc : high + 1 < q.1
    · rw [if_pos hc] at h ⊢
      simp only [List.length_cons]
      rw [fresh_len B low high h]
    · rw [if_neg hc] at h ⊢
      have := of_decide_eq_true h
      simp only [List.length_cons] at this ⊢
      omega
/-- What the document's answer says of an Add. -/
theorem addE_is {L : List Rg} (h : L.length ≤ 200) (low high : Nat) : addE L low high = (if high < low ∨ 4611686018427387903 < high then 3 else if 200 < (putR L low high).length then 4 else 0) := by
  unfold addE
  by_cases h1 : high < low ∨ 4611686018427387903 < high
  · rw [if_pos h1, if_pos h1]
  · rw [if_neg h1, if_neg h1]
    obtain ⟨k1, k2⟩ := put_len L low high
    cases hf : freshR L low high with
    | true =>
      have := fresh_len L low high hf
      by_cases h2 : 200 ≤ L.length
      · rw [if_pos ⟨rfl, h2⟩, if_pos (by omega)]
      · rw [if_neg (by omega), if_neg (by omega)]
    | false =>
      have := k2 hf
      rw [if_neg (by simp), if_neg (by omega)]

/-- Drop, as the document's answer does it. -/
def keep1 (below : Nat) (L : List Rg) : List Rg := L.flatMap fun q => if below ≤ q.2 then [(max q.1 below, q.2)] else []
theorem keep1_take (below : Nat) (L : List Rg) (j : Nat) (q : Rg) (h : L[j]? = some q) : keep1 below (L.take (j + 1)) = keep1 below (L.take j) ++ (if below ≤ q.2 then [(max q.1 below, q.2)] else []) := by
  have hj : j < L.length := (List.getElem?_eq_some_iff.1 h).1
  have e : L[j] = q := by rw [List.getElem?_eq_getElem hj] at h; exact Option.some.inj h
  unfold keep1
  rw [List.take_succ_eq_append_getElem hj, e, List.flatMap_append]
  simp
theorem keep1_len (below : Nat) : ∀ (L : List Rg), (keep1 below L).length ≤ L.length
  | [] => Nat.le_refl _
  | q :: L => by
    have := keep1_len below L
    have e : keep1 below (q :: L) = (if below ≤ q.2 then [(max q.1 below, q.2)] else []) ++ keep1 below L := rfl
    rw [e, List.length_append, List.length_cons]
    split <;> simp <;> omega
theorem drop_is : ∀ (L : List Rg) (t below : Nat), OkB t L → keep1 below L = dropR L below
  | [], _, _, _ => rfl
  | q :: L, t, below, h => by
    have e : keep1 below (q :: L) = (if below ≤ q.2 then [(max q.1 below, q.2)] else []) ++ keep1 below L := rfl
    have ih := drop_is L q.1 below h.2.2
    unfold dropR
    by_cases hc : q.2 < below
    · rw [if_pos hc, e, if_neg (by omega)]
      have h1 := h.1
      rw [ih]
      cases L with
      | nil => rfl
      | cons r L =>
        have := OkB.below h.2.2 r (List.mem_cons_self ..)
        unfold dropR
        rw [if_pos (by omega)]
        rfl
    · rw [if_neg hc, e, if_pos (by omega), ih]
      rfl

end Go.Proofs.Ytcpkpofmapjgdaa
