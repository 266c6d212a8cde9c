/- Printed by wip/tools/does_tpl.py out of texts of other layers. -/
import Derived.Test.YtmnmpmiocgfalaaSr
import Derived.StillTailTactics
import Derived.IntWalk

namespace Go.Proofs.Ytmnmpmiocgfalaa
set_option linter.unusedVariables false

/-- Do ranges touch? -/
def touchB (a b : Rg) : Bool := decide (a.1 ≤ b.2 + 1) && decide (b.1 ≤ a.2 + 1)
/-- The first loop: what a range grows to. -/
def grow1 (low high : Nat) (acc q : Rg) : Rg := if touchB q (low, high) then (min acc.1 q.1, max acc.2 q.2) else acc
def grow (low high : Nat) (L : List Rg) : Rg := L.foldl (grow1 low high) (low, high)
/-- The second loop. -/
def lay1 (r : Rg) (acc : List Rg × Bool) (q : Rg) : List Rg × Bool :=
  if touchB q r then acc else if !acc.2 && decide (q.2 < r.1) then (acc.1 ++ [r] ++ [q], true) else (acc.1 ++ [q], acc.2)
def lay (r : Rg) (L : List Rg) : List Rg × Bool := L.foldl (lay1 r) ([], false)
def laid (r : Rg) (L : List Rg) : List Rg := if (lay r L).2 then (lay r L).1 else (lay r L).1 ++ [r]

theorem grow_take (low high : Nat) (L : List Rg) (j : Nat) (q : Rg) (h : L[j]? = some q) : grow low high (L.take (j + 1)) = grow1 low high (grow low high (L.take j)) q := by
  have hj : j < L.length := (List.getElem?_eq_some_iff.1 h).1
  have e : L[j] = q := by rw [List.getElem?_eq_getElem hj] at h; exact Option.some.inj h
  unfold grow
  rw [List.take_succ_eq_append_getElem hj, e, List.foldl_append]
  rfl
theorem lay_take (r : Rg) (L : List Rg) (j : Nat) (q : Rg) (h : L[j]? = some q) : lay r (L.take (j + 1)) = lay1 r (lay r (L.take j)) q := by
  have hj : j < L.length := (List.getElem?_eq_some_iff.1 h).1
  have e : L[j] = q := by rw [List.getElem?_eq_getElem hj] at h; exact Option.some.inj h
  unfold lay
  rw [List.take_succ_eq_append_getElem hj, e, List.foldl_append]
  rfl
theorem grow1_le (low high M : Nat) (acc q : Rg) (h : acc.2 ≤ M) (hq : q.2 ≤ M) : (grow1 low high acc q).2 ≤ M ∧ (grow1 low high acc q).1 ≤ acc.1 ∧ acc.2 ≤ (grow1 low high acc q).2 := by
  unfold grow1
  split
  · refine ⟨?_, ?_, ?_⟩ <;> simp only <;> omega
  · exact ⟨h, Nat.le_refl _, Nat.le_refl _⟩
theorem foldl_le (low high M : Nat) : ∀ (L : List Rg) (acc : Rg), acc.2 ≤ M → (∀ q ∈ L, q.2 ≤ M) → (L.foldl (grow1 low high) acc).2 ≤ M ∧ (L.foldl (grow1 low high) acc).1 ≤ acc.1 ∧ acc.2 ≤ (L.foldl (grow1 low high) acc).2
  | [], acc, h, _ => ⟨h, Nat.le_refl _, Nat.le_refl _⟩
  | q :: L, acc, h, hq => by
    obtain ⟨h1, h2, h3⟩ := grow1_le low high M acc q h (hq q (List.mem_cons_self ..))
    obtain ⟨k1, k2, k3⟩ := foldl_le low high M L (grow1 low high acc q) h1 (fun x hx => hq x (List.mem_cons_of_mem _ hx))
    exact ⟨k1, by simp only [List.foldl_cons]; omega, by simp only [List.foldl_cons]; omega⟩
theorem grow_le (low high M : Nat) (L : List Rg) (h : high ≤ M) (hq : ∀ q ∈ L, q.2 ≤ M) : (grow low high L).2 ≤ M ∧ (grow low high L).1 ≤ low ∧ high ≤ (grow low high L).2 := foldl_le low high M L (low, high) h hq

theorem touch_iff (a b : Rg) : touchB a b = true ↔ a.1 ≤ b.2 + 1 ∧ b.1 ≤ a.2 + 1 := by
  unfold touchB
  rw [Bool.and_eq_true, decide_eq_true_iff, decide_eq_true_iff]
theorem touch_no (a b : Rg) (h : b.2 + 1 < a.1 ∨ a.2 + 1 < b.1) : touchB a b = false := by
  rw [Bool.eq_false_iff]
  intro h2
  have := (touch_iff a b).1 h2
  omega
theorem touch_yes (a b : Rg) (h : a.1 ≤ b.2 + 1) (h2 : b.1 ≤ a.2 + 1) : touchB a b = true := (touch_iff a b).2 ⟨h, h2⟩

/-- What is laid behind something. -/
theorem lay_acc (r : Rg) : ∀ (L : List Rg) (A : List Rg) (b : Bool), L.foldl (lay1 r) (A, b) = (A ++ (L.foldl (lay1 r) ([], b)).1, (L.foldl (lay1 r) ([], b)).2)
  | [], A, b => by simp
  | q :: L, A, b => by
    simp only [List.foldl_cons]
    have key : lay1 r (A, b) q = (A ++ (lay1 r ([], b) q).1, (lay1 r ([], b) q).2) := by
      unfold lay1
      split
      · simp
      · split <;> simp
    rw [key, lay_acc r L (A ++ (lay1 r ([], b) q).1) (lay1 r ([], b) q).2, lay_acc r L (lay1 r ([], b) q).1 (lay1 r ([], b) q).2, List.append_assoc]

/-- None of those that are left touches, and it is laid. -/
theorem lay_rest (r : Rg) : ∀ (L : List Rg), (∀ q ∈ L, touchB q r = false) → L.foldl (lay1 r) ([], true) = (L, true)
  | [], _ => rfl
  | q :: L, h => by
    simp only [List.foldl_cons]
    have e : lay1 r ([], true) q = ([q], true) := by
      unfold lay1
      rw [if_neg (by rw [h q (List.mem_cons_self ..)]; simp)]
      simp
    rw [e, lay_acc, lay_rest r L (fun x hx => h x (List.mem_cons_of_mem _ hx))]
    rfl
def endL (r : Rg) (x : List Rg × Bool) : List Rg := if x.2 then x.1 else x.1 ++ [r]
theorem endL_acc (r : Rg) (A : List Rg) (x : List Rg × Bool) : endL r (A ++ x.1, x.2) = A ++ endL r x := by
  unfold endL
  split
  · rfl
  · rw [List.append_assoc]

theorem grow_none (low high : Nat) : ∀ (L : List Rg) (acc : Rg), (∀ q ∈ L, touchB q (low, high) = false) → L.foldl (grow1 low high) acc = acc
  | [], acc, _ => rfl
  | q :: L, acc, h => by
    simp only [List.foldl_cons]
    have e : grow1 low high acc q = acc := by unfold grow1; rw [if_neg (by rw [h q (List.mem_cons_self ..)]; simp)]
    rw [e]
    exact grow_none low high L acc (fun x hx => h x (List.mem_cons_of_mem _ hx))

/-- From the first one that lies no longer above. -/
theorem merge_is : ∀ (B : List Rg) (t low high low0 high0 : Nat), OkB t B → (∀ q ∈ B, q.1 ≤ high0 + 1) → low ≤ low0 → high0 ≤ high → (low = low0 ∨ low = t) →
    mergeR B low high = ((B.foldl (grow1 low0 high0) (low, high)).1, (B.foldl (grow1 low0 high0) (low, high)).2, (mergeR B low high).2.2) ∧
    endL (B.foldl (grow1 low0 high0) (low, high)) (B.foldl (lay1 (B.foldl (grow1 low0 high0) (low, high))) ([], false)) = (B.foldl (grow1 low0 high0) (low, high)) :: (mergeR B low high).2.2
  | [], t, low, high, low0, high0, _, _, _, _, _ => by
    refine ⟨rfl, rfl⟩
  | q :: B, t, low, high, low0, high0, hB, hq, hl, hh, ho => by
    obtain ⟨b1, b2, b3⟩ := hB
    have hq1 := hq q (List.mem_cons_self ..)
    by_cases hc : low ≤ q.2 + 1
    · have hm : mergeR (q :: B) low high = mergeR B (min low q.1) (max high q.2) := by
        conv => lhs; unfold mergeR
        rw [if_pos hc]
      have ht : touchB q (low0, high0) = true := touch_yes _ _ hq1 (by show low0 ≤ q.2 + 1; omega)
      have hg : grow1 low0 high0 (low, high) q = (min low q.1, max high q.2) := by unfold grow1; rw [if_pos ht]
      have ih := merge_is B q.1 (min low q.1) (max high q.2) low0 high0 b3 (fun x hx => hq x (List.mem_cons_of_mem _ hx)) (by omega) (by omega) (by omega)
      rw [hm]
      simp only [List.foldl_cons]
      rw [hg]
      obtain ⟨R, hR⟩ : ∃ R, B.foldl (grow1 low0 high0) (min low q.1, max high q.2) = R := ⟨_, rfl⟩
      have hR2 := foldl_le low0 high0 (max high q.2 + t) B (min low q.1, max high q.2) (by show max high q.2 ≤ _; omega) (fun x hx => by have := OkB.below b3 x hx; omega)
      rw [hR] at ih hR2 ⊢
      have htq : touchB q R = true := touch_yes _ _ (by omega) (by have := hR2.2.1; simp only at this; omega)
      refine ⟨ih.1, ?_⟩
      have e : lay1 R ([], false) q = ([], false) := by unfold lay1; rw [if_pos htq]
      rw [e]
      exact ih.2
    · have hm : mergeR (q :: B) low high = (low, high, q :: B) := by
        conv => lhs; unfold mergeR
        rw [if_neg hc]
      have hno : ∀ x ∈ q :: B, x.2 + 1 < low := by
        intro x hx
        rcases List.mem_cons.1 hx with rfl | hx
        · omega
        · have := OkB.below b3 x hx
          omega
      have hg : (q :: B).foldl (grow1 low0 high0) (low, high) = (low, high) := grow_none _ _ _ _ (fun x hx => touch_no _ _ (.inr (by have := hno x hx; show x.2 + 1 < low0; omega)))
      rw [hm, hg]
      refine ⟨rfl, ?_⟩
      simp only [List.foldl_cons]
      have hq2 := hno q (List.mem_cons_self ..)
      have e : lay1 (low, high) ([], false) q = ([(low, high)] ++ [q], true) := by
        unfold lay1
        rw [if_neg (by rw [touch_no q (low, high) (.inr hq2)]; simp), if_pos (by simp; omega)]
        rfl
      rw [e, lay_acc, lay_rest (low, high) B (fun x hx => touch_no _ _ (.inr (hno x (List.mem_cons_of_mem _ hx))))]
      unfold endL
      simp

/-- THE DOCUMENT'S ANSWER IS OURS. -/
theorem put_is : ∀ (L : List Rg) (t low high : Nat), OkB t L → low ≤ high → laid (grow low high L) L = putR L low high
  | [], t, low, high, _, _ => by
    unfold laid lay grow putR
    rfl
  | q :: B, t, low, high, hB, hlh => by
    have hB0 := hB
    obtain ⟨b1, b2, b3⟩ := hB
    by_cases hc : high + 1 < q.1
    · have hp : putR (q :: B) low high = q :: putR B low high := by
        conv => lhs; unfold putR
        rw [if_pos hc]
      have hn : touchB q (low, high) = false := touch_no _ _ (.inl hc)
      have hg : grow low high (q :: B) = grow low high B := by
        unfold grow
        simp only [List.foldl_cons]
        unfold grow1
        rw [if_neg (by rw [hn]; simp)]
      have ih := put_is B q.1 low high b3 hlh
      have hle := grow_le low high (q.1 - 2) B (by omega) (fun x hx => by have := OkB.below b3 x hx; omega)
      rw [hp, hg, ← ih]
      obtain ⟨R, hR⟩ : ∃ R, grow low high B = R := ⟨_, rfl⟩
      rw [hR] at hle ⊢
      have e : lay1 R ([], false) q = ([q], false) := by
        unfold lay1
        rw [if_neg (by rw [touch_no q R (.inl (by omega))]; simp), if_neg (by simp; omega)]
        rfl
      show endL R ((q :: B).foldl (lay1 R) ([], false)) = q :: endL R (B.foldl (lay1 R) ([], false))
      simp only [List.foldl_cons]
      rw [e, lay_acc, endL_acc]
      rfl
    · have hp : putR (q :: B) low high = ((mergeR (q :: B) low high).1, (mergeR (q :: B) low high).2.1) :: (mergeR (q :: B) low high).2.2 := by
        conv => lhs; unfold putR
        rw [if_neg hc]
      obtain ⟨m1, m2⟩ := merge_is (q :: B) t low high low high hB0 (fun x hx => by
        rcases List.mem_cons.1 hx with rfl | hx
        · omega
        · have := OkB.below b3 x hx
          omega) (Nat.le_refl _) (Nat.le_refl _) (.inl rfl)
      rw [hp]
      show endL (grow low high (q :: B)) ((q :: B).foldl (lay1 (grow low high (q :: B))) ([], false)) = _
      have e1 : (mergeR (q :: B) low high).1 = (grow low high (q :: B)).1 := by rw [m1]; rfl
      have e2 : (mergeR (q :: B) low high).2.1 = (grow low high (q :: B)).2 := by rw [m1]; rfl
      rw [e1, e2]
      exact m2

theorem fresh_len : ∀ (L : List Rg) (low high : Nat), freshR L low high = true → (putR L low high).length = L.length + 1
  | [], _, _, _ => rfl
  | q :: B, low, high, h => by
    unfold freshR at h
    unfold putR
    by_cases hc : high + 1 < q.1
    · rw [if_pos hc] at h ⊢
      simp only [List.length_cons]
      rw [fresh_len B low high h]
    · rw [if_neg hc] at h ⊢
      have := of_decide_eq_true h
      simp only [List.length_cons] at this ⊢
      omega
/-- What the document's answer says of an Add. -/
theorem addE_is {L : List Rg} (h : L.length ≤ 200) (low high : Nat) : addE L low high = (if high < low ∨ 4611686018427387903 < high then 3 else if 200 < (putR L low high).length then 4 else 0) := by
  unfold addE
  by_cases h1 : high < low ∨ 4611686018427387903 < high
  · rw [if_pos h1, if_pos h1]
  · rw [if_neg h1, if_neg h1]
    obtain ⟨k1, k2⟩ := put_len L low high
    cases hf : freshR L low high with
    | true =>
      have := fresh_len L low high hf
      by_cases h2 : 200 ≤ L.length
      · rw [if_pos ⟨rfl, h2⟩, if_pos (by omega)]
      · rw [if_neg (by omega), if_neg (by omega)]
    | false =>
      have := k2 hf
      rw [if_neg (by simp), if_neg (by omega)]

end Go.Proofs.Ytmnmpmiocgfalaa

namespace Go.Proofs.Ytmnmpmiocgfalaa
open Go.ChangeShapes Go.WideShapes Go.RowKit
set_option linter.unusedVariables false

theorem own_base_le {w : World} {B : Nat} {e : TypeId} {s n : Nat} {v : Value} {xs : List Value} (h : w.ownsRow B e s v n xs) : ∀ k, v.ownBlock = some k → B ≤ k ∧ k < w.heap.size := by
  intro k hk
  rcases h.2 with ⟨rfl, _⟩ | ⟨g, cap, cur, rfl, h1, h2, _⟩
  · cases hk
  · injection hk with hk
    have hk : g = k := hk
    subst hk
    exact ⟨h1, lt_of_block h2⟩
/-- The other cells of the reference's space. -/
structure Crx where
  c0 : Value
  c1 : Value
  c3 : Value
  c4 : Value
abbrev Crx.at (X : Crx) (v : Value) : List Value := [X.c0, X.c1, v, X.c3, X.c4]

variable {X : Crx}
/-- The document's set. -/
structure RIs (X : Crx) (w : World) (b B : Nat) (v : Value) (L : List Rg) : Prop where
  at_ : blk w b 74 (X.at v)
  own : w.ownsRow B 47 2 v L.length (rgs L)
  bw : B ≤ w.heap.size
  bb : B ≤ b
theorem RIs.lt {w : World} {b B : Nat} {v : Value} {L : List Rg} (h : RIs X w b B v L) : b < w.heap.size := h.at_.lt
theorem RIs.next {w w' : World} {b B : Nat} {v : Value} {L : List Rg} (h : RIs X w b B v L) (hb : Below w.heap.size w w') : RIs X w' b B v L :=
  ⟨h.at_.below hb h.lt, own_below h.own hb, Nat.le_trans h.bw hb.size, h.bb⟩
/-- What it has come to: of old memory only the set itself has turned. -/
def RTo (X : Crx) (b B : Nat) (w : World) (v' : Value) (L' : List Rg) (w' : World) : Prop :=
  RIs X w' b B v' L' ∧ Only (fun k => k = b) w w' ∧ ∀ k, v'.ownBlock = some k → w.heap.size ≤ k

theorem RIs.to {w wr : World} {b B : Nat} {v v' : Value} {L L' : List Rg} (h : RIs X w b B v L) (hb : Below w.heap.size w wr) (ho : wr.ownsRow w.heap.size 47 2 v' L'.length (rgs L')) : RTo X b B w v' L' (wr.setCell ⟨b, 2, none⟩ v') := by
  have hl := h.lt
  have h2 := h.next hb
  have hne : v'.ownBlock ≠ some b := own_ne ho h2.at_ (by decide)
  have hO : Only (fun k => k = b) w (wr.setCell ⟨b, 2, none⟩ v') := Only.setCell (S := fun k => k = b) (p := ⟨b, 2, none⟩) (Only.ofBelow hb) (.inl rfl) _
  refine ⟨⟨blk.set h2.at_ 2 _, own_base (ownsRow_setCell_other (a := ⟨b, 2, none⟩) ho hne _) h.bw, Nat.le_trans h.bw hO.size, h.bb⟩, hO, fun k hk => (own_base_le ho k hk).1⟩

theorem Try.infoRg : (Try.prog.info? 47).map (fun i => (i.zero, i.size, i.bytes)) = some (some (.agg #[.int .u64 0, .int .u64 0]), 2, 16) := by kernel_rfl

set_option maxRecDepth 100000 in
set_option maxHeartbeats 1000000 in
theorem touch_ok (a1 a2 b1 b2 : Nat) (w : World) (h1 : a2 ≤ 4611686018427387903) (h2 : b2 ≤ 4611686018427387903) :
    Calls Try.prog 80 #[.agg #[.int .u64 (a1 : Int), .int .u64 (a2 : Int)], .agg #[.int .u64 (b1 : Int), .int .u64 (b2 : Int)]] w fun e w' => e = .returned (.bool (touchB (a1, a2) (b1, b2))) ∧ Below w.heap.size w w' := by
  have hb : Below w.heap.size w ((w.alloc (.cells #[.int .u64 (a1 : Int), .int .u64 (a2 : Int)] 47)).alloc (.cells #[.int .u64 (b1 : Int), .int .u64 (b2 : Int)] 47)) := ((Below.refl _ _).alloc (Nat.le_refl _) _).alloc (by rw [World.size_alloc]; omega) _
  have HB := Lib.hid hb
  clear hb
  have hor : touchB (a1, a2) (b1, b2) = (decide (a1 ≤ b2 + 1) && decide (b1 ≤ a2 + 1)) := rfl
  rw [hor]
  have HO := Lib.hid hor
  clear hor HO
  by_cases c1 : a1 ≤ b2 + 1
  · by_cases c2 : b1 ≤ a2 + 1
    · rw [decide_eq_true c1, decide_eq_true c2]
      have d1 : (a1 : Int) ≤ (b2 : Int) + 1 := by omega
      have d2 : decide ((b1 : Int) ≤ (a2 : Int) + 1) = true := decide_eq_true (by omega)
      go_enter Try.func80, Try.ntmps80
      go_wp2_with fail
      go_ret
      exact ⟨rfl, HB.out⟩
    · rw [decide_eq_true c1, decide_eq_false c2]
      have d1 : (a1 : Int) ≤ (b2 : Int) + 1 := by omega
      have d2 : decide ((b1 : Int) ≤ (a2 : Int) + 1) = false := decide_eq_false (by omega)
      go_enter Try.func80, Try.ntmps80
      go_wp2_with fail
      go_ret
      exact ⟨rfl, HB.out⟩
  · rw [decide_eq_false c1]
    have d1 : (b2 : Int) + 1 < (a1 : Int) := by omega
    go_enter Try.func80, Try.ntmps80
    go_wp2_with fail
    go_ret
    exact ⟨rfl, HB.out⟩

/-- No range up to j covers. -/
def noneUp (L : List Rg) (low high j : Nat) : Prop := ∀ i r, i < j → L[i]? = some r → ¬ (low ≤ high ∧ r.1 ≤ low ∧ high ≤ r.2)
theorem none_step {L : List Rg} {low high j : Nat} {r : Rg} (h : noneUp L low high j) (hr : L[j]? = some r) (hn : ¬ (low ≤ high ∧ r.1 ≤ low ∧ high ≤ r.2)) : noneUp L low high (j + 1) := by
  intro i q hi hq
  by_cases e : i = j
  · subst e
    rw [hr] at hq
    injection hq with hq
    subst hq
    exact hn
  · exact h i q (by omega) hq
theorem none_all {L : List Rg} (hOk : OkR L) {low high : Nat} (h : noneUp L low high L.length) : coversR L low high = false := by
  rw [Bool.eq_false_iff]
  intro hc
  obtain ⟨h1, r, hr, h2, h3⟩ := (covers_iff hOk low high).1 hc
  obtain ⟨i, hi, e⟩ := List.getElem_of_mem hr
  exact h i r hi (by rw [List.getElem?_eq_getElem hi, e]) ⟨h1, h2, h3⟩

set_option maxRecDepth 100000 in
set_option maxHeartbeats 2000000 in
theorem rcovers_ok (b B : Nat) (v : Value) (L : List Rg) (w : World) (low high : Nat) (h : RIs X w b B v L) (hn : L.length ≤ 1000000) (hOk : OkR L) :
    Calls Try.prog 37 #[.pointer (some ⟨b, 2, none⟩), .int .u64 (low : Int), .int .u64 (high : Int)] w fun e w' => e = .returned (.bool (coversR L low high)) ∧ Below w.heap.size w w' := by
  have hbl := h.lt
  obtain ⟨p, cap, rfl, hpn⟩ := own_shape h.own
  have c0 : w.cell? ⟨b, 2, none⟩ = some (.slice p L.length cap) := h.at_.cell (k := 2) rfl
  obtain ⟨N, hN⟩ : ∃ N, L.length = N := ⟨_, rfl⟩
  have HO := Lib.hid h.own
  have HK := Lib.hid hOk
  have HN := Lib.hid hN
  rw [hN] at c0 hn
  clear h hOk hpn hN
  go_enter Try.func37, Try.ntmps37
  go_wp2_with fail
  go_loop [7] (fun i => ∃ j : Nat, j ≤ N ∧ i = .int .i64 j ∧ noneUp L low high j) (fun i => N - (intOf i).toNat)
  case atStart => exact ⟨0, by omega, rfl, fun i r hi => by omega⟩
  case round =>
    obtain ⟨j, hj, rfl, hnone⟩ := hrel
    have HNo := Lib.hid hnone
    clear hnone
    by_cases hlt : j < N
    · obtain ⟨⟨r1, r2⟩, hq⟩ : ∃ q, L[j]? = some q := ⟨_, List.getElem?_eq_getElem (by rw [HN.out]; exact hlt)⟩
      obtain ⟨g1, cap1, hv, hgB, hg1, k0, k1⟩ := rg_cells HO.out j _ hq
      injection hv with hv1 hv2 hv3
      subst hv1
      have HQ := Lib.hid hq
      clear hv2 hv3 hq
      simp only at k0 k1
      by_cases e1 : low ≤ high
      · by_cases e2 : r1 ≤ low
        · by_cases e3 : high ≤ r2
          · have hc : coversR L low high = true := (covers_iff HK.out low high).2 ⟨e1, (r1, r2), List.mem_of_getElem? HQ.out, e2, e3⟩
            have HC := Lib.hid hc
            clear hc
            have f1 : (low : Int) ≤ (high : Int) := by omega
            have f2 : (r1 : Int) ≤ (low : Int) := by omega
            have f3 : (high : Int) ≤ (r2 : Int) := by omega
            go_wp2_with fail
            go_ret
            rw [HC.out]
            exact ⟨rfl, Below.refl _ _⟩
          · have hns := Lib.hid (none_step HNo.out HQ.out (by simp only; omega))
            have f1 : (low : Int) ≤ (high : Int) := by omega
            have f2 : (r1 : Int) ≤ (low : Int) := by omega
            have f3 : (r2 : Int) < (high : Int) := by omega
            go_wp2_with fail
            go_round
            case rel => exact ⟨j + 1, by omega, by go_num, hns.out⟩
            case measure => simp [intOf]; omega
        · have hns := Lib.hid (none_step HNo.out HQ.out (by simp only; omega))
          have f1 : (low : Int) ≤ (high : Int) := by omega
          have f2 : (low : Int) < (r1 : Int) := by omega
          go_wp2_with fail
          go_round
          case rel => exact ⟨j + 1, by omega, by go_num, hns.out⟩
          case measure => simp [intOf]; omega
      · have hns := Lib.hid (none_step HNo.out HQ.out (by simp only; omega))
        have f1 : (high : Int) < (low : Int) := by omega
        go_wp2_with fail
        go_round
        case rel => exact ⟨j + 1, by omega, by go_num, hns.out⟩
        case measure => simp [intOf]; omega
    · obtain rfl : j = N := by omega
      go_wp2_with fail
      go_ret
      rw [none_all HK.out (by rw [HN.out]; exact HNo.out)]
      exact ⟨rfl, Below.refl _ _⟩

end Go.Proofs.Ytmnmpmiocgfalaa
