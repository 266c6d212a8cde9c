/- ranges: rows that are written at a place; lists. No program in sight. -/
import Derived.Test.YtcpkpofmapjgdaaNg
import Derived.Lib.Overlaps
import Derived.Shelf.Spec.SlicesInsertGrow
namespace Go.Proofs.Ytcpkpofmapjgdaa
open Go.ChangeShapes Go.WideShapes Go.RowKit
set_option linter.unusedVariables false

/-- What a row is when xs is laid into it at o. -/
def layR (c : List Value) (o : Nat) (xs : List Value) : List Value := c.take o ++ xs ++ c.drop (o + xs.length)
theorem layR_length {c : List Value} {o : Nat} {xs : List Value} (h : o + xs.length ≤ c.length) : (layR c o xs).length = c.length := by
  unfold layR
  simp only [List.length_append, List.length_take, List.length_drop]
  omega
theorem layR_get {c : List Value} {o : Nat} {xs : List Value} (h : o + xs.length ≤ c.length) (k : Nat) :
    (layR c o xs)[k]? = if k < o then c[k]? else if k < o + xs.length then xs[k - o]? else c[k]? := by
  unfold layR
  by_cases h1 : k < o
  · rw [if_pos h1, List.append_assoc, List.getElem?_append_left (by rw [List.length_take]; omega), List.getElem?_take_of_lt h1]
  · rw [if_neg h1]
    by_cases h2 : k < o + xs.length
    · rw [if_pos h2, List.getElem?_append_left (by rw [List.length_append, List.length_take]; omega), List.getElem?_append_right (by rw [List.length_take]; omega), List.length_take, Nat.min_eq_left (by omega)]
    · rw [if_neg h2, List.getElem?_append_right (by rw [List.length_append, List.length_take]; omega), List.getElem?_drop, List.length_append, List.length_take, Nat.min_eq_left (by omega)]
      congr 1
      omega
theorem take_get {c X : List Value} {n : Nat} (h : c.take n = X) (k : Nat) (hk : k < n) : X[k]? = c[k]? := by rw [← h, List.getElem?_take_of_lt hk]

theorem ins_list (c X q : List Value) (n i : Nat) (hX : c.take (n * 2) = X) (hi : i ≤ n) (hc : (n + 1) * 2 ≤ c.length) (hq : q.length = 2) :
    (layR (layR c ((i + 1) * 2) (X.drop (i * 2))) (i * 2) q).take ((n + 1) * 2) = X.take (i * 2) ++ q ++ X.drop (i * 2) := by
  have hXl : X.length = n * 2 := by rw [← hX, List.length_take]; omega
  have hdl : (X.drop (i * 2)).length = (n - i) * 2 := by rw [List.length_drop, hXl]; omega
  have h1 : (i + 1) * 2 + (X.drop (i * 2)).length ≤ c.length := by omega
  have hl1 := layR_length h1
  have h2 : i * 2 + q.length ≤ (layR c ((i + 1) * 2) (X.drop (i * 2))).length := by omega
  have hl2 := layR_length h2
  apply List.ext_getElem?
  intro k
  by_cases hk : k < (n + 1) * 2
  · rw [List.getElem?_take_of_lt hk, layR_get h2, layR_get h1]
    by_cases a1 : k < i * 2
    · rw [if_pos a1, if_pos (by omega), List.append_assoc, List.getElem?_append_left (by rw [List.length_take]; omega), List.getElem?_take_of_lt a1, take_get hX k (by omega)]
    · rw [if_neg a1]
      by_cases a2 : k < i * 2 + q.length
      · rw [if_pos a2, List.getElem?_append_left (by rw [List.length_append, List.length_take]; omega), List.getElem?_append_right (by rw [List.length_take]; omega), List.length_take, Nat.min_eq_left (by omega)]
      · rw [if_neg a2, if_neg (by omega), if_pos (by omega), List.getElem?_append_right (by rw [List.length_append, List.length_take]; omega), List.length_append, List.length_take, Nat.min_eq_left (by omega), hq]
        congr 1
        omega
  · rw [List.getElem?_eq_none (by rw [List.length_take]; omega), List.getElem?_eq_none (by simp only [List.length_append, List.length_take, List.length_drop]; omega)]

theorem rep_list (c X q : List Value) (n i k : Nat) (hX : c.take (n * 2) = X) (hi : i < k) (hk : k ≤ n) (hc : n * 2 ≤ c.length) (hq : q.length = 2) :
    (layR (layR c (i * 2) q) ((i + 1) * 2) (X.drop (k * 2))).take ((i + 1 + (n - k)) * 2) = X.take (i * 2) ++ q ++ X.drop (k * 2) := by
  have hXl : X.length = n * 2 := by rw [← hX, List.length_take]; omega
  have hdl : (X.drop (k * 2)).length = (n - k) * 2 := by rw [List.length_drop, hXl]; omega
  have h1 : i * 2 + q.length ≤ c.length := by omega
  have hl1 := layR_length h1
  have h2 : (i + 1) * 2 + (X.drop (k * 2)).length ≤ (layR c (i * 2) q).length := by omega
  have hl2 := layR_length h2
  apply List.ext_getElem?
  intro j
  by_cases hj : j < (i + 1 + (n - k)) * 2
  · rw [List.getElem?_take_of_lt hj, layR_get h2, layR_get h1]
    by_cases a1 : j < i * 2
    · rw [if_pos (by omega), if_pos a1, List.append_assoc, List.getElem?_append_left (by rw [List.length_take]; omega), List.getElem?_take_of_lt a1, take_get hX j (by omega)]
    · by_cases a2 : j < i * 2 + q.length
      · rw [if_pos (by omega), if_neg a1, if_pos a2, List.getElem?_append_left (by rw [List.length_append, List.length_take]; omega), List.getElem?_append_right (by rw [List.length_take]; omega), List.length_take, Nat.min_eq_left (by omega)]
      · rw [if_neg (by omega), if_pos (by omega), List.getElem?_append_right (by rw [List.length_append, List.length_take]; omega), List.length_append, List.length_take, Nat.min_eq_left (by omega), hq]
        congr 1
        omega
  · rw [List.getElem?_eq_none (by rw [List.length_take]; omega), List.getElem?_eq_none (by simp only [List.length_append, List.length_take, List.length_drop]; omega)]

theorem own_parts {w : World} {base : Nat} {e : TypeId} {g n cap : Nat} {xs : List Value} (h : w.ownsRow base e 2 (.slice (some ⟨g, 0, none⟩) n cap) n xs) :
    ∃ cur, w.heap[g]? = some (.cells cur e (0, 0)) ∧ n ≤ cap ∧ cap ≤ maxLen ∧ cur.size = cap * 2 ∧ cur.toList.take (n * 2) = xs ∧ base ≤ g := by
  rcases h.2 with ⟨hv, _⟩ | ⟨g2, c2, cur, hv, h1, h2, h3, h4, h5, h6⟩
  · cases hv
  · injection hv with e1 e2 e3
    injection e1 with e1
    injection e1 with e1
    subst e1 e3
    exact ⟨cur, h2, h3, h4, h5, h6, h1⟩
theorem own_of {w : World} {base : Nat} {e : TypeId} {g n cap : Nat} {xs : List Value} {cur : Array Value} (h2 : w.heap[g]? = some (.cells cur e (0, 0))) (hb : base ≤ g) (hn : n ≤ cap) (hc : cap ≤ maxLen) (hs : cur.size = cap * 2) (hx : cur.toList.take (n * 2) = xs) :
    w.ownsRow base e 2 (.slice (some ⟨g, 0, none⟩) n cap) n xs := by
  refine ⟨?_, .inr ⟨g, cap, cur, rfl, hb, h2, hn, hc, hs, hx⟩⟩
  rw [← hx, List.length_take, Array.length_toList]
  omega

theorem setRow_only (w : World) (g : Nat) (cs : Array Value) : Only (fun k => k = g) w (w.setRow g cs) :=
  ⟨rfl, rfl, rfl, by simp, fun k _ hs => setRow_other w g k cs hs⟩

/-- copy of elements of two cells. -/
theorem run_copy_lay {P : Program} (w : World) (dT sT ty elem : TypeId) (g o dLen dCap : Nat) (a : Addr) (sLen sCap : Nat) (c : List Value) (t : TypeId) (cs : List Value) (m : Nat)
    (hu : P.underlying dT = some (.slice elem)) (hs : (P.info? elem).map (·.size) = some 2) (hm : Nat.min sLen dLen = m)
    (hg : w.heap[g]? = some (.cells c.toArray t (0, 0))) (hn : cs.length = m * 2)
    (hsrc : ∀ j v, cs[j]? = some v → w.cell? (a.add j) = some v) (hfit : o + cs.length ≤ c.length) (h1 : ∀ v ∈ cs, v.oneCell' = true) :
    (Builtin.copy_ #[dT, sT] ty #[.slice (some ⟨g, o, none⟩) dLen dCap, .slice (some a) sLen sCap]).run P w =
      .ok (goInt m) (w.setRow g (layR c o cs).toArray) := by
  have := run_copy_rowK (P := P) w dT sT ty elem g o dLen dCap a sLen sCap c.toArray t cs 2 m hu hs hm hg hn hsrc (by simpa using hfit) h1
  simpa [layR] using this

theorem rgs_oneCell (L : List Rg) : ∀ v ∈ rgs L, v.oneCell' = true := by
  intro v hv
  simp only [rgs, List.mem_flatMap, rgVals] at hv
  obtain ⟨r, _, hv⟩ := hv
  simp at hv
  rcases hv with rfl | rfl <;> rfl
theorem rgs_drop (l : List Rg) (k : Nat) : rgs (l.drop k) = (rgs l).drop (k * 2) := by
  by_cases hk : k ≤ l.length
  · conv => rhs; rw [← List.take_append_drop k l, rgs_append]
    rw [List.drop_left' (by rw [rgs_length, List.length_take]; omega)]
  · rw [List.drop_of_length_le (by omega), List.drop_of_length_le (by rw [rgs_length]; omega)]
    rfl

end Go.Proofs.Ytcpkpofmapjgdaa
