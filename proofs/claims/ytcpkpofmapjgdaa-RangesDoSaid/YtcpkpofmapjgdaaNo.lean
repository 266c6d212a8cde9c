/- ranges: plain words for Add; what Add leaves in memory. -/
import Derived.Test.YtcpkpofmapjgdaaNn
namespace Go.Proofs.Ytcpkpofmapjgdaa
open Go.ChangeShapes Go.WideShapes Go.RowKit
set_option linter.unusedVariables false

/-- What Add answers. -/
def addE (L : List Rg) (low high : Nat) : Nat := if high < low ∨ 4611686018427387903 < high then 3 else if freshR L low high = true ∧ 200 ≤ L.length then 4 else 0
/-- What Add leaves. -/
def addR (L : List Rg) (low high : Nat) : List Rg := if addE L low high = 0 then putR L low high else L

/-- i is the place where a range that ends at 'high' comes. -/
def At (L : List Rg) (high i : Nat) : Prop := i ≤ L.length ∧ (∀ j r, L[j]? = some r → j < i → high + 1 < r.1) ∧ ∀ r, L[i]? = some r → ¬ high + 1 < r.1

theorem put_at : ∀ (L : List Rg) (low high i : Nat), At L high i → putR L low high = L.take i ++ ((mergeR (L.drop i) low high).1, (mergeR (L.drop i) low high).2.1) :: (mergeR (L.drop i) low high).2.2
  | [], low, high, i, h => by
    obtain rfl : i = 0 := by have := h.1; simpa using this
    rfl
  | r :: B, low, high, i, h => by
    obtain ⟨h1, h2, h3⟩ := h
    unfold putR
    cases i with
    | zero =>
      rw [if_neg (h3 r rfl)]
      rfl
    | succ i =>
      rw [if_pos (h2 0 r rfl (by omega)), put_at B low high i ⟨by simpa using h1, fun j q hj hji => h2 (j + 1) q (by simpa using hj) (by omega), fun q hq => h3 q (by simpa using hq)⟩]
      rfl
theorem fresh_at : ∀ (L : List Rg) (low high i : Nat), At L high i → freshR L low high = decide ((mergeR (L.drop i) low high).2.2.length = (L.drop i).length)
  | [], low, high, i, h => by
    obtain rfl : i = 0 := by have := h.1; simpa using this
    rfl
  | r :: B, low, high, i, h => by
    obtain ⟨h1, h2, h3⟩ := h
    unfold freshR
    cases i with
    | zero =>
      rw [if_neg (h3 r rfl)]
      rfl
    | succ i =>
      rw [if_pos (h2 0 r rfl (by omega)), fresh_at B low high i ⟨by simpa using h1, fun j q hj hji => h2 (j + 1) q (by simpa using hj) (by omega), fun q hq => h3 q (by simpa using hq)⟩]
      rfl

/-- From i to k ranges were swallowed: it is low', high' by now. -/
def Swal (L : List Rg) (low high i k low' high' : Nat) : Prop := mergeR (L.drop i) low high = mergeR (L.drop k) low' high'
theorem swal_step {L : List Rg} {low high i k low' high' : Nat} (h : Swal L low high i k low' high') {r : Rg} (hr : L[k]? = some r) (hc : low' ≤ r.2 + 1) : Swal L low high i (k + 1) (min low' r.1) (max high' r.2) := by
  unfold Swal at h ⊢
  rw [h]
  have hk := (List.getElem?_eq_some_iff.1 hr)
  rw [List.drop_eq_getElem_cons hk.1, hk.2]
  conv => lhs; unfold mergeR
  rw [if_pos hc]
theorem swal_end {L : List Rg} {low high i k low' high' : Nat} (h : Swal L low high i k low' high') (hc : ∀ r, L[k]? = some r → ¬ low' ≤ r.2 + 1) : mergeR (L.drop i) low high = (low', high', L.drop k) := by
  unfold Swal at h
  rw [h]
  by_cases hk : k < L.length
  · rw [List.drop_eq_getElem_cons hk]
    unfold mergeR
    rw [if_neg (hc _ (List.getElem?_eq_getElem hk))]
  · rw [List.drop_of_length_le (by omega)]
    rfl

theorem add_end {L : List Rg} {low high i k low' high' : Nat} (hA : At L high i) (hm : mergeR (L.drop i) low high = (low', high', L.drop k)) (hik : i ≤ k) (hk : k ≤ L.length) (h1 : low ≤ high) (h2 : high ≤ 4611686018427387903) :
    (i = k → 200 ≤ L.length → addE L low high = 4 ∧ addR L low high = L) ∧
    (i ≠ k ∨ L.length < 200 → addE L low high = 0 ∧ addR L low high = L.take i ++ [(low', high')] ++ L.drop k) := by
  have hf := fresh_at L low high i hA
  have hp := put_at L low high i hA
  rw [hm] at hf hp
  simp only [List.length_drop] at hf
  have he : ¬ (high < low ∨ 4611686018427387903 < high) := by omega
  constructor
  · rintro rfl hL
    have hE : addE L low high = 4 := by unfold addE; rw [if_neg he, if_pos ⟨by rw [hf]; simp, hL⟩]
    exact ⟨hE, by unfold addR; rw [hE]; rfl⟩
  · intro hor
    have hE : addE L low high = 0 := by
      unfold addE
      rw [if_neg he, if_neg]
      rintro ⟨h3, h4⟩
      rw [hf] at h3
      have := of_decide_eq_true h3
      omega
    refine ⟨hE, ?_⟩
    unfold addR
    rw [hE, if_pos rfl, hp]
    simp

theorem SetTo.same {w w' : World} {b B : Nat} {v : Value} {L : List Rg} (h : SetIs w b B v L) (hB : Below w.heap.size w w') : SetTo b B v w v L w' :=
  ⟨h.next hB, Only.ofBelow hB, .inl rfl⟩

/-- The set's cell is written behind Replace. -/
theorem stored {w W w2 : World} {b B : Nat} {v v' : Value} {L L' : List Rg} (h : SetIs w b B v L) (hB : Below w.heap.size w W) (hr : RowTo B v W v' L'.length (rgs L') w2) :
    w2.cell? ⟨b, 0, none⟩ = some v ∧ w2.frozen? ⟨b, 0, none⟩ = false ∧ SetTo b B v w v' L' (w2.setCell ⟨b, 0, none⟩ v') := by
  obtain ⟨r1, r2, r3⟩ := hr
  have h2 := h.next hB
  have hne : v.ownBlock ≠ some b := own_ne h2.own h2.at_ (by decide)
  have hat : blk w2 b 27 [v] := h2.at_.only r2 hne
  have hne' : v'.ownBlock ≠ some b := own_ne r1 hat (by decide)
  have hO : Only (fun k => k = b ∨ v.ownBlock = some k) w w2 := (Only.ofBelow hB).trans (r2.mono (fun k hk => .inr hk))
  refine ⟨hat.cell rfl, hat.free 0, ⟨blk.set hat 0 _, ownsRow_setCell_other (a := ⟨b, 0, none⟩) r1 hne' _, ?_, h.bb⟩, Only.setCell (p := ⟨b, 0, none⟩) hO (.inl (.inl rfl)) _, ?_⟩
  · have := (Only.setCell (p := ⟨b, 0, none⟩) hO (.inl (.inl rfl)) v').size
    have := h.bw
    omega
  · rcases r3 with r3 | r3
    · exact .inl r3
    · exact .inr (fun k hk => Nat.le_trans hB.size (r3 k hk))

end Go.Proofs.Ytcpkpofmapjgdaa
