/- ranges: contract of Drop. -/
import Derived.Test.YtcpkpofmapjgdaaNd
import Derived.Test.YtcpkpofmapjgdaaNe
import Derived.Test.YtcpkpofmapjgdaaNf
import Derived.BigRegion
namespace Go.Proofs.Ytcpkpofmapjgdaa
open Go.ChangeShapes Go.WideShapes Go.RowKit
set_option linter.unusedVariables false

theorem zero_cells2 (n : Nat) : (Builtin.zeroCells (Value.agg #[.int .u64 0, .int .u64 0]).cells n).toList.length = n * 2 := by
  simp [Builtin.zeroCells, Value.cells]

/-- What a set has come to: of old memory only the set itself, and its own row, have turned. -/
def SetTo (b B : Nat) (v : Value) (w : World) (v' : Value) (L' : List Rg) (w' : World) : Prop :=
  SetIs w' b B v' L' ∧ Only (fun k => k = b ∨ v.ownBlock = some k) w w' ∧ (v'.ownBlock = v.ownBlock ∨ ∀ k, v'.ownBlock = some k → w.heap.size ≤ k)

/-- A cell of a row of the call's own is written. -/
theorem own_setCell {w : World} {base : Nat} {e : TypeId} {size : Nat} {g n cap : Nat} {xs : List Value} (h : w.ownsRow base e size (.slice (some ⟨g, 0, none⟩) n cap) n xs) (k : Nat) (u : Value) :
    (w.setCell ⟨g, k, none⟩ u).ownsRow base e size (.slice (some ⟨g, 0, none⟩) n cap) n (xs.set k u) := by
  obtain ⟨h0, h⟩ := h
  refine ⟨by rw [List.length_set]; exact h0, ?_⟩
  rcases h with ⟨hv, hn⟩ | ⟨g2, c2, cur, hv, h1, h2, h3, h4, h5, h6⟩
  · cases hv
  · injection hv with e1 e2 e3
    injection e1 with e1
    injection e1 with e1
    subst e1 e3
    have hb := heap_setCell_same w g k cur e u h2
    refine .inr ⟨g, cap, _, rfl, h1, hb, h3, h4, by simpa using h5, ?_⟩
    rw [Array.toList_setIfInBounds, List.take_set, h6]
theorem rgs_set : ∀ (l : List Rg) (i : Nat) (p q : Rg), l[i]? = some q → p.2 = q.2 → rgs (l.set i p) = (rgs l).set (i * 2) (.int .u64 (p.1 : Int))
  | [], i, p, q, h, _ => by simp at h
  | r :: l, 0, p, q, h, e => by
    simp at h
    subst h
    show rgVals p ++ rgs l = (rgVals r ++ rgs l).set 0 _
    unfold rgVals
    rw [e]
    rfl
  | r :: l, i + 1, p, q, h, e => by
    simp only [List.getElem?_cons_succ] at h
    show rgVals r ++ rgs (l.set i p) = (rgVals r ++ rgs l).set ((i + 1) * 2) _
    rw [rgs_set l i p q h e, List.set_append_right _ _ (by show 2 ≤ _; omega)]
    congr 2
    show i * 2 = (i + 1) * 2 - 2
    omega
theorem rgs_take (l : List Rg) (k : Nat) : rgs (l.take k) = (rgs l).take (k * 2) := by
  conv => rhs; rw [← List.take_append_drop k l, rgs_append]
  by_cases hk : k ≤ l.length
  · rw [List.take_left' (by rw [rgs_length, List.length_take]; omega)]
  · rw [List.take_of_length_le (by omega : l.length ≤ k), List.drop_of_length_le (by omega)]
    rw [List.take_of_length_le (by rw [List.length_append, rgs_length, rgs_length, List.length_nil]; omega)]
    exact (List.append_nil _).symm

theorem drop_set (L : List Rg) (t n K : Nat) (h : OkB t L) (hK : keepN L n = K) (h0 : 0 < K) (r : Rg) (hr : L[K - 1]? = some r) :
    dropR L n = (L.take K).set (K - 1) (max r.1 n, r.2) := by
  have hl := drop_len L n
  have hk := keep_le L n
  apply List.ext_getElem?
  intro i
  by_cases hi : i < K
  · obtain ⟨q, hq⟩ : ∃ q, L[i]? = some q := ⟨_, List.getElem?_eq_getElem (by omega)⟩
    rw [drop_at L t n h i q hq (by omega)]
    by_cases hc : i + 1 = K
    · have : i = K - 1 := by omega
      subst this
      rw [hr] at hq
      injection hq with hq
      subst hq
      rw [if_pos (by omega), List.getElem?_set_self (by rw [List.length_take]; omega)]
    · rw [if_neg (by omega), List.getElem?_set_ne (by omega), List.getElem?_take_of_lt (by omega), hq]
  · rw [List.getElem?_eq_none (by omega), List.getElem?_eq_none (by rw [List.length_set, List.length_take]; omega)]

/-- Where the row's tail was cleared, and the set is what is kept. -/
theorem dropped {w W : World} {b B g N cap : Nat} {L : List Rg} (h : SetIs w b B (.slice (some ⟨g, 0, none⟩) N cap) L) (hN : L.length = N) (hB : Below w.heap.size w W) (K : Nat) (hK : K ≤ N) (vs : List Value) :
    SetTo b B (.slice (some ⟨g, 0, none⟩) N cap) w (.slice (some ⟨g, 0, none⟩) K cap) (L.take K) ((W.setCells g (K * 2) vs).setCell ⟨b, 0, none⟩ (.slice (some ⟨g, 0, none⟩) K cap)) := by
  subst hN
  have h2 := h.next hB
  have hne : (Value.slice (some ⟨g, 0, none⟩) L.length cap).ownBlock ≠ some b := own_ne h2.own h2.at_ (by decide)
  have hgb : g ≠ b := fun e => hne (by rw [e]; rfl)
  have ho := own_setCells (own_prefix h2.own K hK) vs (K * 2) (Nat.le_refl _)
  have hOn : Only (fun k => k = g) W (W.setCells g (K * 2) vs) := setCells_only g vs _ W
  have hat : blk (W.setCells g (K * 2) vs) b 27 [.slice (some ⟨g, 0, none⟩) L.length cap] := h2.at_.only hOn (fun e => hgb e.symm)
  have hO2 : Only (fun k => k = b ∨ (Value.slice (some ⟨g, 0, none⟩) L.length cap).ownBlock = some k) w (W.setCells g (K * 2) vs) :=
    (Only.ofBelow hB).trans (hOn.mono (fun i hi => .inr (by rw [hi]; rfl)))
  refine ⟨⟨blk.set hat 0 _, ?_, ?_, h.bb⟩, Only.setCell (p := ⟨b, 0, none⟩) hO2 (.inl (.inl rfl)) _, .inl rfl⟩
  · rw [List.length_take, Nat.min_eq_left hK, rgs_take]
    exact ownsRow_setCell_other (a := ⟨b, 0, none⟩) ho (fun e => hgb (by injection e)) _
  · have := (Only.setCell (p := ⟨b, 0, none⟩) hO2 (.inl (.inl rfl)) (.slice (some ⟨g, 0, none⟩) K cap)).size
    have := h.bw
    omega
/-- .. and where the last of them is cut. -/
theorem dropped_cut {w W : World} {b B g K cap : Nat} {v : Value} {L : List Rg} (h : SetTo b B v w (.slice (some ⟨g, 0, none⟩) K cap) L W) (hg : v.ownBlock = some g) (h0 : 0 < K) (hL : L.length = K) (r q : Rg) (hr : L[K - 1]? = some r) (e : q.2 = r.2) :
    SetTo b B v w (.slice (some ⟨g, 0, none⟩) K cap) (L.set (K - 1) q) (W.drew.setCell ⟨g, (K - 1) * 2, none⟩ (.int .u64 (q.1 : Int))) := by
  obtain ⟨h1, h2, h3⟩ := h
  have ho : W.ownsRow B 45 2 (.slice (some ⟨g, 0, none⟩) K cap) K (rgs L) := by have := h1.own; rwa [hL] at this
  have hne : (Value.slice (some ⟨g, 0, none⟩) K cap).ownBlock ≠ some b := own_ne ho h1.at_ (by decide)
  have hgb : g ≠ b := fun e => hne (by rw [e]; rfl)
  have hO := Only.setCell (p := ⟨g, (K - 1) * 2, none⟩) h2.drew (.inl (.inr hg)) (.int .u64 (q.1 : Int))
  refine ⟨⟨blk.set_other (h1.at_.drew) (fun e => hgb e) _, ?_, ?_, h1.bb⟩, hO, h3⟩
  · rw [List.length_set, hL, rgs_set L _ q r hr e]
    exact own_setCell (w := W.drew) ho _ _
  · have := hO.size
    have h4 := h1.bw
    have h5 := h2.size
    simpa [World.setCell] using h4

end Go.Proofs.Ytcpkpofmapjgdaa
