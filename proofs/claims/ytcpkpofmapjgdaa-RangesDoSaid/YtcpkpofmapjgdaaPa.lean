/- ranges: a set under way: its order and its size are kept; its calls over it. -/
import Derived.Test.YtcpkpofmapjgdaaNq
namespace Go.Proofs.Ytcpkpofmapjgdaa
open Go.ChangeShapes Go.WideShapes Go.RowKit
set_option linter.unusedVariables false

theorem merge_len : ∀ (B : List Rg) (low high : Nat), (mergeR B low high).2.2.length ≤ B.length
  | [], _, _ => Nat.le_refl _
  | r :: B, low, high => by
    unfold mergeR
    split
    · have := merge_len B (min low r.1) (max high r.2)
      rw [List.length_cons]
      omega
    · exact Nat.le_refl _
theorem put_len : ∀ (L : List Rg) (low high : Nat), (putR L low high).length ≤ L.length + 1 ∧ (freshR L low high = false → (putR L low high).length ≤ L.length)
  | [], _, _ => ⟨by unfold putR; simp, fun h => by unfold freshR at h; cases h⟩
  | r :: B, low, high => by
    unfold putR freshR
    by_cases hc : high + 1 < r.1
    · rw [if_pos hc, if_pos hc]
      have := put_len B low high
      simp only [List.length_cons]
      exact ⟨by omega, fun h => by have := this.2 h; omega⟩
    · rw [if_neg hc, if_neg hc]
      have := merge_len (r :: B) low high
      simp only [List.length_cons] at this ⊢
      exact ⟨by omega, fun h => by have := of_decide_eq_false h; omega⟩

theorem addR_ok {L : List Rg} (h : OkR L) (hn : L.length ≤ 200) (low high : Nat) : OkR (addR L low high) ∧ (addR L low high).length ≤ 200 := by
  unfold addR
  split
  · rename_i h0
    unfold addE at h0
    split at h0
    · cases h0
    · rename_i h1
      split at h0
      · cases h0
      · rename_i h2
        refine ⟨(put_spec L _ low high h (by omega) (by omega)).1, ?_⟩
        obtain ⟨k1, k2⟩ := put_len L low high
        cases hf : freshR L low high with
        | true =>
          have : ¬ 200 ≤ L.length := fun h => h2 ⟨hf, h⟩
          omega
        | false =>
          have := k2 hf
          omega
  · exact ⟨h, hn⟩
theorem dropR_ok {L : List Rg} (h : OkR L) (hn : L.length ≤ 200) (below : Nat) : OkR (dropR L below) ∧ (dropR L below).length ≤ 200 :=
  ⟨(drop_spec L _ below h).1, by have := drop_len L below; have := keep_le L below; omega⟩

/-- A set under way since w0. -/
structure St (w0 : World) (b : Nat) (v : Value) (L : List Rg) (w : World) : Prop where
  is : SetIs w b w0.heap.size v L
  bel : Below w0.heap.size w0 w
  ok : OkR L
  len : L.length ≤ 200

theorem St.next {w0 w w' : World} {b : Nat} {v : Value} {L : List Rg} (h : St w0 b v L w) (hb : Below w.heap.size w w') : St w0 b v L w' :=
  ⟨h.is.next hb, h.bel.trans (hb.mono h.bel.size), h.ok, h.len⟩
theorem own_base_le {w : World} {B : Nat} {e : TypeId} {s n : Nat} {v : Value} {xs : List Value} (h : w.ownsRow B e s v n xs) : ∀ k, v.ownBlock = some k → B ≤ k ∧ k < w.heap.size := by
  intro k hk
  rcases h.2 with ⟨rfl, _⟩ | ⟨g, cap, cur, rfl, h1, h2, _⟩
  · cases hk
  · injection hk with hk
    have hk : g = k := hk
    subst hk
    exact ⟨h1, lt_of_block h2⟩
theorem St.to {w0 w w' : World} {b : Nat} {v v' : Value} {L L' : List Rg} (h : St w0 b v L w) (ht : SetTo b w0.heap.size v w v' L' w') (hok : OkR L') (hlen : L'.length ≤ 200) : St w0 b v' L' w' :=
  ⟨ht.1, h.bel.trans (ht.2.1.below h.bel.size (fun k hk => by
    rcases hk with rfl | hk
    · exact h.is.bb
    · exact (own_base_le h.is.own k hk).1)), hok, hlen⟩
theorem St.start (w : World) : St w w.heap.size (.slice none 0 0) [] (w.alloc (.cells #[.slice none 0 0] 27)) :=
  ⟨⟨blk.new w _ _, ⟨rfl, .inl ⟨rfl, rfl⟩⟩, by simp, Nat.le_refl _⟩, (Below.refl _ _).alloc (Nat.le_refl _) _, trivial, by simp⟩

/-- A row that lies elsewhere stays, whatever the set comes to. -/
theorem SetTo.row {w w' : World} {b B : Nat} {v v' : Value} {L' : List Rg} (h : SetTo b B v w v' L' w') {B2 n : Nat} {u : Value} {xs : List Value} {e : TypeId} {s : Nat} (hu : w.ownsRow B2 e s u n xs) (h1 : ∀ k, u.ownBlock = some k → k ≠ b) (h2 : ∀ k, u.ownBlock = some k → v.ownBlock ≠ some k) :
    w'.ownsRow B2 e s u n xs :=
  own_only hu h.2.1 (fun k hk hs => by
    rcases hs with hs | hs
    · exact h1 k hk hs
    · exact h2 k hk hs)

section
variable {w0 w : World} {b : Nat} {v : Value} {L : List Rg}

theorem St.add (h : St w0 b v L w) (low high : Nat) (hl : low < 18446744073709551616) (hh : high < 18446744073709551616) :
    Calls Try.prog 11 #[.pointer (some ⟨b, 0, none⟩), .int .u64 (low : Int), .int .u64 (high : Int)] w fun e w' => e = .returned (.int .i64 ((addE L low high : Nat) : Int)) ∧ ∃ v', St w0 b v' (addR L low high) w' ∧ SetTo b w0.heap.size v w v' (addR L low high) w' := by
  refine (add_ok b _ v L w low high h.is h.len h.ok hl hh).mono ?_
  rintro e w' ⟨rfl, v', ht⟩
  have := addR_ok h.ok h.len low high
  exact ⟨rfl, v', h.to ht this.1 this.2, ht⟩
theorem St.drop (h : St w0 b v L w) (below : Nat) :
    Calls Try.prog 13 #[.pointer (some ⟨b, 0, none⟩), .int .u64 (below : Int)] w fun e w' => e = .returned (.tuple #[]) ∧ ∃ v', St w0 b v' (dropR L below) w' ∧ SetTo b w0.heap.size v w v' (dropR L below) w' := by
  refine (drop_ok b _ v L w below h.is (by have := h.len; omega) h.ok).mono ?_
  rintro e w' ⟨rfl, v', ht⟩
  have := dropR_ok h.ok h.len below
  exact ⟨rfl, v', h.to ht this.1 this.2, ht⟩
theorem St.covers (h : St w0 b v L w) (low high : Nat) :
    Calls Try.prog 21 #[.pointer (some ⟨b, 0, none⟩), .int .u64 (low : Int), .int .u64 (high : Int)] w fun e w' => e = .returned (.bool (coversR L low high)) ∧ Below w.heap.size w w' ∧ St w0 b v L w' := by
  refine (covers_ok b _ v L w low high h.is (by have := h.len; omega) h.ok).mono ?_
  rintro e w' ⟨rfl, hb⟩
  exact ⟨rfl, hb, h.next hb⟩
theorem St.has (h : St w0 b v L w) (n : Nat) :
    Calls Try.prog 19 #[.pointer (some ⟨b, 0, none⟩), .int .u64 (n : Int)] w fun e w' => e = .returned (.bool (coversR L n n)) ∧ Below w.heap.size w w' ∧ St w0 b v L w' := by
  refine (has_ok b _ v L w n h.is (by have := h.len; omega) h.ok).mono ?_
  rintro e w' ⟨rfl, hb⟩
  exact ⟨rfl, hb, h.next hb⟩
theorem St.count (h : St w0 b v L w) :
    Calls Try.prog 22 #[.pointer (some ⟨b, 0, none⟩)] w fun e w' => e = .returned (.int .u64 (countR L : Int)) ∧ Below w.heap.size w w' ∧ St w0 b v L w' := by
  refine (count_ok b _ v L w h.is (by have := h.len; omega) h.ok).mono ?_
  rintro e w' ⟨rfl, hb⟩
  exact ⟨rfl, hb, h.next hb⟩
theorem St.least (h : St w0 b v L w) :
    Calls Try.prog 24 #[.pointer (some ⟨b, 0, none⟩)] w fun e w' => e = .returned (.tuple #[.int .u64 ((leastR L).1 : Int), .bool (leastR L).2]) ∧ Below w.heap.size w w' ∧ St w0 b v L w' := by
  refine (least_ok b _ v L w h.is (by have := h.len; omega) h.ok).mono ?_
  rintro e w' ⟨rfl, hb⟩
  exact ⟨rfl, hb, h.next hb⟩
theorem St.most (h : St w0 b v L w) :
    Calls Try.prog 25 #[.pointer (some ⟨b, 0, none⟩)] w fun e w' => e = .returned (.tuple #[.int .u64 ((mostR L).1 : Int), .bool (mostR L).2]) ∧ Below w.heap.size w w' ∧ St w0 b v L w' := by
  refine (most_ok b _ v L w h.is (by have := h.len; omega) h.ok).mono ?_
  rintro e w' ⟨rfl, hb⟩
  exact ⟨rfl, hb, h.next hb⟩
theorem St.ranges (h : St w0 b v L w) :
    Calls Try.prog 16 #[.pointer (some ⟨b, 0, none⟩)] w fun e w' => ∃ p cap, e = .returned (.slice p L.length cap) ∧ w'.ownsRow w.heap.size 45 2 (.slice p L.length cap) L.length (rgs L) ∧ Below w.heap.size w w' ∧ St w0 b v L w' := by
  refine (ranges_ok b _ v L w h.is (by have := h.len; omega)).mono ?_
  rintro e w' ⟨u, rfl, hu, hb⟩
  obtain ⟨p, cap, rfl, _⟩ := own_shape hu
  exact ⟨p, cap, rfl, hu, hb, h.next hb⟩
theorem St.top (h : St w0 b v L w) (many : Int) (hm : -9223372036854775808 ≤ many ∧ many < 9223372036854775808) :
    Calls Try.prog 17 #[.pointer (some ⟨b, 0, none⟩), .int .i64 many] w fun e w' => ∃ p cap, e = .returned (.slice p (topN many L.length) cap) ∧ w'.ownsRow w.heap.size 45 2 (.slice p (topN many L.length) cap) (topN many L.length) (rgs (L.take (topN many L.length))) ∧ Below w.heap.size w w' ∧ St w0 b v L w' := by
  refine (top_ok b _ v L w many h.is (by have := h.len; omega) hm).mono ?_
  rintro e w' ⟨u, rfl, hu, hb⟩
  obtain ⟨p, cap, rfl, _⟩ := own_shape hu
  exact ⟨p, cap, rfl, hu, hb, h.next hb⟩
end

/-- A row's cells at a place. -/
theorem row_at {w : World} {B n cap : Nat} {p : Option Addr} {L : List Rg} (h : w.ownsRow B 45 2 (.slice p n cap) n (rgs L)) {i : Nat} {r : Rg} (hr : L[i]? = some r) :
    ∃ g, p = some ⟨g, 0, none⟩ ∧ w.cell? ⟨g, i * 2, none⟩ = some (.int .u64 (r.1 : Int)) ∧ w.cell? ⟨g, i * 2 + 1, none⟩ = some (.int .u64 (r.2 : Int)) ∧ (∀ j, w.frozen? ⟨g, j, none⟩ = false) ∧ B ≤ g ∧ g < w.heap.size := by
  obtain ⟨g, cap1, hv, hB, hg, k0, k1⟩ := rg_cells h i r hr
  injection hv with hv1 hv2 hv3
  subst hv1
  exact ⟨g, rfl, k0, k1, fun j => h.frozenAt j, hB, hg⟩

end Go.Proofs.Ytcpkpofmapjgdaa
