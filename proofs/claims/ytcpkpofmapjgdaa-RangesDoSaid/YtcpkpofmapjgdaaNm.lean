/- ranges: Insert whole; slices.Replace by one range, up to the end. -/
import Derived.Test.YtcpkpofmapjgdaaNl
import Derived.Test.YtcpkpofmapjgdaaNh
namespace Go.Proofs.Ytcpkpofmapjgdaa
open Go.ChangeShapes Go.WideShapes Go.RowKit
set_option linter.unusedVariables false

theorem insert_ok (B : Nat) (v : Value) (n i : Nat) (xs : List Value) (w : World) (vb : Nat) (q : Rg) (h : w.ownsRow B 45 2 v n xs) (hone : ∀ u ∈ xs, u.oneCell' = true)
    (hq : blk w vb 45 (rgVals q)) (hvb : v.ownBlock ≠ some vb) (hn : n ≤ 1000000) (hB : B ≤ w.heap.size) (hi : i ≤ n) :
    Calls Try.prog 30 #[v, .int .i64 (i : Int), .slice (some ⟨vb, 0, none⟩) 1 1] w fun e w' =>
      ∃ v', e = .returned v' ∧ RowTo B v w v' (n + 1) (xs.take (i * 2) ++ rgVals q ++ xs.drop (i * 2)) w' := by
  rcases Nat.eq_or_lt_of_le hi with rfl | hlt
  · rw [List.take_of_length_le (by rw [h.1]; omega), List.drop_of_length_le (by rw [h.1]; omega), List.append_nil]
    exact insert_end B v i xs w vb q h hq hn hB
  · rcases h.2 with ⟨_, h0⟩ | ⟨g, cap, cur, rfl, _⟩
    · omega
    · by_cases hroom : n + 1 ≤ cap
      · exact insert_room B g n cap i xs w vb q h hone hq (fun e => hvb (by rw [e]; rfl)) hn hB hlt hroom
      · exact insert_grow B g n cap i xs w vb q h hone hq hn hB hlt (by omega)

set_option maxRecDepth 100000 in
set_option maxHeartbeats 4000000 in
theorem rep_same (B : Nat) (v : Value) (n i : Nat) (xs : List Value) (w : World) (vb : Nat) (q : Rg) (h : w.ownsRow B 45 2 v n xs) (hone : ∀ u ∈ xs, u.oneCell' = true)
    (hq : blk w vb 45 (rgVals q)) (hvb : v.ownBlock ≠ some vb) (hn : n ≤ 1000000) (hB : B ≤ w.heap.size) (hi : i ≤ n) :
    Calls Try.prog 26 #[v, .int .i64 (i : Int), .int .i64 (i : Int), .slice (some ⟨vb, 0, none⟩) 1 1] w fun e w' =>
      ∃ v', e = .returned v' ∧ RowTo B v w v' (n + 1) (xs.take (i * 2) ++ rgVals q ++ xs.drop (i * 2)) w' := by
  have hC := insert_ok B v n i xs w vb q h hone hq hvb hn hB hi
  obtain ⟨Y, hY⟩ : ∃ Y, xs.take (i * 2) ++ rgVals q ++ xs.drop (i * 2) = Y := ⟨_, rfl⟩
  rw [hY] at hC ⊢
  clear hY
  have HC := Lib.hid hC
  clear hC
  rcases h.2 with ⟨rfl, rfl⟩ | ⟨g, cap, cur, rfl, h1, h2, h3, h4, h5, h6⟩
  · clear h hone hq
    obtain rfl : i = 0 := by omega
    go_enter Try.func26, Try.ntmps26
    go_wp2_with (go_at_call 30; refine HC.out.mono ?_; rintro e w2 ⟨v', rfl, hr⟩; have HR := Lib.hid hr; clear hr)
    go_ret
    exact ⟨_, rfl, HR.out⟩
  · clear h hone hq h2 h5 h6
    have hc9 : cap ≤ 9223372036854775807 := h4
    by_cases hci : cap = i
    · subst hci
      go_enter Try.func26, Try.ntmps26
      go_wp2_with (go_at_call 30; refine HC.out.mono ?_; rintro e w2 ⟨v', rfl, hr⟩; have HR := Lib.hid hr; clear hr)
      all_goals
        go_ret
        exact ⟨_, rfl, HR.out⟩
    · go_enter Try.func26, Try.ntmps26
      go_wp2_with (go_at_call 30; refine HC.out.mono ?_; rintro e w2 ⟨v', rfl, hr⟩; have HR := Lib.hid hr; clear hr)
      all_goals
        go_ret
        exact ⟨_, rfl, HR.out⟩

/-- The end of a row is cleared: what is ahead of it is as it was. -/
theorem row_clear {w W : World} {B g n m cap : Nat} {ys : List Value} (hB : W.ownsRow B 45 2 (.slice (some ⟨g, 0, none⟩) m cap) m ys) (hO : Only (fun k => k = g) w W) (vs : List Value) :
    RowTo B (.slice (some ⟨g, 0, none⟩) n cap) w (.slice (some ⟨g, 0, none⟩) m cap) m ys (W.setCells g (m * 2) vs) :=
  ⟨own_setCells hB vs (m * 2) (Nat.le_refl _), (hO.trans (setCells_only g vs _ W)).mono (fun k hk => by rw [hk]; rfl), .inl rfl⟩

set_option maxRecDepth 100000 in
set_option maxHeartbeats 4000000 in
theorem rep_end (B g n cap i : Nat) (xs : List Value) (w : World) (vb : Nat) (q : Rg) (h : w.ownsRow B 45 2 (.slice (some ⟨g, 0, none⟩) n cap) n xs)
    (hq : blk w vb 45 (rgVals q)) (hvb : vb ≠ g) (hn : n ≤ 1000000) (hi : i < n) :
    Calls Try.prog 26 #[.slice (some ⟨g, 0, none⟩) n cap, .int .i64 (i : Int), .int .i64 (n : Int), .slice (some ⟨vb, 0, none⟩) 1 1] w fun e w' =>
      ∃ v', e = .returned v' ∧ RowTo B (.slice (some ⟨g, 0, none⟩) n cap) w v' (i + 1) (xs.take (i * 2) ++ rgVals q) w' := by
  have hmx : maxLen = 9223372036854775807 := by decide
  obtain ⟨i0, hi0, hzz⟩ := Option.map_eq_some_iff.1 Try.infoR
  simp only [Prod.mk.injEq] at hzz
  obtain ⟨hz0, hzs, hzb⟩ := hzz
  obtain ⟨cur, hg, hnc, hcm, hcs, htk, hBg⟩ := own_parts h
  obtain ⟨c, rfl⟩ : ∃ c : List Value, cur = c.toArray := ⟨cur.toList, by simp⟩
  simp only [List.size_toArray] at hcs
  have hxl : xs.length = n * 2 := h.1
  have hql : (rgVals q).length = 2 := rfl
  have hgw : g < w.heap.size := lt_of_block hg
  have hap : ∀ ty, (Builtin.append_ #[25, 25] ty #[.slice (some ⟨g, 0, none⟩) i cap, .slice (some ⟨vb, 0, none⟩) 1 1]).run Try.prog w = .ok (.slice (some ⟨g, 0, none⟩) (i + 1) cap) (w.setRow g (layR c (i * 2) (rgVals q)).toArray) := fun ty => by
    have := run_append_room (P := Try.prog) (w := w) 25 ty 45 i0 Try.rg_under hi0 g i cap c.toArray hg ⟨vb, 0, none⟩ 1 1 (rgVals q) (by rw [hzs]; rfl) (range_src hq) (rgVals_one q) (by omega) (by rw [hzs, List.size_toArray]; omega)
    rw [this, hzs]
    rfl
  obtain ⟨W1, hW1⟩ : ∃ W1, W1 = w.setRow g (layR c (i * 2) (rgVals q)).toArray := ⟨_, rfl⟩
  rw [← hW1] at hap
  have hl1 : (layR c (i * 2) (rgVals q)).length = cap * 2 := by rw [layR_length (by omega), hcs]
  have hg1 : W1.heap[g]? = some (.cells (layR c (i * 2) (rgVals q)).toArray 45 (0, 0)) := by rw [hW1]; exact setRow_heap w g _ _ _ _ hg
  have hO1 : Only (fun k => k = g) w W1 := by rw [hW1]; exact setRow_only w g _
  have hown1 : W1.ownsRow B 45 2 (.slice (some ⟨g, 0, none⟩) (i + 1) cap) (i + 1) (xs.take (i * 2) ++ rgVals q) := by
    refine own_of hg1 hBg (by omega) hcm (by rw [List.size_toArray, hl1]) ?_
    have h1 : (c.take (i * 2)).length = i * 2 := by rw [List.length_take]; omega
    show (layR c (i * 2) (rgVals q)).take ((i + 1) * 2) = _
    unfold layR
    have hcx : c.take (i * 2) = xs.take (i * 2) := by
      rw [← htk, List.take_take]
      congr 1
      omega
    rw [← hcx, List.take_append_of_le_length (by rw [List.length_append, h1, hql]; omega), List.take_of_length_le (by rw [List.length_append, h1, hql]; omega)]
  have HF := Lib.hid (fun vs => row_clear (n := n) hown1 hO1 vs)
  have hc9 : cap ≤ 9223372036854775807 := by omega
  have hne : ¬ ((i : Int) = (n : Int)) := by omega
  by_cases hin : i + 1 = n
  · subst hin
    clear h hq hg hcs htk hxl hql hW1 hl1 hg1 hO1 hown1 hi0 hz0 hzs hzb hcm hmx
    go_enter Try.func26, Try.ntmps26
    go_wp2_with (at_builtin; refine Lib.wpList_append_run _ rfl _ _ _ _ rfl _ _ rfl rfl _ _ (hap _) ?_)
    all_goals
      go_ret
      exact ⟨_, rfl, HF.out []⟩
  · have hcl : ∀ ty, (Builtin.clear_ #[25] ty #[.slice (some ⟨g, (i + 1) * 2, none⟩) (n - (i + 1)) (cap - (i + 1))]).run Try.prog W1 = .ok (.tuple #[]) (W1.setCells g ((i + 1) * 2) (Builtin.zeroCells (Value.agg #[.int .u64 0, .int .u64 0]).cells (n - (i + 1))).toList) := fun ty =>
      run_clear_any (P := Try.prog) W1 25 45 ty _ Try.rg_underlying Try.rg_zero g ((i + 1) * 2) (n - (i + 1)) (cap - (i + 1)) (by omega) zero_one (by
        intro k hk
        rw [zero_cells2] at hk
        rw [cell_at hg1, List.getElem?_toArray, List.getElem?_eq_getElem (by omega)]
        rfl) (fun k _ => free_at hg1 _)
    have hlt : (i : Int) + 1 < (n : Int) := by omega
    clear h hq hg hcs htk hxl hql hW1 hl1 hg1 hO1 hown1 hi0 hz0 hzs hzb hcm hmx
    go_enter Try.func26, Try.ntmps26
    go_wp2_with (at_builtin; refine Lib.wpList_append_run _ rfl _ _ _ _ rfl _ _ rfl rfl _ _ (hap _) ?_)
    all_goals
      go_ret
      exact ⟨_, rfl, HF.out _⟩

end Go.Proofs.Ytcpkpofmapjgdaa
