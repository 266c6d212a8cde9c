/- ranges: slices.Replace by one range, ahead of others; Replace whole. -/
import Derived.Test.YtcpkpofmapjgdaaNm
namespace Go.Proofs.Ytcpkpofmapjgdaa
open Go.ChangeShapes Go.WideShapes Go.RowKit
set_option linter.unusedVariables false

set_option maxRecDepth 100000 in
set_option maxHeartbeats 4000000 in
theorem rep_mid (B g n cap i k : Nat) (xs : List Value) (w : World) (vb : Nat) (q : Rg) (h : w.ownsRow B 45 2 (.slice (some ⟨g, 0, none⟩) n cap) n xs) (hone : ∀ v ∈ xs, v.oneCell' = true)
    (hq : blk w vb 45 (rgVals q)) (hvb : vb ≠ g) (hn : n ≤ 1000000) (hi : i < k) (hk : k < n) :
    Calls Try.prog 26 #[.slice (some ⟨g, 0, none⟩) n cap, .int .i64 (i : Int), .int .i64 (k : Int), .slice (some ⟨vb, 0, none⟩) 1 1] w fun e w' =>
      ∃ v', e = .returned v' ∧ RowTo B (.slice (some ⟨g, 0, none⟩) n cap) w v' (i + 1 + (n - k)) (xs.take (i * 2) ++ rgVals q ++ xs.drop (k * 2)) w' := by
  have hmx : maxLen = 9223372036854775807 := by decide
  obtain ⟨cur, hg, hnc, hcm, hcs, htk, hBg⟩ := own_parts h
  obtain ⟨c, rfl⟩ : ∃ c : List Value, cur = c.toArray := ⟨cur.toList, by simp⟩
  simp only [List.size_toArray] at hcs
  have hxl : xs.length = n * 2 := h.1
  have hql : (rgVals q).length = 2 := rfl
  have hdl : (xs.drop (k * 2)).length = (n - k) * 2 := by rw [List.length_drop, hxl]; omega
  obtain ⟨T, hT⟩ : ∃ T, i + 1 + (n - k) = T := ⟨_, rfl⟩
  rw [hT]
  obtain ⟨W1, hW1⟩ : ∃ W1, W1 = w.drew.setRow g (layR c (i * 2) (rgVals q)).toArray := ⟨_, rfl⟩
  have hcp1 : ∀ ty dc, (Builtin.copy_ #[25, 25] ty #[.slice (some ⟨g, i * 2, none⟩) (T - i) dc, .slice (some ⟨vb, 0, none⟩) 1 1]).run Try.prog w.drew = .ok (goInt ((1 : Nat) : Int)) W1 := fun ty dc => by
    rw [hW1]
    exact run_copy_lay (P := Try.prog) w.drew _ _ ty 45 g (i * 2) (T - i) dc ⟨vb, 0, none⟩ 1 1 _ 45 (rgVals q) 1 Try.rg_under Try.rg_size (by simp only [Nat.min_def]; split <;> omega) hg rfl (range_src (w := w.drew) hq) (by omega) (rgVals_one q)
  have hl1 : (layR c (i * 2) (rgVals q)).length = cap * 2 := by rw [layR_length (by omega), hcs]
  have hg1 : W1.heap[g]? = some (.cells (layR c (i * 2) (rgVals q)).toArray 45 (0, 0)) := by rw [hW1]; exact setRow_heap w.drew g _ _ _ _ hg
  have hO1 : Only (fun k => k = g) w W1 := by rw [hW1]; exact (Only.refl _ w).drew.trans (setRow_only w.drew g _)
  have hcp2 : ∀ ty dl dc sl sc, min sl dl = n - k → (Builtin.copy_ #[25, 25] ty #[.slice (some ⟨g, (i + 1) * 2, none⟩) dl dc, .slice (some ⟨g, k * 2, none⟩) sl sc]).run Try.prog W1.drew = .ok (goInt ((n - k : Nat) : Int)) (W1.drew.setRow g (layR (layR c (i * 2) (rgVals q)) ((i + 1) * 2) (xs.drop (k * 2))).toArray) := fun ty dl dc sl sc hm =>
    run_copy_lay (P := Try.prog) W1.drew _ _ ty 45 g ((i + 1) * 2) dl dc ⟨g, k * 2, none⟩ sl sc _ 45 (xs.drop (k * 2)) (n - k) Try.rg_under Try.rg_size hm hg1 hdl
      (fun j v hj => by
        rw [Addr.add_lit, List.getElem?_drop] at *
        have hj2 := (List.getElem?_eq_some_iff.1 hj).1
        rw [cell_at (w := W1.drew) hg1, List.getElem?_toArray, layR_get (by omega), if_neg (by omega), if_neg (by omega), ← take_get htk _ (by omega)]
        exact hj) (by rw [hdl, hl1]; omega) (fun v hv => hone v (List.mem_of_mem_drop hv))
  obtain ⟨W2, hW2⟩ : ∃ W2, W1.drew.setRow g (layR (layR c (i * 2) (rgVals q)) ((i + 1) * 2) (xs.drop (k * 2))).toArray = W2 := ⟨_, rfl⟩
  rw [hW2] at hcp2
  have hl2 : (layR (layR c (i * 2) (rgVals q)) ((i + 1) * 2) (xs.drop (k * 2))).length = cap * 2 := by rw [layR_length (by omega), hl1]
  have hg2 : W2.heap[g]? = some (.cells (layR (layR c (i * 2) (rgVals q)) ((i + 1) * 2) (xs.drop (k * 2))).toArray 45 (0, 0)) := by rw [← hW2]; exact setRow_heap W1.drew g _ _ _ _ hg1
  have hO2 : Only (fun k => k = g) w W2 := by rw [← hW2]; exact hO1.drew.trans (setRow_only W1.drew g _)
  obtain ⟨Y, hY⟩ : ∃ Y, xs.take (i * 2) ++ rgVals q ++ xs.drop (k * 2) = Y := ⟨_, rfl⟩
  have hown2 : W2.ownsRow B 45 2 (.slice (some ⟨g, 0, none⟩) T cap) T Y := by
    refine own_of hg2 hBg (by omega) hcm (by rw [List.size_toArray, hl2]) ?_
    rw [← hY, ← hT]
    exact rep_list c xs (rgVals q) n i k htk hi (by omega) (by omega) rfl
  rw [hY]
  have HF := Lib.hid (fun vs => row_clear (n := n) hown2 hO2 vs)
  have hcl : ∀ ty, T < n → (Builtin.clear_ #[25] ty #[.slice (some ⟨g, T * 2, none⟩) (n - T) (cap - T)]).run Try.prog W2 = .ok (.tuple #[]) (W2.setCells g (T * 2) (Builtin.zeroCells (Value.agg #[.int .u64 0, .int .u64 0]).cells (n - T)).toList) := fun ty hlt =>
    run_clear_any (P := Try.prog) W2 25 45 ty _ Try.rg_underlying Try.rg_zero g (T * 2) (n - T) (cap - T) (by omega) zero_one (by
      intro j hj
      rw [zero_cells2] at hj
      rw [cell_at hg2, List.getElem?_toArray, List.getElem?_eq_getElem (by omega)]
      rfl) (fun k _ => free_at hg2 _)
  have hcl0 : ∀ ty o c, (Builtin.clear_ #[25] ty #[.slice (some ⟨g, o, none⟩) 0 c]).run Try.prog W2 = .ok (.tuple #[]) W2 := fun ty o c => run_clear_empty (P := Try.prog) W2 25 45 ty Try.rg_underlying _ c
  have hc9 : cap ≤ 9223372036854775807 := by omega
  have hne : ¬ ((i : Int) = (k : Int)) := by omega
  have hne2 : ¬ ((k : Int) = (n : Int)) := by omega
  have hTn : T ≤ n := by omega
  have hTi : i + 1 ≤ T := by omega
  have hsum : (i : Int) + 1 + ((n - k : Nat) : Int) = (T : Int) := by omega
  have hcopy2 : min (n - k) (T - (i + 1)) = n - k := by omega
  clear h hq hg hcs htk hxl hql hW1 hW2 hl1 hg1 hO1 hown2 hcm hmx hone hY hl2 hg2 hO2 hdl
  have mixed : Try.prog.follows Departure.mixedOrders = true := by kernel_rfl
  have hw1 : IntKind.i64.wrap ((i : Int) + 1) = (i : Int) + 1 := by rw [IntKind.wrap_i64]; omega
  have hw2 : IntKind.i64.wrap ((i : Int) + 1 + ((n - k : Nat) : Int)) = (T : Int) := by rw [hsum, IntKind.wrap_i64]; omega
  have hb1 : (0 : Int) ≤ (i : Int) + 1 := by omega
  have hin : i ≤ n := by omega
  have hkn : k ≤ n := by omega
  have htn : ((i : Int) + 1).toNat = i + 1 := by omega
  have hb2 : ¬ (cap = k) := by omega
  have hb3 : (i : Int) + 1 ≤ (T : Int) := by omega
  have hb4 : ¬ (cap = i) := by omega
  go_enter Try.func26, Try.ntmps26
  have hb5 : ¬ (cap = i + 1) := by omega
  go_wp2_with fail
  go_region
  all_goals
    go_wp2_with (at_builtin; refine wpList_copy_runI _ rfl _ _ 25 25 rfl _ _ rfl rfl (hcp1 _ _) ?_)
  all_goals
    go_region_law_o (refine step_copy_runI rfl _ _ 25 25 rfl (.slice (some ⟨g, (i + 1) * 2, none⟩) (T - (i + 1)) (cap - (i + 1))) (.slice (some ⟨g, k * 2, none⟩) (n - k) (cap - k)) (by simp [Act.eval, Act.put]) (by simp [Act.eval, Act.put]) (hcp2 _ _ _ _ _ hcopy2) ?_)
  all_goals
    by_cases hlt : T < n
    · have hcl1 := fun ty => hcl ty hlt
      have hcT : ¬ (cap = T) := by omega
      clear hcl hcl0
      go_wp2_with fail
      go_ret
      exact ⟨_, rfl, HF.out _⟩
    · obtain rfl : T = n := by omega
      clear hcl
      by_cases hcT : cap = T
      · subst hcT
        go_wp2_with fail
        go_ret
        exact ⟨_, rfl, HF.out []⟩
      · go_wp2_with fail
        go_ret
        exact ⟨_, rfl, HF.out []⟩

/-- slices.Replace(s, i, k, one range). -/
theorem replace_ok (B : Nat) (v : Value) (n i k : Nat) (xs : List Value) (w : World) (vb : Nat) (q : Rg) (h : w.ownsRow B 45 2 v n xs) (hone : ∀ u ∈ xs, u.oneCell' = true)
    (hq : blk w vb 45 (rgVals q)) (hvb : v.ownBlock ≠ some vb) (hn : n ≤ 1000000) (hB : B ≤ w.heap.size) (hi : i ≤ k) (hk : k ≤ n) :
    Calls Try.prog 26 #[v, .int .i64 (i : Int), .int .i64 (k : Int), .slice (some ⟨vb, 0, none⟩) 1 1] w fun e w' =>
      ∃ v', e = .returned v' ∧ RowTo B v w v' (i + 1 + (n - k)) (xs.take (i * 2) ++ rgVals q ++ xs.drop (k * 2)) w' := by
  rcases Nat.eq_or_lt_of_le hi with rfl | hlt
  · rw [show i + 1 + (n - i) = n + 1 by omega]
    exact rep_same B v n i xs w vb q h hone hq hvb hn hB hk
  · rcases h.2 with ⟨_, h0⟩ | ⟨g, cap, cur, rfl, _⟩
    · omega
    · have hvg : vb ≠ g := fun e => hvb (by rw [e]; rfl)
      rcases Nat.eq_or_lt_of_le hk with rfl | hkn
      · rw [List.drop_of_length_le (by rw [h.1]; omega), List.append_nil, show i + 1 + (k - k) = i + 1 by omega]
        exact rep_end B g k cap i xs w vb q h hq hvg hn hlt
      · exact rep_mid B g n cap i k xs w vb q h hone hq hvg hn hlt hkn

end Go.Proofs.Ytcpkpofmapjgdaa
