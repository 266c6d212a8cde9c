/- ranges: slices.Insert of one range, ahead of others, where there is no room; Insert whole. -/
import Derived.Test.YtcpkpofmapjgdaaNk
namespace Go.Proofs.Ytcpkpofmapjgdaa
open Go.ChangeShapes Go.WideShapes Go.RowKit
set_option linter.unusedVariables false

theorem grow_list (c X q : List Value) (n i : Nat) (hX : X.length = n * 2) (hcx : c.take (i * 2) = X.take (i * 2)) (hi : i ≤ n) (hc : (n + 1) * 2 ≤ c.length) (hq : q.length = 2) :
    (layR (layR c (i * 2) q) ((i + 1) * 2) (X.drop (i * 2))).take ((n + 1) * 2) = X.take (i * 2) ++ q ++ X.drop (i * 2) := by
  have hdl : (X.drop (i * 2)).length = (n - i) * 2 := by rw [List.length_drop, hX]; omega
  have h1 : i * 2 + q.length ≤ c.length := by omega
  have hl1 := layR_length h1
  have h2 : (i + 1) * 2 + (X.drop (i * 2)).length ≤ (layR c (i * 2) q).length := by omega
  have hl2 := layR_length h2
  apply List.ext_getElem?
  intro j
  by_cases hj : j < (n + 1) * 2
  · rw [List.getElem?_take_of_lt hj, layR_get h2, layR_get h1]
    by_cases a1 : j < i * 2
    · rw [if_pos (by omega), if_pos a1, List.append_assoc, List.getElem?_append_left (by rw [List.length_take]; omega), ← hcx, List.getElem?_take_of_lt a1]
    · by_cases a2 : j < i * 2 + q.length
      · rw [if_pos (by omega), if_neg a1, if_pos a2, List.getElem?_append_left (by rw [List.length_append, List.length_take]; omega), List.getElem?_append_right (by rw [List.length_take]; omega), List.length_take, Nat.min_eq_left (by omega)]
      · rw [if_neg (by omega), if_pos (by omega), List.getElem?_append_right (by rw [List.length_append, List.length_take]; omega), List.length_append, List.length_take, Nat.min_eq_left (by omega), hq]
        congr 1
        omega
  · rw [List.getElem?_eq_none (by rw [List.length_take]; omega), List.getElem?_eq_none (by simp only [List.length_append, List.length_take, List.length_drop]; omega)]

set_option maxRecDepth 100000 in
set_option maxHeartbeats 4000000 in
theorem insert_grow (B g n cap i : Nat) (xs : List Value) (w : World) (vb : Nat) (q : Rg) (h : w.ownsRow B 45 2 (.slice (some ⟨g, 0, none⟩) n cap) n xs) (hone : ∀ v ∈ xs, v.oneCell' = true)
    (hq : blk w vb 45 (rgVals q)) (hn : n ≤ 1000000) (hB : B ≤ w.heap.size) (hi : i < n) (hroom : cap < n + 1) :
    Calls Try.prog 30 #[.slice (some ⟨g, 0, none⟩) n cap, .int .i64 (i : Int), .slice (some ⟨vb, 0, none⟩) 1 1] w fun e w' =>
      ∃ v', e = .returned v' ∧ RowTo B (.slice (some ⟨g, 0, none⟩) n cap) w v' (n + 1) (xs.take (i * 2) ++ rgVals q ++ xs.drop (i * 2)) w' := by
  have hmx : maxLen = 9223372036854775807 := by decide
  obtain ⟨i0, hi0, hzz⟩ := Option.map_eq_some_iff.1 Try.infoR
  simp only [Prod.mk.injEq] at hzz
  obtain ⟨hz0, hzs, hzb⟩ := hzz
  obtain ⟨cur, hg, hnc, hcm, hcs, htk, hBg⟩ := own_parts h
  obtain ⟨c, rfl⟩ : ∃ c : List Value, cur = c.toArray := ⟨cur.toList, by simp⟩
  simp only [List.size_toArray] at hcs
  have hxl : xs.length = n * 2 := h.1
  have hql : (rgVals q).length = 2 := rfl
  have hgw : g < w.heap.size := lt_of_block hg
  have hvw : vb < w.heap.size := hq.lt
  have hdl : (xs.drop (i * 2)).length = (n - i) * 2 := by rw [List.length_drop, hxl]; omega
  have htl : (xs.take (i * 2)).length = i * 2 := by rw [List.length_take, hxl]; omega
  have hik : i + (n + 1 - i) = n + 1 := by omega
  have hold : (Builtin.firstCells i0.size i (.slice (some ⟨g, 0, none⟩) i cap)).run Try.prog w.drew = .ok (xs.take (i * 2)).toArray w.drew := by
    rw [hzs]
    exact run_firstCells_some w.drew 2 i ⟨g, 0, none⟩ i cap (xs.take (i * 2)) htl (fun j v hj => by
      have hj2 := (List.getElem?_eq_some_iff.1 hj).1
      rw [htl] at hj2
      rw [List.getElem?_take_of_lt hj2, take_get htk _ (by omega)] at hj
      rw [add_zero, cell_at (w := w.drew) hg, List.getElem?_toArray]
      exact hj)
  obtain ⟨G, hG⟩ : ∃ G, G = grownCap w (n + 1) cap 45 := ⟨_, rfl⟩
  have hGn : n + 1 ≤ G := by rw [hG]; exact grownCap_ge w _ _ _
  have hG63 : G ≤ maxLen := by rw [hG]; exact grownCap_le_maxLen w (n + 1) cap 45 (by omega)
  obtain ⟨ROW, hROW⟩ : ∃ ROW : List Value, ROW = xs.take (i * 2) ++ (Builtin.zeroCells (Value.agg #[.int .u64 0, .int .u64 0]).cells (n + 1 - i)).toList ++ (Builtin.zeroCells (Value.agg #[.int .u64 0, .int .u64 0]).cells (G - (n + 1))).toList := ⟨_, rfl⟩
  have hRl : ROW.length = G * 2 := by
    rw [hROW, List.length_append, List.length_append, zero_cells2, zero_cells2, htl]
    omega
  have hRt : ROW.take (i * 2) = xs.take (i * 2) := by rw [hROW, List.append_assoc, List.take_append_of_le_length (by omega), List.take_of_length_le (by omega)]
  obtain ⟨W1, hW1⟩ : ∃ W1, W1 = w.drew.alloc (.cells ROW.toArray 45) := ⟨_, rfl⟩
  have hrz : ∀ ty, (Builtin.append_ #[25, 3] ty #[.slice (some ⟨g, 0, none⟩) i cap, .int .i64 ((n : Int) + 1 - (i : Int))]).run Try.prog w = .ok (.slice (some ⟨w.heap.size, 0, none⟩) (n + 1) G) W1 := fun ty => by
    have h := Lib.run_append_grow_zeros (P := Try.prog) w 25 3 ty 45 i0 _ .i64 .i64 Try.rg_under (by kernel_rfl) hi0 hz0 (some ⟨g, 0, none⟩) i cap (xs.take (i * 2)) hold (n + 1 - i) (by omega) (by omega) (by omega) (by omega) (by rw [hzb]; omega) (by rw [hzb, hik]; exact growslice_fits hroom (by omega))
    rw [hik] at h
    rw [show (n : Int) + 1 - (i : Int) = ((n + 1 - i : Nat) : Int) by omega, h, hW1, ← hG]
    have hRA : (xs.take (i * 2)).toArray ++ Builtin.zeroCells (Value.agg #[.int .u64 0, .int .u64 0]).cells (n + 1 - i) ++ Builtin.zeroCells (Value.agg #[.int .u64 0, .int .u64 0]).cells (G - (n + 1)) = ROW.toArray := by
      apply Array.ext'
      rw [hROW, Array.toList_append, Array.toList_append]
    rw [hRA]
  have hg1 : W1.heap[w.heap.size]? = some (.cells ROW.toArray 45 (0, 0)) := by rw [hW1]; exact heap_alloc_new w.drew _
  have hO1 : Only (fun _ => False) w W1 := by rw [hW1]; exact (Only.refl _ w).drew.alloc _
  have hq1 : blk W1 vb 45 (rgVals q) := hq.only hO1 id
  have hgg : W1.heap[g]? = some (.cells c.toArray 45 (0, 0)) := (hO1.block g hgw id).trans hg
  obtain ⟨W2, hW2⟩ : ∃ W2, W2 = W1.setRow w.heap.size (layR ROW (i * 2) (rgVals q)).toArray := ⟨_, rfl⟩
  have hcpA : ∀ ty dc, (Builtin.copy_ #[25, 25] ty #[.slice (some ⟨w.heap.size, i * 2, none⟩) (n + 1 - i) dc, .slice (some ⟨vb, 0, none⟩) 1 1]).run Try.prog W1 = .ok (goInt ((1 : Nat) : Int)) W2 := fun ty dc => by
    rw [hW2]
    exact run_copy_lay (P := Try.prog) W1 _ _ ty 45 w.heap.size (i * 2) (n + 1 - i) dc ⟨vb, 0, none⟩ 1 1 _ 45 (rgVals q) 1 Try.rg_under Try.rg_size (by simp only [Nat.min_def]; split <;> omega) hg1 rfl (range_src hq1) (by omega) (rgVals_one q)
  have hl1 : (layR ROW (i * 2) (rgVals q)).length = G * 2 := by rw [layR_length (by omega), hRl]
  have hg2 : W2.heap[w.heap.size]? = some (.cells (layR ROW (i * 2) (rgVals q)).toArray 45 (0, 0)) := by rw [hW2]; exact setRow_heap W1 _ _ _ _ _ hg1
  have hO2 : Only (fun _ => False) w W2 := hO1.then (by rw [hW2]; exact setRow_only W1 _ _) (fun k hk => .inr (by omega))
  have hgg2 : W2.heap[g]? = some (.cells c.toArray 45 (0, 0)) := (hO2.block g hgw id).trans hg
  have hcpB : ∀ ty dl dc sl sc, min sl dl = n - i → (Builtin.copy_ #[25, 25] ty #[.slice (some ⟨w.heap.size, (i + 1) * 2, none⟩) dl dc, .slice (some ⟨g, i * 2, none⟩) sl sc]).run Try.prog W2.drew = .ok (goInt ((n - i : Nat) : Int)) (W2.drew.setRow w.heap.size (layR (layR ROW (i * 2) (rgVals q)) ((i + 1) * 2) (xs.drop (i * 2))).toArray) := fun ty dl dc sl sc hm =>
    run_copy_lay (P := Try.prog) W2.drew _ _ ty 45 w.heap.size ((i + 1) * 2) dl dc ⟨g, i * 2, none⟩ sl sc _ 45 (xs.drop (i * 2)) (n - i) Try.rg_under Try.rg_size hm hg2 hdl
      (fun j v hj => by
        rw [Addr.add_lit, List.getElem?_drop] at *
        rw [cell_at (w := W2.drew) hgg2, List.getElem?_toArray, ← take_get htk _ (by have := (List.getElem?_eq_some_iff.1 hj).1; omega)]
        exact hj) (by rw [hdl, hl1]; omega) (fun v hv => hone v (List.mem_of_mem_drop hv))
  have hfin : RowTo B (.slice (some ⟨g, 0, none⟩) n cap) w (.slice (some ⟨w.heap.size, 0, none⟩) (n + 1) G) (n + 1) (xs.take (i * 2) ++ rgVals q ++ xs.drop (i * 2)) (W2.drew.setRow w.heap.size (layR (layR ROW (i * 2) (rgVals q)) ((i + 1) * 2) (xs.drop (i * 2))).toArray) := by
    refine ⟨own_of (setRow_heap W2.drew _ _ _ _ _ hg2) hB hGn hG63 ?_ ?_, ?_, .inr ?_⟩
    · rw [List.size_toArray, layR_length (by omega), hl1]
    · exact grow_list ROW xs (rgVals q) n i hxl hRt (by omega) (by omega) rfl
    · exact (hO2.drew.then (setRow_only W2.drew _ _) (fun k hk => .inr (by omega))).mono (fun k hk => hk.elim)
    · intro k hk
      have hk : some w.heap.size = some k := hk
      injection hk with hk
      omega
  obtain ⟨W3, hW3⟩ : ∃ W3, W2.drew.setRow w.heap.size (layR (layR ROW (i * 2) (rgVals q)) ((i + 1) * 2) (xs.drop (i * 2))).toArray = W3 := ⟨_, rfl⟩
  rw [hW3] at hcpB hfin
  have HF := Lib.hid hfin
  have hgn : g ≠ w.heap.size := by omega
  clear hfin hW1 hW2 hW3 hg1 hq1 hdl hone h hg htk hq hxl hcs hql hold hG hROW hRl hRt hO1 hgg hl1 hg2 hO2 hgg2 htl hi0 hz0 hzs hzb
  have hcm2 : cap ≤ 9223372036854775807 := by omega
  have hG2 : G ≤ 9223372036854775807 := by omega
  clear hcm hG63 hmx
  have hz2 : ¬ ((i : Int) = (n : Int)) := by omega
  have hz3 : (cap : Int) < (n : Int) + 1 := by omega
  have mixed : Try.prog.follows Departure.mixedOrders = true := by kernel_rfl
  have hw1 : IntKind.i64.wrap ((i : Int) + 1) = (i : Int) + 1 := by rw [IntKind.wrap_i64]; omega
  have hb1 : (0 : Int) ≤ (i : Int) + 1 := by omega
  have hin : i ≤ n := by omega
  have htn : ((i : Int) + 1).toNat = i + 1 := by omega
  have hb3 : (i : Int) ≤ (n : Int) := by omega
  have hGi : ¬ (G = i) := by omega
  have hGim : ¬ (G = i + 1) := by omega
  have hci : ¬ (cap = i) := by omega
  go_enter Try.func30, Try.ntmps30
  go_wp2_with (first
    | (at_builtin; refine Lib.wpList_append_run _ rfl _ _ _ _ rfl _ _ rfl rfl _ _ (hrz _) ?_)
    | (at_builtin; refine wpList_copy_runI _ rfl _ _ 25 25 rfl _ _ rfl rfl (hcpA _ _) ?_))
  go_region_law_o (refine step_copy_runI rfl _ _ 25 25 rfl (.slice (some ⟨w.heap.size, (i + 1) * 2, none⟩) (n + 1 - (i + 1)) (G - (i + 1))) (.slice (some ⟨g, i * 2, none⟩) (n - i) (cap - i)) (by simp [Act.eval, Act.put]) (by simp [Act.eval, Act.put]) (hcpB _ _ _ _ _ (by omega)) ?_)
  go_wp2_with fail
  go_ret
  exact ⟨_, rfl, HF.out⟩

end Go.Proofs.Ytcpkpofmapjgdaa
