/- ranges: slices.Insert of one range, ahead of others, where there is room. -/
import Derived.Test.YtcpkpofmapjgdaaNj
namespace Go.Proofs.Ytcpkpofmapjgdaa
open Go.ChangeShapes Go.WideShapes Go.RowKit
set_option linter.unusedVariables false

theorem shape_at {w : World} {b : Nat} {T : TypeId} {cur : Array Value} (h : w.heap[b]? = some (.cells cur T (0, 0))) : w.shape? b = some (T, cur.size) := by simp [World.shape?, h]
theorem free_at {w : World} {b : Nat} {T : TypeId} {cur : Array Value} (h : w.heap[b]? = some (.cells cur T (0, 0))) (k : Nat) : w.frozen? ⟨b, k, none⟩ = false := by simp [World.frozen?, h]
theorem cell_at {w : World} {b : Nat} {T : TypeId} {cur : Array Value} (h : w.heap[b]? = some (.cells cur T (0, 0))) (k : Nat) : w.cell? ⟨b, k, none⟩ = cur[k]? := by simp [World.cell?, h]

theorem Try.rg_sizeOf (w : World) : (sizeOf 45).run Try.prog w = .ok 2 w := by rfl

set_option maxRecDepth 100000 in
set_option maxHeartbeats 4000000 in
theorem insert_room (B g n cap i : Nat) (xs : List Value) (w : World) (vb : Nat) (q : Rg) (h : w.ownsRow B 45 2 (.slice (some ⟨g, 0, none⟩) n cap) n xs) (hone : ∀ v ∈ xs, v.oneCell' = true)
    (hq : blk w vb 45 (rgVals q)) (hvb : vb ≠ g) (hn : n ≤ 1000000) (hB : B ≤ w.heap.size) (hi : i < n) (hroom : n + 1 ≤ cap) :
    Calls Try.prog 30 #[.slice (some ⟨g, 0, none⟩) n cap, .int .i64 (i : Int), .slice (some ⟨vb, 0, none⟩) 1 1] w fun e w' =>
      ∃ v', e = .returned v' ∧ RowTo B (.slice (some ⟨g, 0, none⟩) n cap) w v' (n + 1) (xs.take (i * 2) ++ rgVals q ++ xs.drop (i * 2)) w' := by
  have hmx : maxLen = 9223372036854775807 := by decide
  obtain ⟨cur, hg, hnc, hcm, hcs, htk, hBg⟩ := own_parts h
  obtain ⟨c, rfl⟩ : ∃ c : List Value, cur = c.toArray := ⟨cur.toList, by simp⟩
  simp only [List.size_toArray] at hcs
  have hxl : xs.length = n * 2 := h.1
  have hql : (rgVals q).length = 2 := rfl
  have hov : ∀ lb cb, (callFunc 31 #[.slice (some ⟨vb, 0, none⟩) 1 1, .slice (some ⟨g, (i + 1) * 2, none⟩) lb cb]).run Try.prog w = .ok (.value (.bool false)) w := fun lb cb => by
    rw [run_callFunc_extern Try.func31 (by kernel_rfl) (by kernel_rfl) (by kernel_rfl) (e := Extern.SlicesOverlaps.overlaps #[25, 25] #[4]) (by kernel_rfl),
      Lib.run_overlaps_apart w 25 4 45 Try.rg_under 2 Try.rg_sizeOf ⟨vb, 0, none⟩ ⟨g, (i + 1) * 2, none⟩ 1 1 lb cb hvb _ _ _ _ (shape_at hq) (shape_at hg) (by show c.toArray.size ≠ 0; rw [List.size_toArray]; omega) (free_at hq _) (free_at hq _)]
    rfl
  have hdl : (xs.drop (i * 2)).length = (n - i) * 2 := by rw [List.length_drop, hxl]; omega
  have hcp1 : ∀ ty dl dc sl sc, min sl dl = n - i → (Builtin.copy_ #[25, 25] ty #[.slice (some ⟨g, (i + 1) * 2, none⟩) dl dc, .slice (some ⟨g, i * 2, none⟩) sl sc]).run Try.prog w.drew = .ok (goInt ((n - i : Nat) : Int)) (w.drew.setRow g (layR c ((i + 1) * 2) (xs.drop (i * 2))).toArray) := fun ty dl dc sl sc hm =>
    run_copy_lay (P := Try.prog) w.drew _ _ ty 45 g ((i + 1) * 2) dl dc ⟨g, i * 2, none⟩ sl sc c 45 (xs.drop (i * 2)) (n - i) Try.rg_under Try.rg_size hm hg hdl
      (fun j v hj => by
        rw [Addr.add_lit, List.getElem?_drop] at *
        rw [cell_at (w := w.drew) hg, List.getElem?_toArray, ← take_get htk _ (by have := (List.getElem?_eq_some_iff.1 hj).1; omega)]
        exact hj) (by rw [hdl]; omega) (fun v hv => hone v (List.mem_of_mem_drop hv))
  obtain ⟨W1, hW1⟩ : ∃ W1, W1 = w.drew.setRow g (layR c ((i + 1) * 2) (xs.drop (i * 2))).toArray := ⟨_, rfl⟩
  rw [← hW1] at hcp1
  have hg1 : W1.heap[g]? = some (.cells (layR c ((i + 1) * 2) (xs.drop (i * 2))).toArray 45 (0, 0)) := by rw [hW1]; exact setRow_heap w.drew g _ _ _ _ hg
  have hq1 : blk W1 vb 45 (rgVals q) := by rw [hW1]; exact (setRow_other w.drew g vb _ hvb).trans hq
  have hcp2 : ∀ ty dl dc, 1 ≤ dl → (Builtin.copy_ #[25, 25] ty #[.slice (some ⟨g, i * 2, none⟩) dl dc, .slice (some ⟨vb, 0, none⟩) 1 1]).run Try.prog W1 = .ok (goInt ((1 : Nat) : Int)) (W1.setRow g (layR (layR c ((i + 1) * 2) (xs.drop (i * 2))) (i * 2) (rgVals q)).toArray) := fun ty dl dc hm =>
    run_copy_lay (P := Try.prog) W1 _ _ ty 45 g (i * 2) dl dc ⟨vb, 0, none⟩ 1 1 _ 45 (rgVals q) 1 Try.rg_under Try.rg_size (by simp only [Nat.min_def]; split <;> omega) hg1 rfl (range_src hq1) (by rw [layR_length (by rw [hdl]; omega), hql]; omega) (rgVals_one q)
  have hfin : RowTo B (.slice (some ⟨g, 0, none⟩) n cap) w (.slice (some ⟨g, 0, none⟩) (n + 1) cap) (n + 1) (xs.take (i * 2) ++ rgVals q ++ xs.drop (i * 2)) (W1.setRow g (layR (layR c ((i + 1) * 2) (xs.drop (i * 2))) (i * 2) (rgVals q)).toArray) := by
    refine ⟨own_of (setRow_heap W1 g _ _ _ _ hg1) hBg hroom hcm ?_ ?_, ?_, .inl rfl⟩
    · rw [List.size_toArray, layR_length (by rw [layR_length (by rw [hdl]; omega), hql]; omega), layR_length (by rw [hdl]; omega), hcs]
    · exact ins_list c xs (rgVals q) n i htk (by omega) (by omega) rfl
    · have o1 : Only (fun k => k = g) w W1 := by rw [hW1]; exact (Only.refl _ w).drew.trans (setRow_only w.drew g _)
      exact (o1.trans (setRow_only W1 g _)).mono (fun k hk => by subst hk; rfl)
  have hcp3 := fun ty dc => hcp2 ty (n + 1 - i) dc (by omega)
  clear hcp2
  have HF := Lib.hid hfin
  clear hfin hW1 hg1 hq1 hdl hone h hg htk hq hxl hcs hql
  have hcm2 : cap ≤ 9223372036854775807 := by omega
  clear hcm
  have hz2 : ¬ ((i : Int) = (n : Int)) := by omega
  go_enter Try.func30, Try.ntmps30
  go_wp2_with (simp only [hov])
  have mixed : Try.prog.follows Departure.mixedOrders = true := by kernel_rfl
  have hw1 : IntKind.i64.wrap ((i : Int) + 1) = (i : Int) + 1 := by rw [IntKind.wrap_i64]; omega
  have hb1 : (0 : Int) ≤ (i : Int) + 1 := by omega
  have hin : i ≤ n := by omega
  have htn : ((i : Int) + 1).toNat = i + 1 := by omega
  have hb2 : ¬ (cap = i + 1) := by omega
  have hb3 : (i : Int) ≤ (n : Int) + 1 := by omega
  have hb4 : ¬ (cap = i) := by omega
  go_region_law_o (refine step_copy_runI rfl _ _ 25 25 rfl (.slice (some ⟨g, (i + 1) * 2, none⟩) (n + 1 - (i + 1)) (cap - (i + 1))) (.slice (some ⟨g, i * 2, none⟩) (n + 1 - i) (cap - i)) (by simp [Act.eval, Act.put]) (by simp [Act.eval, Act.put]) (hcp1 _ _ _ _ _ (by omega)) ?_)
  go_wp2_with (at_builtin; refine wpList_copy_runI _ rfl _ _ 25 25 rfl _ _ rfl rfl (hcp3 _ _) ?_)
  go_ret
  exact ⟨_, rfl, HF.out⟩

end Go.Proofs.Ytcpkpofmapjgdaa
