/- Printed by wip/tools/space_tpl.py out of texts of other layers. -/
import Derived.Test.YtmnmpmiocgfalaaSa
import Derived.Lib.Overlaps
import Derived.Shelf.Spec.SlicesInsertGrow

namespace Go.Proofs.Ytmnmpmiocgfalaa
open Go.ChangeShapes Go.WideShapes Go.RowKit
set_option linter.unusedVariables false
variable {X : Crs}

theorem Try.rg_underlying : Try.prog.underlying 30 = some (.slice 47) := by kernel_rfl
set_option maxRecDepth 100000 in
theorem Try.rg_zero (w : World) : (zeroValue 47).run Try.prog w = .ok (.agg #[.int .u64 0, .int .u64 0]) w := by rfl

theorem run_clear_empty {P : Program} (w : World) (t e ty : TypeId) (ht : P.underlying t = some (.slice e)) (p : Option Addr) (c : Nat) :
    (Builtin.clear_ #[t] ty #[.slice p 0 c]).run P w = .ok (.tuple #[]) w := by
  cases p <;> simp [Builtin.clear_, run_underlying ht]

theorem zero_one {n : Nat} : ∀ v ∈ (Builtin.zeroCells (Value.agg #[.int .u64 0, .int .u64 0]).cells n).toList, v.oneCell' = true := by
  intro v hv
  simp [Builtin.zeroCells, Value.cells] at hv
  obtain ⟨i, hi, rfl⟩ := hv
  rcases Nat.mod_two_eq_zero_or_one i with h | h <;> simp [h, Value.oneCell']

end Go.Proofs.Ytmnmpmiocgfalaa

namespace Go.Proofs.Ytmnmpmiocgfalaa
open Go.ChangeShapes Go.WideShapes Go.RowKit
set_option linter.unusedVariables false
variable {X : Crs}

/-- What a row is when xs is laid into it at o. -/
def layR (c : List Value) (o : Nat) (xs : List Value) : List Value := c.take o ++ xs ++ c.drop (o + xs.length)
theorem layR_length {c : List Value} {o : Nat} {xs : List Value} (h : o + xs.length ≤ c.length) : (layR c o xs).length = c.length := by
  unfold layR
  simp only [List.length_append, List.length_take, List.length_drop]
  omega
theorem layR_get {c : List Value} {o : Nat} {xs : List Value} (h : o + xs.length ≤ c.length) (k : Nat) :
    (layR c o xs)[k]? = if k < o then c[k]? else if k < o + xs.length then xs[k - o]? else c[k]? := by
  unfold layR
  by_cases h1 : k < o
  · rw [if_pos h1, List.append_assoc, List.getElem?_append_left (by rw [List.length_take]; omega), List.getElem?_take_of_lt h1]
  · rw [if_neg h1]
    by_cases h2 : k < o + xs.length
    · rw [if_pos h2, List.getElem?_append_left (by rw [List.length_append, List.length_take]; omega), List.getElem?_append_right (by rw [List.length_take]; omega), List.length_take, Nat.min_eq_left (by omega)]
    · rw [if_neg h2, List.getElem?_append_right (by rw [List.length_append, List.length_take]; omega), List.getElem?_drop, List.length_append, List.length_take, Nat.min_eq_left (by omega)]
      congr 1
      omega
theorem take_get {c X : List Value} {n : Nat} (h : c.take n = X) (k : Nat) (hk : k < n) : X[k]? = c[k]? := by rw [← h, List.getElem?_take_of_lt hk]

theorem ins_list (c X q : List Value) (n i : Nat) (hX : c.take (n * 2) = X) (hi : i ≤ n) (hc : (n + 1) * 2 ≤ c.length) (hq : q.length = 2) :
    (layR (layR c ((i + 1) * 2) (X.drop (i * 2))) (i * 2) q).take ((n + 1) * 2) = X.take (i * 2) ++ q ++ X.drop (i * 2) := by
  have hXl : X.length = n * 2 := by rw [← hX, List.length_take]; omega
  have hdl : (X.drop (i * 2)).length = (n - i) * 2 := by rw [List.length_drop, hXl]; omega
  have h1 : (i + 1) * 2 + (X.drop (i * 2)).length ≤ c.length := by omega
  have hl1 := layR_length h1
  have h2 : i * 2 + q.length ≤ (layR c ((i + 1) * 2) (X.drop (i * 2))).length := by omega
  have hl2 := layR_length h2
  apply List.ext_getElem?
  intro k
  by_cases hk : k < (n + 1) * 2
  · rw [List.getElem?_take_of_lt hk, layR_get h2, layR_get h1]
    by_cases a1 : k < i * 2
    · rw [if_pos a1, if_pos (by omega), List.append_assoc, List.getElem?_append_left (by rw [List.length_take]; omega), List.getElem?_take_of_lt a1, take_get hX k (by omega)]
    · rw [if_neg a1]
      by_cases a2 : k < i * 2 + q.length
      · rw [if_pos a2, List.getElem?_append_left (by rw [List.length_append, List.length_take]; omega), List.getElem?_append_right (by rw [List.length_take]; omega), List.length_take, Nat.min_eq_left (by omega)]
      · rw [if_neg a2, if_neg (by omega), if_pos (by omega), List.getElem?_append_right (by rw [List.length_append, List.length_take]; omega), List.length_append, List.length_take, Nat.min_eq_left (by omega), hq]
        congr 1
        omega
  · rw [List.getElem?_eq_none (by rw [List.length_take]; omega), List.getElem?_eq_none (by simp only [List.length_append, List.length_take, List.length_drop]; omega)]

theorem rep_list (c X q : List Value) (n i k : Nat) (hX : c.take (n * 2) = X) (hi : i < k) (hk : k ≤ n) (hc : n * 2 ≤ c.length) (hq : q.length = 2) :
    (layR (layR c (i * 2) q) ((i + 1) * 2) (X.drop (k * 2))).take ((i + 1 + (n - k)) * 2) = X.take (i * 2) ++ q ++ X.drop (k * 2) := by
  have hXl : X.length = n * 2 := by rw [← hX, List.length_take]; omega
  have hdl : (X.drop (k * 2)).length = (n - k) * 2 := by rw [List.length_drop, hXl]; omega
  have h1 : i * 2 + q.length ≤ c.length := by omega
  have hl1 := layR_length h1
  have h2 : (i + 1) * 2 + (X.drop (k * 2)).length ≤ (layR c (i * 2) q).length := by omega
  have hl2 := layR_length h2
  apply List.ext_getElem?
  intro j
  by_cases hj : j < (i + 1 + (n - k)) * 2
  · rw [List.getElem?_take_of_lt hj, layR_get h2, layR_get h1]
    by_cases a1 : j < i * 2
    · rw [if_pos (by omega), if_pos a1, List.append_assoc, List.getElem?_append_left (by rw [List.length_take]; omega), List.getElem?_take_of_lt a1, take_get hX j (by omega)]
    · by_cases a2 : j < i * 2 + q.length
      · rw [if_pos (by omega), if_neg a1, if_pos a2, List.getElem?_append_left (by rw [List.length_append, List.length_take]; omega), List.getElem?_append_right (by rw [List.length_take]; omega), List.length_take, Nat.min_eq_left (by omega)]
      · rw [if_neg (by omega), if_pos (by omega), List.getElem?_append_right (by rw [List.length_append, List.length_take]; omega), List.length_append, List.length_take, Nat.min_eq_left (by omega), hq]
        congr 1
        omega
  · rw [List.getElem?_eq_none (by rw [List.length_take]; omega), List.getElem?_eq_none (by simp only [List.length_append, List.length_take, List.length_drop]; omega)]

theorem own_parts {w : World} {base : Nat} {e : TypeId} {g n cap : Nat} {xs : List Value} (h : w.ownsRow base e 2 (.slice (some ⟨g, 0, none⟩) n cap) n xs) :
    ∃ cur, w.heap[g]? = some (.cells cur e (0, 0)) ∧ n ≤ cap ∧ cap ≤ maxLen ∧ cur.size = cap * 2 ∧ cur.toList.take (n * 2) = xs ∧ base ≤ g := by
  rcases h.2 with ⟨hv, _⟩ | ⟨g2, c2, cur, hv, h1, h2, h3, h4, h5, h6⟩
  · cases hv
  · injection hv with e1 e2 e3
    injection e1 with e1
    injection e1 with e1
    subst e1 e3
    exact ⟨cur, h2, h3, h4, h5, h6, h1⟩
theorem own_of {w : World} {base : Nat} {e : TypeId} {g n cap : Nat} {xs : List Value} {cur : Array Value} (h2 : w.heap[g]? = some (.cells cur e (0, 0))) (hb : base ≤ g) (hn : n ≤ cap) (hc : cap ≤ maxLen) (hs : cur.size = cap * 2) (hx : cur.toList.take (n * 2) = xs) :
    w.ownsRow base e 2 (.slice (some ⟨g, 0, none⟩) n cap) n xs := by
  refine ⟨?_, .inr ⟨g, cap, cur, rfl, hb, h2, hn, hc, hs, hx⟩⟩
  rw [← hx, List.length_take, Array.length_toList]
  omega

theorem setRow_only (w : World) (g : Nat) (cs : Array Value) : Only (fun k => k = g) w (w.setRow g cs) :=
  ⟨rfl, rfl, rfl, by simp, fun k _ hs => setRow_other w g k cs hs⟩

/-- copy of elements of two cells. -/
theorem run_copy_lay {P : Program} (w : World) (dT sT ty elem : TypeId) (g o dLen dCap : Nat) (a : Addr) (sLen sCap : Nat) (c : List Value) (t : TypeId) (cs : List Value) (m : Nat)
    (hu : P.underlying dT = some (.slice elem)) (hs : (P.info? elem).map (·.size) = some 2) (hm : Nat.min sLen dLen = m)
    (hg : w.heap[g]? = some (.cells c.toArray t (0, 0))) (hn : cs.length = m * 2)
    (hsrc : ∀ j v, cs[j]? = some v → w.cell? (a.add j) = some v) (hfit : o + cs.length ≤ c.length) (h1 : ∀ v ∈ cs, v.oneCell' = true) :
    (Builtin.copy_ #[dT, sT] ty #[.slice (some ⟨g, o, none⟩) dLen dCap, .slice (some a) sLen sCap]).run P w =
      .ok (goInt m) (w.setRow g (layR c o cs).toArray) := by
  have := run_copy_rowK (P := P) w dT sT ty elem g o dLen dCap a sLen sCap c.toArray t cs 2 m hu hs hm hg hn hsrc (by simpa using hfit) h1
  simpa [layR] using this

theorem rgs_oneCell (L : List Rg) : ∀ v ∈ rgs L, v.oneCell' = true := by
  intro v hv
  simp only [rgs, List.mem_flatMap, rgVals] at hv
  obtain ⟨r, _, hv⟩ := hv
  simp at hv
  rcases hv with rfl | rfl <;> rfl
theorem rgs_drop (l : List Rg) (k : Nat) : rgs (l.drop k) = (rgs l).drop (k * 2) := by
  by_cases hk : k ≤ l.length
  · conv => rhs; rw [← List.take_append_drop k l, rgs_append]
    rw [List.drop_left' (by rw [rgs_length, List.length_take]; omega)]
  · rw [List.drop_of_length_le (by omega), List.drop_of_length_le (by rw [rgs_length]; omega)]
    rfl

end Go.Proofs.Ytmnmpmiocgfalaa

namespace Go.Proofs.Ytmnmpmiocgfalaa
open Go.ChangeShapes Go.WideShapes Go.RowKit
set_option linter.unusedVariables false
variable {X : Crs}

/-- What Insert and Replace give. -/
def RowTo (B : Nat) (v : Value) (w : World) (v' : Value) (n : Nat) (xs : List Value) (w' : World) : Prop :=
  w'.ownsRow B 47 2 v' n xs ∧ Only (fun k => v.ownBlock = some k) w w' ∧ (v'.ownBlock = v.ownBlock ∨ ∀ k, v'.ownBlock = some k → w.heap.size ≤ k)

theorem Try.rg_under : Try.prog.underlying 30 = some (.slice 47) := by kernel_rfl
theorem Try.rg_size : (Try.prog.info? 47).map (·.size) = some 2 := by kernel_rfl

theorem range_src {w : World} {vb : Nat} {q : Rg} (hq : blk w vb 47 (rgVals q)) : ∀ j u, (rgVals q)[j]? = some u → w.cell? ((⟨vb, 0, none⟩ : Addr).add j) = some u := by
  intro j u hj
  rw [add_zero]
  exact hq.cell hj
theorem rgVals_one (q : Rg) : ∀ u ∈ rgVals q, u.oneCell' = true := by
  intro u hu
  simp [rgVals] at hu
  rcases hu with rfl | rfl <;> rfl

set_option maxRecDepth 100000 in
set_option maxHeartbeats 4000000 in
theorem insert_end (B : Nat) (v : Value) (n : Nat) (xs : List Value) (w : World) (vb : Nat) (q : Rg) (h : w.ownsRow B 47 2 v n xs) (hq : blk w vb 47 (rgVals q)) (hn : n ≤ 1000000) (hB : B ≤ w.heap.size) :
    Calls Try.prog 81 #[v, .int .i64 (n : Int), .slice (some ⟨vb, 0, none⟩) 1 1] w fun e w' =>
      ∃ v', e = .returned v' ∧ RowTo B v w v' (n + 1) (xs ++ rgVals q) w' := by
  obtain ⟨i0, hi, hzz⟩ := Option.map_eq_some_iff.1 Try.infoR
  simp only [Prod.mk.injEq] at hzz
  obtain ⟨hz, hsz, hby⟩ := hzz
  have ht := Try.rg_under
  have hmx : maxLen = 9223372036854775807 := by decide
  have h63 : n + 1 ≤ maxLen := by omega
  have hbytes : (n + 1) * 16 ≤ 140737488355328 := by omega
  have hsrc := Lib.hid (range_src hq)
  have HO := Lib.hid h
  rcases h.2 with ⟨rfl, h0⟩ | ⟨g, cap, cur, rfl, h1, h2, h3, h4, h5, h6⟩
  · subst h0
    clear h hq
    go_enter Try.func81, Try.ntmps81
    go_wp2_with (at_builtin; refine wpList_append_own_at _ rfl _ _ 30 rfl B 47 i0 _ 2 16 ht hi hz hsz hby rfl (by omega) _ _ _ rfl HO.out ⟨vb, 0, none⟩ 1 1 (rgVals q) rfl rfl hsrc.out (rgVals_one q) h63 hbytes hB ?_; intro v' w1 k1 k2 k3 k4; have HK := Lib.hid (show RowTo _ _ _ _ _ _ _ from ⟨k1, (Only.refl _ w).grown k2 (fun k hk => .inl hk), k4.imp id (fun e k hk => by rw [e] at hk; injection hk with hk; omega)⟩); clear k1 k2 k3 k4)
    go_ret
    exact ⟨_, rfl, HK.out⟩
  · clear h hq h2 h5 h6
    go_enter Try.func81, Try.ntmps81
    go_wp2_with (at_builtin; refine wpList_append_own_at _ rfl _ _ 30 rfl B 47 i0 _ 2 16 ht hi hz hsz hby rfl (by omega) _ _ _ rfl HO.out ⟨vb, 0, none⟩ 1 1 (rgVals q) rfl rfl hsrc.out (rgVals_one q) h63 hbytes hB ?_; intro v' w1 k1 k2 k3 k4; have HK := Lib.hid (show RowTo _ _ _ _ _ _ _ from ⟨k1, (Only.refl _ w).grown k2 (fun k hk => .inl hk), k4.imp id (fun e k hk => by rw [e] at hk; injection hk with hk; omega)⟩); clear k1 k2 k3 k4)
    all_goals
      go_ret
      exact ⟨_, rfl, HK.out⟩

end Go.Proofs.Ytmnmpmiocgfalaa

namespace Go.Proofs.Ytmnmpmiocgfalaa
open Go.ChangeShapes Go.WideShapes Go.RowKit
set_option linter.unusedVariables false
variable {X : Crs}

theorem shape_at {w : World} {b : Nat} {T : TypeId} {cur : Array Value} (h : w.heap[b]? = some (.cells cur T (0, 0))) : w.shape? b = some (T, cur.size) := by simp [World.shape?, h]
theorem free_at {w : World} {b : Nat} {T : TypeId} {cur : Array Value} (h : w.heap[b]? = some (.cells cur T (0, 0))) (k : Nat) : w.frozen? ⟨b, k, none⟩ = false := by simp [World.frozen?, h]
theorem cell_at {w : World} {b : Nat} {T : TypeId} {cur : Array Value} (h : w.heap[b]? = some (.cells cur T (0, 0))) (k : Nat) : w.cell? ⟨b, k, none⟩ = cur[k]? := by simp [World.cell?, h]

set_option maxRecDepth 100000 in
theorem Try.rg_sizeOf (w : World) : (sizeOf 47).run Try.prog w = .ok 2 w := by rfl

set_option maxRecDepth 100000 in
set_option maxHeartbeats 4000000 in
theorem insert_room (B g n cap i : Nat) (xs : List Value) (w : World) (vb : Nat) (q : Rg) (h : w.ownsRow B 47 2 (.slice (some ⟨g, 0, none⟩) n cap) n xs) (hone : ∀ v ∈ xs, v.oneCell' = true)
    (hq : blk w vb 47 (rgVals q)) (hvb : vb ≠ g) (hn : n ≤ 1000000) (hB : B ≤ w.heap.size) (hi : i < n) (hroom : n + 1 ≤ cap) :
    Calls Try.prog 81 #[.slice (some ⟨g, 0, none⟩) n cap, .int .i64 (i : Int), .slice (some ⟨vb, 0, none⟩) 1 1] w fun e w' =>
      ∃ v', e = .returned v' ∧ RowTo B (.slice (some ⟨g, 0, none⟩) n cap) w v' (n + 1) (xs.take (i * 2) ++ rgVals q ++ xs.drop (i * 2)) w' := by
  have hmx : maxLen = 9223372036854775807 := by decide
  obtain ⟨cur, hg, hnc, hcm, hcs, htk, hBg⟩ := own_parts h
  obtain ⟨c, rfl⟩ : ∃ c : List Value, cur = c.toArray := ⟨cur.toList, by simp⟩
  simp only [List.size_toArray] at hcs
  have hxl : xs.length = n * 2 := h.1
  have hql : (rgVals q).length = 2 := rfl
  have hov : ∀ lb cb, (callFunc 82 #[.slice (some ⟨vb, 0, none⟩) 1 1, .slice (some ⟨g, (i + 1) * 2, none⟩) lb cb]).run Try.prog w = .ok (.value (.bool false)) w := fun lb cb => by
    rw [run_callFunc_extern Try.func82 (by kernel_rfl) (by kernel_rfl) (by kernel_rfl) (e := Extern.SlicesOverlaps.overlaps #[30, 30] #[4]) (by kernel_rfl),
      Lib.run_overlaps_apart w 30 4 47 Try.rg_under 2 Try.rg_sizeOf ⟨vb, 0, none⟩ ⟨g, (i + 1) * 2, none⟩ 1 1 lb cb hvb _ _ _ _ (shape_at hq) (shape_at hg) (by show c.toArray.size ≠ 0; rw [List.size_toArray]; omega) (free_at hq _) (free_at hq _)]
    rfl
  have hdl : (xs.drop (i * 2)).length = (n - i) * 2 := by rw [List.length_drop, hxl]; omega
  have hcp1 : ∀ ty dl dc sl sc, min sl dl = n - i → (Builtin.copy_ #[30, 30] ty #[.slice (some ⟨g, (i + 1) * 2, none⟩) dl dc, .slice (some ⟨g, i * 2, none⟩) sl sc]).run Try.prog w.drew = .ok (goInt ((n - i : Nat) : Int)) (w.drew.setRow g (layR c ((i + 1) * 2) (xs.drop (i * 2))).toArray) := fun ty dl dc sl sc hm =>
    run_copy_lay (P := Try.prog) w.drew _ _ ty 47 g ((i + 1) * 2) dl dc ⟨g, i * 2, none⟩ sl sc c 47 (xs.drop (i * 2)) (n - i) Try.rg_under Try.rg_size hm hg hdl
      (fun j v hj => by
        rw [Addr.add_lit, List.getElem?_drop] at *
        rw [cell_at (w := w.drew) hg, List.getElem?_toArray, ← take_get htk _ (by have := (List.getElem?_eq_some_iff.1 hj).1; omega)]
        exact hj) (by rw [hdl]; omega) (fun v hv => hone v (List.mem_of_mem_drop hv))
  obtain ⟨W1, hW1⟩ : ∃ W1, W1 = w.drew.setRow g (layR c ((i + 1) * 2) (xs.drop (i * 2))).toArray := ⟨_, rfl⟩
  rw [← hW1] at hcp1
  have hg1 : W1.heap[g]? = some (.cells (layR c ((i + 1) * 2) (xs.drop (i * 2))).toArray 47 (0, 0)) := by rw [hW1]; exact setRow_heap w.drew g _ _ _ _ hg
  have hq1 : blk W1 vb 47 (rgVals q) := by rw [hW1]; exact (setRow_other w.drew g vb _ hvb).trans hq
  have hcp2 : ∀ ty dl dc, 1 ≤ dl → (Builtin.copy_ #[30, 30] ty #[.slice (some ⟨g, i * 2, none⟩) dl dc, .slice (some ⟨vb, 0, none⟩) 1 1]).run Try.prog W1 = .ok (goInt ((1 : Nat) : Int)) (W1.setRow g (layR (layR c ((i + 1) * 2) (xs.drop (i * 2))) (i * 2) (rgVals q)).toArray) := fun ty dl dc hm =>
    run_copy_lay (P := Try.prog) W1 _ _ ty 47 g (i * 2) dl dc ⟨vb, 0, none⟩ 1 1 _ 47 (rgVals q) 1 Try.rg_under Try.rg_size (by simp only [Nat.min_def]; split <;> omega) hg1 rfl (range_src hq1) (by rw [layR_length (by rw [hdl]; omega), hql]; omega) (rgVals_one q)
  have hfin : RowTo B (.slice (some ⟨g, 0, none⟩) n cap) w (.slice (some ⟨g, 0, none⟩) (n + 1) cap) (n + 1) (xs.take (i * 2) ++ rgVals q ++ xs.drop (i * 2)) (W1.setRow g (layR (layR c ((i + 1) * 2) (xs.drop (i * 2))) (i * 2) (rgVals q)).toArray) := by
    refine ⟨own_of (setRow_heap W1 g _ _ _ _ hg1) hBg hroom hcm ?_ ?_, ?_, .inl rfl⟩
    · rw [List.size_toArray, layR_length (by rw [layR_length (by rw [hdl]; omega), hql]; omega), layR_length (by rw [hdl]; omega), hcs]
    · exact ins_list c xs (rgVals q) n i htk (by omega) (by omega) rfl
    · have o1 : Only (fun k => k = g) w W1 := by rw [hW1]; exact (Only.refl _ w).drew.trans (setRow_only w.drew g _)
      exact (o1.trans (setRow_only W1 g _)).mono (fun k hk => by subst hk; rfl)
  have hcp3 := fun ty dc => hcp2 ty (n + 1 - i) dc (by omega)
  clear hcp2
  have HF := Lib.hid hfin
  clear hfin hW1 hg1 hq1 hdl hone h hg htk hq hxl hcs hql
  have hcm2 : cap ≤ 9223372036854775807 := by omega
  clear hcm
  have hz2 : ¬ ((i : Int) = (n : Int)) := by omega
  go_enter Try.func81, Try.ntmps81
  go_wp2_with (simp only [hov])
  have mixed : Try.prog.follows Departure.mixedOrders = true := by kernel_rfl
  have hw1 : IntKind.i64.wrap ((i : Int) + 1) = (i : Int) + 1 := by rw [IntKind.wrap_i64]; omega
  have hb1 : (0 : Int) ≤ (i : Int) + 1 := by omega
  have hin : i ≤ n := by omega
  have htn : ((i : Int) + 1).toNat = i + 1 := by omega
  have hb2 : ¬ (cap = i + 1) := by omega
  have hb3 : (i : Int) ≤ (n : Int) + 1 := by omega
  have hb4 : ¬ (cap = i) := by omega
  go_region_law_o (refine step_copy_runI rfl _ _ 30 30 rfl (.slice (some ⟨g, (i + 1) * 2, none⟩) (n + 1 - (i + 1)) (cap - (i + 1))) (.slice (some ⟨g, i * 2, none⟩) (n + 1 - i) (cap - i)) (by simp [Act.eval, Act.put]) (by simp [Act.eval, Act.put]) (hcp1 _ _ _ _ _ (by omega)) ?_)
  go_wp2_with (at_builtin; refine wpList_copy_runI _ rfl _ _ 30 30 rfl _ _ rfl rfl (hcp3 _ _) ?_)
  go_ret
  exact ⟨_, rfl, HF.out⟩

end Go.Proofs.Ytmnmpmiocgfalaa

namespace Go.Proofs.Ytmnmpmiocgfalaa
open Go.ChangeShapes Go.WideShapes Go.RowKit
set_option linter.unusedVariables false
variable {X : Crs}

theorem grow_list (c X q : List Value) (n i : Nat) (hX : X.length = n * 2) (hcx : c.take (i * 2) = X.take (i * 2)) (hi : i ≤ n) (hc : (n + 1) * 2 ≤ c.length) (hq : q.length = 2) :
    (layR (layR c (i * 2) q) ((i + 1) * 2) (X.drop (i * 2))).take ((n + 1) * 2) = X.take (i * 2) ++ q ++ X.drop (i * 2) := by
  have hdl : (X.drop (i * 2)).length = (n - i) * 2 := by rw [List.length_drop, hX]; omega
  have h1 : i * 2 + q.length ≤ c.length := by omega
  have hl1 := layR_length h1
  have h2 : (i + 1) * 2 + (X.drop (i * 2)).length ≤ (layR c (i * 2) q).length := by omega
  have hl2 := layR_length h2
  apply List.ext_getElem?
  intro j
  by_cases hj : j < (n + 1) * 2
  · rw [List.getElem?_take_of_lt hj, layR_get h2, layR_get h1]
    by_cases a1 : j < i * 2
    · rw [if_pos (by omega), if_pos a1, List.append_assoc, List.getElem?_append_left (by rw [List.length_take]; omega), ← hcx, List.getElem?_take_of_lt a1]
    · by_cases a2 : j < i * 2 + q.length
      · rw [if_pos (by omega), if_neg a1, if_pos a2, List.getElem?_append_left (by rw [List.length_append, List.length_take]; omega), List.getElem?_append_right (by rw [List.length_take]; omega), List.length_take, Nat.min_eq_left (by omega)]
      · rw [if_neg (by omega), if_pos (by omega), List.getElem?_append_right (by rw [List.length_append, List.length_take]; omega), List.length_append, List.length_take, Nat.min_eq_left (by omega), hq]
        congr 1
        omega
  · rw [List.getElem?_eq_none (by rw [List.length_take]; omega), List.getElem?_eq_none (by simp only [List.length_append, List.length_take, List.length_drop]; omega)]

set_option maxRecDepth 100000 in
set_option maxHeartbeats 4000000 in
theorem insert_grow (B g n cap i : Nat) (xs : List Value) (w : World) (vb : Nat) (q : Rg) (h : w.ownsRow B 47 2 (.slice (some ⟨g, 0, none⟩) n cap) n xs) (hone : ∀ v ∈ xs, v.oneCell' = true)
    (hq : blk w vb 47 (rgVals q)) (hn : n ≤ 1000000) (hB : B ≤ w.heap.size) (hi : i < n) (hroom : cap < n + 1) :
    Calls Try.prog 81 #[.slice (some ⟨g, 0, none⟩) n cap, .int .i64 (i : Int), .slice (some ⟨vb, 0, none⟩) 1 1] w fun e w' =>
      ∃ v', e = .returned v' ∧ RowTo B (.slice (some ⟨g, 0, none⟩) n cap) w v' (n + 1) (xs.take (i * 2) ++ rgVals q ++ xs.drop (i * 2)) w' := by
  have hmx : maxLen = 9223372036854775807 := by decide
  obtain ⟨i0, hi0, hzz⟩ := Option.map_eq_some_iff.1 Try.infoR
  simp only [Prod.mk.injEq] at hzz
  obtain ⟨hz0, hzs, hzb⟩ := hzz
  obtain ⟨cur, hg, hnc, hcm, hcs, htk, hBg⟩ := own_parts h
  obtain ⟨c, rfl⟩ : ∃ c : List Value, cur = c.toArray := ⟨cur.toList, by simp⟩
  simp only [List.size_toArray] at hcs
  have hxl : xs.length = n * 2 := h.1
  have hql : (rgVals q).length = 2 := rfl
  have hgw : g < w.heap.size := lt_of_block hg
  have hvw : vb < w.heap.size := hq.lt
  have hdl : (xs.drop (i * 2)).length = (n - i) * 2 := by rw [List.length_drop, hxl]; omega
  have htl : (xs.take (i * 2)).length = i * 2 := by rw [List.length_take, hxl]; omega
  have hik : i + (n + 1 - i) = n + 1 := by omega
  have hold : (Builtin.firstCells i0.size i (.slice (some ⟨g, 0, none⟩) i cap)).run Try.prog w.drew = .ok (xs.take (i * 2)).toArray w.drew := by
    rw [hzs]
    exact run_firstCells_some w.drew 2 i ⟨g, 0, none⟩ i cap (xs.take (i * 2)) htl (fun j v hj => by
      have hj2 := (List.getElem?_eq_some_iff.1 hj).1
      rw [htl] at hj2
      rw [List.getElem?_take_of_lt hj2, take_get htk _ (by omega)] at hj
      rw [add_zero, cell_at (w := w.drew) hg, List.getElem?_toArray]
      exact hj)
  obtain ⟨G, hG⟩ : ∃ G, G = grownCap w (n + 1) cap 47 := ⟨_, rfl⟩
  have hGn : n + 1 ≤ G := by rw [hG]; exact grownCap_ge w _ _ _
  have hG63 : G ≤ maxLen := by rw [hG]; exact grownCap_le_maxLen w (n + 1) cap 47 (by omega)
  obtain ⟨ROW, hROW⟩ : ∃ ROW : List Value, ROW = xs.take (i * 2) ++ (Builtin.zeroCells (Value.agg #[.int .u64 0, .int .u64 0]).cells (n + 1 - i)).toList ++ (Builtin.zeroCells (Value.agg #[.int .u64 0, .int .u64 0]).cells (G - (n + 1))).toList := ⟨_, rfl⟩
  have hRl : ROW.length = G * 2 := by
    rw [hROW, List.length_append, List.length_append, zero_cells2, zero_cells2, htl]
    omega
  have hRt : ROW.take (i * 2) = xs.take (i * 2) := by rw [hROW, List.append_assoc, List.take_append_of_le_length (by omega), List.take_of_length_le (by omega)]
  obtain ⟨W1, hW1⟩ : ∃ W1, W1 = w.drew.alloc (.cells ROW.toArray 47) := ⟨_, rfl⟩
  have hrz : ∀ ty, (Builtin.append_ #[30, 3] ty #[.slice (some ⟨g, 0, none⟩) i cap, .int .i64 ((n : Int) + 1 - (i : Int))]).run Try.prog w = .ok (.slice (some ⟨w.heap.size, 0, none⟩) (n + 1) G) W1 := fun ty => by
    have h := Lib.run_append_grow_zeros (P := Try.prog) w 30 3 ty 47 i0 _ .i64 .i64 Try.rg_under (by kernel_rfl) hi0 hz0 (some ⟨g, 0, none⟩) i cap (xs.take (i * 2)) hold (n + 1 - i) (by omega) (by omega) (by omega) (by omega) (by rw [hzb]; omega) (by rw [hzb, hik]; exact growslice_fits hroom (by omega))
    rw [hik] at h
    rw [show (n : Int) + 1 - (i : Int) = ((n + 1 - i : Nat) : Int) by omega, h, hW1, ← hG]
    have hRA : (xs.take (i * 2)).toArray ++ Builtin.zeroCells (Value.agg #[.int .u64 0, .int .u64 0]).cells (n + 1 - i) ++ Builtin.zeroCells (Value.agg #[.int .u64 0, .int .u64 0]).cells (G - (n + 1)) = ROW.toArray := by
      apply Array.ext'
      rw [hROW, Array.toList_append, Array.toList_append]
    rw [hRA]
  have hg1 : W1.heap[w.heap.size]? = some (.cells ROW.toArray 47 (0, 0)) := by rw [hW1]; exact heap_alloc_new w.drew _
  have hO1 : Only (fun _ => False) w W1 := by rw [hW1]; exact (Only.refl _ w).drew.alloc _
  have hq1 : blk W1 vb 47 (rgVals q) := hq.only hO1 id
  have hgg : W1.heap[g]? = some (.cells c.toArray 47 (0, 0)) := (hO1.block g hgw id).trans hg
  obtain ⟨W2, hW2⟩ : ∃ W2, W2 = W1.setRow w.heap.size (layR ROW (i * 2) (rgVals q)).toArray := ⟨_, rfl⟩
  have hcpA : ∀ ty dc, (Builtin.copy_ #[30, 30] ty #[.slice (some ⟨w.heap.size, i * 2, none⟩) (n + 1 - i) dc, .slice (some ⟨vb, 0, none⟩) 1 1]).run Try.prog W1 = .ok (goInt ((1 : Nat) : Int)) W2 := fun ty dc => by
    rw [hW2]
    exact run_copy_lay (P := Try.prog) W1 _ _ ty 47 w.heap.size (i * 2) (n + 1 - i) dc ⟨vb, 0, none⟩ 1 1 _ 47 (rgVals q) 1 Try.rg_under Try.rg_size (by simp only [Nat.min_def]; split <;> omega) hg1 rfl (range_src hq1) (by omega) (rgVals_one q)
  have hl1 : (layR ROW (i * 2) (rgVals q)).length = G * 2 := by rw [layR_length (by omega), hRl]
  have hg2 : W2.heap[w.heap.size]? = some (.cells (layR ROW (i * 2) (rgVals q)).toArray 47 (0, 0)) := by rw [hW2]; exact setRow_heap W1 _ _ _ _ _ hg1
  have hO2 : Only (fun _ => False) w W2 := hO1.then (by rw [hW2]; exact setRow_only W1 _ _) (fun k hk => .inr (by omega))
  have hgg2 : W2.heap[g]? = some (.cells c.toArray 47 (0, 0)) := (hO2.block g hgw id).trans hg
  have hcpB : ∀ ty dl dc sl sc, min sl dl = n - i → (Builtin.copy_ #[30, 30] ty #[.slice (some ⟨w.heap.size, (i + 1) * 2, none⟩) dl dc, .slice (some ⟨g, i * 2, none⟩) sl sc]).run Try.prog W2.drew = .ok (goInt ((n - i : Nat) : Int)) (W2.drew.setRow w.heap.size (layR (layR ROW (i * 2) (rgVals q)) ((i + 1) * 2) (xs.drop (i * 2))).toArray) := fun ty dl dc sl sc hm =>
    run_copy_lay (P := Try.prog) W2.drew _ _ ty 47 w.heap.size ((i + 1) * 2) dl dc ⟨g, i * 2, none⟩ sl sc _ 47 (xs.drop (i * 2)) (n - i) Try.rg_under Try.rg_size hm hg2 hdl
      (fun j v hj => by
        rw [Addr.add_lit, List.getElem?_drop] at *
        rw [cell_at (w := W2.drew) hgg2, List.getElem?_toArray, ← take_get htk _ (by have := (List.getElem?_eq_some_iff.1 hj).1; omega)]
        exact hj) (by rw [hdl, hl1]; omega) (fun v hv => hone v (List.mem_of_mem_drop hv))
  have hfin : RowTo B (.slice (some ⟨g, 0, none⟩) n cap) w (.slice (some ⟨w.heap.size, 0, none⟩) (n + 1) G) (n + 1) (xs.take (i * 2) ++ rgVals q ++ xs.drop (i * 2)) (W2.drew.setRow w.heap.size (layR (layR ROW (i * 2) (rgVals q)) ((i + 1) * 2) (xs.drop (i * 2))).toArray) := by
    refine ⟨own_of (setRow_heap W2.drew _ _ _ _ _ hg2) hB hGn hG63 ?_ ?_, ?_, .inr ?_⟩
    · rw [List.size_toArray, layR_length (by omega), hl1]
    · exact grow_list ROW xs (rgVals q) n i hxl hRt (by omega) (by omega) rfl
    · exact (hO2.drew.then (setRow_only W2.drew _ _) (fun k hk => .inr (by omega))).mono (fun k hk => hk.elim)
    · intro k hk
      have hk : some w.heap.size = some k := hk
      injection hk with hk
      omega
  obtain ⟨W3, hW3⟩ : ∃ W3, W2.drew.setRow w.heap.size (layR (layR ROW (i * 2) (rgVals q)) ((i + 1) * 2) (xs.drop (i * 2))).toArray = W3 := ⟨_, rfl⟩
  rw [hW3] at hcpB hfin
  have HF := Lib.hid hfin
  have hgn : g ≠ w.heap.size := by omega
  clear hfin hW1 hW2 hW3 hg1 hq1 hdl hone h hg htk hq hxl hcs hql hold hG hROW hRl hRt hO1 hgg hl1 hg2 hO2 hgg2 htl hi0 hz0 hzs hzb
  have hcm2 : cap ≤ 9223372036854775807 := by omega
  have hG2 : G ≤ 9223372036854775807 := by omega
  clear hcm hG63 hmx
  have hz2 : ¬ ((i : Int) = (n : Int)) := by omega
  have hz3 : (cap : Int) < (n : Int) + 1 := by omega
  have mixed : Try.prog.follows Departure.mixedOrders = true := by kernel_rfl
  have hw1 : IntKind.i64.wrap ((i : Int) + 1) = (i : Int) + 1 := by rw [IntKind.wrap_i64]; omega
  have hb1 : (0 : Int) ≤ (i : Int) + 1 := by omega
  have hin : i ≤ n := by omega
  have htn : ((i : Int) + 1).toNat = i + 1 := by omega
  have hb3 : (i : Int) ≤ (n : Int) := by omega
  have hGi : ¬ (G = i) := by omega
  have hGim : ¬ (G = i + 1) := by omega
  have hci : ¬ (cap = i) := by omega
  go_enter Try.func81, Try.ntmps81
  go_wp2_with (first
    | (at_builtin; refine Lib.wpList_append_run _ rfl _ _ _ _ rfl _ _ rfl rfl _ _ (hrz _) ?_)
    | (at_builtin; refine wpList_copy_runI _ rfl _ _ 30 30 rfl _ _ rfl rfl (hcpA _ _) ?_))
  go_region_law_o (refine step_copy_runI rfl _ _ 30 30 rfl (.slice (some ⟨w.heap.size, (i + 1) * 2, none⟩) (n + 1 - (i + 1)) (G - (i + 1))) (.slice (some ⟨g, i * 2, none⟩) (n - i) (cap - i)) (by simp [Act.eval, Act.put]) (by simp [Act.eval, Act.put]) (hcpB _ _ _ _ _ (by omega)) ?_)
  go_wp2_with fail
  go_ret
  exact ⟨_, rfl, HF.out⟩

end Go.Proofs.Ytmnmpmiocgfalaa

namespace Go.Proofs.Ytmnmpmiocgfalaa
open Go.ChangeShapes Go.WideShapes Go.RowKit
set_option linter.unusedVariables false
variable {X : Crs}

theorem insert_ok (B : Nat) (v : Value) (n i : Nat) (xs : List Value) (w : World) (vb : Nat) (q : Rg) (h : w.ownsRow B 47 2 v n xs) (hone : ∀ u ∈ xs, u.oneCell' = true)
    (hq : blk w vb 47 (rgVals q)) (hvb : v.ownBlock ≠ some vb) (hn : n ≤ 1000000) (hB : B ≤ w.heap.size) (hi : i ≤ n) :
    Calls Try.prog 81 #[v, .int .i64 (i : Int), .slice (some ⟨vb, 0, none⟩) 1 1] w fun e w' =>
      ∃ v', e = .returned v' ∧ RowTo B v w v' (n + 1) (xs.take (i * 2) ++ rgVals q ++ xs.drop (i * 2)) w' := by
  rcases Nat.eq_or_lt_of_le hi with rfl | hlt
  · rw [List.take_of_length_le (by rw [h.1]; omega), List.drop_of_length_le (by rw [h.1]; omega), List.append_nil]
    exact insert_end B v i xs w vb q h hq hn hB
  · rcases h.2 with ⟨_, h0⟩ | ⟨g, cap, cur, rfl, _⟩
    · omega
    · by_cases hroom : n + 1 ≤ cap
      · exact insert_room B g n cap i xs w vb q h hone hq (fun e => hvb (by rw [e]; rfl)) hn hB hlt hroom
      · exact insert_grow B g n cap i xs w vb q h hone hq hn hB hlt (by omega)

set_option maxRecDepth 100000 in
set_option maxHeartbeats 4000000 in
theorem rep_same (B : Nat) (v : Value) (n i : Nat) (xs : List Value) (w : World) (vb : Nat) (q : Rg) (h : w.ownsRow B 47 2 v n xs) (hone : ∀ u ∈ xs, u.oneCell' = true)
    (hq : blk w vb 47 (rgVals q)) (hvb : v.ownBlock ≠ some vb) (hn : n ≤ 1000000) (hB : B ≤ w.heap.size) (hi : i ≤ n) :
    Calls Try.prog 71 #[v, .int .i64 (i : Int), .int .i64 (i : Int), .slice (some ⟨vb, 0, none⟩) 1 1] w fun e w' =>
      ∃ v', e = .returned v' ∧ RowTo B v w v' (n + 1) (xs.take (i * 2) ++ rgVals q ++ xs.drop (i * 2)) w' := by
  have hC := insert_ok B v n i xs w vb q h hone hq hvb hn hB hi
  obtain ⟨Y, hY⟩ : ∃ Y, xs.take (i * 2) ++ rgVals q ++ xs.drop (i * 2) = Y := ⟨_, rfl⟩
  rw [hY] at hC ⊢
  clear hY
  have HC := Lib.hid hC
  clear hC
  rcases h.2 with ⟨rfl, rfl⟩ | ⟨g, cap, cur, rfl, h1, h2, h3, h4, h5, h6⟩
  · clear h hone hq
    obtain rfl : i = 0 := by omega
    go_enter Try.func71, Try.ntmps71
    go_wp2_with (go_at_call 81; refine HC.out.mono ?_; rintro e w2 ⟨v', rfl, hr⟩; have HR := Lib.hid hr; clear hr)
    go_ret
    exact ⟨_, rfl, HR.out⟩
  · clear h hone hq h2 h5 h6
    have hc9 : cap ≤ 9223372036854775807 := h4
    by_cases hci : cap = i
    · subst hci
      go_enter Try.func71, Try.ntmps71
      go_wp2_with (go_at_call 81; refine HC.out.mono ?_; rintro e w2 ⟨v', rfl, hr⟩; have HR := Lib.hid hr; clear hr)
      all_goals
        go_ret
        exact ⟨_, rfl, HR.out⟩
    · go_enter Try.func71, Try.ntmps71
      go_wp2_with (go_at_call 81; refine HC.out.mono ?_; rintro e w2 ⟨v', rfl, hr⟩; have HR := Lib.hid hr; clear hr)
      all_goals
        go_ret
        exact ⟨_, rfl, HR.out⟩

/-- The end of a row is cleared: what is ahead of it is as it was. -/
theorem row_clear {w W : World} {B g n m cap : Nat} {ys : List Value} (hB : W.ownsRow B 47 2 (.slice (some ⟨g, 0, none⟩) m cap) m ys) (hO : Only (fun k => k = g) w W) (vs : List Value) :
    RowTo B (.slice (some ⟨g, 0, none⟩) n cap) w (.slice (some ⟨g, 0, none⟩) m cap) m ys (W.setCells g (m * 2) vs) :=
  ⟨own_setCells hB vs (m * 2) (Nat.le_refl _), (hO.trans (setCells_only g vs _ W)).mono (fun k hk => by rw [hk]; rfl), .inl rfl⟩

set_option maxRecDepth 100000 in
set_option maxHeartbeats 4000000 in
theorem rep_end (B g n cap i : Nat) (xs : List Value) (w : World) (vb : Nat) (q : Rg) (h : w.ownsRow B 47 2 (.slice (some ⟨g, 0, none⟩) n cap) n xs)
    (hq : blk w vb 47 (rgVals q)) (hvb : vb ≠ g) (hn : n ≤ 1000000) (hi : i < n) :
    Calls Try.prog 71 #[.slice (some ⟨g, 0, none⟩) n cap, .int .i64 (i : Int), .int .i64 (n : Int), .slice (some ⟨vb, 0, none⟩) 1 1] w fun e w' =>
      ∃ v', e = .returned v' ∧ RowTo B (.slice (some ⟨g, 0, none⟩) n cap) w v' (i + 1) (xs.take (i * 2) ++ rgVals q) w' := by
  have hmx : maxLen = 9223372036854775807 := by decide
  obtain ⟨i0, hi0, hzz⟩ := Option.map_eq_some_iff.1 Try.infoR
  simp only [Prod.mk.injEq] at hzz
  obtain ⟨hz0, hzs, hzb⟩ := hzz
  obtain ⟨cur, hg, hnc, hcm, hcs, htk, hBg⟩ := own_parts h
  obtain ⟨c, rfl⟩ : ∃ c : List Value, cur = c.toArray := ⟨cur.toList, by simp⟩
  simp only [List.size_toArray] at hcs
  have hxl : xs.length = n * 2 := h.1
  have hql : (rgVals q).length = 2 := rfl
  have hgw : g < w.heap.size := lt_of_block hg
  have hap : ∀ ty, (Builtin.append_ #[30, 30] ty #[.slice (some ⟨g, 0, none⟩) i cap, .slice (some ⟨vb, 0, none⟩) 1 1]).run Try.prog w = .ok (.slice (some ⟨g, 0, none⟩) (i + 1) cap) (w.setRow g (layR c (i * 2) (rgVals q)).toArray) := fun ty => by
    have := run_append_room (P := Try.prog) (w := w) 30 ty 47 i0 Try.rg_under hi0 g i cap c.toArray hg ⟨vb, 0, none⟩ 1 1 (rgVals q) (by rw [hzs]; rfl) (range_src hq) (rgVals_one q) (by omega) (by rw [hzs, List.size_toArray]; omega)
    rw [this, hzs]
    rfl
  obtain ⟨W1, hW1⟩ : ∃ W1, W1 = w.setRow g (layR c (i * 2) (rgVals q)).toArray := ⟨_, rfl⟩
  rw [← hW1] at hap
  have hl1 : (layR c (i * 2) (rgVals q)).length = cap * 2 := by rw [layR_length (by omega), hcs]
  have hg1 : W1.heap[g]? = some (.cells (layR c (i * 2) (rgVals q)).toArray 47 (0, 0)) := by rw [hW1]; exact setRow_heap w g _ _ _ _ hg
  have hO1 : Only (fun k => k = g) w W1 := by rw [hW1]; exact setRow_only w g _
  have hown1 : W1.ownsRow B 47 2 (.slice (some ⟨g, 0, none⟩) (i + 1) cap) (i + 1) (xs.take (i * 2) ++ rgVals q) := by
    refine own_of hg1 hBg (by omega) hcm (by rw [List.size_toArray, hl1]) ?_
    have h1 : (c.take (i * 2)).length = i * 2 := by rw [List.length_take]; omega
    show (layR c (i * 2) (rgVals q)).take ((i + 1) * 2) = _
    unfold layR
    have hcx : c.take (i * 2) = xs.take (i * 2) := by
      rw [← htk, List.take_take]
      congr 1
      omega
    rw [← hcx, List.take_append_of_le_length (by rw [List.length_append, h1, hql]; omega), List.take_of_length_le (by rw [List.length_append, h1, hql]; omega)]
  have HF := Lib.hid (fun vs => row_clear (n := n) hown1 hO1 vs)
  have hc9 : cap ≤ 9223372036854775807 := by omega
  have hne : ¬ ((i : Int) = (n : Int)) := by omega
  by_cases hin : i + 1 = n
  · subst hin
    clear h hq hg hcs htk hxl hql hW1 hl1 hg1 hO1 hown1 hi0 hz0 hzs hzb hcm hmx
    go_enter Try.func71, Try.ntmps71
    go_wp2_with (at_builtin; refine Lib.wpList_append_run _ rfl _ _ _ _ rfl _ _ rfl rfl _ _ (hap _) ?_)
    all_goals
      go_ret
      exact ⟨_, rfl, HF.out []⟩
  · have hcl : ∀ ty, (Builtin.clear_ #[30] ty #[.slice (some ⟨g, (i + 1) * 2, none⟩) (n - (i + 1)) (cap - (i + 1))]).run Try.prog W1 = .ok (.tuple #[]) (W1.setCells g ((i + 1) * 2) (Builtin.zeroCells (Value.agg #[.int .u64 0, .int .u64 0]).cells (n - (i + 1))).toList) := fun ty =>
      run_clear_any (P := Try.prog) W1 30 47 ty _ Try.rg_underlying Try.rg_zero g ((i + 1) * 2) (n - (i + 1)) (cap - (i + 1)) (by omega) zero_one (by
        intro k hk
        rw [zero_cells2] at hk
        rw [cell_at hg1, List.getElem?_toArray, List.getElem?_eq_getElem (by omega)]
        rfl) (fun k _ => free_at hg1 _)
    have hlt : (i : Int) + 1 < (n : Int) := by omega
    clear h hq hg hcs htk hxl hql hW1 hl1 hg1 hO1 hown1 hi0 hz0 hzs hzb hcm hmx
    go_enter Try.func71, Try.ntmps71
    go_wp2_with (at_builtin; refine Lib.wpList_append_run _ rfl _ _ _ _ rfl _ _ rfl rfl _ _ (hap _) ?_)
    all_goals
      go_ret
      exact ⟨_, rfl, HF.out _⟩

end Go.Proofs.Ytmnmpmiocgfalaa

namespace Go.Proofs.Ytmnmpmiocgfalaa
open Go.ChangeShapes Go.WideShapes Go.RowKit
set_option linter.unusedVariables false
variable {X : Crs}

set_option maxRecDepth 100000 in
set_option maxHeartbeats 4000000 in
theorem rep_mid (B g n cap i k : Nat) (xs : List Value) (w : World) (vb : Nat) (q : Rg) (h : w.ownsRow B 47 2 (.slice (some ⟨g, 0, none⟩) n cap) n xs) (hone : ∀ v ∈ xs, v.oneCell' = true)
    (hq : blk w vb 47 (rgVals q)) (hvb : vb ≠ g) (hn : n ≤ 1000000) (hi : i < k) (hk : k < n) :
    Calls Try.prog 71 #[.slice (some ⟨g, 0, none⟩) n cap, .int .i64 (i : Int), .int .i64 (k : Int), .slice (some ⟨vb, 0, none⟩) 1 1] w fun e w' =>
      ∃ v', e = .returned v' ∧ RowTo B (.slice (some ⟨g, 0, none⟩) n cap) w v' (i + 1 + (n - k)) (xs.take (i * 2) ++ rgVals q ++ xs.drop (k * 2)) w' := by
  have hmx : maxLen = 9223372036854775807 := by decide
  obtain ⟨cur, hg, hnc, hcm, hcs, htk, hBg⟩ := own_parts h
  obtain ⟨c, rfl⟩ : ∃ c : List Value, cur = c.toArray := ⟨cur.toList, by simp⟩
  simp only [List.size_toArray] at hcs
  have hxl : xs.length = n * 2 := h.1
  have hql : (rgVals q).length = 2 := rfl
  have hdl : (xs.drop (k * 2)).length = (n - k) * 2 := by rw [List.length_drop, hxl]; omega
  obtain ⟨T, hT⟩ : ∃ T, i + 1 + (n - k) = T := ⟨_, rfl⟩
  rw [hT]
  obtain ⟨W1, hW1⟩ : ∃ W1, W1 = w.drew.setRow g (layR c (i * 2) (rgVals q)).toArray := ⟨_, rfl⟩
  have hcp1 : ∀ ty dc, (Builtin.copy_ #[30, 30] ty #[.slice (some ⟨g, i * 2, none⟩) (T - i) dc, .slice (some ⟨vb, 0, none⟩) 1 1]).run Try.prog w.drew = .ok (goInt ((1 : Nat) : Int)) W1 := fun ty dc => by
    rw [hW1]
    exact run_copy_lay (P := Try.prog) w.drew _ _ ty 47 g (i * 2) (T - i) dc ⟨vb, 0, none⟩ 1 1 _ 47 (rgVals q) 1 Try.rg_under Try.rg_size (by simp only [Nat.min_def]; split <;> omega) hg rfl (range_src (w := w.drew) hq) (by omega) (rgVals_one q)
  have hl1 : (layR c (i * 2) (rgVals q)).length = cap * 2 := by rw [layR_length (by omega), hcs]
  have hg1 : W1.heap[g]? = some (.cells (layR c (i * 2) (rgVals q)).toArray 47 (0, 0)) := by rw [hW1]; exact setRow_heap w.drew g _ _ _ _ hg
  have hO1 : Only (fun k => k = g) w W1 := by rw [hW1]; exact (Only.refl _ w).drew.trans (setRow_only w.drew g _)
  have hcp2 : ∀ ty dl dc sl sc, min sl dl = n - k → (Builtin.copy_ #[30, 30] ty #[.slice (some ⟨g, (i + 1) * 2, none⟩) dl dc, .slice (some ⟨g, k * 2, none⟩) sl sc]).run Try.prog W1.drew = .ok (goInt ((n - k : Nat) : Int)) (W1.drew.setRow g (layR (layR c (i * 2) (rgVals q)) ((i + 1) * 2) (xs.drop (k * 2))).toArray) := fun ty dl dc sl sc hm =>
    run_copy_lay (P := Try.prog) W1.drew _ _ ty 47 g ((i + 1) * 2) dl dc ⟨g, k * 2, none⟩ sl sc _ 47 (xs.drop (k * 2)) (n - k) Try.rg_under Try.rg_size hm hg1 hdl
      (fun j v hj => by
        rw [Addr.add_lit, List.getElem?_drop] at *
        have hj2 := (List.getElem?_eq_some_iff.1 hj).1
        rw [cell_at (w := W1.drew) hg1, List.getElem?_toArray, layR_get (by omega), if_neg (by omega), if_neg (by omega), ← take_get htk _ (by omega)]
        exact hj) (by rw [hdl, hl1]; omega) (fun v hv => hone v (List.mem_of_mem_drop hv))
  obtain ⟨W2, hW2⟩ : ∃ W2, W1.drew.setRow g (layR (layR c (i * 2) (rgVals q)) ((i + 1) * 2) (xs.drop (k * 2))).toArray = W2 := ⟨_, rfl⟩
  rw [hW2] at hcp2
  have hl2 : (layR (layR c (i * 2) (rgVals q)) ((i + 1) * 2) (xs.drop (k * 2))).length = cap * 2 := by rw [layR_length (by omega), hl1]
  have hg2 : W2.heap[g]? = some (.cells (layR (layR c (i * 2) (rgVals q)) ((i + 1) * 2) (xs.drop (k * 2))).toArray 47 (0, 0)) := by rw [← hW2]; exact setRow_heap W1.drew g _ _ _ _ hg1
  have hO2 : Only (fun k => k = g) w W2 := by rw [← hW2]; exact hO1.drew.trans (setRow_only W1.drew g _)
  obtain ⟨Y, hY⟩ : ∃ Y, xs.take (i * 2) ++ rgVals q ++ xs.drop (k * 2) = Y := ⟨_, rfl⟩
  have hown2 : W2.ownsRow B 47 2 (.slice (some ⟨g, 0, none⟩) T cap) T Y := by
    refine own_of hg2 hBg (by omega) hcm (by rw [List.size_toArray, hl2]) ?_
    rw [← hY, ← hT]
    exact rep_list c xs (rgVals q) n i k htk hi (by omega) (by omega) rfl
  rw [hY]
  have HF := Lib.hid (fun vs => row_clear (n := n) hown2 hO2 vs)
  have hcl : ∀ ty, T < n → (Builtin.clear_ #[30] ty #[.slice (some ⟨g, T * 2, none⟩) (n - T) (cap - T)]).run Try.prog W2 = .ok (.tuple #[]) (W2.setCells g (T * 2) (Builtin.zeroCells (Value.agg #[.int .u64 0, .int .u64 0]).cells (n - T)).toList) := fun ty hlt =>
    run_clear_any (P := Try.prog) W2 30 47 ty _ Try.rg_underlying Try.rg_zero g (T * 2) (n - T) (cap - T) (by omega) zero_one (by
      intro j hj
      rw [zero_cells2] at hj
      rw [cell_at hg2, List.getElem?_toArray, List.getElem?_eq_getElem (by omega)]
      rfl) (fun k _ => free_at hg2 _)
  have hcl0 : ∀ ty o c, (Builtin.clear_ #[30] ty #[.slice (some ⟨g, o, none⟩) 0 c]).run Try.prog W2 = .ok (.tuple #[]) W2 := fun ty o c => run_clear_empty (P := Try.prog) W2 30 47 ty Try.rg_underlying _ c
  have hc9 : cap ≤ 9223372036854775807 := by omega
  have hne : ¬ ((i : Int) = (k : Int)) := by omega
  have hne2 : ¬ ((k : Int) = (n : Int)) := by omega
  have hTn : T ≤ n := by omega
  have hTi : i + 1 ≤ T := by omega
  have hsum : (i : Int) + 1 + ((n - k : Nat) : Int) = (T : Int) := by omega
  have hcopy2 : min (n - k) (T - (i + 1)) = n - k := by omega
  clear h hq hg hcs htk hxl hql hW1 hW2 hl1 hg1 hO1 hown2 hcm hmx hone hY hl2 hg2 hO2 hdl
  have mixed : Try.prog.follows Departure.mixedOrders = true := by kernel_rfl
  have hw1 : IntKind.i64.wrap ((i : Int) + 1) = (i : Int) + 1 := by rw [IntKind.wrap_i64]; omega
  have hw2 : IntKind.i64.wrap ((i : Int) + 1 + ((n - k : Nat) : Int)) = (T : Int) := by rw [hsum, IntKind.wrap_i64]; omega
  have hb1 : (0 : Int) ≤ (i : Int) + 1 := by omega
  have hin : i ≤ n := by omega
  have hkn : k ≤ n := by omega
  have htn : ((i : Int) + 1).toNat = i + 1 := by omega
  have hb2 : ¬ (cap = k) := by omega
  have hb3 : (i : Int) + 1 ≤ (T : Int) := by omega
  have hb4 : ¬ (cap = i) := by omega
  go_enter Try.func71, Try.ntmps71
  have hb5 : ¬ (cap = i + 1) := by omega
  go_wp2_with fail
  go_region
  all_goals
    go_wp2_with (at_builtin; refine wpList_copy_runI _ rfl _ _ 30 30 rfl _ _ rfl rfl (hcp1 _ _) ?_)
  all_goals
    go_region_law_o (refine step_copy_runI rfl _ _ 30 30 rfl (.slice (some ⟨g, (i + 1) * 2, none⟩) (T - (i + 1)) (cap - (i + 1))) (.slice (some ⟨g, k * 2, none⟩) (n - k) (cap - k)) (by simp [Act.eval, Act.put]) (by simp [Act.eval, Act.put]) (hcp2 _ _ _ _ _ hcopy2) ?_)
  all_goals
    by_cases hlt : T < n
    · have hcl1 := fun ty => hcl ty hlt
      have hcT : ¬ (cap = T) := by omega
      clear hcl hcl0
      go_wp2_with fail
      go_ret
      exact ⟨_, rfl, HF.out _⟩
    · obtain rfl : T = n := by omega
      clear hcl
      by_cases hcT : cap = T
      · subst hcT
        go_wp2_with fail
        go_ret
        exact ⟨_, rfl, HF.out []⟩
      · go_wp2_with fail
        go_ret
        exact ⟨_, rfl, HF.out []⟩

/-- slices.Replace(s, i, k, one range). -/
theorem replace_ok (B : Nat) (v : Value) (n i k : Nat) (xs : List Value) (w : World) (vb : Nat) (q : Rg) (h : w.ownsRow B 47 2 v n xs) (hone : ∀ u ∈ xs, u.oneCell' = true)
    (hq : blk w vb 47 (rgVals q)) (hvb : v.ownBlock ≠ some vb) (hn : n ≤ 1000000) (hB : B ≤ w.heap.size) (hi : i ≤ k) (hk : k ≤ n) :
    Calls Try.prog 71 #[v, .int .i64 (i : Int), .int .i64 (k : Int), .slice (some ⟨vb, 0, none⟩) 1 1] w fun e w' =>
      ∃ v', e = .returned v' ∧ RowTo B v w v' (i + 1 + (n - k)) (xs.take (i * 2) ++ rgVals q ++ xs.drop (k * 2)) w' := by
  rcases Nat.eq_or_lt_of_le hi with rfl | hlt
  · rw [show i + 1 + (n - i) = n + 1 by omega]
    exact rep_same B v n i xs w vb q h hone hq hvb hn hB hk
  · rcases h.2 with ⟨_, h0⟩ | ⟨g, cap, cur, rfl, _⟩
    · omega
    · have hvg : vb ≠ g := fun e => hvb (by rw [e]; rfl)
      rcases Nat.eq_or_lt_of_le hk with rfl | hkn
      · rw [List.drop_of_length_le (by rw [h.1]; omega), List.append_nil, show i + 1 + (k - k) = i + 1 by omega]
        exact rep_end B g k cap i xs w vb q h hq hvg hn hlt
      · exact rep_mid B g n cap i k xs w vb q h hone hq hvg hn hlt hkn

end Go.Proofs.Ytmnmpmiocgfalaa

namespace Go.Proofs.Ytmnmpmiocgfalaa
open Go.ChangeShapes Go.WideShapes Go.RowKit
set_option linter.unusedVariables false
variable {X : Crs}

/-- What Add answers. -/
def addE (L : List Rg) (low high : Nat) : Nat := if high < low ∨ 4611686018427387903 < high then 3 else if freshR L low high = true ∧ 200 ≤ L.length then 4 else 0
/-- What Add leaves. -/
def addR (L : List Rg) (low high : Nat) : List Rg := if addE L low high = 0 then putR L low high else L

/-- i is the place where a range that ends at 'high' comes. -/
def At (L : List Rg) (high i : Nat) : Prop := i ≤ L.length ∧ (∀ j r, L[j]? = some r → j < i → high + 1 < r.1) ∧ ∀ r, L[i]? = some r → ¬ high + 1 < r.1

theorem put_at : ∀ (L : List Rg) (low high i : Nat), At L high i → putR L low high = L.take i ++ ((mergeR (L.drop i) low high).1, (mergeR (L.drop i) low high).2.1) :: (mergeR (L.drop i) low high).2.2
  | [], low, high, i, h => by
    obtain rfl : i = 0 := by have := h.1; simpa using this
    rfl
  | r :: B, low, high, i, h => by
    obtain ⟨h1, h2, h3⟩ := h
    unfold putR
    cases i with
    | zero =>
      rw [if_neg (h3 r rfl)]
      rfl
    | succ i =>
      rw [if_pos (h2 0 r rfl (by omega)), put_at B low high i ⟨by simpa using h1, fun j q hj hji => h2 (j + 1) q (by simpa using hj) (by omega), fun q hq => h3 q (by simpa using hq)⟩]
      rfl
theorem fresh_at : ∀ (L : List Rg) (low high i : Nat), At L high i → freshR L low high = decide ((mergeR (L.drop i) low high).2.2.length = (L.drop i).length)
  | [], low, high, i, h => by
    obtain rfl : i = 0 := by have := h.1; simpa using this
    rfl
  | r :: B, low, high, i, h => by
    obtain ⟨h1, h2, h3⟩ := h
    unfold freshR
    cases i with
    | zero =>
      rw [if_neg (h3 r rfl)]
      rfl
    | succ i =>
      rw [if_pos (h2 0 r rfl (by omega)), fresh_at B low high i ⟨by simpa using h1, fun j q hj hji => h2 (j + 1) q (by simpa using hj) (by omega), fun q hq => h3 q (by simpa using hq)⟩]
      rfl

/-- From i to k ranges were swallowed: it is low', high' by now. -/
def Swal (L : List Rg) (low high i k low' high' : Nat) : Prop := mergeR (L.drop i) low high = mergeR (L.drop k) low' high'
theorem swal_step {L : List Rg} {low high i k low' high' : Nat} (h : Swal L low high i k low' high') {r : Rg} (hr : L[k]? = some r) (hc : low' ≤ r.2 + 1) : Swal L low high i (k + 1) (min low' r.1) (max high' r.2) := by
  unfold Swal at h ⊢
  rw [h]
  have hk := (List.getElem?_eq_some_iff.1 hr)
  rw [List.drop_eq_getElem_cons hk.1, hk.2]
  conv => lhs; unfold mergeR
  rw [if_pos hc]
theorem swal_end {L : List Rg} {low high i k low' high' : Nat} (h : Swal L low high i k low' high') (hc : ∀ r, L[k]? = some r → ¬ low' ≤ r.2 + 1) : mergeR (L.drop i) low high = (low', high', L.drop k) := by
  unfold Swal at h
  rw [h]
  by_cases hk : k < L.length
  · rw [List.drop_eq_getElem_cons hk]
    unfold mergeR
    rw [if_neg (hc _ (List.getElem?_eq_getElem hk))]
  · rw [List.drop_of_length_le (by omega)]
    rfl

theorem add_end {L : List Rg} {low high i k low' high' : Nat} (hA : At L high i) (hm : mergeR (L.drop i) low high = (low', high', L.drop k)) (hik : i ≤ k) (hk : k ≤ L.length) (h1 : low ≤ high) (h2 : high ≤ 4611686018427387903) :
    (i = k → 200 ≤ L.length → addE L low high = 4 ∧ addR L low high = L) ∧
    (i ≠ k ∨ L.length < 200 → addE L low high = 0 ∧ addR L low high = L.take i ++ [(low', high')] ++ L.drop k) := by
  have hf := fresh_at L low high i hA
  have hp := put_at L low high i hA
  rw [hm] at hf hp
  simp only [List.length_drop] at hf
  have he : ¬ (high < low ∨ 4611686018427387903 < high) := by omega
  constructor
  · rintro rfl hL
    have hE : addE L low high = 4 := by unfold addE; rw [if_neg he, if_pos ⟨by rw [hf]; simp, hL⟩]
    exact ⟨hE, by unfold addR; rw [hE]; rfl⟩
  · intro hor
    have hE : addE L low high = 0 := by
      unfold addE
      rw [if_neg he, if_neg]
      rintro ⟨h3, h4⟩
      rw [hf] at h3
      have := of_decide_eq_true h3
      omega
    refine ⟨hE, ?_⟩
    unfold addR
    rw [hE, if_pos rfl, hp]
    simp

theorem SetTo.same {w w' : World} {b B : Nat} {v : Value} {L : List Rg} (h : SetIs X w b B v L) (hB : Below w.heap.size w w') : SetTo X b B v w v L w' :=
  ⟨h.next hB, Only.ofBelow hB, .inl rfl⟩

/-- The set's cell is written behind Replace. -/
theorem stored {w W w2 : World} {b B : Nat} {v v' : Value} {L L' : List Rg} (h : SetIs X w b B v L) (hB : Below w.heap.size w W) (hr : RowTo B v W v' L'.length (rgs L') w2) :
    w2.cell? ⟨b, 6, none⟩ = some v ∧ w2.frozen? ⟨b, 6, none⟩ = false ∧ SetTo X b B v w v' L' (w2.setCell ⟨b, 6, none⟩ v') := by
  obtain ⟨r1, r2, r3⟩ := hr
  have h2 := h.next hB
  have hne : v.ownBlock ≠ some b := own_ne h2.own h2.at_ (by decide)
  have hat : blk w2 b 34 (X.at v) := h2.at_.only r2 hne
  have hne' : v'.ownBlock ≠ some b := own_ne r1 hat (by decide)
  have hO : Only (fun k => k = b ∨ v.ownBlock = some k) w w2 := (Only.ofBelow hB).trans (r2.mono (fun k hk => .inr hk))
  refine ⟨hat.cell (k := 6) rfl, hat.free 6, ⟨blk.set hat 6 _, ownsRow_setCell_other (a := ⟨b, 6, none⟩) r1 hne' _, ?_, h.bb⟩, Only.setCell (p := ⟨b, 6, none⟩) hO (.inl (.inl rfl)) _, ?_⟩
  · have := (Only.setCell (p := ⟨b, 6, none⟩) hO (.inl (.inl rfl)) v').size
    have := h.bw
    omega
  · rcases r3 with r3 | r3
    · exact .inl r3
    · exact .inr (fun k hk => Nat.le_trans hB.size (r3 k hk))

end Go.Proofs.Ytmnmpmiocgfalaa

namespace Go.Proofs.Ytmnmpmiocgfalaa
open Go.ChangeShapes Go.WideShapes Go.RowKit
set_option linter.unusedVariables false
variable {X : Crs}

theorem Below.drew2 {n : Nat} {a w : World} (h : Below n a w) : Below n a w.drew := ⟨h.os, h.tape, h.output, h.size, h.block⟩

set_option maxRecDepth 100000 in
set_option maxHeartbeats 4000000 in
theorem add_ok (b B : Nat) (v : Value) (L : List Rg) (w : World) (low high : Nat) (h : SetIs X w b B v L) (hn : L.length ≤ 200) (hOk : OkR L) (hl64 : low < 18446744073709551616) (hh64 : high < 18446744073709551616) :
    Calls Try.prog 39 #[.pointer (some ⟨b, 6, none⟩), .int .u64 (low : Int), .int .u64 (high : Int)] w fun e w' => e = .returned (.int .i64 ((addE L low high : Nat) : Int)) ∧ ∃ v', SetTo X b B v w v' (addR L low high) w' := by
  have hbl := h.lt
  by_cases herr : high < low ∨ 4611686018427387903 < high
  · have hE : addE L low high = 3 := by unfold addE; rw [if_pos herr]
    have hR : addR L low high = L := by unfold addR; rw [hE]; rfl
    rw [hE, hR]
    have HT := Lib.hid (SetTo.same h (Below.refl _ w))
    clear h hOk hE hR
    go_enter Try.func39, Try.ntmps39
    by_cases h1 : high < low
    · clear herr
      go_wp2_with fail
      go_ret
      exact ⟨rfl, _, HT.out⟩
    · have h2 : 4611686018427387903 < high := by omega
      clear herr
      go_wp2_with fail
      go_ret
      exact ⟨rfl, _, HT.out⟩
  · have hlh : low ≤ high := by omega
    have hhm : high ≤ 4611686018427387903 := by omega
    clear herr
    obtain ⟨p, cap, rfl, hpn⟩ := own_shape h.own
    have c0 : w.cell? ⟨b, 6, none⟩ = some (.slice p L.length cap) := h.at_.cell (k := 6) rfl
    have hcl : ∀ i r, L[i]? = some r → ∃ g, p = some ⟨g, 0, none⟩ ∧ g < w.heap.size ∧ w.cell? ⟨g, i * 2, none⟩ = some (.int .u64 (r.1 : Int)) ∧ w.cell? ⟨g, i * 2 + 1, none⟩ = some (.int .u64 (r.2 : Int)) ∧ r.1 ≤ r.2 ∧ r.2 ≤ 4611686018427387903 := by
      intro i r hr
      obtain ⟨g, cap1, hv, _, hg1, k0, k1⟩ := rg_cells h.own i r hr
      injection hv with hv1 hv2 hv3
      have := OkB.below hOk r (List.mem_of_getElem? hr)
      exact ⟨g, hv1, hg1, k0, k1, this.1, by omega⟩
    have HC := Lib.hid hcl
    have H := Lib.hid h
    obtain ⟨N, hN⟩ : ∃ N, L.length = N := ⟨_, rfl⟩
    have HN := Lib.hid hN
    rw [hN] at c0 hn hpn
    clear h hOk hcl hN hpn
    go_enter Try.func39, Try.ntmps39
    go_wp2_with fail
    go_loopw [7] (fun v7 wr => ∃ i : Nat, i ≤ N ∧ v7 = .int .i64 i ∧ (∀ j r, L[j]? = some r → j < i → high + 1 < r.1) ∧ w = wr) (fun v7 _ => N - (intOf v7).toNat)
    case atStart => exact ⟨0, by omega, rfl, fun j r _ hj => by omega, rfl⟩
    case round =>
      obtain ⟨i, hiN, rfl, hpre, rfl⟩ := hrel
      have HP := Lib.hid hpre
      clear hpre
      by_cases hgo : ∃ r, L[i]? = some r ∧ high + 1 < r.1
      · obtain ⟨⟨r1, r2⟩, hr, hlt⟩ := hgo
        have hi1 : i < N := by rw [← HN.out]; exact (List.getElem?_eq_some_iff.1 hr).1
        obtain ⟨g, rfl, hg1, k0, k1, hr1, hr2⟩ := HC.out i _ hr
        simp only at hlt k0 k1 hr1 hr2
        have HR := Lib.hid hr
        clear hr
        have hlt2 : (high : Int) + 1 < (r1 : Int) := by omega
        go_wp2_with fail
        go_roundw
        case rel => exact ⟨i + 1, by omega, by go_num, fun j r hj hji => by
          by_cases hji2 : j < i
          · exact HP.out j r hj hji2
          · obtain rfl : j = i := by omega
            rw [HR.out] at hj
            injection hj with hj
            subst hj
            exact hlt, by trivial⟩
        case measure => simp [intOf]; omega
      · have hA : At L high i := ⟨by rw [HN.out]; exact hiN, HP.out, fun r hr hlt => hgo ⟨r, hr, hlt⟩⟩
        have HA := Lib.hid hA
        have hstop : ¬ (i : Int) < (N : Int) ∨ (i : Int) < (N : Int) ∧ ∃ g r1, p = some ⟨g, 0, none⟩ ∧ w.cell? ⟨g, i * 2, none⟩ = some (.int .u64 ((r1 : Nat) : Int)) ∧ ¬ (high : Int) + 1 < (r1 : Int) := by
          by_cases hi : i < N
          · obtain ⟨r, hr⟩ : ∃ r, L[i]? = some r := ⟨_, List.getElem?_eq_getElem (by rw [HN.out]; exact hi)⟩
            obtain ⟨g, e, hg1, k0, k1, hr1, hr2⟩ := HC.out i r hr
            refine .inr ⟨by omega, g, r.1, e, k0, ?_⟩
            have := hA.2.2 r hr
            omega
          · exact .inl (by omega)
        clear hgo HP hA
        obtain ⟨p0, e0⟩ : ∃ p0, p0 = p := ⟨_, rfl⟩
        rcases hstop with hni | ⟨hni, g, r1, rfl, k0, hnl⟩
        all_goals
          go_wp2_with fail
          go_loopw [1, 2, 8] (fun v1 v2 v8 W => ∃ k lo hi : Nat, i ≤ k ∧ k ≤ N ∧ v1 = .int .u64 lo ∧ v2 = .int .u64 hi ∧ v8 = .int .i64 k ∧ lo ≤ hi ∧ hi ≤ 4611686018427387903 ∧ Swal L low high i k lo hi ∧ Below w.heap.size w W) (fun _ _ v8 _ => N - (intOf v8).toNat)
          case atStart => exact ⟨i, low, high, Nat.le_refl _, hiN, rfl, rfl, rfl, hlh, hhm, rfl, Below.refl _ _⟩
          case round =>
            obtain ⟨k, lo, hi, hik, hkN, rfl, rfl, rfl, hlo, hhi, hsw, hbW⟩ := hrel
            have HS := Lib.hid hsw
            have d0 := (hbW.cell (p := ⟨b, 6, none⟩) hbl).trans c0
            have HB := Lib.hid hbW
            by_cases hgo : ∃ r, L[k]? = some r ∧ lo ≤ r.2 + 1
            · obtain ⟨⟨s1, s2⟩, hr, hle⟩ := hgo
              have hk1 : k < N := by rw [← HN.out]; exact (List.getElem?_eq_some_iff.1 hr).1
              obtain ⟨g2, hpe, hg2, m0, m1, hs1, hs2⟩ := HC.out k _ hr
              have n0 := (hbW.cell (p := ⟨g2, k * 2, none⟩) hg2).trans m0
              have n1 := (hbW.cell (p := ⟨g2, k * 2 + 1, none⟩) hg2).trans m1
              simp only at hle n0 n1 hs1 hs2
              have hst := swal_step hsw hr hle
              have HT := Lib.hid hst
              clear hsw hst hbW hr m0 m1
              first
                | (exfalso; omega)
                | (cases hpe
                   go_wp2_with fail
                   go_region
                   all_goals
                     go_wp2_with fail
                     go_roundw
                     case rel => exact ⟨k + 1, min lo s1, max hi s2, by omega, by omega, by rw [show ((min lo s1 : Nat) : Int) = min (lo : Int) (s1 : Int) by omega], by rw [show ((max hi s2 : Nat) : Int) = max (hi : Int) (s2 : Int) by omega], by go_num, by omega, by omega, HT.out, Below.drew2 HB.out⟩
                     case measure => simp [intOf]; omega)
            · have hm := swal_end hsw (fun r hr hle => hgo ⟨r, hr, hle⟩)
              have hstop : ¬ (k : Int) < (N : Int) ∨ (k : Int) < (N : Int) ∧ ∃ g2 s2 : Nat, p0 = some ⟨g2, 0, none⟩ ∧ wr.cell? ⟨g2, k * 2 + 1, none⟩ = some (.int .u64 (s2 : Int)) ∧ ¬ (lo : Int) ≤ (s2 : Int) + 1 ∧ s2 ≤ 4611686018427387903 := by
                by_cases hk : k < N
                · obtain ⟨r, hr⟩ : ∃ r, L[k]? = some r := ⟨_, List.getElem?_eq_getElem (by rw [HN.out]; exact hk)⟩
                  obtain ⟨g2, e, hg1, m0, m1, hr1, hr2⟩ := HC.out k r hr
                  refine .inr ⟨by omega, g2, r.2, e0.trans e, (hbW.cell (p := ⟨g2, k * 2 + 1, none⟩) hg1).trans m1, ?_, hr2⟩
                  have : ¬ lo ≤ r.2 + 1 := fun hle => hgo ⟨r, hr, hle⟩
                  omega
                · exact .inl (by omega)
              obtain ⟨hE1, hE2⟩ := add_end HA.out hm hik (by rw [HN.out]; exact hkN) hlh hhm
              rw [HN.out] at hE1 hE2
              have hlen : (L.take i ++ [(lo, hi)] ++ L.drop k).length = i + 1 + (N - k) := by
                have := HN.out
                simp only [List.length_append, List.length_take, List.length_drop, List.length_cons, List.length_nil]
                omega
              have hrc : Calls Try.prog 71 #[.slice p0 N cap, .int .i64 (i : Int), .int .i64 (k : Int), .slice (some ⟨wr.heap.size, 0, none⟩) 1 1] (wr.alloc (.cells #[.int .u64 (lo : Int), .int .u64 (hi : Int)] 47)) fun e w2 =>
                  ∃ p' n' c', e = .returned (.slice p' n' c') ∧ w2.cell? ⟨b, 6, none⟩ = some (.slice p0 N cap) ∧ w2.frozen? ⟨b, 6, none⟩ = false ∧ SetTo X b B (.slice p0 N cap) w (.slice p' n' c') (L.take i ++ [(lo, hi)] ++ L.drop k) (w2.setCell ⟨b, 6, none⟩ (.slice p' n' c')) := by
                have hb2 : Below w.heap.size w (wr.alloc (.cells #[.int .u64 (lo : Int), .int .u64 (hi : Int)] 47)) := hbW.alloc hbW.size _
                have h2 := H.out.next hb2
                have hsz := hbW.size
                rw [HN.out] at h2
                have ho := h2.own
                rw [HN.out] at ho
                subst e0
                refine (replace_ok B _ N i k (rgs L) _ wr.heap.size (lo, hi) ho (rgs_oneCell L) (blk.new wr _ _) ?_ (by omega) h2.bw hik hkN).mono ?_
                · intro he
                  rcases H.out.own.2 with ⟨hv, _⟩ | ⟨g9, c9, cur9, hv, _, h9, _⟩
                  · rw [HN.out] at hv
                    rw [hv] at he
                    cases he
                  · rw [HN.out] at hv
                    rw [hv] at he
                    injection he with he
                    have he : g9 = wr.heap.size := he
                    have := lt_of_block h9
                    omega
                · rintro e w2 ⟨v', rfl, hr⟩
                  have hx : (rgs L).take (i * 2) ++ rgVals (lo, hi) ++ (rgs L).drop (k * 2) = rgs (L.take i ++ [(lo, hi)] ++ L.drop k) := by
                    rw [rgs_append, rgs_append, rgs_take, rgs_drop, rgs_one]
                  rw [hx, ← hlen] at hr
                  have hh := H.out
                  rw [HN.out] at hh
                  obtain ⟨k1, k2, k3⟩ := stored hh hb2 hr
                  obtain ⟨p', c', rfl, _⟩ := own_shape hr.1
                  exact ⟨p', _, c', rfl, k1, k2, k3⟩
              have RC := Lib.hid hrc
              have HSame := Lib.hid (SetTo.same (by have := H.out; rw [HN.out] at this; exact this) hbW)
              clear hrc hsw hbW hgo hm hlen HS HB
              have go : (i = k ∧ 200 ≤ N) ∨ (i = k ∧ N < 200) ∨ i ≠ k := by omega
              rcases hstop with hk2 | ⟨hk2, g2, s2, hpe, n1, hn2, hs2⟩
              all_goals
                first | cases e0 | skip
                first | cases hpe | skip
              all_goals rcases go with ⟨hk3, hk4⟩ | ⟨hk3, hk4⟩ | hk3
              all_goals try (exfalso; omega)
              all_goals
                first
                  | (have h200 : 200 ≤ N := hk4
                     obtain ⟨hE, hR⟩ := hE1 hk3 hk4
                     have HE := Lib.hid hE
                     have HR := Lib.hid hR
                     have hk5 : (i : Int) = (k : Int) := by omega
                     clear hE1 hE2 RC hE hR
                     go_wp2_with fail
                     go_ret
                     rw [HE.out, HR.out, HN.out]
                     exact ⟨rfl, _, HSame.out⟩)
                  | (have h200 : N < 200 := hk4
                     subst hk3
                     obtain ⟨hE, hR⟩ := hE2 (.inr h200)
                     have HE := Lib.hid hE
                     have HR := Lib.hid hR
                     clear hE1 hE2 HSame hE hR
                     go_wp2_with (go_at_call 71; refine RC.out.mono ?_; rintro e w2 ⟨p', n', c', rfl, e0, e1, hst⟩; have HT := Lib.hid hst; clear hst)
                     go_ret
                     rw [HE.out, HR.out, HN.out]
                     exact ⟨rfl, _, HT.out⟩)
                  | (have hk5 : ¬ (i : Int) = (k : Int) := by omega
                     obtain ⟨hE, hR⟩ := hE2 (.inl hk3)
                     have HE := Lib.hid hE
                     have HR := Lib.hid hR
                     clear hE1 hE2 HSame hE hR
                     go_wp2_with (go_at_call 71; refine RC.out.mono ?_; rintro e w2 ⟨p', n', c', rfl, e0, e1, hst⟩; have HT := Lib.hid hst; clear hst)
                     go_ret
                     rw [HE.out, HR.out, HN.out]
                     exact ⟨rfl, _, HT.out⟩)

end Go.Proofs.Ytmnmpmiocgfalaa
