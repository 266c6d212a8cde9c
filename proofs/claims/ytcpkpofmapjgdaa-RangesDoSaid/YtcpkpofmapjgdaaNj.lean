/- ranges: slices.Insert of one range, at the end. -/
import Derived.Test.YtcpkpofmapjgdaaNi
namespace Go.Proofs.Ytcpkpofmapjgdaa
open Go.ChangeShapes Go.WideShapes Go.RowKit
set_option linter.unusedVariables false

/-- What Insert and Replace give. -/
def RowTo (B : Nat) (v : Value) (w : World) (v' : Value) (n : Nat) (xs : List Value) (w' : World) : Prop :=
  w'.ownsRow B 45 2 v' n xs ∧ Only (fun k => v.ownBlock = some k) w w' ∧ (v'.ownBlock = v.ownBlock ∨ ∀ k, v'.ownBlock = some k → w.heap.size ≤ k)

theorem Try.rg_under : Try.prog.underlying 25 = some (.slice 45) := by kernel_rfl
theorem Try.rg_size : (Try.prog.info? 45).map (·.size) = some 2 := by kernel_rfl

theorem range_src {w : World} {vb : Nat} {q : Rg} (hq : blk w vb 45 (rgVals q)) : ∀ j u, (rgVals q)[j]? = some u → w.cell? ((⟨vb, 0, none⟩ : Addr).add j) = some u := by
  intro j u hj
  rw [add_zero]
  exact hq.cell hj
theorem rgVals_one (q : Rg) : ∀ u ∈ rgVals q, u.oneCell' = true := by
  intro u hu
  simp [rgVals] at hu
  rcases hu with rfl | rfl <;> rfl

set_option maxRecDepth 100000 in
set_option maxHeartbeats 4000000 in
theorem insert_end (B : Nat) (v : Value) (n : Nat) (xs : List Value) (w : World) (vb : Nat) (q : Rg) (h : w.ownsRow B 45 2 v n xs) (hq : blk w vb 45 (rgVals q)) (hn : n ≤ 1000000) (hB : B ≤ w.heap.size) :
    Calls Try.prog 30 #[v, .int .i64 (n : Int), .slice (some ⟨vb, 0, none⟩) 1 1] w fun e w' =>
      ∃ v', e = .returned v' ∧ RowTo B v w v' (n + 1) (xs ++ rgVals q) w' := by
  obtain ⟨i0, hi, hzz⟩ := Option.map_eq_some_iff.1 Try.infoR
  simp only [Prod.mk.injEq] at hzz
  obtain ⟨hz, hsz, hby⟩ := hzz
  have ht := Try.rg_under
  have hmx : maxLen = 9223372036854775807 := by decide
  have h63 : n + 1 ≤ maxLen := by omega
  have hbytes : (n + 1) * 16 ≤ 140737488355328 := by omega
  have hsrc := Lib.hid (range_src hq)
  have HO := Lib.hid h
  rcases h.2 with ⟨rfl, h0⟩ | ⟨g, cap, cur, rfl, h1, h2, h3, h4, h5, h6⟩
  · subst h0
    clear h hq
    go_enter Try.func30, Try.ntmps30
    go_wp2_with (at_builtin; refine wpList_append_own_at _ rfl _ _ 25 rfl B 45 i0 _ 2 16 ht hi hz hsz hby rfl (by omega) _ _ _ rfl HO.out ⟨vb, 0, none⟩ 1 1 (rgVals q) rfl rfl hsrc.out (rgVals_one q) h63 hbytes hB ?_; intro v' w1 k1 k2 k3 k4; have HK := Lib.hid (show RowTo _ _ _ _ _ _ _ from ⟨k1, (Only.refl _ w).grown k2 (fun k hk => .inl hk), k4.imp id (fun e k hk => by rw [e] at hk; injection hk with hk; omega)⟩); clear k1 k2 k3 k4)
    go_ret
    exact ⟨_, rfl, HK.out⟩
  · clear h hq h2 h5 h6
    go_enter Try.func30, Try.ntmps30
    go_wp2_with (at_builtin; refine wpList_append_own_at _ rfl _ _ 25 rfl B 45 i0 _ 2 16 ht hi hz hsz hby rfl (by omega) _ _ _ rfl HO.out ⟨vb, 0, none⟩ 1 1 (rgVals q) rfl rfl hsrc.out (rgVals_one q) h63 hbytes hB ?_; intro v' w1 k1 k2 k3 k4; have HK := Lib.hid (show RowTo _ _ _ _ _ _ _ from ⟨k1, (Only.refl _ w).grown k2 (fun k hk => .inl hk), k4.imp id (fun e k hk => by rw [e] at hk; injection hk with hk; omega)⟩); clear k1 k2 k3 k4)
    all_goals
      go_ret
      exact ⟨_, rfl, HK.out⟩

end Go.Proofs.Ytcpkpofmapjgdaa
