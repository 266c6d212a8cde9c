/- Contract of split, whatever it asks. -/
import Derived.Test.YtaoeamkkbopioaaLb
namespace Go.Proofs.Ytaoeamkkbopioaa
open Go.ChangeShapes Go.WideShapes Go.RowKit
set_option linter.unusedVariables false

theorem Try.infoP : (Try.prog.info? 38).map (fun i => (i.zero, i.size, i.bytes)) = some (some (.agg #[.int .u64 0, .int .u64 0, .int .u64 0, .bool false, .slice none 0 0]), 5, 56) := by kernel_rfl

/-- A packet's five cells at the place of element i. -/
theorem pk_cells {w : World} {base : Nat} {v : Value} {n : Nat} {l : List Pk} (h : w.ownsRow base 38 5 v n (pks l)) (i : Nat) (p : Pk) (hp : l[i]? = some p) :
    ∃ g cap, v = .slice (some ⟨g, 0, none⟩) n cap ∧ base ≤ g ∧ g < w.heap.size ∧ w.cell? ⟨g, i * 5, none⟩ = some (.int .u64 (p.num : Int)) ∧ w.cell? ⟨g, i * 5 + 1, none⟩ = some (.int .u64 (p.time : Int)) ∧
      w.cell? ⟨g, i * 5 + 2, none⟩ = some (.int .u64 (p.size : Int)) ∧ w.cell? ⟨g, i * 5 + 3, none⟩ = some (.bool p.asks) ∧ w.cell? ⟨g, i * 5 + 4, none⟩ = some (.slice p.fa p.fl p.fc) := by
  have hl := h.1
  rw [pks_length] at hl
  have hi : i < l.length := (List.getElem?_eq_some_iff.1 hp).1
  obtain ⟨g, cap, hv, hb, hg, hc, _⟩ := own_view h (by omega)
  exact ⟨g, cap, hv, hb, hg, hc _ _ (pks_at l i p hp 0 (by omega)), hc _ _ (pks_at l i p hp 1 (by omega)), hc _ _ (pks_at l i p hp 2 (by omega)), hc _ _ (pks_at l i p hp 3 (by omega)), hc _ _ (pks_at l i p hp 4 (by omega))⟩

set_option maxRecDepth 100000 in
set_option maxHeartbeats 1000000 in
theorem split_any (B b : Nat) (T : TypeId) (rest : List Value) (v : Value) (S : Lg) (w : World) (f : Pk → Bool) (g : Nat) (lb : Array Value)
    (eg : ∀ args w, (callFunc g args).run Try.prog w = .ok (.enter g args) w)
    (hp : ∀ W p, Below w.heap.size w W → Calls Try.prog g (#[pkV p] ++ lb) W fun e w' => e = .returned (.bool (f p)) ∧ Below W.heap.size W w')
    (hL : LedIs w b T rest v S) (hO : w.ownsRow B 38 5 v S.op.length (pks S.op)) (hlen : S.op.length ≤ 1000) :
    Calls Try.prog 32 #[.pointer (some ⟨b, 0, none⟩), .func (.func g) #[] lb] w fun e w' => ∃ vg vs, e = .returned vg ∧ LedIs w' b T rest vs { S with op := S.op.filter (fun p => !f p) } ∧
      w'.ownsRow w.heap.size 38 5 vg (S.op.filter f).length (pks (S.op.filter f)) ∧ w'.ownsRow w.heap.size 38 5 vs (S.op.filter (fun p => !f p)).length (pks (S.op.filter (fun p => !f p))) ∧ (∀ k, vg.ownBlock = some k → vs.ownBlock ≠ some k) ∧ Only (fun k => k = b) w w' := by
  obtain ⟨p, cap, rfl, hpn⟩ := own_shape hO
  obtain ⟨N, hN⟩ : ∃ N, S.op.length = N := ⟨_, rfl⟩
  have hbl := hL.lt
  have hc0 : w.cell? ⟨b, 0, none⟩ = some (.slice p S.op.length cap) := hL.cell rfl
  rw [hN] at hc0 hlen hpn
  have HN := Lib.hid hN
  have HL := Lib.hid hL
  have HO := Lib.hid hO
  have HP := Lib.hid hp
  clear hN hL hO hp
  go_enter Try.func32, Try.ntmps32
  go_wp2_with fail
  go_loopw [5, 6, 14] (fun v5 v6 i wr => ∃ j : Nat, j ≤ N ∧ i = .int .i64 j ∧ wr.ownsRow w.heap.size 38 5 v5 ((S.op.take j).filter f).length (pks ((S.op.take j).filter f)) ∧
      wr.ownsRow w.heap.size 38 5 v6 ((S.op.take j).filter (fun p => !f p)).length (pks ((S.op.take j).filter (fun p => !f p))) ∧ (∀ k, v5.ownBlock = some k → v6.ownBlock ≠ some k) ∧ Below w.heap.size w wr) (fun _ _ i _ => N - (intOf i).toNat)
  case atStart => exact ⟨0, by omega, rfl, World.ownsRow_nil _ _ _ _, World.ownsRow_nil _ _ _ _, fun k hk => by simp [Value.ownBlock] at hk, Below.refl _ _⟩
  case round =>
    obtain ⟨j, hj, rfl, h5, h6, hne, hbw⟩ := hrel
    by_cases hlt : j < N
    · have hjl : j < S.op.length := by rw [HN.out]; exact hlt
      obtain ⟨q, hq⟩ : ∃ q, S.op[j] = q := ⟨_, rfl⟩
      have hq2 : S.op[j]? = some q := by rw [List.getElem?_eq_getElem hjl, hq]
      obtain ⟨g1, cap1, hv, hgB, hg1, k0, k1, k2, k3, k4⟩ := pk_cells HO.out j q hq2
      injection hv with hv1 hv2 hv3
      subst hv1
      have htk : S.op.take (j + 1) = S.op.take j ++ [q] := by rw [List.take_succ_eq_append_getElem hjl, hq]
      have c0 := (hbw.cell (p := ⟨g1, j * 5, none⟩) hg1).trans k0
      have c1 := (hbw.cell (p := ⟨g1, j * 5 + 1, none⟩) hg1).trans k1
      have c2 := (hbw.cell (p := ⟨g1, j * 5 + 2, none⟩) hg1).trans k2
      have c3 := (hbw.cell (p := ⟨g1, j * 5 + 3, none⟩) hg1).trans k3
      have c4 := (hbw.cell (p := ⟨g1, j * 5 + 4, none⟩) hg1).trans k4
      have hcall := HP.out (wr.alloc (.cells #[.int .u64 (q.num : Int), .int .u64 (q.time : Int), .int .u64 (q.size : Int), .bool q.asks, .slice q.fa q.fl q.fc] 38)) q (hbw.alloc hbw.size _)
      unfold pkV at hcall
      obtain ⟨fq, hfq⟩ : ∃ fq, f q = fq := ⟨_, rfl⟩
      rw [hfq] at hcall
      have H5 := Lib.hid h5
      have H6 := Lib.hid h6
      have Hne := Lib.hid hne
      have Hbw := Lib.hid hbw
      have Hq := Lib.hid hq
      have Hfq := Lib.hid hfq
      have Htk := Lib.hid htk
      have HC := Lib.hid hcall
      clear h5 h6 hne hbw hq hq2 hfq htk k0 k1 k2 k3 k4 hcall hv2 hv3
      go_wp2_with fail
      refine HC.out.mono ?_
      rintro e w2 ⟨rfl, hb2⟩
      have hblk := (blk.new wr 38 [.int .u64 (q.num : Int), .int .u64 (q.time : Int), .int .u64 (q.size : Int), .bool q.asks, .slice q.fa q.fl q.fc]).below hb2 (by simp)
      have hbw2 : Below w.heap.size w w2 := (Hbw.out.alloc Hbw.out.size _).trans (hb2.mono (by have := Hbw.out.size; simp; omega))
      have hwr2 : Below wr.heap.size wr w2 := ((Below.refl _ _).alloc (Nat.le_refl _) _).trans (hb2.mono (by simp))
      have d0 := hblk.cell (k := 0) rfl
      have d1 := hblk.cell (k := 1) rfl
      have d2 := hblk.cell (k := 2) rfl
      have d3 := hblk.cell (k := 3) rfl
      have d4 := hblk.cell (k := 4) rfl
      have h5 := own_below H5.out hwr2
      have h6 := own_below H6.out hwr2
      have H5 := Lib.hid h5
      have H6 := Lib.hid h6
      have Hbw2 := Lib.hid hbw2
      clear hb2 hblk hbw2 hwr2 h5 h6 Hbw HC
      obtain ⟨i0, hi0, hz0, hz1, hz2⟩ := info_parts Try.infoP
      have hf1 := List.length_filter_le f (S.op.take j)
      have hf2 := List.length_filter_le (fun p => !f p) (S.op.take j)
      have hf3 : (S.op.take j).length ≤ j := List.length_take_le _ _
      have hsz := Hbw2.out.size
      cases fq
      · have e5 : (S.op.take (j + 1)).filter f = (S.op.take j).filter f := by
          rw [Htk.out, List.filter_append, List.filter_cons_of_neg (by rw [Hfq.out]; simp), List.filter_nil, List.append_nil]
        have e6 : (S.op.take (j + 1)).filter (fun p => !f p) = (S.op.take j).filter (fun p => !f p) ++ [q] := by
          rw [Htk.out, List.filter_append, List.filter_cons_of_pos (by rw [Hfq.out]; rfl), List.filter_nil]
        have E5 := Lib.hid e5
        have E6 := Lib.hid e6
        clear e5 e6
        go_wp2_with (at_builtin; refine wpList_append_new w2 rfl _ _ 24 rfl w.heap.size 38 i0 _ 5 56 Try.underlying24 hi0 hz0 hz1 hz2 rfl (by decide) u6 _ _ H6.out q.vals _ rfl rfl (by intro u hu; simp [Pk.vals] at hu; rcases hu with rfl | rfl | rfl | rfl | rfl <;> rfl) (by omega) (by decide) hsz rfl rfl ?_)
        intro v' w' ho3 hon3 hat3
        have h6 : w'.ownsRow w.heap.size 38 5 v' ((S.op.take (j + 1)).filter (fun p => !f p)).length (pks ((S.op.take (j + 1)).filter (fun p => !f p))) := by
          rw [E6.out, pks_append, pks_one, List.length_append]
          exact ho3
        have h5 : w'.ownsRow w.heap.size 38 5 u5 ((S.op.take (j + 1)).filter f).length (pks ((S.op.take (j + 1)).filter f)) := by
          rw [E5.out]
          exact own_only H5.out hon3 (fun k hk => Hne.out k hk)
        have hne3 : ∀ k, u5.ownBlock = some k → v'.ownBlock ≠ some k := by
          intro k hk
          rcases hat3 with h | h
          · rw [h]; exact Hne.out k hk
          · rw [h]
            have := (H5.out.lt k hk).2
            intro e
            injection e with e
            omega
        have hbw3 : Below w.heap.size w w' := Hbw2.out.trans (hon3.below hsz (fun k hk => (H6.out.lt k hk).1))
        have H56 := Lib.hid (And.intro h5 (And.intro h6 (And.intro hne3 hbw3)))
        clear ho3 hon3 hat3 h5 h6 hne3 hbw3
        go_wp2_with fail
        go_roundw
        case rel => exact ⟨j + 1, by omega, by go_num, H56.out.1, H56.out.2.1, H56.out.2.2.1, H56.out.2.2.2⟩
        case measure => simp [intOf]; omega
      · have e5 : (S.op.take (j + 1)).filter f = (S.op.take j).filter f ++ [q] := by
          rw [Htk.out, List.filter_append, List.filter_cons_of_pos Hfq.out, List.filter_nil]
        have e6 : (S.op.take (j + 1)).filter (fun p => !f p) = (S.op.take j).filter (fun p => !f p) := by
          rw [Htk.out, List.filter_append, List.filter_cons_of_neg (by rw [Hfq.out]; simp), List.filter_nil, List.append_nil]
        have E5 := Lib.hid e5
        have E6 := Lib.hid e6
        clear e5 e6
        go_wp2_with (at_builtin; refine wpList_append_new w2 rfl _ _ 24 rfl w.heap.size 38 i0 _ 5 56 Try.underlying24 hi0 hz0 hz1 hz2 rfl (by decide) u5 _ _ H5.out q.vals _ rfl rfl (by intro u hu; simp [Pk.vals] at hu; rcases hu with rfl | rfl | rfl | rfl | rfl <;> rfl) (by omega) (by decide) hsz rfl rfl ?_)
        intro v' w' ho3 hon3 hat3
        have h5 : w'.ownsRow w.heap.size 38 5 v' ((S.op.take (j + 1)).filter f).length (pks ((S.op.take (j + 1)).filter f)) := by
          rw [E5.out, pks_append, pks_one, List.length_append]
          exact ho3
        have h6 : w'.ownsRow w.heap.size 38 5 u6 ((S.op.take (j + 1)).filter (fun p => !f p)).length (pks ((S.op.take (j + 1)).filter (fun p => !f p))) := by
          rw [E6.out]
          exact own_only H6.out hon3 (fun k hk e => Hne.out k e hk)
        have hne3 : ∀ k, v'.ownBlock = some k → u6.ownBlock ≠ some k := by
          intro k hk
          rcases hat3 with h | h
          · rw [h] at hk; exact Hne.out k hk
          · rw [h] at hk
            intro e
            have := (H6.out.lt k e).2
            injection hk with hk
            omega
        have hbw3 : Below w.heap.size w w' := Hbw2.out.trans (hon3.below hsz (fun k hk => (H5.out.lt k hk).1))
        have H56 := Lib.hid (And.intro h5 (And.intro h6 (And.intro hne3 hbw3)))
        clear ho3 hon3 hat3 h5 h6 hne3 hbw3
        go_wp2_with fail
        go_roundw
        case rel => exact ⟨j + 1, by omega, by go_num, H56.out.1, H56.out.2.1, H56.out.2.2.1, H56.out.2.2.2⟩
        case measure => simp [intOf]; omega
    · obtain rfl : j = N := by omega
      rw [List.take_of_length_le (by rw [HN.out]; exact Nat.le_refl _)] at h5 h6
      have hblk : LedIs wr b T rest (.slice p S.op.length cap) S := HL.out.below hbw hbl
      have hfr := hblk.free 0
      have hwc := hblk.cell (k := 0) rfl
      rw [HN.out] at hwc
      have hset := hblk.set 0 u6
      have ho5 := ownsRow_setCell_other h5 (a := ⟨b, 0, none⟩) (fun e => by have := (h5.lt b e).1; omega) u6
      have ho6 := ownsRow_setCell_other h6 (a := ⟨b, 0, none⟩) (fun e => by have := (h6.lt b e).1; omega) u6
      have hon : Only (fun k => k = b) w (wr.setCell ⟨b, 0, none⟩ u6) := Only.setCell (S := fun k => k = b) (p := ⟨b, 0, none⟩) (Only.ofBelow hbw) (.inl rfl) u6
      have H56 := Lib.hid (And.intro hset (And.intro ho5 (And.intro ho6 (And.intro hne hon))))
      have h6c := own_shape h6
      obtain ⟨p6, cap6, rfl, _⟩ := h6c
      clear hset ho5 ho6 hon h5 h6 hblk hne hbw
      go_wp2_with fail
      go_ret
      exact ⟨_, _, rfl, H56.out.1, H56.out.2.1, H56.out.2.2.1, H56.out.2.2.2.1, H56.out.2.2.2.2⟩

end Go.Proofs.Ytaoeamkkbopioaa
