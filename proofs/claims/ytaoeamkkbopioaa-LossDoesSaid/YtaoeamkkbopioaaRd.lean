/- The reference's take; the law's same and number. -/
import Derived.Test.YtaoeamkkbopioaaRb
namespace Go.Proofs.Ytaoeamkkbopioaa
open Go.ChangeShapes Go.WideShapes Go.RowKit
set_option linter.unusedVariables false

set_option maxRecDepth 100000 in
set_option maxHeartbeats 2000000 in
theorem take_any (B b : Nat) (v c1 c2 : Value) (S : Lg) (w : World) (f : Pk → Bool) (gg gc : Nat) (hL : blk w b 63 [v, c1, c2]) (hO : w.ownsRow B 54 5 v S.op.length (pks S.op)) (hlen : S.op.length ≤ 1000)
    (hgg : gg < w.heap.size) (hG : ∀ i q, S.op[i]? = some q → w.cell? ⟨gg, i, none⟩ = some (.bool (f q))) :
    Calls Try.prog 39 #[.pointer (some ⟨b, 0, none⟩), .slice (some ⟨gg, 0, none⟩) S.op.length gc] w fun e w' => ∃ vg vs, e = .returned vg ∧ blk w' b 63 [vs, c1, c2] ∧
      w'.ownsRow w.heap.size 54 5 vg (S.op.filter f).length (pks (S.op.filter f)) ∧ w'.ownsRow w.heap.size 54 5 vs (S.op.filter (fun p => !f p)).length (pks (S.op.filter (fun p => !f p))) ∧ (∀ k, vg.ownBlock = some k → vs.ownBlock ≠ some k) ∧ Only (fun k => k = b) w w' := by
  obtain ⟨p, cap, rfl, hpn⟩ := own_shape hO
  obtain ⟨N, hN⟩ : ∃ N, S.op.length = N := ⟨_, rfl⟩
  have hbl := hL.lt
  have hc0 : w.cell? ⟨b, 0, none⟩ = some (.slice p S.op.length cap) := hL.cell rfl
  rw [hN] at hc0 hlen hpn ⊢
  have HN := Lib.hid hN
  have HL := Lib.hid hL
  have HO := Lib.hid hO
  have HG := Lib.hid hG
  have hbW : Below w.heap.size w ((w.alloc (.cells #[] 54)).alloc (.cells #[] 54)) := ((Below.refl _ _).alloc (Nat.le_refl _) _).alloc (by rw [World.size_alloc]; omega) _
  have hs1 : ((w.alloc (.cells #[] 54)).alloc (.cells #[] 54)).ownsRow w.heap.size 54 5 (.slice (some ⟨w.heap.size, 0, none⟩) 0 0) 0 [] := (World.ownsRow_made w #[] 0 (Nat.le_refl _) (by decide) rfl).alloc _
  have hs2 : ((w.alloc (.cells #[] 54)).alloc (.cells #[] 54)).ownsRow w.heap.size 54 5 (.slice (some ⟨w.heap.size + 1, 0, none⟩) 0 0) 0 [] := by
    have := World.ownsRow_made (e := 54) (size := 5) (base := w.heap.size) (w.alloc (.cells #[] 54)) #[] 0 (by rw [World.size_alloc]; omega) (by decide) rfl
    rw [World.size_alloc] at this
    exact this
  have Hs := Lib.hid (And.intro hbW (And.intro hs1 hs2))
  clear hN hL hO hG hbW hs1 hs2 hpn
  go_enter Try.func39, Try.ntmps39
  go_wp2_with fail
  go_loopw [5, 6, 7] (fun v5 v6 i wr => ∃ j : Nat, j ≤ N ∧ i = .int .i64 j ∧ wr.ownsRow w.heap.size 54 5 v5 ((S.op.take j).filter f).length (pks ((S.op.take j).filter f)) ∧
      wr.ownsRow w.heap.size 54 5 v6 ((S.op.take j).filter (fun p => !f p)).length (pks ((S.op.take j).filter (fun p => !f p))) ∧ (∀ k, v5.ownBlock = some k → v6.ownBlock ≠ some k) ∧ Below w.heap.size w wr) (fun _ _ i _ => N - (intOf i).toNat)
  case atStart => exact ⟨0, by omega, rfl, Hs.out.2.1, Hs.out.2.2, fun k hk e => by simp only [Value.ownBlock, Option.some.injEq] at hk e; omega, Hs.out.1⟩
  case round =>
    obtain ⟨j, hj, rfl, h5, h6, hne, hbw⟩ := hrel
    have e0 := (hbw.cell (p := ⟨b, 0, none⟩) hbl).trans hc0
    have hblr := Nat.lt_of_lt_of_le hbl hbw.size
    by_cases hlt : j < N
    · have hjl : j < S.op.length := by rw [HN.out]; exact hlt
      obtain ⟨q, hq⟩ : ∃ q, S.op[j] = q := ⟨_, rfl⟩
      have hq2 : S.op[j]? = some q := by rw [List.getElem?_eq_getElem hjl, hq]
      obtain ⟨g1, cap1, hv, hgB, hg1, k0, k1, k2, k3, k4⟩ := rpk_cells HO.out j q hq2
      injection hv with hv1 hv2 hv3
      subst hv1
      have htk : S.op.take (j + 1) = S.op.take j ++ [q] := by rw [List.take_succ_eq_append_getElem hjl, hq]
      have x0 := (hbw.cell (p := ⟨g1, j * 5, none⟩) hg1).trans k0
      have x1 := (hbw.cell (p := ⟨g1, j * 5 + 1, none⟩) hg1).trans k1
      have x2 := (hbw.cell (p := ⟨g1, j * 5 + 2, none⟩) hg1).trans k2
      have x3 := (hbw.cell (p := ⟨g1, j * 5 + 3, none⟩) hg1).trans k3
      have x4 := (hbw.cell (p := ⟨g1, j * 5 + 4, none⟩) hg1).trans k4
      obtain ⟨fq, hfq⟩ : ∃ fq, f q = fq := ⟨_, rfl⟩
      have y0 := (hbw.cell (p := ⟨gg, j, none⟩) hgg).trans (HG.out j q hq2)
      rw [hfq] at y0
      have H5 := Lib.hid h5
      have H6 := Lib.hid h6
      have Hne := Lib.hid hne
      have Hbw := Lib.hid hbw
      have Hfq := Lib.hid hfq
      have Htk := Lib.hid htk
      clear h5 h6 hne hbw hq hq2 hfq htk k0 k1 k2 k3 k4 hv2 hv3
      obtain ⟨i0, hi0, hz0, hz1, hz2⟩ := info_parts Try.infoR
      have hf1 := List.length_filter_le f (S.op.take j)
      have hf2 := List.length_filter_le (fun p => !f p) (S.op.take j)
      have hf3 : (S.op.take j).length ≤ j := List.length_take_le _ _
      have hsz := Hbw.out.size
      cases fq
      · have e5 : (S.op.take (j + 1)).filter f = (S.op.take j).filter f := by
          rw [Htk.out, List.filter_append, List.filter_cons_of_neg (by rw [Hfq.out]; simp), List.filter_nil, List.append_nil]
        have e6 : (S.op.take (j + 1)).filter (fun p => !f p) = (S.op.take j).filter (fun p => !f p) ++ [q] := by
          rw [Htk.out, List.filter_append, List.filter_cons_of_pos (by rw [Hfq.out]; rfl), List.filter_nil]
        have E5 := Lib.hid e5
        have E6 := Lib.hid e6
        clear e5 e6
        go_wp2_with (at_builtin; refine wpList_append_new wr rfl _ _ 55 rfl w.heap.size 54 i0 _ 5 56 Try.underlying55 hi0 hz0 hz1 hz2 rfl (by decide) u6 _ _ H6.out q.vals _ rfl rfl (by intro u hu; simp [Pk.vals] at hu; rcases hu with rfl | rfl | rfl | rfl | rfl <;> rfl) (by omega) (by decide) hsz rfl rfl ?_)
        intro v' w' ho3 hon3 hat3
        have h6 : w'.ownsRow w.heap.size 54 5 v' ((S.op.take (j + 1)).filter (fun p => !f p)).length (pks ((S.op.take (j + 1)).filter (fun p => !f p))) := by
          rw [E6.out, pks_append, pks_one, List.length_append]
          exact ho3
        have h5 : w'.ownsRow w.heap.size 54 5 u5 ((S.op.take (j + 1)).filter f).length (pks ((S.op.take (j + 1)).filter f)) := by
          rw [E5.out]
          exact own_only H5.out hon3 (fun k hk => Hne.out k hk)
        have hne3 : ∀ k, u5.ownBlock = some k → v'.ownBlock ≠ some k := by
          intro k hk
          rcases hat3 with h | h
          · rw [h]; exact Hne.out k hk
          · rw [h]
            have := (H5.out.lt k hk).2
            intro e
            injection e with e
            omega
        have hbw3 : Below w.heap.size w w' := Hbw.out.trans (hon3.below hsz (fun k hk => (H6.out.lt k hk).1))
        have H56 := Lib.hid (And.intro h5 (And.intro h6 (And.intro hne3 hbw3)))
        clear ho3 hon3 hat3 h5 h6 hne3 hbw3
        go_wp2_with fail
        go_roundw
        case rel => exact ⟨j + 1, by omega, by go_num, H56.out.1, H56.out.2.1, H56.out.2.2.1, H56.out.2.2.2⟩
        case measure => simp [intOf]; omega
      · have e5 : (S.op.take (j + 1)).filter f = (S.op.take j).filter f ++ [q] := by
          rw [Htk.out, List.filter_append, List.filter_cons_of_pos Hfq.out, List.filter_nil]
        have e6 : (S.op.take (j + 1)).filter (fun p => !f p) = (S.op.take j).filter (fun p => !f p) := by
          rw [Htk.out, List.filter_append, List.filter_cons_of_neg (by rw [Hfq.out]; simp), List.filter_nil, List.append_nil]
        have E5 := Lib.hid e5
        have E6 := Lib.hid e6
        clear e5 e6
        go_wp2_with (at_builtin; refine wpList_append_new wr rfl _ _ 55 rfl w.heap.size 54 i0 _ 5 56 Try.underlying55 hi0 hz0 hz1 hz2 rfl (by decide) u5 _ _ H5.out q.vals _ rfl rfl (by intro u hu; simp [Pk.vals] at hu; rcases hu with rfl | rfl | rfl | rfl | rfl <;> rfl) (by omega) (by decide) hsz rfl rfl ?_)
        intro v' w' ho3 hon3 hat3
        have h5 : w'.ownsRow w.heap.size 54 5 v' ((S.op.take (j + 1)).filter f).length (pks ((S.op.take (j + 1)).filter f)) := by
          rw [E5.out, pks_append, pks_one, List.length_append]
          exact ho3
        have h6 : w'.ownsRow w.heap.size 54 5 u6 ((S.op.take (j + 1)).filter (fun p => !f p)).length (pks ((S.op.take (j + 1)).filter (fun p => !f p))) := by
          rw [E6.out]
          exact own_only H6.out hon3 (fun k hk e => Hne.out k e hk)
        have hne3 : ∀ k, v'.ownBlock = some k → u6.ownBlock ≠ some k := by
          intro k hk
          rcases hat3 with h | h
          · rw [h] at hk; exact Hne.out k hk
          · rw [h] at hk
            intro e
            have := (H6.out.lt k e).2
            injection hk with hk
            omega
        have hbw3 : Below w.heap.size w w' := Hbw.out.trans (hon3.below hsz (fun k hk => (H5.out.lt k hk).1))
        have H56 := Lib.hid (And.intro h5 (And.intro h6 (And.intro hne3 hbw3)))
        clear ho3 hon3 hat3 h5 h6 hne3 hbw3
        go_wp2_with fail
        go_roundw
        case rel => exact ⟨j + 1, by omega, by go_num, H56.out.1, H56.out.2.1, H56.out.2.2.1, H56.out.2.2.2⟩
        case measure => simp [intOf]; omega
    · obtain rfl : j = N := by omega
      rw [List.take_of_length_le (by rw [HN.out]; exact Nat.le_refl _)] at h5 h6
      have hblk := HL.out.below hbw hbl
      have hfr := hblk.free 0
      have hset := hblk.set 0 u6
      have ho5 := ownsRow_setCell_other h5 (a := ⟨b, 0, none⟩) (fun e => by have := (h5.lt b e).1; omega) u6
      have ho6 := ownsRow_setCell_other h6 (a := ⟨b, 0, none⟩) (fun e => by have := (h6.lt b e).1; omega) u6
      have hon : Only (fun k => k = b) w (wr.setCell ⟨b, 0, none⟩ u6) := Only.setCell (S := fun k => k = b) (p := ⟨b, 0, none⟩) (Only.ofBelow hbw) (.inl rfl) u6
      have H56 := Lib.hid (And.intro hset (And.intro ho5 (And.intro ho6 (And.intro hne hon))))
      have h6c := own_shape h6
      obtain ⟨p6, cap6, rfl, _⟩ := h6c
      clear hset ho5 ho6 hon h5 h6 hblk hne hbw
      go_wp2_with fail
      go_ret
      exact ⟨_, _, rfl, H56.out.1, H56.out.2.1, H56.out.2.2.1, H56.out.2.2.2.1, H56.out.2.2.2.2⟩

set_option maxRecDepth 100000 in
set_option maxHeartbeats 2000000 in
theorem same_any (w : World) (l : List Pk) (p q : Value) (b1 b2 : Nat) (h1 : w.ownsRow b1 38 5 p l.length (pks l)) (h2 : w.ownsRow b2 54 5 q l.length (pks l)) (hlen : l.length ≤ 1000) :
    Calls Try.prog 22 #[p, q] w fun e w' => e = .returned (.bool true) ∧ Below w.heap.size w w' := by
  obtain ⟨N, hN⟩ : ∃ N, l.length = N := ⟨_, rfl⟩
  obtain ⟨pa, ca, rfl, hpn⟩ := own_shape h1
  obtain ⟨qa, cb, rfl, hqn⟩ := own_shape h2
  rw [hN] at h1 h2 hlen ⊢
  have HN := Lib.hid hN
  have H1 := Lib.hid h1
  have H2 := Lib.hid h2
  clear hN h1 h2 hpn hqn
  go_enter Try.func22, Try.ntmps22
  go_wp2_with fail
  go_loopw [13] (fun i wr => ∃ j : Nat, j ≤ N ∧ i = .int .i64 j ∧ Below w.heap.size w wr) (fun i _ => N - (intOf i).toNat)
  case atStart => exact ⟨0, by omega, rfl, Below.refl _ _⟩
  case round =>
    obtain ⟨j, hj, rfl, hbw⟩ := hrel
    by_cases hlt : j < N
    · have hjl : j < l.length := by rw [HN.out]; exact hlt
      obtain ⟨x, hx⟩ : ∃ q, l[j] = q := ⟨_, rfl⟩
      have hx2 : l[j]? = some x := by rw [List.getElem?_eq_getElem hjl, hx]
      obtain ⟨g1, cap1, hv, hgB, hg1, k0, k1, k2, k3, k4⟩ := pk_cells H1.out j x hx2
      injection hv with hv1 hv2 hv3
      subst hv1
      obtain ⟨g2, cap2, hv, hgB2, hg2, m0, m1, m2, m3, m4⟩ := rpk_cells H2.out j x hx2
      injection hv with hv1 hv4 hv5
      subst hv1
      have x0 := (hbw.cell (p := ⟨g1, j * 5, none⟩) hg1).trans k0
      have x1 := (hbw.cell (p := ⟨g1, j * 5 + 1, none⟩) hg1).trans k1
      have x2 := (hbw.cell (p := ⟨g1, j * 5 + 2, none⟩) hg1).trans k2
      have x3 := (hbw.cell (p := ⟨g1, j * 5 + 3, none⟩) hg1).trans k3
      have x4 := (hbw.cell (p := ⟨g1, j * 5 + 4, none⟩) hg1).trans k4
      have y0 := (hbw.cell (p := ⟨g2, j * 5, none⟩) hg2).trans m0
      have y1 := (hbw.cell (p := ⟨g2, j * 5 + 1, none⟩) hg2).trans m1
      have y2 := (hbw.cell (p := ⟨g2, j * 5 + 2, none⟩) hg2).trans m2
      have y3 := (hbw.cell (p := ⟨g2, j * 5 + 3, none⟩) hg2).trans m3
      have y4 := (hbw.cell (p := ⟨g2, j * 5 + 4, none⟩) hg2).trans m4
      have Hbw := Lib.hid hbw
      clear hbw hx hx2 k0 k1 k2 k3 k4 m0 m1 m2 m3 m4 hv2 hv3 hv4 hv5
      have hg1r := Nat.lt_of_lt_of_le hg1 Hbw.out.size
      have hg2r := Nat.lt_of_lt_of_le hg2 Hbw.out.size
      go_wp2_with fail
      go_quiet (fail)
      go_wp2_with fail
      go_roundw
      case rel => exact ⟨j + 1, by omega, by go_num, below_drewN Hbw.out _⟩
      case measure => simp [intOf]; omega
    · obtain rfl : j = N := by omega
      have Hbw := Lib.hid hbw
      clear hbw
      go_wp2_with fail
      go_ret
      exact ⟨rfl, Hbw.out⟩

set_option maxRecDepth 100000 in
theorem number_any (w : World) (n : Nat) (is : Bool) (hn : n ≤ 4611686018427387903) (h0 : is = false → n = 0) :
    Calls Try.prog 30 #[.int .u64 (n : Int), .bool is, .int .i64 (sg is n)] w fun e w' => e = .returned (.bool true) ∧ Below w.heap.size w w' := by
  unfold sg
  cases is
  · obtain rfl := h0 rfl
    rw [if_neg Bool.false_ne_true]
    go_enter Try.func30, Try.ntmps30
    go_wp2_with fail
    go_ret
    exact ⟨rfl, Below.refl _ _⟩
  · rw [if_pos rfl]
    have d1 : decide ((0 : Int) ≤ (n : Int)) = true := by rw [decide_eq_true_iff]; omega
    go_enter Try.func30, Try.ntmps30
    go_wp2_with fail
    go_ret
    exact ⟨rfl, Below.refl _ _⟩

end Go.Proofs.Ytaoeamkkbopioaa
