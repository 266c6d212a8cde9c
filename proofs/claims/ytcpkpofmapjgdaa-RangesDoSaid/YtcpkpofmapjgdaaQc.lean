/- ranges: the document's answer: Top, Drop. -/
import Derived.Test.YtcpkpofmapjgdaaQb
namespace Go.Proofs.Ytcpkpofmapjgdaa
open Go.ChangeShapes Go.WideShapes Go.RowKit
set_option linter.unusedVariables false

set_option maxRecDepth 100000 in
set_option maxHeartbeats 2000000 in
theorem rtop_ok (b B : Nat) (v : Value) (L : List Rg) (w : World) (many : Int) (h : RIs w b B v L) (hn : L.length ≤ 900000) (hm : -9223372036854775808 ≤ many ∧ many < 9223372036854775808) :
    Calls Try.prog 18 #[.pointer (some ⟨b, 0, none⟩), .int .i64 many] w fun e w' => ∃ u, e = .returned u ∧ w'.ownsRow w.heap.size 45 2 u (topN many L.length) (rgs (L.take (topN many L.length))) ∧ Below w.heap.size w w' := by
  have hbl := h.lt
  obtain ⟨p, cap, rfl, hpn⟩ := own_shape h.own
  have c0 : w.cell? ⟨b, 0, none⟩ = some (.slice p L.length cap) := h.at_.cell rfl
  obtain ⟨N, hN⟩ : ∃ N, L.length = N := ⟨_, rfl⟩
  have HO := Lib.hid h.own
  have HN := Lib.hid hN
  rw [hN] at c0 hn ⊢
  obtain ⟨T, hT⟩ : ∃ T, topN many N = T := ⟨_, rfl⟩
  have hT1 : T ≤ N ∧ ((T : Int) < many → T = N) ∧ (∀ j : Nat, j < T → (j : Int) < many) := by
    rw [← hT]
    unfold topN
    refine ⟨by omega, by omega, fun j hj => by omega⟩
  rw [hT]
  obtain ⟨hT2, hT3, hT4⟩ := hT1
  have HT4 := Lib.hid hT4
  have HT3 := Lib.hid hT3
  have hbW : Below w.heap.size w (w.alloc (.cells #[] 45)) := (Below.refl _ _).alloc (Nat.le_refl _) _
  have hs1 : (w.alloc (.cells #[] 45)).ownsRow w.heap.size 45 2 (.slice (some ⟨w.heap.size, 0, none⟩) 0 0) 0 [] := World.ownsRow_made w #[] 0 (Nat.le_refl _) (by decide) rfl
  have Hs := Lib.hid (And.intro hbW hs1)
  clear h hpn hN hT hT3 hT4 hbW hs1
  go_enter Try.func18, Try.ntmps18
  go_wp2_with fail
  go_loopw [5, 6] (fun v5 i wr => ∃ j : Nat, j ≤ T ∧ i = .int .i64 j ∧ wr.ownsRow w.heap.size 45 2 v5 j (rgs (L.take j)) ∧ Below w.heap.size w wr) (fun _ i _ => T - (intOf i).toNat)
  case atStart => exact ⟨0, by omega, rfl, Hs.out.2, Hs.out.1⟩
  case round =>
    obtain ⟨j, hj, rfl, h5, hbw⟩ := hrel
    have e0 := (hbw.cell (p := ⟨b, 0, none⟩) hbl).trans c0
    have hsz := hbw.size
    have H5 := Lib.hid h5
    have Hbw := Lib.hid hbw
    by_cases hlt : j < T
    · obtain ⟨q, hq⟩ : ∃ q, L[j]? = some q := ⟨_, List.getElem?_eq_getElem (by rw [HN.out]; omega)⟩
      obtain ⟨g1, cap1, hv, hgB, hg1, k0, k1⟩ := rg_cells HO.out j q hq
      injection hv with hv1 hv2 hv3
      subst hv1
      have x0 := (hbw.cell (p := ⟨g1, j * 2, none⟩) hg1).trans k0
      have x1 := (hbw.cell (p := ⟨g1, j * 2 + 1, none⟩) hg1).trans k1
      have htk : L.take (j + 1) = L.take j ++ [q] := by
        rw [List.take_succ_eq_append_getElem (by rw [HN.out]; omega)]
        congr 2
        rw [List.getElem?_eq_getElem (by rw [HN.out]; omega)] at hq
        exact Option.some.inj hq
      have Htk := Lib.hid htk
      have hjm := HT4.out j hlt
      have hjN : j < N := by omega
      obtain ⟨r1, r2⟩ := q
      simp only at x0 x1
      clear h5 hbw hq htk k0 k1 hv2 hv3
      obtain ⟨i0, hi0, hz0, hz1, hz2⟩ := info_parts Try.infoRg
      go_wp2_with (at_builtin; refine wpList_append_new wr rfl _ _ 25 rfl w.heap.size 45 i0 _ 2 16 Try.underlying25 hi0 hz0 hz1 hz2 rfl (by decide) u5 _ _ H5.out (rgVals (r1, r2)) _ rfl rfl (rgVals_one _) (by omega) (by decide) hsz rfl rfl ?_)
      intro v' w' ho3 hon3 hat3
      have h5 : w'.ownsRow w.heap.size 45 2 v' (j + 1) (rgs (L.take (j + 1))) := by
        rw [Htk.out, rgs_append, rgs_one]
        exact ho3
      have hbw3 : Below w.heap.size w w' := Hbw.out.trans (hon3.below hsz (fun k hk => (own_base_le H5.out k hk).1))
      have H56 := Lib.hid (And.intro h5 hbw3)
      clear ho3 hon3 hat3 h5 hbw3
      go_wp2_with fail
      go_roundw
      case rel => exact ⟨j + 1, by omega, by go_num, H56.out.1, H56.out.2⟩
      case measure => simp [intOf]; omega
    · obtain rfl : j = T := by omega
      clear h5 hbw
      by_cases hjN : j < N
      · have hjm : many ≤ (j : Int) := by
          rcases Int.lt_or_le (j : Int) many with h1 | h1
          · have := HT3.out h1
            omega
          · exact h1
        go_wp2_with fail
        go_ret
        exact ⟨_, rfl, H5.out, Hbw.out⟩
      · have hj5 : ¬ (j : Int) < (N : Int) := by omega
        go_wp2_with fail
        go_ret
        exact ⟨_, rfl, H5.out, Hbw.out⟩

set_option maxRecDepth 100000 in
set_option maxHeartbeats 2000000 in
theorem rdrop_ok (b B : Nat) (v : Value) (L : List Rg) (w : World) (below : Nat) (h : RIs w b B v L) (hn : L.length ≤ 900000) (hOk : OkR L) :
    Calls Try.prog 14 #[.pointer (some ⟨b, 0, none⟩), .int .u64 (below : Int)] w fun e w' => e = .returned (.tuple #[]) ∧ ∃ v', RTo b B w v' (dropR L below) w' := by
  have hbl := h.lt
  have hdr := drop_is L _ below hOk
  have Hh := Lib.hid h
  obtain ⟨p, cap, rfl, hpn⟩ := own_shape h.own
  have c0 : w.cell? ⟨b, 0, none⟩ = some (.slice p L.length cap) := h.at_.cell rfl
  have f0 : w.frozen? ⟨b, 0, none⟩ = false := h.at_.free 0
  obtain ⟨N, hN⟩ : ∃ N, L.length = N := ⟨_, rfl⟩
  have HO := Lib.hid h.own
  have HN := Lib.hid hN
  have HD := Lib.hid hdr
  rw [hN] at c0 hn
  have hbW : Below w.heap.size w (w.alloc (.cells #[] 45)) := (Below.refl _ _).alloc (Nat.le_refl _) _
  have hs1 : (w.alloc (.cells #[] 45)).ownsRow w.heap.size 45 2 (.slice (some ⟨w.heap.size, 0, none⟩) 0 0) 0 [] := World.ownsRow_made w #[] 0 (Nat.le_refl _) (by decide) rfl
  have Hs := Lib.hid (And.intro hbW hs1)
  clear h hpn hN hbW hs1 hOk hdr
  go_enter Try.func14, Try.ntmps14
  go_wp2_with fail
  go_loopw [4, 5] (fun v4 i wr => ∃ j : Nat, j ≤ N ∧ i = .int .i64 j ∧ wr.ownsRow w.heap.size 45 2 v4 (keep1 below (L.take j)).length (rgs (keep1 below (L.take j))) ∧ Below w.heap.size w wr) (fun _ i _ => N - (intOf i).toNat)
  case atStart => exact ⟨0, by omega, rfl, Hs.out.2, Hs.out.1⟩
  case round =>
    obtain ⟨j, hj, rfl, h5, hbw⟩ := hrel
    have e0 := (hbw.cell (p := ⟨b, 0, none⟩) hbl).trans c0
    have e1 := (hbw.frozen (p := ⟨b, 0, none⟩) hbl).trans f0
    have hsz := hbw.size
    have H5 := Lib.hid h5
    have Hbw := Lib.hid hbw
    by_cases hlt : j < N
    · obtain ⟨q, hq⟩ : ∃ q, L[j]? = some q := ⟨_, List.getElem?_eq_getElem (by rw [HN.out]; omega)⟩
      obtain ⟨g1, cap1, hv, hgB, hg1, k0, k1⟩ := rg_cells HO.out j q hq
      injection hv with hv1 hv2 hv3
      subst hv1
      have x0 := (hbw.cell (p := ⟨g1, j * 2, none⟩) hg1).trans k0
      have x1 := (hbw.cell (p := ⟨g1, j * 2 + 1, none⟩) hg1).trans k1
      have htk := keep1_take below L j q hq
      have hkl := keep1_len below (L.take j)
      have hkl2 : (L.take j).length ≤ j := List.length_take_le _ _
      obtain ⟨K, hK⟩ : ∃ K, (keep1 below (L.take j)).length = K := ⟨_, rfl⟩
      rw [hK] at H5 hkl
      have hK2 : K ≤ 900000 := by omega
      have HK := Lib.hid hK
      obtain ⟨r1, r2⟩ := q
      simp only at x0 x1 htk
      by_cases hc : below ≤ r2
      · rw [if_pos hc] at htk
        have Htk := Lib.hid htk
        have hc2 : (below : Int) ≤ (r2 : Int) := by omega
        obtain ⟨p4, cap4, rfl, _⟩ := own_shape h5
        rw [hK] at h5 ⊢
        have HO := Lib.hid (show wr.drew.ownsRow w.heap.size 45 2 (.slice p4 K cap4) K (rgs (keep1 below (L.take j))) from own_below h5 ((Below.refl _ _).drew))
        have hszd : w.heap.size ≤ wr.drew.heap.size := hsz
        obtain ⟨M, hM, hM2⟩ : ∃ M : Nat, max (r1 : Int) (below : Int) = (M : Int) ∧ max r1 below = M := ⟨max r1 below, by omega, rfl⟩
        rw [hM2] at Htk
        clear h5 H5 hbw hq htk k0 k1 hv2 hv3 hK hkl hkl2 hM2
        obtain ⟨i0, hi0, hz0, hz1, hz2⟩ := info_parts Try.infoRg
        have hK3 : K ≤ 1000000 := by omega
        go_wp2_with fail
        go_region_law ((refine step_append_new wr.drew _ rfl (.tmp 26) (.tmp 46) 25 rfl w.heap.size 45 i0 _ 2 16 Try.underlying25 hi0 hz0 hz1 hz2 rfl (by decide) (.slice p4 K cap4) K (rgs (keep1 below (L.take j))) HO.out [.int .u64 (M : Int), .int .u64 (r2 : Int)] _ rfl rfl (by intro u hu; simp at hu; rcases hu with rfl | rfl <;> rfl) hK3 (by decide) hszd rfl (by simp [Act.eval]) (by simp [Act.eval]) ?_); (intro v4 w4 ho4 hon4 hat4; have Hon4 := Lib.hid hon4; have Ho4 := Lib.hid ho4; clear hon4 ho4 hat4))
        all_goals go_wp2_with fail
        all_goals
          go_roundw
          case rel =>
            refine ⟨j + 1, by omega, by go_num, ?_, (Below.drew2 Hbw.out).trans (Hon4.out.below hszd (fun k hk => (own_base_le HO.out k hk).1))⟩
            rw [Htk.out, rgs_append, rgs_one, List.length_append, HK.out]
            exact Ho4.out
          case measure => simp [intOf]; omega
      · rw [if_neg hc, List.append_nil] at htk
        have Htk := Lib.hid htk
        have hc2 : (r2 : Int) < (below : Int) := by omega
        clear h5 hbw hq htk k0 k1 hv2 hv3 hK hkl hkl2
        go_wp2_with fail
        go_roundw
        case rel => exact ⟨j + 1, by omega, by go_num, by rw [Htk.out, HK.out]; exact H5.out, Hbw.out⟩
        case measure => simp [intOf]; omega
    · obtain rfl : j = N := by omega
      have hend : keep1 below (L.take j) = dropR L below := by rw [List.take_of_length_le (by rw [HN.out]; exact Nat.le_refl _)]; exact HD.out
      rw [hend] at H5
      have HT0 := Hh.out.to Hbw.out H5.out
      obtain ⟨p4, cap4, rfl, _⟩ := own_shape h5
      have HT := Lib.hid HT0
      clear h5 hbw hend HT0
      go_wp2_with fail
      go_end0
      exact ⟨rfl, _, HT.out⟩

end Go.Proofs.Ytcpkpofmapjgdaa
