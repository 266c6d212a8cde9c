/- ranges: contract of Add. -/
import Derived.Test.YtcpkpofmapjgdaaNo
namespace Go.Proofs.Ytcpkpofmapjgdaa
open Go.ChangeShapes Go.WideShapes Go.RowKit
set_option linter.unusedVariables false

theorem Below.drew2 {n : Nat} {a w : World} (h : Below n a w) : Below n a w.drew := ⟨h.os, h.tape, h.output, h.size, h.block⟩

set_option maxRecDepth 100000 in
set_option maxHeartbeats 4000000 in
theorem add_ok (b B : Nat) (v : Value) (L : List Rg) (w : World) (low high : Nat) (h : SetIs w b B v L) (hn : L.length ≤ 200) (hOk : OkR L) (hl64 : low < 18446744073709551616) (hh64 : high < 18446744073709551616) :
    Calls Try.prog 11 #[.pointer (some ⟨b, 0, none⟩), .int .u64 (low : Int), .int .u64 (high : Int)] w fun e w' => e = .returned (.int .i64 ((addE L low high : Nat) : Int)) ∧ ∃ v', SetTo b B v w v' (addR L low high) w' := by
  have hbl := h.lt
  by_cases herr : high < low ∨ 4611686018427387903 < high
  · have hE : addE L low high = 3 := by unfold addE; rw [if_pos herr]
    have hR : addR L low high = L := by unfold addR; rw [hE]; rfl
    rw [hE, hR]
    have HT := Lib.hid (SetTo.same h (Below.refl _ w))
    clear h hOk hE hR
    go_enter Try.func11, Try.ntmps11
    by_cases h1 : high < low
    · clear herr
      go_wp2_with fail
      go_ret
      exact ⟨rfl, _, HT.out⟩
    · have h2 : 4611686018427387903 < high := by omega
      clear herr
      go_wp2_with fail
      go_ret
      exact ⟨rfl, _, HT.out⟩
  · have hlh : low ≤ high := by omega
    have hhm : high ≤ 4611686018427387903 := by omega
    clear herr
    obtain ⟨p, cap, rfl, hpn⟩ := own_shape h.own
    have c0 : w.cell? ⟨b, 0, none⟩ = some (.slice p L.length cap) := h.at_.cell rfl
    have hcl : ∀ i r, L[i]? = some r → ∃ g, p = some ⟨g, 0, none⟩ ∧ g < w.heap.size ∧ w.cell? ⟨g, i * 2, none⟩ = some (.int .u64 (r.1 : Int)) ∧ w.cell? ⟨g, i * 2 + 1, none⟩ = some (.int .u64 (r.2 : Int)) ∧ r.1 ≤ r.2 ∧ r.2 ≤ 4611686018427387903 := by
      intro i r hr
      obtain ⟨g, cap1, hv, _, hg1, k0, k1⟩ := rg_cells h.own i r hr
      injection hv with hv1 hv2 hv3
      have := OkB.below hOk r (List.mem_of_getElem? hr)
      exact ⟨g, hv1, hg1, k0, k1, this.1, by omega⟩
    have HC := Lib.hid hcl
    have H := Lib.hid h
    obtain ⟨N, hN⟩ : ∃ N, L.length = N := ⟨_, rfl⟩
    have HN := Lib.hid hN
    rw [hN] at c0 hn hpn
    clear h hOk hcl hN hpn
    go_enter Try.func11, Try.ntmps11
    go_wp2_with fail
    go_loopw [7] (fun v7 wr => ∃ i : Nat, i ≤ N ∧ v7 = .int .i64 i ∧ (∀ j r, L[j]? = some r → j < i → high + 1 < r.1) ∧ w = wr) (fun v7 _ => N - (intOf v7).toNat)
    case atStart => exact ⟨0, by omega, rfl, fun j r _ hj => by omega, rfl⟩
    case round =>
      obtain ⟨i, hiN, rfl, hpre, rfl⟩ := hrel
      have HP := Lib.hid hpre
      clear hpre
      by_cases hgo : ∃ r, L[i]? = some r ∧ high + 1 < r.1
      · obtain ⟨⟨r1, r2⟩, hr, hlt⟩ := hgo
        have hi1 : i < N := by rw [← HN.out]; exact (List.getElem?_eq_some_iff.1 hr).1
        obtain ⟨g, rfl, hg1, k0, k1, hr1, hr2⟩ := HC.out i _ hr
        simp only at hlt k0 k1 hr1 hr2
        have HR := Lib.hid hr
        clear hr
        have hlt2 : (high : Int) + 1 < (r1 : Int) := by omega
        go_wp2_with fail
        go_roundw
        case rel => exact ⟨i + 1, by omega, by go_num, fun j r hj hji => by
          by_cases hji2 : j < i
          · exact HP.out j r hj hji2
          · obtain rfl : j = i := by omega
            rw [HR.out] at hj
            injection hj with hj
            subst hj
            exact hlt, by trivial⟩
        case measure => simp [intOf]; omega
      · have hA : At L high i := ⟨by rw [HN.out]; exact hiN, HP.out, fun r hr hlt => hgo ⟨r, hr, hlt⟩⟩
        have HA := Lib.hid hA
        have hstop : ¬ (i : Int) < (N : Int) ∨ (i : Int) < (N : Int) ∧ ∃ g r1, p = some ⟨g, 0, none⟩ ∧ w.cell? ⟨g, i * 2, none⟩ = some (.int .u64 ((r1 : Nat) : Int)) ∧ ¬ (high : Int) + 1 < (r1 : Int) := by
          by_cases hi : i < N
          · obtain ⟨r, hr⟩ : ∃ r, L[i]? = some r := ⟨_, List.getElem?_eq_getElem (by rw [HN.out]; exact hi)⟩
            obtain ⟨g, e, hg1, k0, k1, hr1, hr2⟩ := HC.out i r hr
            refine .inr ⟨by omega, g, r.1, e, k0, ?_⟩
            have := hA.2.2 r hr
            omega
          · exact .inl (by omega)
        clear hgo HP hA
        obtain ⟨p0, e0⟩ : ∃ p0, p0 = p := ⟨_, rfl⟩
        rcases hstop with hni | ⟨hni, g, r1, rfl, k0, hnl⟩
        all_goals
          go_wp2_with fail
          go_loopw [1, 2, 8] (fun v1 v2 v8 W => ∃ k lo hi : Nat, i ≤ k ∧ k ≤ N ∧ v1 = .int .u64 lo ∧ v2 = .int .u64 hi ∧ v8 = .int .i64 k ∧ lo ≤ hi ∧ hi ≤ 4611686018427387903 ∧ Swal L low high i k lo hi ∧ Below w.heap.size w W) (fun _ _ v8 _ => N - (intOf v8).toNat)
          case atStart => exact ⟨i, low, high, Nat.le_refl _, hiN, rfl, rfl, rfl, hlh, hhm, rfl, Below.refl _ _⟩
          case round =>
            obtain ⟨k, lo, hi, hik, hkN, rfl, rfl, rfl, hlo, hhi, hsw, hbW⟩ := hrel
            have HS := Lib.hid hsw
            have d0 := (hbW.cell (p := ⟨b, 0, none⟩) hbl).trans c0
            have HB := Lib.hid hbW
            by_cases hgo : ∃ r, L[k]? = some r ∧ lo ≤ r.2 + 1
            · obtain ⟨⟨s1, s2⟩, hr, hle⟩ := hgo
              have hk1 : k < N := by rw [← HN.out]; exact (List.getElem?_eq_some_iff.1 hr).1
              obtain ⟨g2, hpe, hg2, m0, m1, hs1, hs2⟩ := HC.out k _ hr
              have n0 := (hbW.cell (p := ⟨g2, k * 2, none⟩) hg2).trans m0
              have n1 := (hbW.cell (p := ⟨g2, k * 2 + 1, none⟩) hg2).trans m1
              simp only at hle n0 n1 hs1 hs2
              have hst := swal_step hsw hr hle
              have HT := Lib.hid hst
              clear hsw hst hbW hr m0 m1
              first
                | (exfalso; omega)
                | (cases hpe
                   go_wp2_with fail
                   go_region
                   all_goals
                     go_wp2_with fail
                     go_roundw
                     case rel => exact ⟨k + 1, min lo s1, max hi s2, by omega, by omega, by rw [show ((min lo s1 : Nat) : Int) = min (lo : Int) (s1 : Int) by omega], by rw [show ((max hi s2 : Nat) : Int) = max (hi : Int) (s2 : Int) by omega], by go_num, by omega, by omega, HT.out, Below.drew2 HB.out⟩
                     case measure => simp [intOf]; omega)
            · have hm := swal_end hsw (fun r hr hle => hgo ⟨r, hr, hle⟩)
              have hstop : ¬ (k : Int) < (N : Int) ∨ (k : Int) < (N : Int) ∧ ∃ g2 s2 : Nat, p0 = some ⟨g2, 0, none⟩ ∧ wr.cell? ⟨g2, k * 2 + 1, none⟩ = some (.int .u64 (s2 : Int)) ∧ ¬ (lo : Int) ≤ (s2 : Int) + 1 ∧ s2 ≤ 4611686018427387903 := by
                by_cases hk : k < N
                · obtain ⟨r, hr⟩ : ∃ r, L[k]? = some r := ⟨_, List.getElem?_eq_getElem (by rw [HN.out]; exact hk)⟩
                  obtain ⟨g2, e, hg1, m0, m1, hr1, hr2⟩ := HC.out k r hr
                  refine .inr ⟨by omega, g2, r.2, e0.trans e, (hbW.cell (p := ⟨g2, k * 2 + 1, none⟩) hg1).trans m1, ?_, hr2⟩
                  have : ¬ lo ≤ r.2 + 1 := fun hle => hgo ⟨r, hr, hle⟩
                  omega
                · exact .inl (by omega)
              obtain ⟨hE1, hE2⟩ := add_end HA.out hm hik (by rw [HN.out]; exact hkN) hlh hhm
              rw [HN.out] at hE1 hE2
              have hlen : (L.take i ++ [(lo, hi)] ++ L.drop k).length = i + 1 + (N - k) := by
                have := HN.out
                simp only [List.length_append, List.length_take, List.length_drop, List.length_cons, List.length_nil]
                omega
              have hrc : Calls Try.prog 26 #[.slice p0 N cap, .int .i64 (i : Int), .int .i64 (k : Int), .slice (some ⟨wr.heap.size, 0, none⟩) 1 1] (wr.alloc (.cells #[.int .u64 (lo : Int), .int .u64 (hi : Int)] 45)) fun e w2 =>
                  ∃ p' n' c', e = .returned (.slice p' n' c') ∧ w2.cell? ⟨b, 0, none⟩ = some (.slice p0 N cap) ∧ w2.frozen? ⟨b, 0, none⟩ = false ∧ SetTo b B (.slice p0 N cap) w (.slice p' n' c') (L.take i ++ [(lo, hi)] ++ L.drop k) (w2.setCell ⟨b, 0, none⟩ (.slice p' n' c')) := by
                have hb2 : Below w.heap.size w (wr.alloc (.cells #[.int .u64 (lo : Int), .int .u64 (hi : Int)] 45)) := hbW.alloc hbW.size _
                have h2 := H.out.next hb2
                have hsz := hbW.size
                rw [HN.out] at h2
                have ho := h2.own
                rw [HN.out] at ho
                subst e0
                refine (replace_ok B _ N i k (rgs L) _ wr.heap.size (lo, hi) ho (rgs_oneCell L) (blk.new wr _ _) ?_ (by omega) h2.bw hik hkN).mono ?_
                · intro he
                  rcases H.out.own.2 with ⟨hv, _⟩ | ⟨g9, c9, cur9, hv, _, h9, _⟩
                  · rw [HN.out] at hv
                    rw [hv] at he
                    cases he
                  · rw [HN.out] at hv
                    rw [hv] at he
                    injection he with he
                    have he : g9 = wr.heap.size := he
                    have := lt_of_block h9
                    omega
                · rintro e w2 ⟨v', rfl, hr⟩
                  have hx : (rgs L).take (i * 2) ++ rgVals (lo, hi) ++ (rgs L).drop (k * 2) = rgs (L.take i ++ [(lo, hi)] ++ L.drop k) := by
                    rw [rgs_append, rgs_append, rgs_take, rgs_drop, rgs_one]
                  rw [hx, ← hlen] at hr
                  have hh := H.out
                  rw [HN.out] at hh
                  obtain ⟨k1, k2, k3⟩ := stored hh hb2 hr
                  obtain ⟨p', c', rfl, _⟩ := own_shape hr.1
                  exact ⟨p', _, c', rfl, k1, k2, k3⟩
              have RC := Lib.hid hrc
              have HSame := Lib.hid (SetTo.same (by have := H.out; rw [HN.out] at this; exact this) hbW)
              clear hrc hsw hbW hgo hm hlen HS HB
              have go : (i = k ∧ 200 ≤ N) ∨ (i = k ∧ N < 200) ∨ i ≠ k := by omega
              rcases hstop with hk2 | ⟨hk2, g2, s2, hpe, n1, hn2, hs2⟩
              all_goals
                first | cases e0 | skip
                first | cases hpe | skip
              all_goals rcases go with ⟨hk3, hk4⟩ | ⟨hk3, hk4⟩ | hk3
              all_goals try (exfalso; omega)
              all_goals
                first
                  | (have h200 : 200 ≤ N := hk4
                     obtain ⟨hE, hR⟩ := hE1 hk3 hk4
                     have HE := Lib.hid hE
                     have HR := Lib.hid hR
                     have hk5 : (i : Int) = (k : Int) := by omega
                     clear hE1 hE2 RC hE hR
                     go_wp2_with fail
                     go_ret
                     rw [HE.out, HR.out, HN.out]
                     exact ⟨rfl, _, HSame.out⟩)
                  | (have h200 : N < 200 := hk4
                     subst hk3
                     obtain ⟨hE, hR⟩ := hE2 (.inr h200)
                     have HE := Lib.hid hE
                     have HR := Lib.hid hR
                     clear hE1 hE2 HSame hE hR
                     go_wp2_with (go_at_call 26; refine RC.out.mono ?_; rintro e w2 ⟨p', n', c', rfl, e0, e1, hst⟩; have HT := Lib.hid hst; clear hst)
                     go_ret
                     rw [HE.out, HR.out, HN.out]
                     exact ⟨rfl, _, HT.out⟩)
                  | (have hk5 : ¬ (i : Int) = (k : Int) := by omega
                     obtain ⟨hE, hR⟩ := hE2 (.inl hk3)
                     have HE := Lib.hid hE
                     have HR := Lib.hid hR
                     clear hE1 hE2 HSame hE hR
                     go_wp2_with (go_at_call 26; refine RC.out.mono ?_; rintro e w2 ⟨p', n', c', rfl, e0, e1, hst⟩; have HT := Lib.hid hst; clear hst)
                     go_ret
                     rw [HE.out, HR.out, HN.out]
                     exact ⟨rfl, _, HT.out⟩)

end Go.Proofs.Ytcpkpofmapjgdaa
