/- fields: the reference's Take. -/
import Derived.Test.YtkggjcfiomddeaaGb
import Derived.Deep.RegionHeld
namespace Go.Proofs.Ytkggjcfiomddeaa
open Go.ChangeShapes Go.WideShapes Go.RowKit
set_option linter.unusedVariables false
set_option linter.unusedSimpArgs false

theorem toList_txt (l : List UInt8) : (txt l).toList = l := by rw [ByteArray.toList_eq]; simp [txt]
theorem bel_step {w w1 x : World} (h : Below w.heap.size w w1) (b : Below w1.heap.size w1 x) : Below w.heap.size w x := h.trans (b.mono h.size)

set_option maxRecDepth 100000 in
set_option maxHeartbeats 4000000 in
theorem RTake_any (s : ByteArray) (k : Nat) (w : World) (hs : s.size ≤ 100000) (hk : 1 ≤ k ∧ k ≤ 8) :
    Calls Try.prog 11 #[.string s, .int .i64 (k : Int)] w fun e w' => e = .returned (.tuple #[.int .u64 ((rTakeF (byt s) k).1 : Int), .string (txt (rTakeF (byt s) k).2.1), .bool (rTakeF (byt s) k).2.2]) ∧ Below w.heap.size w w' := by
  have hbl := byt_length s
  by_cases h0 : s.size = 0
  case pos =>
    have hs0 := ba_nil h0
    subst hs0
    go_enter Try.func11, Try.ntmps11
    go_wp2_with fail
    go_ret3
    exact ⟨rfl, Below.refl _ _⟩
  case neg =>
    have hp0 : 0 < s.size := by omega
    have hhd := head_at s hp0
    obtain ⟨l, hl⟩ : ∃ l, byt s = l := ⟨_, rfl⟩
    rw [hl] at hbl hhd ⊢
    have hget : ∀ j (h : j < s.size) (h2 : j < l.length), s[j].toNat = l[j].toNat := by
      intro j h h2
      rw [byt_get]
      simp [hl]
    have hst : s = txt l := by rw [← hl, txt_byt]
    have hext : (∀ j, s.extract 0 j = txt (l.take j)) ∧ ∀ j, s.extract j s.size = txt (l.drop j) := ⟨fun j => by rw [hst]; exact ext_take l j, fun j => by
      have hz : s.size = l.length := hbl.symm
      rw [hz, hst]
      exact ext_drop l j l.length rfl⟩
    have Hext := Lib.hid hext
    clear hext hst
    cases l with
    | nil => simp at hbl; omega
    | cons b r =>
      have hsz : s.size = r.length + 1 := by rw [← hbl]; simp
      have hx8 : b.toNat < 256 := UInt8.toNat_lt b
      obtain ⟨f1, f2⟩ := full_facts k hk
      have hsh := shl_bits k hk
      have hhz := sub_mod b.toNat k
      have hmle := Nat.mod_le b.toNat (2 ^ k)
      have hmlt : b.toNat % 2 ^ k < 2 ^ k := Nat.mod_lt _ (by omega)
      have hx0 : s[0].toNat = b.toNat := hhd
      obtain ⟨res, hres⟩ : ∃ q, rTakeF (b :: r) k = q := ⟨_, rfl⟩
      rw [hres]
      unfold rTakeF at hres
      simp only at hres
      have hgetr : ∀ j (h : j + 1 < s.size) (h2 : j < r.length), s[j + 1].toNat = r[j].toNat := by
        intro j h h2
        rw [hget (j + 1) h (by simp; omega)]
        rfl
      have Hget := Lib.hid hgetr
      obtain ⟨l, hll⟩ : ∃ q, b :: r = q := ⟨_, rfl⟩
      rw [hll] at hres Hext
      obtain ⟨n, hn⟩ : ∃ n, b.toNat % 2 ^ k = n := ⟨_, rfl⟩
      rw [hn] at hres hhz hmle hmlt
      obtain ⟨high, hhigh⟩ : ∃ h, b.toNat - n = h := ⟨_, rfl⟩
      rw [hhigh] at hres hhz
      have hh8 : high < 256 := by omega
      have hremN : b.toNat % 2 ^ k = n := hn
      obtain ⟨x, hx⟩ : ∃ x, b.toNat = x := ⟨_, rfl⟩
      rw [hx] at hx0 hx8 hremN hhigh hmle
      obtain ⟨F, hF⟩ : ∃ F, 2 ^ k - 1 = F := ⟨_, rfl⟩
      have hF1 : 2 ^ k = F + 1 := by omega
      rw [hF1] at hsh hremN hmlt
      rw [hF] at f1 f2 hres
      have hs2 : IntKind.u64.wrap ((2 : Int) ^ k) = (F : Int) + 1 := hsh
      have hw1 : IntKind.u64.wrap ((F : Int) + 1) = (F : Int) + 1 := IntWalk.u64_in _ (by omega)
      have hrem : (x : Int) % ((F : Int) + 1) = (n : Int) := by
        rw [← hremN]
        push_cast
        rfl
      have hwn8 : IntKind.u8.wrap (n : Int) = n := IntWalk.u8_in _ (by omega)
      have hwh : IntKind.u8.wrap ((x : Int) - (n : Int)) = (high : Int) := by rw [IntWalk.u8_in _ (by omega)]; omega
      obtain ⟨SL, hSL⟩ : ∃ q, s.size = q := ⟨_, rfl⟩
      have HSL := Lib.hid hSL
      obtain ⟨RL, hRL⟩ : ∃ q, r.length = q := ⟨_, rfl⟩
      have HRL := Lib.hid hRL
      have hSR1 : RL + 1 ≤ SL := by omega
      have hSR2 : SL ≤ RL + 1 := by omega
      rw [hSL] at Hext
      have hSb : SL ≤ 100000 := by omega
      have hS1 : (1 : Int) ≤ (SL : Int) := by omega
      have hS0 : ((SL : Int) == 0) = false := by rw [beq_eq_false_iff_ne]; omega
      clear hsh hF hF1 hn hhd hget hgetr hbl hl hx hll hremN hRL hsz
      by_cases hnF : n < F
      case pos =>
        rw [if_pos hnF] at hres
        have hne : ((n : Int) == (F : Int)) = false := by rw [beq_eq_false_iff_ne]; omega
        have hne2 : (n == F) = false := by rw [beq_eq_false_iff_ne]; omega
        have hneq : ¬ n = F := by omega
        obtain ⟨ns, hns⟩ : ∃ q, txt (numberF n k high) = q := ⟨_, rfl⟩
        obtain ⟨sx, hsx⟩ : ∃ q, txt (l.take (1)) = q := ⟨_, rfl⟩
        obtain ⟨rx, hrx⟩ : ∃ q, txt (l.drop (1)) = q := ⟨_, rfl⟩
        have hnum := fun w => RNumber_any (n) k high w hk (by omega) hh8 hhz
        have he1 := Hext.out.1 (1)
        have he2 := Hext.out.2 (1)
        have hcmp : (ns.toList == sx.toList) = decide (numberF (n) k high = l.take (1)) := by
          rw [← hns, ← hsx, toList_txt, toList_txt, Bool.eq_iff_iff, beq_iff_eq, decide_eq_true_iff]
        rw [hns] at hnum
        rw [hsx] at he1
        rw [hrx] at he2
        unfold chkF at hres
        obtain ⟨cb, hcb⟩ : ∃ c, decide (numberF (n) k high = l.take (1)) = c := ⟨_, rfl⟩
        rw [hcb] at hcmp
        have hres2 : res = if 4294967296 < n ∨ cb = false then (0, [], false) else (n, l.drop (1), true) := by
          rw [← hres]
          congr 1
          rw [← hcb, decide_eq_false_iff_not]
        have HNUM := Lib.hid hnum
        have HRX := Lib.hid hrx
        clear hnum hns hsx hrx hcb hres
        go_enter Try.func11, Try.ntmps11
        have hbig : ¬ 4294967296 < n := by omega
        have hd9 : decide ((4294967296 : Int) < ((n : Nat) : Int)) = false := by rw [decide_eq_false_iff_not]; omega
        cases cb
        case false =>
          rw [if_pos (.inr rfl)] at hres2
          have HR := Lib.hid hres2
          clear hres2
          go_wp2_with fail
          go_quiet (fail)
          go_wp2_with fail
          go_region_held (fun w' => Below w.heap.size w w')
            (first | with_reducible assumption | exact (below_drewN (Below.refl _ _) _).drew | (refine bel_step ?_ (by with_reducible assumption); assumption))
            (first | (go_at_call 13; refine (HNUM.out _).mono ?_; rintro e xn ⟨rfl, bn⟩))
          all_goals go_wp2_with fail
          all_goals
            go_ret3
            exact ⟨by rw [HR.out]; rfl, by with_reducible assumption⟩
        case true =>
          rw [if_neg (by simp; omega)] at hres2
          have HR := Lib.hid hres2
          clear hres2
          go_wp2_with fail
          go_quiet (fail)
          go_wp2_with fail
          go_region_held (fun w' => Below w.heap.size w w')
            (first | with_reducible assumption | exact (below_drewN (Below.refl _ _) _).drew | (refine bel_step ?_ (by with_reducible assumption); assumption))
            (first | (go_at_call 13; refine (HNUM.out _).mono ?_; rintro e xn ⟨rfl, bn⟩))
          all_goals go_wp2_with fail
          all_goals
            go_quiet (fail)
            go_wp2_with fail
            go_ret3
            exact ⟨by rw [HR.out, ← HRX.out]; rfl, below_drewN (by with_reducible assumption) _⟩
      case neg =>
        have hnE : n = F := by omega
        subst hnE
        rw [if_neg (by omega)] at hres
        have HRES := Lib.hid hres
        clear hres hnF
        go_enter Try.func11, Try.ntmps11
        go_wp2_with fail
        go_loop [4, 5, 6, 8, 9, 10] (fun _ _ _ nv kv pv => ∃ K m : Nat, 1 ≤ K ∧ K ≤ 10 ∧ kv = .int .i64 K ∧ nv = .int .u64 ((n + m : Nat) : Int) ∧ pv = .int .u64 ((128 ^ (K - 1) : Nat) : Int) ∧ m < 128 ^ (K - 1) ∧ rG 9 0 0 r = rG (10 - K) (K - 1) m (r.drop (K - 1))) (fun _ _ _ _ kv _ => 10 - (intOf kv).toNat)
        case atStart => exact ⟨1, 0, by omega, by omega, rfl, by rw [hrem]; rfl, rfl, by simp, rfl⟩
        case round =>
          obtain ⟨K, m, hK1, hK9, rfl, rfl, rfl, hm, hg⟩ := hrel
          obtain ⟨J, hJ⟩ : ∃ J, K - 1 = J := ⟨_, rfl⟩
          have hKJ : K = J + 1 := by omega
          rw [hJ] at hm hg ⊢
          by_cases hin : J < RL ∧ J < 9
          case neg =>
            have hnone : rG 9 0 0 r = none := by
              rw [hg]
              by_cases h9 : J < 9
              · have e : r.drop J = [] := List.drop_of_length_le (by have := HRL.out; omega)
                rw [e]
                cases 10 - K <;> rfl
              · rw [show 10 - K = 0 by omega]; rfl
            have hfin := HRES.out
            rw [hnone] at hfin
            simp only at hfin
            have HR := Lib.hid hfin
            clear hfin hnone hg hm
            by_cases hJR : J < RL
            · have d1 : decide ((SL : Int) ≤ (K : Int)) = false := by rw [decide_eq_false_iff_not]; omega
              have d1N : decide (SL ≤ K) = false := by rw [decide_eq_false_iff_not]; omega
              have d2 : decide ((9 : Int) < (K : Int)) = true := by rw [decide_eq_true_iff]; omega
              go_wp2_with fail
              go_ret3
              exact ⟨by rw [← HR.out]; rfl, Below.refl _ _⟩
            · have d1 : decide ((SL : Int) ≤ (K : Int)) = true := by rw [decide_eq_true_iff]; omega
              have d1N : decide (SL ≤ K) = true := by rw [decide_eq_true_iff]; omega
              go_wp2_with fail
              go_ret3
              exact ⟨by rw [← HR.out]; rfl, Below.refl _ _⟩
          case pos =>
            obtain ⟨hJR, hJ9⟩ := hin
            have hKs : K < s.size := by have := HSL.out; omega
            have hJl : J < r.length := by rw [HRL.out]; exact hJR
            obtain ⟨c, hc⟩ : ∃ c, r[J].toNat = c := ⟨_, rfl⟩
            have hcs : s[K].toNat = c := by
              subst hKJ
              rw [Hget.out J hKs hJl, hc]
            have hc8 : c < 256 := by rw [← hc]; exact UInt8.toNat_lt _
            have d1 : decide ((SL : Int) ≤ (K : Int)) = false := by rw [decide_eq_false_iff_not]; omega
            have d1N : decide (SL ≤ K) = false := by rw [decide_eq_false_iff_not]; omega
            have d2 : decide ((9 : Int) < (K : Int)) = false := by rw [decide_eq_false_iff_not]; omega
            have hP := pow128 J (by omega)
            have hstep : r.drop J = r[J] :: r.drop (J + 1) := List.drop_eq_getElem_cons hJl
            rw [hstep, show 10 - K = (10 - (K + 1)) + 1 by omega, rG, hc] at hg
            obtain ⟨d, hd⟩ : ∃ d, c % 128 = d := ⟨_, rfl⟩
            have hd128 : d < 128 := by omega
            have hcd : (c : Int) % 128 = (d : Int) := by omega
            have hPS : 128 ^ (J + 1) = 128 ^ J * 128 := Nat.pow_succ 128 J
            obtain ⟨P, hPe⟩ : ∃ P, 128 ^ J = P := ⟨_, rfl⟩
            rw [hd, hPe] at hg
            rw [hPe] at hP hm hPS ⊢
            have hdP : d * P ≤ 127 * P := Nat.mul_le_mul_right _ (by omega)
            have hw2 : IntKind.u64.wrap ((d : Int) * (P : Int)) = ((d * P : Nat) : Int) := by rw [← Int.natCast_mul]; exact IntWalk.u64_in _ (by omega)
            obtain ⟨dp, hdp⟩ : ∃ q, d * P = q := ⟨_, rfl⟩
            rw [hdp] at hw2 hdP hg
            obtain ⟨m2, hm2⟩ : ∃ q, m + dp = q := ⟨_, rfl⟩
            rw [hm2] at hg
            obtain ⟨Nm, hNm⟩ : ∃ q, n + m = q := ⟨_, rfl⟩
            obtain ⟨N2, hN2⟩ : ∃ q, n + m2 = q := ⟨_, rfl⟩
            have hw3 : IntKind.u64.wrap ((Nm : Int) + (dp : Int)) = (N2 : Int) := by rw [IntWalk.u64_in _ (by omega)]; omega
            have hw4 : IntKind.u64.wrap ((P : Int) * 128) = ((P * 128 : Nat) : Int) := by rw [show ((P : Int) * 128) = ((P * 128 : Nat) : Int) by push_cast; rfl]; exact IntWalk.u64_in _ (by omega)
            obtain ⟨P2, hP2⟩ : ∃ q, P * 128 = q := ⟨_, rfl⟩
            rw [hP2] at hw4 hPS
            rw [hNm]
            have hm2b : m2 < P2 := by omega
            have hw5 : IntKind.i64.wrap ((K : Int) + 1) = (K : Int) + 1 := IntWalk.i64_in _ (by omega)
            have hw6 : IntKind.i64.wrap ((K : Int) + 1 - 1) = (K : Int) := by rw [IntWalk.i64_in _ (by omega)]; omega
            have HPS := Lib.hid hPS
            have HG := Lib.hid hg
            have hKi : (K : Int) < (SL : Int) := by omega
            have hKN : K < SL := by omega
            have hN2b : N2 ≤ 255 + 128 * P := by omega
            have HN2 := Lib.hid hN2
            have HKJ := Lib.hid hKJ
            clear hg hPS hd hdp hm2 hP2 hPe hstep hc hm hNm hN2 hJ hdP hKJ
            by_cases h128 : c < 128
            · have d3 : decide ((c : Int) < 128) = true := by rw [decide_eq_true_iff]; omega
              have hfin := HG.out
              rw [if_pos h128] at hfin
              have hres := HRES.out
              rw [hfin] at hres
              simp only at hres
              have hKe : J + 1 + 1 = K + 1 := by have := HKJ.out; omega
              rw [HN2.out, hKe] at hres
              clear hfin h128
              obtain ⟨ns, hns⟩ : ∃ q, txt (numberF N2 k high) = q := ⟨_, rfl⟩
              obtain ⟨sx, hsx⟩ : ∃ q, txt (l.take (K + 1)) = q := ⟨_, rfl⟩
              obtain ⟨rx, hrx⟩ : ∃ q, txt (l.drop (K + 1)) = q := ⟨_, rfl⟩
              have hnum := fun w => RNumber_any (N2) k high w hk (by omega) hh8 hhz
              have he1 := Hext.out.1 (K + 1)
              have he2 := Hext.out.2 (K + 1)
              have hcmp : (ns.toList == sx.toList) = decide (numberF (N2) k high = l.take (K + 1)) := by
                rw [← hns, ← hsx, toList_txt, toList_txt, Bool.eq_iff_iff, beq_iff_eq, decide_eq_true_iff]
              rw [hns] at hnum
              rw [hsx] at he1
              rw [hrx] at he2
              unfold chkF at hres
              obtain ⟨cb, hcb⟩ : ∃ c, decide (numberF (N2) k high = l.take (K + 1)) = c := ⟨_, rfl⟩
              rw [hcb] at hcmp
              have hres2 : res = if 4294967296 < N2 ∨ cb = false then (0, [], false) else (N2, l.drop (K + 1), true) := by
                rw [← hres]
                congr 1
                rw [← hcb, decide_eq_false_iff_not]
              have HNUM := Lib.hid hnum
              have HRX := Lib.hid hrx
              clear hnum hns hsx hrx hcb hres
              have hK2 : (K : Int) + 1 ≤ (SL : Int) := by omega
              by_cases hbig : 4294967296 < N2
              case pos =>
                rw [if_pos (.inl hbig)] at hres2
                have hd9 : decide ((4294967296 : Int) < ((N2 : Nat) : Int)) = true := by rw [decide_eq_true_iff]; omega
                have HR := Lib.hid hres2
                clear hres2 hcmp
                go_wp2_with fail
                go_quiet (fail)
                go_wp2_with fail
                go_quiet (fail)
                go_wp2_with fail
                go_ret3
                exact ⟨by rw [HR.out]; rfl, below_drewN (below_drewN (Below.refl _ _) _) _⟩
              case neg =>
                have hd9 : decide ((4294967296 : Int) < ((N2 : Nat) : Int)) = false := by rw [decide_eq_false_iff_not]; omega
                cases cb
                case false =>
                  rw [if_pos (.inr rfl)] at hres2
                  have HR := Lib.hid hres2
                  clear hres2
                  go_wp2_with fail
                  go_quiet (fail)
                  go_wp2_with fail
                  go_region_held (fun w' => Below w.heap.size w w')
                    (first | with_reducible assumption | exact (below_drewN (Below.refl _ _) _).drew | (refine bel_step ?_ (by with_reducible assumption); assumption))
                    (first | (go_at_call 13; refine (HNUM.out _).mono ?_; rintro e xn ⟨rfl, bn⟩))
                  all_goals go_wp2_with fail
                  all_goals
                    go_ret3
                    exact ⟨by rw [HR.out]; rfl, by with_reducible assumption⟩
                case true =>
                  rw [if_neg (by simp; omega)] at hres2
                  have HR := Lib.hid hres2
                  clear hres2
                  go_wp2_with fail
                  go_quiet (fail)
                  go_wp2_with fail
                  go_region_held (fun w' => Below w.heap.size w w')
                    (first | with_reducible assumption | exact (below_drewN (Below.refl _ _) _).drew | (refine bel_step ?_ (by with_reducible assumption); assumption))
                    (first | (go_at_call 13; refine (HNUM.out _).mono ?_; rintro e xn ⟨rfl, bn⟩))
                  all_goals go_wp2_with fail
                  all_goals
                    go_quiet (fail)
                    go_wp2_with fail
                    go_ret3
                    exact ⟨by rw [HR.out, ← HRX.out]; rfl, below_drewN (by with_reducible assumption) _⟩
            · have d3 : decide ((c : Int) < 128) = false := by rw [decide_eq_false_iff_not]; omega
              have hfin := HG.out
              rw [if_neg h128] at hfin
              have HFIN := Lib.hid hfin
              clear hfin h128
              go_wp2_with fail
              go_round
              case rel => exact ⟨K + 1, m2, by omega, by have := HKJ.out; omega, by go_num, by rw [HN2.out], by rw [show K + 1 - 1 = J + 1 by have := HKJ.out; omega, HPS.out], by rw [show K + 1 - 1 = J + 1 by have := HKJ.out; omega, HPS.out]; exact hm2b, by rw [show K + 1 - 1 = J + 1 by have := HKJ.out; omega]; exact HFIN.out⟩
              case measure => simp [intOf]; have := HKJ.out; omega

end Go.Proofs.Ytkggjcfiomddeaa
