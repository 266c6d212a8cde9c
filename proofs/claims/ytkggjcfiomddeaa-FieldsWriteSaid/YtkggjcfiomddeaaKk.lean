/- Contract of the reference's Pack. -/
import Derived.Test.YtkggjcfiomddeaaKj
namespace Go.Proofs.Ytkggjcfiomddeaa
open Go.ChangeShapes Go.WideShapes Go.RowKit
set_option linter.unusedVariables false

theorem OwnN.shape0 {t : TypeId} {k : IntKind} {B : Nat} {w : World} {v : Value} {l : List Nat} (h : OwnN t k B w v l) : ∃ p cap, v = .slice p l.length cap := by
  obtain ⟨h1, h2⟩ := h
  rcases h2 with ⟨h2, h3⟩ | ⟨g, cap, cur, a, _⟩
  · exact ⟨none, 0, by rw [h2, h3]⟩
  · exact ⟨_, _, a⟩

set_option maxRecDepth 100000 in
set_option maxHeartbeats 1000000 in
theorem rPack_any (s : ByteArray) (w : World) (hs : s.size ≤ 10000) :
    Calls Try.prog 47 #[.string s] w fun e w' => e = .returned (.string (txt (packF (byt s)))) ∧ Below w.heap.size w w' := by
  have hbl := byt_length s
  obtain ⟨l, hl⟩ : ∃ l, byt s = l := ⟨_, rfl⟩
  obtain ⟨E, hE⟩ : ∃ E, encB l = E := ⟨_, rfl⟩
  obtain ⟨eL, heL⟩ : ∃ e, E.length = e := ⟨_, rfl⟩
  have hel : eL ≤ 12 * s.size := by
    have := encB_len l
    rw [hE, heL, ← hl, hbl] at this
    exact this
  have hpk : packF l = fb (E ++ pad eL) ((eL + 7) / 8) := by unfold packF; rw [hE, heL]
  have hB := fun g cap w hc => rBits_any s g cap w hs hc
  rw [hl] at hB ⊢
  rw [hE] at hB
  obtain ⟨pd, hpd⟩ : ∃ pd, (8 - eL % 8) % 8 = pd := ⟨_, rfl⟩
  have hpadl : pad eL = (cb 256).take pd := by rw [pad, hpd]
  have hcbt := fun t h => bitsN_at (hlen 256) (hcode 256) t h
  have hcb0 : cb 256 = bitsN (hlen 256) (hcode 256) := rfl
  have hd12 : hcode 256 < 4096 := by
    have h1 := code_lt 256 (by omega)
    rw [hlen_end] at h1
    exact h1
  obtain ⟨d, hd⟩ : ∃ n, hcode 256 = n := ⟨_, rfl⟩
  rw [hlen_end, hd] at hcbt hcb0
  rw [hd] at hd12
  rw [← hcb0] at hcbt
  have HB := Lib.hid hB
  have Hpk := Lib.hid hpk
  have Hpadl := Lib.hid hpadl
  have Hcbt := Lib.hid hcbt
  have Hd := Lib.hid hd
  have HeL := Lib.hid heL
  have Hpd := Lib.hid hpd
  clear hB hpk hpadl hcbt hd heL hpd hE hl hbl hcb0
  go_enter Try.func47, Try.ntmps47
  go_wp2_with fail
  refine (codes_any _).mono ?_
  rintro e w1 ⟨g, cap, rfl, hb1, hg, hcd⟩
  have Hb1 := Lib.hid hb1
  have Hcd := Lib.hid hcd
  clear hb1 hcd
  go_wp2_with fail
  refine (HB.out g cap w1 Hcd.out).mono ?_
  rintro e w2 ⟨v2, rfl, hO2, hb2⟩
  obtain ⟨B1, hB1⟩ : ∃ B, w1.heap.size = B := ⟨_, rfl⟩
  rw [hB1] at hO2 hb2
  have HB1 := Lib.hid hB1
  have HO2 := Lib.hid hO2
  have Hb2 := Lib.hid hb2
  clear hO2 hb2 hB1
  go_wp2_with fail
  go_loopw [4, 5] (fun v i wr => ∃ t L : Nat, t ≤ pd ∧ L = eL + t ∧ i = .int .i64 (11 - (t : Int)) ∧ OwnN 3 .i64 B1 wr v (nb (E ++ (cb 256).take t)) ∧ Below B1 w1 wr) (fun _ i _ => (intOf i + (pd : Int) - 11).toNat)
  case atStart => exact ⟨0, _, by omega, rfl, rfl, by simpa using HO2.out, Hb2.out⟩
  case round =>
    obtain ⟨t, L, ht, hL, rfl, hO, hb⟩ := hrel
    have hLen : (nb (E ++ (cb 256).take t)).length = L := by
      rw [nb_length, List.length_append, List.length_take, cb_length, hlen_end, HeL.out, hL]
      have := Hpd.out
      omega
    obtain ⟨p, cp, hv⟩ := hO.shape0
    rw [hLen] at hv
    have hLl : L ≤ 200000 := by have := Hpd.out; omega
    have HO := Lib.hid hO
    have Hb := Lib.hid hb
    have HLen := Lib.hid hLen
    have HL := Lib.hid hL
    clear hO hb hLen hL
    by_cases htp : t < pd
    · obtain ⟨r, hr⟩ : ∃ r, L % 8 = r := ⟨_, rfl⟩
      have hmi : (L : Int).tmod 8 = (r : Int) := by rw [Int.tmod_eq_emod_of_nonneg (by omega)]; omega
      have hr0 : 0 < r := by have := Hpd.out; have := HL.out; omega
      have hr1 : ((r : Int) == 0) = false := by rw [beq_eq_false_iff_ne]; omega
      have hr2 : ((r : Int) != 0) = true := by rw [bne_iff_ne]; omega
      have ht8 : t < 8 := by have := Hpd.out; omega
      obtain ⟨K, hK⟩ : ∃ K, 11 - t = K := ⟨_, rfl⟩
      have hKi : (11 : Int) - (t : Int) = (K : Int) := by omega
      have hKl : K ≤ 12 := by omega
      obtain ⟨x, hx⟩ : ∃ x, d / 2 ^ K % 2 = x := ⟨_, rfl⟩
      have hx2 : x < 2 := by omega
      have hcell : wr.cell? ⟨g, 256, none⟩ = some (.int .u16 (d : Int)) := by
        have := (Hcd.out.next (Hb.out.mono (by rw [HB1.out]; exact Nat.le_refl _))).2 256 (by omega)
        rw [Hd.out] at this
        exact this
      have hxi : ((d : Int) / 2 ^ K).tmod 2 = (x : Int) := by
        have e : (d : Int) / 2 ^ K = ((d / 2 ^ K : Nat) : Int) := by
          rw [Int.natCast_ediv, Int.natCast_pow]
          rfl
        rw [e, ← hx]
        generalize d / 2 ^ K = q
        rw [Int.tmod_eq_emod_of_nonneg (by omega)]
        omega
      have hnx : nb (E ++ (cb 256).take t) ++ [x] = nb (E ++ (cb 256).take (t + 1)) := by
        rw [Hcbt.out t (by omega), show 12 - 1 - t = K by omega, ← List.append_assoc, nb_append (E ++ (cb 256).take t)]
        congr 1
        show [x] = [(d / 2 ^ K % 2 == 1).toNat]
        rw [bit_nat, hx]
      have hll : (nb (E ++ (cb 256).take t)).length ≤ 1000000 := by rw [HLen.out]; omega
      have hwB : B1 ≤ wr.heap.size := by have := Hb.out.size; rw [HB1.out] at this; exact this
      have Hnx := Lib.hid hnx
      clear hnx hx hK hr
      subst hv
      go_wp2_with (at_builtin; refine appI wr rfl _ _ rfl B1 (.slice p L cp) _ _ x rfl rfl rfl HO.out hll hwB ?_)
      intro v' wn hOn hbn
      rw [Hnx.out] at hOn
      have HOn := Lib.hid hOn
      have Hbn := Lib.hid (Hb.out.trans hbn)
      clear hOn hbn
      go_wp2_with fail
      go_roundw
      case rel => exact ⟨t + 1, L + 1, by omega, by have := HL.out; omega, by go_num, HOn.out, Hbn.out⟩
      case measure => simp [intOf]; omega
    · obtain rfl : t = pd := by omega
      obtain ⟨m, hm⟩ : ∃ m, (eL + 7) / 8 = m := ⟨_, rfl⟩
      have hL8 : L = 8 * m := by have := Hpd.out; have := HL.out; omega
      have hmi : (L : Int).tmod 8 = 0 := by rw [Int.tmod_eq_emod_of_nonneg (by omega)]; omega
      have hbits : ∀ j, j < L → ∃ g2, p = some ⟨g2, 0, none⟩ ∧ g2 < wr.heap.size ∧ ∃ x : Nat, x < 2 ∧ wr.cell? ⟨g2, j, none⟩ = some (.int .i64 (x : Int)) ∧ ∀ q k, 8 * q + k = j → ((E ++ (cb 256).take t).drop (8 * q)).take (k + 1) = ((E ++ (cb 256).take t).drop (8 * q)).take k ++ [x == 1] := by
        intro j hj
        have hj2 : j < (nb (E ++ (cb 256).take t)).length := by rw [HLen.out]; exact hj
        have hj3 : j < (E ++ (cb 256).take t).length := by rw [← nb_length]; exact hj2
        obtain ⟨g2, cap2, hv2, _, hg2, hc2⟩ := HO.out.shape (by omega)
        rw [hv] at hv2
        injection hv2 with hp2 _ _
        refine ⟨g2, hp2, hg2, ((E ++ (cb 256).take t)[j]).toNat, Bool.toNat_lt _, ?_, ?_⟩
        · have hn : (nb (E ++ (cb 256).take t))[j] = ((E ++ (cb 256).take t)[j]).toNat := by simp only [nb, List.getElem_map]
          rw [hc2 j hj2, hn]
        · intro q k hqk
          have hk : k < ((E ++ (cb 256).take t).drop (8 * q)).length := by rw [List.length_drop]; omega
          rw [List.take_succ_eq_append_getElem hk, List.getElem_drop]
          congr 2
          have e : (E ++ (cb 256).take t)[8 * q + k] = (E ++ (cb 256).take t)[j] := by congr 1
          rw [e]
          cases (E ++ (cb 256).take t)[j] <;> rfl
      have hpk2 : packF l = fb (E ++ (cb 256).take t) m := by rw [Hpk.out, Hpadl.out, hm]
      obtain ⟨P, hP⟩ : ∃ P, E ++ (cb 256).take t = P := ⟨_, rfl⟩
      rw [hP] at hbits hpk2
      have Hbits := Lib.hid hbits
      have Hpk2 := Lib.hid hpk2
      have HL8 := Lib.hid hL8
      have hm3 : m ≤ 30000 := by omega
      clear hbits hpk2 hP hm hL8
      obtain ⟨B2, hB2⟩ : ∃ B, wr.heap.size = B := ⟨_, rfl⟩
      have HB2 := Lib.hid hB2
      clear hB2
      subst hv
      obtain ⟨wq, rfl⟩ : ∃ wq, wq = wr := ⟨_, rfl⟩
      go_wp2_with fail
      go_loopw [6, 7] (fun v i wz => ∃ q : Nat, q ≤ m ∧ i = .int .i64 (8 * (q : Int)) ∧ Own8 B2 wz v (fb P q) ∧ Below B2 wq wz) (fun _ i _ => 8 * m - (intOf i).toNat)
      case atStart =>
        refine ⟨0, by omega, rfl, ?_, ?_⟩
        · exact Own8.nilAlloc _ _ (by rw [HB2.out]; exact Nat.le_refl _)
        · exact (Below.refl _ _).alloc (by rw [HB2.out]; exact Nat.le_refl _) _
      case round =>
        obtain ⟨q, hq, rfl, hO3, hb3⟩ := hrel
        have HO3 := Lib.hid hO3
        have Hb3 := Lib.hid hb3
        clear hO3 hb3
        by_cases hlt : q < m
        · have hqi : decide ((8 : Int) * (q : Int) < (L : Int)) = true := by rw [decide_eq_true_iff]; have := HL8.out; omega
          have hwB : B2 ≤ wr.heap.size := by have := Hb3.out.size; rw [HB2.out] at this; exact this
          have hfl : (fb P q).length ≤ 1000000 := by rw [fb_length]; omega
          go_wp2_with fail
          go_loop [8, 9] (fun n i => ∃ k c : Nat, k ≤ 8 ∧ i = .int .i64 k ∧ c = bv ((P.drop (8 * q)).take k) ∧ n = .int .i64 c) (fun _ i => 8 - (intOf i).toNat)
          case atStart => exact ⟨0, 0, by omega, rfl, by simp [bv], rfl⟩
          case round =>
            obtain ⟨k, c, hk, rfl, hc, rfl⟩ := hrel
            have hcl : c < 256 := by
              have h1 := bv_lt ((P.drop (8 * q)).take k)
              have h2 : 2 ^ ((P.drop (8 * q)).take k).length ≤ 2 ^ 8 := Nat.pow_le_pow_right (by omega) (by rw [List.length_take]; omega)
              omega
            by_cases hk8 : k < 8
            · obtain ⟨J, hJ⟩ : ∃ J, 8 * q + k = J := ⟨_, rfl⟩
              have hJl : J < L := by have := HL8.out; omega
              have hJli : (J : Int) < (L : Int) := by omega
              obtain ⟨g2, rfl, hg2, x, hx2, hcl2, htk⟩ := Hbits.out J hJl
              have hcell : wr.cell? ⟨g2, J, none⟩ = some (.int .i64 (x : Int)) := by
                rw [Hb3.out.cell (by rw [← HB2.out]; exact hg2)]
                exact hcl2
              have hJi : (8 : Int) * (q : Int) + (k : Int) = (J : Int) := by omega
              have hnext : c * 2 + x = bv ((P.drop (8 * q)).take (k + 1)) := by
                rw [htk q k hJ, bv_bit _ x hx2, hc]
              have Hnext := Lib.hid hnext
              have HJ := Lib.hid hJ
              clear hnext hc hcl2 htk hJ
              go_wp2_with fail
              go_round
              case rel => exact ⟨k + 1, c * 2 + x, by omega, by go_num, Hnext.out, by go_num⟩
              case measure => simp [intOf]; omega
            · obtain rfl : k = 8 := by omega
              have hfs := fb_succ P q
              rw [← hc] at hfs
              have hX : (c : Int) = ((UInt8.ofNat c).toNat : Int) := by
                rw [UInt8.toNat_ofNat']
                omega
              have HX := Lib.hid hX
              have Hfs := Lib.hid hfs
              clear hX hfs hc
              go_wp2_with (at_builtin; refine app8 wr rfl _ _ rfl B2 u6 (fb P q) _ (UInt8.ofNat c) HX.out rfl rfl HO3.out hfl hwB ?_)
              intro v' wn hOn hbn
              rw [← Hfs.out] at hOn
              have HOn := Lib.hid hOn
              have Hbn := Lib.hid (Hb3.out.trans hbn)
              clear hOn hbn
              go_wp2_with fail
              go_roundw
              case rel =>
                exact ⟨q + 1, by omega, by go_num, HOn.out, Hbn.out⟩
              case measure => simp [intOf]; omega
        · obtain rfl : q = m := by omega
          have hqi : decide ((8 : Int) * (q : Int) < (L : Int)) = false := by rw [decide_eq_false_iff_not]; have := HL8.out; omega
          have hcv := conv_own B2 wr u6 _ HO3.out
          rw [← Hpk2.out] at hcv
          go_wp2_with fail
          go_ret
          refine ⟨rfl, ?_⟩
          have h1 : Below w.heap.size w wq := Hb1.out.trans (Hb.out.mono (by rw [← HB1.out]; exact Hb1.out.size))
          exact h1.trans (Hb3.out.mono (by rw [← HB2.out]; exact h1.size))

end Go.Proofs.Ytkggjcfiomddeaa
