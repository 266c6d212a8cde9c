/- Contract of huff's Pack. -/
import Derived.Test.YtgnoiheekgmleaaId
namespace Go.Proofs.Ytgnoiheekgmleaa
open Go.ChangeShapes Go.WideShapes Go.RowKit
set_option linter.unusedVariables false

/-- The bits that wait, from byte m on, are the lowest ones of a number. -/
def Pend (B : List Bool) (m acc : Nat) : Prop := acc % 2 ^ (B.length - 8 * m) = bv (B.drop (8 * m))

theorem pend_push (B : List Bool) (m acc c : Nat) (hc : c < 257) (hm : 8 * m ≤ B.length) (hs : B.length - 8 * m ≤ 50) (h : Pend B m acc) :
    Pend (B ++ cb c) m ((acc * 2 ^ hlen c % 18446744073709551616) ||| hcode c) := by
  unfold Pend at *
  have hcl := code_lt c hc
  have hl12 := hlen_le c
  obtain ⟨n, hn⟩ : ∃ n, B.length - 8 * m = n := ⟨_, rfl⟩
  obtain ⟨k, hk⟩ : ∃ k, hlen c = k := ⟨_, rfl⟩
  have e1 : (B ++ cb c).length - 8 * m = n + k := by rw [List.length_append, cb_length]; omega
  rw [e1, List.drop_append_of_le_length hm, bv_append, cb_length, cb_bv c hc, ← h, hn, hk]
  rw [hk] at hcl hl12
  have e64 : (18446744073709551616 : Nat) = 2 ^ k * 2 ^ (64 - k) := by rw [← Nat.pow_add, show k + (64 - k) = 64 by omega]
  have hx : acc * 2 ^ k % 18446744073709551616 = (acc % 2 ^ (64 - k)) * 2 ^ k := by
    rw [e64, Nat.mul_comm acc, Nat.mul_mod_mul_left, Nat.mul_comm]
  rw [hx, nat_join k _ _ (Nat.mul_mod_left _ _) hcl]
  rw [Nat.pow_add, Nat.mul_comm (2 ^ n) (2 ^ k), Nat.mod_mul, Nat.mul_add_mod_self_right, Nat.mod_eq_of_lt hcl]
  rw [Nat.mul_comm (acc % 2 ^ (64 - k)) (2 ^ k), Nat.mul_add_div (Nat.pow_pos (by omega)), Nat.div_eq_of_lt hcl, Nat.add_zero]
  rw [Nat.mod_mod_of_dvd _ (Nat.pow_dvd_pow 2 (by omega))]
  rw [Nat.mul_comm (2 ^ k), Nat.add_comm]

theorem pend_byte (B : List Bool) (m acc : Nat) (h : Pend B m acc) (hm : 8 * m + 8 ≤ B.length) :
    acc / 2 ^ (B.length - 8 * m - 8) % 256 = bv ((B.drop (8 * m)).take 8) ∧ Pend B (m + 1) acc := by
  unfold Pend at *
  obtain ⟨n, hn⟩ : ∃ n, B.length - 8 * m - 8 = n := ⟨_, rfl⟩
  have hl : (B.drop (8 * m)).length = n + 8 := by rw [List.length_drop]; omega
  rw [show B.length - 8 * m = n + 8 by omega] at h
  rw [hn]
  constructor
  · rw [bv_take _ _ (by omega), hl, show n + 8 - 8 = n by omega, ← h, Nat.pow_add, Nat.mod_mul_right_div_self]
  · rw [show B.length - 8 * (m + 1) = n by omega, show 8 * (m + 1) = 8 * m + 8 by omega, ← List.drop_drop]
    have e : B.drop (8 * m) = (B.drop (8 * m)).take 8 ++ (B.drop (8 * m)).drop 8 := (List.take_append_drop _ _).symm
    have hl2 : ((B.drop (8 * m)).drop 8).length = n := by rw [List.length_drop]; omega
    have h2 := bv_append ((B.drop (8 * m)).take 8) ((B.drop (8 * m)).drop 8)
    rw [← e, ← h, hl2] at h2
    have h3 := bv_lt ((B.drop (8 * m)).drop 8)
    rw [hl2] at h3
    have h4 : acc % 2 ^ (n + 8) % 2 ^ n = acc % 2 ^ n := Nat.mod_mod_of_dvd _ (Nat.pow_dvd_pow 2 (by omega))
    rw [← h4, h2, Nat.mul_add_mod_self_right, Nat.mod_eq_of_lt h3]

set_option maxRecDepth 100000 in
theorem Pack_any (s : ByteArray) (w : World) (hs : s.size ≤ 10000) :
    Calls Try.prog 76 #[.string s] w fun e w' => e = .returned (.string (txt (packF (byt s)))) ∧ Below w.heap.size w w' := by
  have hbl := byt_length s
  obtain ⟨l, hl⟩ : ∃ l, byt s = l := ⟨_, rfl⟩
  rw [hl] at hbl ⊢
  have hget : ∀ j (h : j < s.size) (h2 : j < l.length), s[j].toNat = l[j].toNat := by
    intro j h h2
    rw [byt_get]
    simp [hl]
  have Hget := Lib.hid hget
  have Hl := Lib.hid hl
  have Hbl := Lib.hid hbl
  clear hget hl hbl
  go_enter Try.func76, Try.ntmps76
  go_wp2_with fail
  refine (lay_any _).mono ?_
  rintro e w1 ⟨rfl, hb⟩
  have ht : HasTab w1 w.heap.size := hb.2
  have Ht := Lib.hid ht
  have Hb := Lib.hid hb.1
  obtain ⟨B, hB⟩ : ∃ B, w1.heap.size = B := ⟨_, rfl⟩
  have HB := Lib.hid hB
  clear hb ht hB
  go_wp2_with fail
  go_loopw [4, 5, 6, 12] (fun v a n i wr => ∃ j m acc q : Nat, ∃ E : List Bool, j ≤ s.size ∧ i = .int .i64 j ∧ E = encB (l.take j) ∧ E.length = 8 * m + q ∧ q < 8 ∧ n = .int .i64 q ∧ acc < 18446744073709551616 ∧ a = .int .u64 acc ∧ Pend E m acc ∧ Own8 B wr v (fb E m) ∧ Below B w1 wr) (fun _ _ _ i _ => s.size - (intOf i).toNat)
  case atStart => exact ⟨0, 0, 0, 0, [], by omega, rfl, rfl, rfl, by omega, rfl, by omega, rfl, rfl, Own8.nil _ _, Below.refl _ _⟩
  case round =>
    obtain ⟨j, m, acc, q, E, hj, rfl, hE, hEl, hq, rfl, hacc, rfl, hP, hO, hbw⟩ := hrel
    have HE := Lib.hid hE
    have HEl := Lib.hid hEl
    have HP := Lib.hid hP
    have HO := Lib.hid hO
    have Hbw := Lib.hid hbw
    clear hE hEl hP hO hbw
    by_cases hlt : j < s.size
    · obtain ⟨c, hc⟩ : ∃ c, s[j].toNat = c := ⟨_, rfl⟩
      have hjl : j < l.length := by rw [Hbl.out]; exact hlt
      have hc8 : c < 256 := by rw [← hc]; exact s[j].toNat_lt
      have hcl := hlen_le c
      have hE2 : encB (l.take (j + 1)) = E ++ cb c := by
        rw [encB_take l j hjl, ← HE.out, ← hc, Hget.out j hlt hjl]
      have htr : HasTab wr w.heap.size := Ht.out.next (Hbw.out.mono (by rw [HB.out]; exact Nat.le_refl _))
      have hcell := cellF_code htr c (by omega)
      obtain ⟨k, hk⟩ : ∃ k, hlen c = k := ⟨_, rfl⟩
      obtain ⟨d, hd⟩ : ∃ d, hcode c = d := ⟨_, rfl⟩
      have hdl : d < 4096 := by
        rw [← hd]
        have h1 := code_lt c (by omega)
        have h2 : 2 ^ hlen c ≤ 2 ^ 12 := Nat.pow_le_pow_right (by omega) (by omega)
        omega
      have hBits := fun w => Bits_any c w hc8
      have hEl2 : E.length - 8 * m ≤ 50 := by rw [HEl.out]; omega
      have hpush := pend_push E m acc c (by omega) (by rw [HEl.out]; omega) hEl2 HP.out
      have hlen2 : (E ++ cb c).length = 8 * m + (q + k) := by rw [List.length_append, cb_length, HEl.out, hk]; omega
      rw [hk] at hcl hBits hpush
      rw [hd] at hcell hpush
      obtain ⟨acc2, hacc2⟩ : ∃ a, acc * 2 ^ k % 18446744073709551616 ||| d = a := ⟨_, rfl⟩
      rw [hacc2] at hpush
      have hacc2l : acc2 < 18446744073709551616 := by
        rw [← hacc2]
        exact Nat.or_lt_two_pow (n := 64) (Nat.mod_lt _ (by decide)) (by omega)
      have hor : bits BinOp.or IntKind.u64 (IntKind.u64.wrap ((acc : Int) * 2 ^ k)) (d : Int) = (acc2 : Int) := by
        rw [IntKind.wrap_u64]
        have e : (acc : Int) * 2 ^ k % 18446744073709551616 = ((acc * 2 ^ k % 18446744073709551616 : Nat) : Int) := by
          rw [Int.natCast_emod, Int.natCast_mul, Int.natCast_pow]
          rfl
        rw [e, u64_or_nat _ _ (Nat.mod_lt _ (by decide)) (by omega), hacc2]
      have HBits := Lib.hid hBits
      have HE2 := Lib.hid hE2
      have Hk := Lib.hid hk
      have Hd := Lib.hid hd
      have Hc := Lib.hid hc
      have Hpush := Lib.hid hpush
      have Hlen2 := Lib.hid hlen2
      obtain ⟨E2, hEE⟩ : ∃ E2, E ++ cb c = E2 := ⟨_, rfl⟩
      have HEE := Lib.hid hEE
      clear hE2 hBits hk htr hd hEl2 hpush hacc2 hlen2 hEE
      go_wp2_with fail
      refine (HBits.out _).mono ?_
      rintro e w' ⟨rfl, rfl⟩
      go_wp2_with fail
      go_quiet (fail)
      have hbq : Below wr.heap.size wr (wr.drewN nq) := below_drewN (Below.refl _ _) _
      have HO1 := Lib.hid (HO.out.below hbq)
      have Hbw1 := Lib.hid (below_drewN Hbw.out nq)
      clear hbq hcell
      generalize wr.drewN nq = wq at *
      go_wp2_with fail
      go_loopw [4, 6] (fun v n wz => ∃ p r : Nat, E2.length = 8 * p + r ∧ m ≤ p ∧ p ≤ 100000 ∧ n = .int .i64 r ∧ Pend E2 p acc2 ∧ Own8 B wz v (fb E2 p) ∧ Below B w1 wz) (fun _ n _ => (intOf n).toNat)
      case atStart =>
        have h1 := Hpush.out
        have h2 := Hlen2.out
        have h3 := HO1.out
        rw [HEE.out] at h1 h2
        refine ⟨m, q + k, h2, Nat.le_refl _, ?_, by go_num, h1, ?_, Hbw1.out⟩
        · have := encB_len (l.take j)
          rw [← HE.out, HEl.out, List.length_take] at this
          omega
        · rw [← HEE.out, fb_app _ _ _ (by rw [HEl.out]; omega)]
          exact h3
      case round =>
        obtain ⟨p, r, hpr, hmp, hpl, rfl, hP2, hO2, hb2⟩ := hrel
        by_cases h8 : 8 ≤ r
        · obtain ⟨t, ht⟩ : ∃ t, r = t + 8 := ⟨r - 8, by omega⟩
          obtain ⟨hb, hp2⟩ := pend_byte E2 p acc2 hP2 (by omega)
          rw [show E2.length - 8 * p - 8 = t by omega] at hb
          have hfb := fb_succ E2 p
          obtain ⟨y, hy⟩ : ∃ y, UInt8.ofNat (bv ((E2.drop (8 * p)).take 8)) = y := ⟨_, rfl⟩
          rw [hy] at hfb
          have hyv : (y.toNat : Nat) = acc2 / 2 ^ t % 256 := by
            rw [← hy, ← hb]
            simp
          have hX : (acc2 : Int) / 2 ^ t % 256 = (y.toNat : Int) := by
            rw [hyv, Int.natCast_emod, Int.natCast_ediv, Int.natCast_pow]
            rfl
          have hr8 : (r : Int) - 8 = (t : Int) := by omega
          have ht64 : t < 64 := by
            have := Hlen2.out
            rw [HEE.out] at this
            omega
          have Hfb := Lib.hid hfb
          have Hp2 := Lib.hid hp2
          have HX := Lib.hid hX
          have HO2 := Lib.hid hO2
          have Hb2 := Lib.hid hb2
          have Hpr := Lib.hid hpr
          have Ht := Lib.hid ht
          clear hP2 hO2 hb2 hb hp2 hfb hy hyv hX hpr ht
          have hwB : B ≤ wr.heap.size := by have := Hb2.out.size; rw [HB.out] at this; exact this
          have hfl : (fb E2 p).length ≤ 1000000 := by rw [fb_length]; omega
          go_wp2_with (at_builtin; refine app8 wr rfl _ _ rfl B u4 (fb E2 p) _ y HX.out rfl rfl HO2.out hfl hwB ?_)
          intro v' wn hOn hbn
          rw [← Hfb.out] at hOn
          have HOn := Lib.hid hOn
          have Hbn := Lib.hid (Hb2.out.trans hbn)
          clear hOn hbn
          go_wp2_with fail
          go_roundw
          case rel => exact ⟨p + 1, t, by have := Hpr.out; have := Ht.out; omega, by omega, by have := Hpr.out; have := encB_len (l.take (j + 1)); rw [HE2.out, HEE.out, List.length_take] at this; omega, by go_num, Hp2.out, HOn.out, Hbn.out⟩
          case measure => have := Ht.out; simp [intOf]; omega
        · have Hpr := Lib.hid hpr
          have HP2 := Lib.hid hP2
          have HO2 := Lib.hid hO2
          have Hb2 := Lib.hid hb2
          clear hpr hP2 hO2 hb2
          go_wp2_with fail
          go_roundw
          case rel => exact ⟨j + 1, p, acc2, r, E2, by omega, by go_num, by rw [HE2.out, HEE.out], Hpr.out, by omega, rfl, hacc2l, rfl, HP2.out, HO2.out, Hb2.out⟩
          case measure => simp [intOf]; omega
    · obtain rfl : j = s.size := by omega
      have hEf : E = encB l := by rw [HE.out, List.take_of_length_le (by rw [Hbl.out]; exact Nat.le_refl _)]
      have HEf := Lib.hid hEf
      clear hEf
      rcases Nat.eq_zero_or_pos q with hq0 | hq0
      · subst hq0
        have hpk : packF l = fb E m := by
          unfold packF
          rw [← HEf.out, HEl.out, show (8 * m + 0 + 7) / 8 = m by omega, fb_app _ _ _ (by rw [HEl.out]; omega)]
        have hcv := conv_own B wr u4 (fb E m) HO.out
        rw [← hpk] at hcv
        clear hpk
        go_wp2_with fail
        go_ret
        exact ⟨rfl, Hb.out.trans (Hbw.out.mono (by have := Hb.out.size; rw [HB.out] at this; exact this))⟩
      · have htr : HasTab wr w.heap.size := Ht.out.next (Hbw.out.mono (by rw [HB.out]; exact Nat.le_refl _))
        have hcell := cellF_code htr 256 (by omega)
        obtain ⟨d, hd⟩ : ∃ d, hcode 256 = d := ⟨_, rfl⟩
        have hdl : d < 4096 := by
          rw [← hd]
          have h1 := code_lt 256 (by omega)
          rw [hlen_end] at h1
          exact h1
        have hpush := pend_push E m acc 256 (by omega) (by rw [HEl.out]; omega) (by rw [HEl.out]; omega) HP.out
        have hlen2 : (E ++ cb 256).length = 8 * m + (q + 12) := by rw [List.length_append, cb_length, HEl.out, hlen_end]; omega
        rw [hlen_end, hd] at hpush
        rw [hd] at hcell
        obtain ⟨acc2, hacc2⟩ : ∃ a, acc * 2 ^ 12 % 18446744073709551616 ||| d = a := ⟨_, rfl⟩
        rw [hacc2] at hpush
        have hacc2l : acc2 < 18446744073709551616 := by
          rw [← hacc2]
          exact Nat.or_lt_two_pow (n := 64) (Nat.mod_lt _ (by decide)) (by omega)
        have hor : bits BinOp.or IntKind.u64 (IntKind.u64.wrap ((acc : Int) * 4096)) (d : Int) = (acc2 : Int) := by
          rw [IntKind.wrap_u64]
          have e : (acc : Int) * 4096 % 18446744073709551616 = ((acc * 2 ^ 12 % 18446744073709551616 : Nat) : Int) := by omega
          rw [e, u64_or_nat _ _ (Nat.mod_lt _ (by decide)) (by omega), hacc2]
        obtain ⟨t, ht⟩ : ∃ t, q + 4 = t := ⟨_, rfl⟩
        obtain ⟨hb, _⟩ := pend_byte (E ++ cb 256) m acc2 hpush (by omega)
        rw [hlen2, show 8 * m + (q + 12) - 8 * m - 8 = t by omega] at hb
        obtain ⟨y, hy⟩ : ∃ y, UInt8.ofNat (bv (((E ++ cb 256).drop (8 * m)).take 8)) = y := ⟨_, rfl⟩
        have hpk : packF l = fb E m ++ [y] := by
          have hpad : cb 256 = pad E.length ++ (cb 256).drop ((8 - E.length % 8) % 8) := by rw [pad, List.take_append_drop]
          have hlp : (E ++ pad E.length).length = 8 * (m + 1) := by rw [List.length_append, pad_length, HEl.out]; omega
          unfold packF
          rw [← HEf.out, show (E.length + 7) / 8 = m + 1 by rw [HEl.out]; omega, ← fb_app (E ++ pad E.length) ((cb 256).drop ((8 - E.length % 8) % 8)) (m + 1) (by omega), List.append_assoc, ← hpad, fb_succ, hy, fb_app _ _ _ (by rw [HEl.out]; omega)]
        have hyv : (y.toNat : Nat) = acc2 / 2 ^ t % 256 := by
          rw [← hy, ← hb]
          simp
        have hX : (acc2 : Int) / 2 ^ t % 256 = (y.toNat : Int) := by
          rw [hyv, Int.natCast_emod, Int.natCast_ediv, Int.natCast_pow]
          rfl
        have hq8 : (q : Int) + 12 - 8 = (t : Int) := by omega
        have ht64 : t < 64 := by omega
        have hwB : B ≤ wr.heap.size := by have := Hbw.out.size; rw [HB.out] at this; exact this
        have hml : (fb E m).length ≤ 1000000 := by
          rw [fb_length]
          have := encB_len (l.take s.size)
          rw [← HE.out, HEl.out, List.length_take] at this
          omega
        have HX := Lib.hid hX
        have Hpk := Lib.hid hpk
        clear hd hpush hlen2 hacc2 hb hy hpk hyv hX ht htr
        go_wp2_with (at_builtin; refine app8 wr rfl _ _ rfl B u4 (fb E m) _ y HX.out rfl rfl HO.out hml hwB ?_)
        intro v' wn hOn hbn
        rw [← Hpk.out] at hOn
        have hcv := conv_own B wn v' _ hOn
        have Hbn := Lib.hid (Hbw.out.trans hbn)
        clear hOn hbn
        go_wp2_with fail
        go_ret
        exact ⟨rfl, Hb.out.trans (Hbn.out.mono (by have := Hb.out.size; rw [HB.out] at this; exact this))⟩

end Go.Proofs.Ytgnoiheekgmleaa
