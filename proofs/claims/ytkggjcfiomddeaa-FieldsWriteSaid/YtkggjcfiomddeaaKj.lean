/- Contract of the reference's Bits. -/
import Derived.Test.YtkggjcfiomddeaaKi
import Derived.Test.YtkggjcfiomddeaaIf
namespace Go.Proofs.Ytkggjcfiomddeaa
open Go.ChangeShapes Go.WideShapes Go.RowKit
set_option linter.unusedVariables false

def nb (B : List Bool) : List Nat := B.map Bool.toNat
theorem nb_append (a b : List Bool) : nb (a ++ b) = nb a ++ nb b := by simp [nb]
theorem nb_length (a : List Bool) : (nb a).length = a.length := by simp [nb]

theorem bit_nat (x : Nat) : (x % 2 == 1).toNat = x % 2 := by
  have := Nat.mod_two_eq_zero_or_one x
  rcases this with h | h <;> rw [h] <;> rfl

set_option maxRecDepth 100000 in
theorem rBits_any (s : ByteArray) (g cap : Nat) (w : World) (hs : s.size ≤ 10000) (hcodes : HasCodes w g) :
    Calls Try.prog 53 #[.string s, .slice (some ⟨g, 0, none⟩) 257 cap] w fun e w' => ∃ v, e = .returned v ∧ OwnN 3 .i64 w.heap.size w' v (nb (encB (byt s))) ∧ Below w.heap.size w w' := by
  have hbl := byt_length s
  obtain ⟨l, hl⟩ : ∃ l, byt s = l := ⟨_, rfl⟩
  rw [hl] at hbl ⊢
  have hget : ∀ j (h : j < s.size) (h2 : j < l.length), s[j].toNat = l[j].toNat := by
    intro j h h2
    rw [byt_get]
    simp [hl]
  have Hget := Lib.hid hget
  have Hbl := Lib.hid hbl
  have Hcodes := Lib.hid hcodes
  clear hget hl hbl hcodes
  obtain ⟨B, hB⟩ : ∃ B, w.heap.size = B := ⟨_, rfl⟩
  have HB := Lib.hid hB
  rw [hB]
  clear hB
  go_enter Try.func53, Try.ntmps53
  go_wp2_with fail
  go_loopw [5, 6] (fun v i wr => ∃ j : Nat, j ≤ s.size ∧ i = .int .i64 j ∧ OwnN 3 .i64 B wr v (nb (encB (l.take j))) ∧ Below B w wr) (fun _ i _ => s.size - (intOf i).toNat)
  case atStart =>
    refine ⟨0, by omega, rfl, ?_, ?_⟩
    · exact OwnN.nilAlloc _ _ _ _ (by rw [HB.out]; exact Nat.le_refl _)
    · exact (Below.refl _ _).alloc (by rw [HB.out]; exact Nat.le_refl _) _
  case round =>
    obtain ⟨j, hj, rfl, hO, hb⟩ := hrel
    have HO := Lib.hid hO
    have Hb := Lib.hid hb
    clear hO hb
    by_cases hlt : j < s.size
    · obtain ⟨c, hc⟩ : ∃ c, s[j].toNat = c := ⟨_, rfl⟩
      have hjl : j < l.length := by rw [Hbl.out]; exact hlt
      have hc8 : c < 256 := by rw [← hc]; exact s[j].toNat_lt
      have hcl := hlen_le c
      have hE2 : encB (l.take (j + 1)) = encB (l.take j) ++ cb c := by
        rw [encB_take l j hjl, ← hc, Hget.out j hlt hjl]
      have hEl := encB_len (l.take j)
      rw [List.length_take] at hEl
      have hL := fun w => rLength_any c w (by omega)
      have hcbt := fun t h => bitsN_at (hlen c) (hcode c) t h
      have hcbl : (cb c).take (hlen c) = cb c := List.take_of_length_le (by rw [cb_length]; exact Nat.le_refl _)
      have hcb0 : cb c = bitsN (hlen c) (hcode c) := rfl
      have hd12 : hcode c < 4096 := by
        have h1 := code_lt c (by omega)
        have h2 : 2 ^ hlen c ≤ 2 ^ 12 := Nat.pow_le_pow_right (by omega) hcl.2
        omega
      obtain ⟨n, hn⟩ : ∃ n, hlen c = n := ⟨_, rfl⟩
      obtain ⟨d, hd⟩ : ∃ n, hcode c = n := ⟨_, rfl⟩
      rw [hn] at hcl hL hcbt hcbl hcb0
      rw [hd] at hcbt hcb0 hd12
      rw [← hcb0] at hcbt
      obtain ⟨hcl1, hcl2⟩ := hcl
      have HE2 := Lib.hid hE2
      have HL := Lib.hid hL
      have Hcbt := Lib.hid hcbt
      have Hcbl := Lib.hid hcbl
      have Hd := Lib.hid hd
      clear hE2 hL hcbt hcbl hcb0 hn hd
      go_wp2_with fail
      refine (HL.out _).mono ?_
      rintro e w' ⟨rfl, rfl⟩
      go_wp2_with fail
      go_loopw [5, 8] (fun v i wz => ∃ t : Nat, t ≤ n ∧ i = .int .i64 ((n : Int) - 1 - (t : Int)) ∧ OwnN 3 .i64 B wz v (nb (encB (l.take j) ++ (cb c).take t)) ∧ Below B w wz) (fun _ i _ => (intOf i + 1).toNat)
      case atStart => exact ⟨0, by omega, by go_num, by simpa using HO.out, Hb.out⟩
      case round =>
        obtain ⟨t, ht, rfl, hO2, hb2⟩ := hrel
        have HO2 := Lib.hid hO2
        have Hb2 := Lib.hid hb2
        clear hO2 hb2
        by_cases htn : t < n
        · obtain ⟨K, hK⟩ : ∃ K, n - 1 - t = K := ⟨_, rfl⟩
          have hKi : (n : Int) - 1 - (t : Int) = (K : Int) := by omega
          have hKl : K ≤ 12 := by omega
          obtain ⟨x, hx⟩ : ∃ x, d / 2 ^ K % 2 = x := ⟨_, rfl⟩
          have hcell : wr.cell? ⟨g, c, none⟩ = some (.int .u16 (d : Int)) := by
            have := (Hcodes.out.next (Hb2.out.mono (by rw [HB.out]; exact Nat.le_refl _))).2 c (by omega)
            rw [Hd.out] at this
            exact this
          have hx2 : x < 2 := by omega
          have hxi : ((d : Int) / 2 ^ K).tmod 2 = (x : Int) := by
            have e : (d : Int) / 2 ^ K = ((d / 2 ^ K : Nat) : Int) := by
              rw [Int.natCast_ediv, Int.natCast_pow]
              rfl
            rw [e, ← hx]
            generalize d / 2 ^ K = q
            rw [Int.tmod_eq_emod_of_nonneg (by omega)]
            omega
          have hnx : nb (encB (l.take j) ++ (cb c).take t) ++ [x] = nb (encB (l.take j) ++ (cb c).take (t + 1)) := by
            rw [Hcbt.out t htn, hK, ← List.append_assoc, nb_append (encB (l.take j) ++ (cb c).take t)]
            congr 1
            show [x] = [(d / 2 ^ K % 2 == 1).toNat]
            rw [bit_nat, hx]
          have hll : (nb (encB (l.take j) ++ (cb c).take t)).length ≤ 1000000 := by
            rw [nb_length, List.length_append, List.length_take]
            omega
          have hwB : B ≤ wr.heap.size := by have := Hb2.out.size; rw [HB.out] at this; exact this
          have Hnx := Lib.hid hnx
          clear hnx hx hK
          go_wp2_with (at_builtin; refine appI wr rfl _ _ rfl B u5 _ _ x rfl rfl rfl HO2.out hll hwB ?_)
          intro v' wn hOn hbn
          rw [Hnx.out] at hOn
          have HOn := Lib.hid hOn
          have Hbn := Lib.hid (Hb2.out.trans hbn)
          clear hOn hbn
          go_wp2_with fail
          go_roundw
          case rel => exact ⟨t + 1, by omega, by go_num, HOn.out, Hbn.out⟩
          case measure => simp [intOf]; omega
        · obtain rfl : t = n := by omega
          have hfin : nb (encB (l.take j) ++ (cb c).take t) = nb (encB (l.take (j + 1))) := by rw [HE2.out, Hcbl.out]
          have Hfin := Lib.hid hfin
          clear hfin
          go_wp2_with fail
          go_roundw
          case rel => exact ⟨j + 1, by omega, by go_num, by rw [← Hfin.out]; exact HO2.out, Hb2.out⟩
          case measure => simp [intOf]; omega
    · obtain rfl : j = s.size := by omega
      have hEf : nb (encB (l.take s.size)) = nb (encB l) := by rw [List.take_of_length_le (by rw [Hbl.out]; exact Nat.le_refl _)]
      have HEf := Lib.hid hEf
      clear hEf
      go_wp2_with fail
      go_ret
      exact ⟨_, rfl, by rw [← HEf.out]; exact HO.out, Hb.out⟩

end Go.Proofs.Ytkggjcfiomddeaa
