/- web: contracts of put, Put, number, Take. -/
import Derived.Test.YtgnoiheekgmleaaEa
import Derived.BigQuiet
import Derived.Deep.QuietTactic
import Derived.IntWalk
namespace Go.Proofs.Ytgnoiheekgmleaa
open Go.ChangeShapes Go.WideShapes Go.RowKit
set_option linter.unusedVariables false

theorem wtxt_app (a b : List UInt8) : txt (a ++ b) = txt a ++ txt b := by
  rw [← txt_byt (txt a ++ txt b)]
  congr 1
theorem putB_le (n : Nat) : (putB n).length ≤ 8 := by
  by_cases h : n < 4611686018427387904
  · rw [putB_eq h, put_length]
    exact pow_le8 _ (lst_le n)
  · unfold putB putF
    rw [if_neg h]
    exact Nat.zero_le _
theorem txt_ne {l : List UInt8} (h : l ≠ []) : (txt l).toList ≠ [] ∧ (txt l).toList.isEmpty = false := by
  have e : (txt l).toList = l := by simp [txt]
  rw [e]
  exact ⟨h, by cases l with | nil => exact absurd rfl h | cons a b => rfl⟩

set_option maxRecDepth 100000 in
theorem wputs_any (n : Nat) (w : World) (hn : n < 18446744073709551616) :
    Calls Try.prog 33 #[.int .u64 (n : Int)] w fun e w' => e = .returned (.string (txt (putB n))) ∧ Below w.heap.size w w' := by
  have h := Put_any n w
  unfold putB
  obtain ⟨p, hp⟩ : ∃ p, putF n = p := ⟨_, rfl⟩
  rw [hp] at h ⊢
  have H := Lib.hid h
  clear h hp hn
  go_enter Try.func33, Try.ntmps33
  go_wp2_with fail
  refine H.out.mono ?_
  rintro e w' ⟨rfl, hb⟩
  have HB := Lib.hid hb
  clear hb H
  go_wp2_with fail
  go_ret
  exact ⟨rfl, HB.out⟩

set_option maxRecDepth 100000 in
theorem wPut_any (kind : Nat) (d : ByteArray) (w : World) (hk : kind < 18446744073709551616) (hd : d.size ≤ 1000000) :
    Calls Try.prog 17 #[.int .u64 (kind : Int), .string d] w fun e w' => e = .returned (.string (txt (frameB kind (byt d)))) ∧ Below w.heap.size w w' := by
  have h1 := wputs_any kind w hk
  have h2 := fun W => wputs_any d.size W (by omega)
  have hdl : (byt d).length = d.size := byt_length d
  by_cases hk2 : kind < 4611686018427387904
  · have he : txt (frameB kind (byt d)) = txt (putB kind) ++ txt (putB d.size) ++ d := by
      rw [frameB_eq hk2, wtxt_app, wtxt_app, hdl, txt_byt]
    obtain ⟨n1, n2⟩ := txt_ne (l := putB kind) (by intro h; have := putB_pos hk2; rw [h] at this; simp at this)
    obtain ⟨k, hkk⟩ : ∃ k, txt (putB kind) = k := ⟨_, rfl⟩
    obtain ⟨q, hq⟩ : ∃ q, txt (putB d.size) = q := ⟨_, rfl⟩
    obtain ⟨D, hD⟩ : ∃ D, d.size = D := ⟨_, rfl⟩
    rw [hkk] at h1 n1 n2
    rw [hq] at h2
    rw [hkk, hq] at he
    have hc : IntKind.u64.wrap (d.size : Int) = (d.size : Int) := IntWalk.u64_in _ (by omega)
    have hks : k.size ≤ 8 := by rw [← hkk, txt_size]; exact putB_le _
    have hqs : q.size ≤ 8 := by rw [← hq, txt_size]; exact putB_le _
    rw [hD] at hd h2 hc
    have n3 : ¬ 9223372036854775807 < k.size + q.size := by omega
    have n4 : ¬ 9223372036854775807 < k.size + q.size + D := by omega
    have H1 := Lib.hid h1
    have H2 := Lib.hid h2
    have HE := Lib.hid he
    clear h1 h2 he hkk hq hk hk2 hdl
    go_enter Try.func17, Try.ntmps17
    go_wp2_with fail
    refine H1.out.mono ?_
    rintro e w1 ⟨rfl, hb1⟩
    have HB1 := Lib.hid hb1
    clear hb1 H1
    go_wp2_with fail
    refine (H2.out _).mono ?_
    rintro e w2 ⟨rfl, hb2⟩
    have HB := Lib.hid (HB1.out.trans (hb2.mono HB1.out.size))
    clear hb2 H2
    go_wp2_with fail
    go_ret
    rw [HE.out]
    exact ⟨rfl, HB.out⟩
  · have e1 : frameB kind (byt d) = [] := by unfold frameB; rw [if_neg hk2]
    have e2 : putB kind = [] := by unfold putB putF; rw [if_neg hk2]
    rw [e1, show txt [] = (⟨#[]⟩ : ByteArray) from rfl]
    rw [e2, show txt [] = (⟨#[]⟩ : ByteArray) from rfl] at h1
    have H1 := Lib.hid h1
    clear h1 h2 e1 e2 hk hk2 hdl
    go_enter Try.func17, Try.ntmps17
    go_wp2_with fail
    refine H1.out.mono ?_
    rintro e w1 ⟨rfl, hb1⟩
    have HB1 := Lib.hid hb1
    clear hb1 H1
    go_wp2_with fail
    go_ret
    exact ⟨rfl, HB1.out⟩

theorem wnum_le (l : List UInt8) : (wnum l).2.1.length ≤ l.length ∧ (wnum l).1 < 18446744073709551616 := by
  unfold wnum
  split
  · exact ⟨Nat.zero_le _, by show 0 < _; omega⟩
  · split
    · exact ⟨Nat.zero_le _, by show 0 < _; omega⟩
    · rename_i h1 _
      have h0 : (takeL l).2.2 = 0 := by omega
      refine ⟨(takeL_app h0 []).2, ?_⟩
      cases l with
      | nil => simp [takeL] at h0
      | cons b t =>
        show (takeL (b :: t)).1 < _
        rw [takeL_cons] at h0 ⊢
        split
        · show 0 < _; omega
        · have hl := lim_le (b.toNat / 64)
          have := Nat.mod_lt (num ((b :: t).take (2 ^ (b.toNat / 64)))) (lim_pos (b.toNat / 64))
          show _ % _ < _
          omega

set_option maxRecDepth 100000 in
theorem number_any (s : ByteArray) (w : World) (hs : s.size ≤ 1000000) :
    Calls Try.prog 34 #[.string s] w fun e w' => e = .returned (.tuple #[.int .u64 ((wnum (byt s)).1 : Nat), .string (txt (wnum (byt s)).2.1), .int .i64 (wnum (byt s)).2.2]) ∧ Below w.heap.size w w' := by
  have h1 := Take_any s w
  have hbl : (byt s).length = s.size := byt_length s
  rcases takeL_bad (byt s) with h0 | h0
  · have hle := (takeL_app h0 []).2
    have hz : (txt (takeL (byt s)).2.1).size = (takeL (byt s)).2.1.length := txt_size _
    have hsz := fun W => Size_any (takeL (byt s)).1 W
    have hw : wnum (byt s) = if sizeF (takeL (byt s)).1 ≠ (byt s).length - (takeL (byt s)).2.1.length then (0, [], 2) else ((takeL (byt s)).1, (takeL (byt s)).2.1, 0) := by
      unfold wnum
      rw [if_neg (by simp [h0])]
    rw [h0] at h1
    obtain ⟨n, hn⟩ : ∃ n, (takeL (byt s)).1 = n := ⟨_, rfl⟩
    obtain ⟨r, hr⟩ : ∃ r, (takeL (byt s)).2.1 = r := ⟨_, rfl⟩
    rw [hn, hr] at h1 hw
    rw [hn] at hsz
    rw [hr] at hz hle
    obtain ⟨R, hR⟩ : ∃ R, txt r = R := ⟨_, rfl⟩
    obtain ⟨z, hzz⟩ : ∃ z, sizeF n = z := ⟨_, rfl⟩
    rw [hzz] at hsz hw
    obtain ⟨SZ, hSZ⟩ : ∃ SZ, s.size = SZ := ⟨_, rfl⟩
    rw [hR] at h1 hz
    have hH1 := Lib.hid h1
    have hHz := Lib.hid hsz
    have hHw := Lib.hid hw
    obtain ⟨D, hD⟩ : ∃ D, r.length + D = s.size := ⟨s.size - r.length, by omega⟩
    have e1 : (s.size : Int) - (R.size : Int) = (D : Int) := by omega
    by_cases hz2 : z = D
    · have hf : wnum (byt s) = (n, r, 0) := by rw [hHw.out, if_neg (by omega)]
      rw [hf]
      have d1 : ((z : Int) == (D : Int)) = true := by subst hz2; simp
      have HR := Lib.hid hR
      have HE := Lib.hid e1
      subst hz2
      clear h1 hsz hw hR hz hn hr h0 hle hbl hf hD e1 hHw hzz hSZ
      go_enter Try.func34, Try.ntmps34
      go_wp2_with fail
      refine hH1.out.mono ?_
      rintro e w1 ⟨rfl, hb1⟩
      have HB1 := Lib.hid hb1
      clear hb1 hH1
      go_wp2_with fail
      refine (hHz.out _).mono ?_
      rintro e w2 ⟨rfl, rfl⟩
      have HB := HB1
      clear hHz
      have e1 := HE.out
      go_wp2_with fail
      go_ret3
      rw [HR.out]
      exact ⟨rfl, HB.out⟩
    · have hf : wnum (byt s) = (0, [], 2) := by rw [hHw.out, if_pos (by omega)]
      rw [hf]
      have d1 : ((z : Int) == (D : Int)) = false := by rw [beq_eq_false_iff_ne]; omega
      have HE := Lib.hid e1
      have hzD : ¬ (z : Int) = (D : Int) := by omega
      clear h1 hsz hw hR hz hn hr h0 hle hbl hf hD e1 hHw hzz hSZ
      go_enter Try.func34, Try.ntmps34
      go_wp2_with fail
      refine hH1.out.mono ?_
      rintro e w1 ⟨rfl, hb1⟩
      have HB1 := Lib.hid hb1
      clear hb1 hH1
      go_wp2_with fail
      refine (hHz.out _).mono ?_
      rintro e w2 ⟨rfl, rfl⟩
      have HB := HB1
      clear hHz
      have e1 := HE.out
      go_wp2_with fail
      go_ret3
      exact ⟨rfl, HB.out⟩
  · have hf : wnum (byt s) = (0, [], 13) := by unfold wnum; rw [if_pos (by rw [h0]; decide)]
    rw [hf]
    rw [h0] at h1
    have H1 := Lib.hid h1
    clear h1 h0 hf hbl
    go_enter Try.func34, Try.ntmps34
    go_wp2_with fail
    refine H1.out.mono ?_
    rintro e w1 ⟨rfl, hb1⟩
    have HB1 := Lib.hid hb1
    clear hb1 H1
    go_wp2_with fail
    go_ret3
    exact ⟨rfl, HB1.out⟩

end Go.Proofs.Ytgnoiheekgmleaa
