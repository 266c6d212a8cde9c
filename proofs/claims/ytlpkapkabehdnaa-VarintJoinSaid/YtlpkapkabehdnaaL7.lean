/- The law VarintJoin, walked. -/
import Derived.Test.YtlpkapkabehdnaaAw
import Derived.Test.YtlpkapkabehdnaaP2
import Derived.OpenShut
namespace Go.Proofs.Ytlpkapkabehdnaa
open Go.ChangeShapes Go.WideShapes Go.RowKit
set_option linter.unusedVariables false

/-- Numbers laid one behind the other, each by its mark. -/
def encs (c v : Nat → Nat) : Nat → List UInt8
  | 0 => []
  | j + 1 => encs c v j ++ put (c j) (v j)

theorem encs_len (c v : Nat → Nat) (hc : ∀ j, c j ≤ 3) : ∀ j, (encs c v j).length ≤ 8 * j
  | 0 => by simp [encs]
  | j + 1 => by
    have h := encs_len c v hc j
    have h2 := pow_le8 (c j) (hc j)
    rw [encs, List.length_append, put_length]
    omega

theorem encs_pre (c v : Nat → Nat) (K : Nat) : ∀ d j, K = j + d → ∃ r, encs c v j ++ r = encs c v K
  | 0, j, h => ⟨[], by rw [h]; simp⟩
  | d + 1, j, h => by
    obtain ⟨r, hr⟩ := encs_pre c v K d (j + 1) (by omega)
    exact ⟨put (c j) (v j) ++ r, by rw [← hr, encs, List.append_assoc]⟩

theorem encs_next (c v : Nat → Nat) (K j : Nat) (r : List UInt8) (hj : j < K) (h : encs c v j ++ r = encs c v K) : ∃ t, r = put (c j) (v j) ++ t ∧ encs c v (j + 1) ++ t = encs c v K := by
  obtain ⟨t, ht⟩ := encs_pre c v K (K - (j + 1)) (j + 1) (by omega)
  refine ⟨t, ?_, ht⟩
  have h2 : encs c v j ++ r = encs c v j ++ (put (c j) (v j) ++ t) := by rw [h, ← ht, encs, List.append_assoc]
  exact List.append_cancel_left h2

theorem txt_cat (l r : List UInt8) : txt l ++ txt r = txt (l ++ r) := by
  apply ByteArray.ext
  apply Array.toList_inj.1
  simp [txt]

theorem txt_nil_empty2 : (txt []).toList.isEmpty = true := by rw [ByteArray.toList_eq]; rfl

theorem cell_lt {w : World} {a : Addr} {v : Value} (h : w.cell? a = some v) : a.block < w.heap.size := by
  rcases Nat.lt_or_ge a.block w.heap.size with h1 | h1
  · exact h1
  · unfold World.cell? at h
    rw [Array.getElem?_eq_none h1] at h
    simp at h

theorem join_nil (a0 a1 : Option Addr) (cap0 len1 cap1 : Nat) (w : World) :
    Calls Try.prog 9 #[.slice a0 0 cap0, .slice a1 len1 cap1] w fun e w' => e = .returned (.bool true) ∧ Below w.heap.size w w' := by
  obtain ⟨T, hT⟩ : ∃ T : ByteArray, T = ⟨#[]⟩ := ⟨_, rfl⟩
  have hTe : T.toList.isEmpty = true := by rw [hT]; exact txt_nil_empty2
  have HT := Lib.hid hT
  clear hT
  go_enter Try.func9, Try.ntmps9
  go_wp2_with fail
  refine (awake_any _).mono ?_
  rintro e x0 ⟨rfl, b0⟩
  go_wp2_with fail
  go_loop [5, 7] (fun s i => s = .string T ∧ i = .int .i64 0) (fun _ _ => 0)
  case atStart => exact ⟨by rw [HT.out], rfl⟩
  case round =>
    obtain ⟨rfl, rfl⟩ := hrel
    go_wp2_with fail
    go_loop [5, 13] (fun s i => s = .string T ∧ i = .int .i64 0) (fun _ _ => 0)
    case atStart => exact ⟨rfl, rfl⟩
    case round =>
      obtain ⟨rfl, rfl⟩ := hrel
      go_wp2_with fail
      go_ret
      exact ⟨rfl, b0⟩

/-- What the walk is told of a slice of integers that came in. -/
def IsRow (k : IntKind) (w : World) (a : Option Addr) (len cap : Nat) (zs : List Int) : Prop :=
  (a = none ∧ len = 0 ∧ cap = 0 ∧ zs = []) ∨
  ∃ x, a = some x ∧ len ≤ cap ∧ cap ≤ maxLen ∧ zs.length = cap ∧ (∀ i, i < zs.length → w.cell? (x.add i) = some (.int k (zs.getD i 0))) ∧ ∀ n ∈ zs, (Lit.int k n).wf = true

theorem row_at {k : IntKind} {w : World} {a : Option Addr} {len cap : Nat} {zs : List Int} (h : IsRow k w a len cap zs) (hp : 0 < len) :
    len ≤ 9223372036854775807 ∧ ∃ b off, a = some ⟨b, off, none⟩ ∧ ∀ j, j < len → w.cell? ⟨b, off + j, none⟩ = some (.int k (zs.getD j 0)) ∧ (Lit.int k (zs.getD j 0)).wf = true := by
  rcases h with ⟨rfl, rfl, rfl, rfl⟩ | ⟨x, rfl, h1, h2, h3, h4, h5⟩
  · omega
  · unfold maxLen at h2
    refine ⟨by omega, ?_⟩
    obtain ⟨b, off, rfl, hc⟩ := ints_at h4 (by omega)
    refine ⟨b, off, rfl, fun j hj => ⟨hc j (by omega), h5 _ ?_⟩⟩
    rw [List.getD_eq_getElem?_getD, List.getElem?_eq_getElem (by omega)]
    exact List.getElem_mem _

set_option maxRecDepth 100000 in
set_option maxHeartbeats 1000000 in
theorem join_w0 (b off len0 cap0 : Nat) (a1 : Option Addr) (cap1 : Nat) (c v : Nat → Nat) (w : World) (h0 : 0 < len0) (hlen0 : len0 ≤ 9223372036854775807)
    (hc0 : ∀ j, j < len0 → ∃ u : Nat, w.cell? ⟨b, off + j, none⟩ = some (.int .u64 (u : Int)) ∧ u % 4611686018427387904 = v j)
    (hc2 : ∀ j, c j = lst (v j)) (hc3 : ∀ j, c j ≤ 3) (hv : ∀ j, v j < 4611686018427387904) (hcv : ∀ j, v j < lim (c j)) :
    Calls Try.prog 9 #[.slice (some ⟨b, off, none⟩) len0 cap0, .slice a1 0 cap1] w fun e w' => e = .returned (.bool true) ∧ Below w.heap.size w w' := by
  obtain ⟨K, hK⟩ : ∃ K : Nat, (if (60 : Int) < (len0 : Int) then (60 : Int) else (len0 : Int)) = (K : Int) := by
    by_cases h : (60 : Int) < (len0 : Int)
    · exact ⟨60, by rw [if_pos h]; rfl⟩
    · exact ⟨len0, by rw [if_neg h]⟩
  have hK60 : K ≤ 60 ∧ K ≤ len0 := by split at hK <;> omega
  have Hc0 := Lib.hid hc0
  have Hc2 := Lib.hid hc2
  have Hc3 := Lib.hid hc3
  have Hv := Lib.hid hv
  have Hcv := Lib.hid hcv
  clear hc0 hc2 hc3 hv hcv
  go_enter Try.func9, Try.ntmps9
  go_wp2_with fail
  refine (awake_any _).mono ?_
  rintro e x0 ⟨rfl, b0⟩
  have B0 := Lib.hid b0
  clear b0
  go_wp2_with fail
  go_loopw [5, 7] (fun s i wr => ∃ j : Nat, ∃ S : ByteArray, j ≤ K ∧ i = .int .i64 j ∧ S = txt (encs c v j) ∧ s = .string S ∧ Below w.heap.size w wr) (fun _ i _ => K - (intOf i).toNat)
  case atStart => exact ⟨0, ⟨#[]⟩, by omega, rfl, rfl, rfl, B0.out⟩
  case round =>
    obtain ⟨j, S, hj, rfl, hS, rfl, hbl⟩ := hrel
    have HS := Lib.hid hS
    have Hbl := Lib.hid hbl
    have hSl : S.size ≤ 8 * j := by rw [hS, txt_size]; exact encs_len c v Hc3.out j
    clear hS hbl
    by_cases hlt : j < K
    · obtain ⟨u, hu, huv⟩ := Hc0.out j (by omega)
      have hcell : wr.cell? ⟨b, off + j, none⟩ = some (.int .u64 (u : Int)) := by rw [Hbl.out.cell (cell_lt hu), hu]
      obtain ⟨n, hn⟩ : ∃ n, v j = n := ⟨_, rfl⟩
      have hnl : n < 4611686018427387904 := by rw [← hn]; exact Hv.out j
      have hun : (u : Int) % 4611686018427387904 = (n : Int) := by rw [← hn, ← huv]; omega
      have hP := Put_any n
      rw [show putF n = (put (lst n) n, 0) by simp only [putF]; rw [if_pos hnl]] at hP
      simp only at hP
      have hp8 : (txt (put (lst n) n)).size ≤ 8 := by rw [txt_size, put_length]; exact pow_le8 _ (lst_le n)
      have HC : c j = lst n := by rw [← hn]; exact Hc2.out j
      have hnext : S ++ txt (put (lst n) n) = txt (encs c v (j + 1)) := by rw [HS.out, txt_cat, encs, HC, hn]
      generalize txt (put (lst n) n) = P at *
      have Hnext := Lib.hid hnext
      have HP := Lib.hid hP
      clear hu huv hn hnl hP hnext HC
      go_wp2_with fail
      refine (HP.out _).mono ?_
      rintro e w1 ⟨rfl, hb1⟩
      have Hb1 := Lib.hid (Hbl.out.trans (hb1.mono Hbl.out.size))
      clear hb1
      go_wp2_with fail
      go_roundw
      case rel => exact ⟨j + 1, _, by omega, by go_num, Hnext.out, rfl, Hb1.out⟩
      case measure => simp [intOf]; omega
    · obtain rfl : j = K := by omega
      obtain ⟨wo, rfl⟩ : ∃ wo : World, wo = wr := ⟨_, rfl⟩
      go_wp2_with fail
      go_loopw [5, 13] (fun s i wr => ∃ q : Nat, ∃ r : List UInt8, ∃ T : ByteArray, q ≤ j ∧ i = .int .i64 q ∧ encs c v q ++ r = encs c v j ∧ T = txt r ∧ s = .string T ∧ Below w.heap.size w wr) (fun _ i _ => j - (intOf i).toNat)
      case atStart => exact ⟨0, encs c v j, S, by omega, rfl, by simp [encs], HS.out, rfl, Hbl.out⟩
      case round =>
        obtain ⟨q, r, T, hq, rfl, hr, hT, rfl, hbq⟩ := hrel
        have Hbq := Lib.hid hbq
        clear hbq
        by_cases hql : q < j
        · obtain ⟨t, ht, htn⟩ := encs_next c v j q r hql hr
          obtain ⟨u, hu, huv⟩ := Hc0.out q (by omega)
          obtain ⟨n, hn⟩ : ∃ n, v q = n := ⟨_, rfl⟩
          have hTk := Take_any T
          rw [hT, byt_txt, ht, hn, take_put _ _ _ (Hc3.out q) (by rw [← hn]; exact Hcv.out q), ← hn, ← ht, ← hT, hn] at hTk
          simp only at hTk
          have hun : (u : Int) % 4611686018427387904 = (n : Int) := by rw [← hn, ← huv]; omega
          have hsz : (txt t).size < T.size := by
            rw [hT, txt_size, txt_size, ht, List.length_append, put_length]
            have : 0 < 2 ^ c q := Nat.pow_pos (by omega)
            omega
          generalize hU : txt t = U at *
          have HU := Lib.hid hU.symm
          have Htn := Lib.hid htn
          have HT := Lib.hid hTk
          have hnn : ((n : Int) != (n : Int)) = false := by simp
          clear hU htn hTk hn huv ht hT hr
          go_wp2_with fail
          refine (HT.out _).mono ?_
          rintro e w3 ⟨rfl, hb3⟩
          have Hb3 := Lib.hid (Hbq.out.trans (hb3.mono Hbq.out.size))
          have hcell : w3.cell? ⟨b, off + q, none⟩ = some (.int .u64 (u : Int)) := by rw [Hb3.out.cell (cell_lt hu), hu]
          clear hb3 hu
          go_wp2_with fail
          go_roundw
          case rel => exact ⟨q + 1, t, U, by omega, by go_num, Htn.out, HU.out, rfl, Hb3.out⟩
          case measure => simp [intOf]; omega
        · obtain rfl : q = j := by omega
          have hre : r = [] := by
            have := congrArg List.length hr
            rw [List.length_append] at this
            exact List.eq_nil_of_length_eq_zero (by omega)
          have hTe : T.toList.isEmpty = true := by rw [hT, hre]; exact txt_nil_empty2
          clear hr hT hre
          go_wp2_with fail
          go_ret
          exact ⟨rfl, Hbq.out⟩

set_option maxRecDepth 100000 in
set_option maxHeartbeats 1000000 in
theorem join_w1 (b off len0 cap0 : Nat) (b1 off1 len1 cap1 : Nat) (c v : Nat → Nat) (w : World) (h0 : 0 < len0) (hlen0 : len0 ≤ 9223372036854775807)
    (hc0 : ∀ j, j < len0 → ∃ u : Nat, w.cell? ⟨b, off + j, none⟩ = some (.int .u64 (u : Int)) ∧ u % 4611686018427387904 = v j)
    (hlen1 : len1 ≤ 9223372036854775807) (hc1 : ∀ j, j < len1 → ∃ u : Nat, u < 256 ∧ w.cell? ⟨b1, off1 + j, none⟩ = some (.int .u8 (u : Int)) ∧ c j = if v j < lim (u % 4) then u % 4 else lst (v j))
    (hc2 : ∀ j, ¬ j < len1 → c j = lst (v j)) (hc3 : ∀ j, c j ≤ 3) (hv : ∀ j, v j < 4611686018427387904) (hcv : ∀ j, v j < lim (c j)) :
    Calls Try.prog 9 #[.slice (some ⟨b, off, none⟩) len0 cap0, .slice (some ⟨b1, off1, none⟩) len1 cap1] w fun e w' => e = .returned (.bool true) ∧ Below w.heap.size w w' := by
  obtain ⟨K, hK⟩ : ∃ K : Nat, (if (60 : Int) < (len0 : Int) then (60 : Int) else (len0 : Int)) = (K : Int) := by
    by_cases h : (60 : Int) < (len0 : Int)
    · exact ⟨60, by rw [if_pos h]; rfl⟩
    · exact ⟨len0, by rw [if_neg h]⟩
  have hK60 : K ≤ 60 ∧ K ≤ len0 := by split at hK <;> omega
  have Hc0 := Lib.hid hc0
  have Hc1 := Lib.hid hc1
  have Hc2 := Lib.hid hc2
  have Hc3 := Lib.hid hc3
  have Hv := Lib.hid hv
  have Hcv := Lib.hid hcv
  clear hc0 hc1 hc2 hc3 hv hcv
  go_enter Try.func9, Try.ntmps9
  go_wp2_with fail
  refine (awake_any _).mono ?_
  rintro e x0 ⟨rfl, b0⟩
  have B0 := Lib.hid b0
  clear b0
  go_wp2_with fail
  go_loopw [5, 7] (fun s i wr => ∃ j : Nat, ∃ S : ByteArray, j ≤ K ∧ i = .int .i64 j ∧ S = txt (encs c v j) ∧ s = .string S ∧ Below w.heap.size w wr) (fun _ i _ => K - (intOf i).toNat)
  case atStart => exact ⟨0, ⟨#[]⟩, by omega, rfl, rfl, rfl, B0.out⟩
  case round =>
    obtain ⟨j, S, hj, rfl, hS, rfl, hbl⟩ := hrel
    have HS := Lib.hid hS
    have Hbl := Lib.hid hbl
    have hSl : S.size ≤ 8 * j := by rw [hS, txt_size]; exact encs_len c v Hc3.out j
    clear hS hbl
    by_cases hlt : j < K
    · obtain ⟨u, hu, huv⟩ := Hc0.out j (by omega)
      have hcell : wr.cell? ⟨b, off + j, none⟩ = some (.int .u64 (u : Int)) := by rw [Hbl.out.cell (cell_lt hu), hu]
      obtain ⟨n, hn⟩ : ∃ n, v j = n := ⟨_, rfl⟩
      have hnl : n < 4611686018427387904 := by rw [← hn]; exact Hv.out j
      have hun : (u : Int) % 4611686018427387904 = (n : Int) := by rw [← hn, ← huv]; omega
      have hP := Put_any n
      rw [show putF n = (put (lst n) n, 0) by simp only [putF]; rw [if_pos hnl]] at hP
      simp only at hP
      have hp8 : (txt (put (lst n) n)).size ≤ 8 := by rw [txt_size, put_length]; exact pow_le8 _ (lst_le n)
      by_cases h1 : j < len1
      · obtain ⟨x, hx256, hx, hcj⟩ := Hc1.out j h1
        have hcell1 : wr.cell? ⟨b1, off1 + j, none⟩ = some (.int .u8 (x : Int)) := by rw [Hbl.out.cell (cell_lt hx), hx]
        have hW := Wide_any n ((2 ^ (x % 4) : Nat) : Int)
        rw [wide_pow n _ (by omega)] at hW
        obtain ⟨d, hdd⟩ : ∃ d, 2 ^ (x % 4) = d := ⟨_, rfl⟩
        have hwp := wrap_pow (x % 4) d (by omega) hdd
        rw [hdd] at hW
        rw [hn] at hcj
        by_cases hl : n < lim (x % 4)
        · rw [if_pos hl] at hW hcj
          simp only at hW
          have hq8 : (txt (put (x % 4) n)).size ≤ 8 := by rw [txt_size, put_length]; exact pow_le8 _ (by omega)
          have hnext : S ++ txt (put (x % 4) n) = txt (encs c v (j + 1)) := by rw [HS.out, txt_cat, encs, hcj, hn]
          generalize txt (put (lst n) n) = P at *
          generalize txt (put (x % 4) n) = Q at *
          have Hnext := Lib.hid hnext
          have HP := Lib.hid hP
          have HW := Lib.hid hW
          have Hbl0 := Lib.hid Hbl.out
          clear hu huv hn hnl hP hnext hW hx hcj hdd hl
          go_wp2_with fail
          refine (HP.out _).mono ?_
          rintro e w1 ⟨rfl, hb1⟩
          have Hb1 := Lib.hid (Hbl.out.trans (hb1.mono Hbl.out.size))
          have hcell2 : w1.cell? ⟨b1, off1 + j, none⟩ = some (.int .u8 (x : Int)) := by rw [hb1.cell (cell_lt hcell1), hcell1]
          clear hb1
          go_wp2_with fail
          refine (HW.out _).mono ?_
          rintro e w2 ⟨rfl, hb2⟩
          have Hb2 := Lib.hid (Hb1.out.trans (hb2.mono Hb1.out.size))
          clear hb2
          go_wp2_with fail
          go_roundw
          case rel => exact ⟨j + 1, _, by omega, by go_num, Hnext.out, rfl, Hb2.out⟩
          case measure => simp [intOf]; omega
        · rw [if_neg hl] at hW hcj
          simp only at hW
          have hnext : S ++ txt (put (lst n) n) = txt (encs c v (j + 1)) := by rw [HS.out, txt_cat, encs, hcj, hn]
          generalize txt (put (lst n) n) = P at *
          have Hnext := Lib.hid hnext
          have HP := Lib.hid hP
          have HW := Lib.hid hW
          clear hu huv hn hnl hP hnext hW hx hcj hdd hl
          go_wp2_with fail
          refine (HP.out _).mono ?_
          rintro e w1 ⟨rfl, hb1⟩
          have Hb1 := Lib.hid (Hbl.out.trans (hb1.mono Hbl.out.size))
          have hcell2 : w1.cell? ⟨b1, off1 + j, none⟩ = some (.int .u8 (x : Int)) := by rw [hb1.cell (cell_lt hcell1), hcell1]
          clear hb1
          go_wp2_with fail
          refine (HW.out _).mono ?_
          rintro e w2 ⟨rfl, hb2⟩
          have Hb2 := Lib.hid (Hb1.out.trans (hb2.mono Hb1.out.size))
          clear hb2
          go_wp2_with fail
          go_roundw
          case rel => exact ⟨j + 1, _, by omega, by go_num, Hnext.out, rfl, Hb2.out⟩
          case measure => simp [intOf]; omega
      · have HC : c j = lst n := by rw [← hn]; exact Hc2.out j h1
        have hnext : S ++ txt (put (lst n) n) = txt (encs c v (j + 1)) := by rw [HS.out, txt_cat, encs, HC, hn]
        generalize txt (put (lst n) n) = P at *
        have Hnext := Lib.hid hnext
        have HP := Lib.hid hP
        clear hu huv hn hnl hP hnext HC
        go_wp2_with fail
        refine (HP.out _).mono ?_
        rintro e w1 ⟨rfl, hb1⟩
        have Hb1 := Lib.hid (Hbl.out.trans (hb1.mono Hbl.out.size))
        clear hb1
        go_wp2_with fail
        go_roundw
        case rel => exact ⟨j + 1, _, by omega, by go_num, Hnext.out, rfl, Hb1.out⟩
        case measure => simp [intOf]; omega
    · obtain rfl : j = K := by omega
      obtain ⟨wo, rfl⟩ : ∃ wo : World, wo = wr := ⟨_, rfl⟩
      go_wp2_with fail
      go_loopw [5, 13] (fun s i wr => ∃ q : Nat, ∃ r : List UInt8, ∃ T : ByteArray, q ≤ j ∧ i = .int .i64 q ∧ encs c v q ++ r = encs c v j ∧ T = txt r ∧ s = .string T ∧ Below w.heap.size w wr) (fun _ i _ => j - (intOf i).toNat)
      case atStart => exact ⟨0, encs c v j, S, by omega, rfl, by simp [encs], HS.out, rfl, Hbl.out⟩
      case round =>
        obtain ⟨q, r, T, hq, rfl, hr, hT, rfl, hbq⟩ := hrel
        have Hbq := Lib.hid hbq
        clear hbq
        by_cases hql : q < j
        · obtain ⟨t, ht, htn⟩ := encs_next c v j q r hql hr
          obtain ⟨u, hu, huv⟩ := Hc0.out q (by omega)
          obtain ⟨n, hn⟩ : ∃ n, v q = n := ⟨_, rfl⟩
          have hTk := Take_any T
          rw [hT, byt_txt, ht, hn, take_put _ _ _ (Hc3.out q) (by rw [← hn]; exact Hcv.out q), ← hn, ← ht, ← hT, hn] at hTk
          simp only at hTk
          have hun : (u : Int) % 4611686018427387904 = (n : Int) := by rw [← hn, ← huv]; omega
          have hsz : (txt t).size < T.size := by
            rw [hT, txt_size, txt_size, ht, List.length_append, put_length]
            have : 0 < 2 ^ c q := Nat.pow_pos (by omega)
            omega
          generalize hU : txt t = U at *
          have HU := Lib.hid hU.symm
          have Htn := Lib.hid htn
          have HT := Lib.hid hTk
          have hnn : ((n : Int) != (n : Int)) = false := by simp
          clear hU htn hTk hn huv ht hT hr
          go_wp2_with fail
          refine (HT.out _).mono ?_
          rintro e w3 ⟨rfl, hb3⟩
          have Hb3 := Lib.hid (Hbq.out.trans (hb3.mono Hbq.out.size))
          have hcell : w3.cell? ⟨b, off + q, none⟩ = some (.int .u64 (u : Int)) := by rw [Hb3.out.cell (cell_lt hu), hu]
          clear hb3 hu
          go_wp2_with fail
          go_roundw
          case rel => exact ⟨q + 1, t, U, by omega, by go_num, Htn.out, HU.out, rfl, Hb3.out⟩
          case measure => simp [intOf]; omega
        · obtain rfl : q = j := by omega
          have hre : r = [] := by
            have := congrArg List.length hr
            rw [List.length_append] at this
            exact List.eq_nil_of_length_eq_zero (by omega)
          have hTe : T.toList.isEmpty = true := by rw [hT, hre]; exact txt_nil_empty2
          clear hr hT hre
          go_wp2_with fail
          go_ret
          exact ⟨rfl, Hbq.out⟩

theorem join_walk (a0 : Option Addr) (len0 cap0 : Nat) (z0 : List Int) (a1 : Option Addr) (len1 cap1 : Nat) (z1 : List Int) (w : World) (w0 : IsRow .u64 w a0 len0 cap0 z0) (w1 : IsRow .u8 w a1 len1 cap1 z1) :
    Calls Try.prog 9 #[.slice a0 len0 cap0, .slice a1 len1 cap1] w fun e w' => e = .returned (.bool true) ∧ Below w.heap.size w w' := by
  rcases Nat.eq_zero_or_pos len0 with h0 | h0
  · subst h0
    exact join_nil a0 a1 cap0 len1 cap1 w
  · obtain ⟨hl0, b, off, rfl, hc0⟩ := row_at w0 h0
    let v : Nat → Nat := fun j => (z0.getD j 0).toNat % 4611686018427387904
    have hv : ∀ j, v j < 4611686018427387904 := fun j => Nat.mod_lt _ (by omega)
    have hcell : ∀ j, j < len0 → ∃ u : Nat, w.cell? ⟨b, off + j, none⟩ = some (.int .u64 (u : Int)) ∧ u % 4611686018427387904 = v j := by
      intro j hj
      obtain ⟨h1, h2⟩ := hc0 j hj
      have h3 := bounds_u64 h2
      refine ⟨(z0.getD j 0).toNat, ?_, rfl⟩
      rw [h1, Int.toNat_of_nonneg h3.1]
    rcases Nat.eq_zero_or_pos len1 with h1 | h1
    · subst h1
      exact join_w0 b off len0 cap0 a1 cap1 (fun j => lst (v j)) v w h0 hl0 hcell (fun _ => rfl) (fun _ => lst_le _) hv (fun j => lst_lim _ (hv j))
    · obtain ⟨hl1, b1, off1, rfl, hc1⟩ := row_at w1 h1
      let c : Nat → Nat := fun j => if j < len1 ∧ v j < lim ((z1.getD j 0).toNat % 4) then (z1.getD j 0).toNat % 4 else lst (v j)
      have hc : ∀ j, c j ≤ 3 ∧ v j < lim (c j) := by
        intro j
        show (if _ then _ else _) ≤ 3 ∧ v j < lim (if _ then _ else _)
        split
        · rename_i h
          exact ⟨Nat.le_of_lt_succ (Nat.mod_lt _ (by decide)), h.2⟩
        · exact ⟨lst_le _, lst_lim _ (hv j)⟩
      refine join_w1 b off len0 cap0 b1 off1 len1 cap1 c v w h0 hl0 hcell hl1 ?_ ?_ (fun j => (hc j).1) hv (fun j => (hc j).2)
      · intro j hj
        obtain ⟨h1, h2⟩ := hc1 j hj
        have h3 := bounds_u8 h2
        refine ⟨(z1.getD j 0).toNat, by omega, ?_, ?_⟩
        · rw [h1, Int.toNat_of_nonneg h3.1]
        · show (if _ then _ else _) = _
          by_cases h : v j < lim ((z1.getD j 0).toNat % 4)
          · rw [if_pos ⟨hj, h⟩, if_pos h]
          · rw [if_neg (fun x => h x.2), if_neg h]
      · intro j hj
        show (if _ then _ else _) = _
        rw [if_neg (fun x => hj x.1)]

end Go.Proofs.Ytlpkapkabehdnaa
