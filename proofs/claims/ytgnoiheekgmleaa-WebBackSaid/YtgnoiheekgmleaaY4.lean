/- Contracts of varint's Take and the reference's Take. -/
import Derived.Test.YtgnoiheekgmleaaY3
import Derived.BigQuiet
import Derived.Deep.QuietTactic
namespace Go.Proofs.Ytgnoiheekgmleaa
open Go.ChangeShapes Go.WideShapes Go.RowKit
set_option linter.unusedVariables false

theorem take_nil (w : World) (s : ByteArray) (h : s.size = 0) :
    Calls Try.prog 58 #[.string s] w fun e w' => e = .returned (.tuple #[.int .u64 0, .string ⟨#[]⟩, .int .i64 2]) ∧ w = w' := by
  have hs : s.toList = [] := by rw [ByteArray.toList_eq]; exact Array.toList_eq_nil_iff.2 (Array.eq_empty_of_size_eq_zero h)
  have hb : s.toList.isEmpty = true := by rw [hs]; rfl
  go_enter Try.func58, Try.ntmps58
  go_wp2
  go_ret3
  exact ⟨rfl, rfl⟩

theorem not_empty (s : ByteArray) (h : 0 < s.size) : s.toList ≠ [] := by
  rw [ByteArray.toList_eq]
  intro e
  have := Array.toList_eq_nil_iff.1 e
  simp [ByteArray.size, this] at h

theorem take_short (w : World) (s : ByteArray) (x k m : Nat) (h : 0 < s.size) (hx : s[0].toNat = x) (hk : x / 64 = k) (hm : 2 ^ k = m) (hs : s.size < m) :
    Calls Try.prog 58 #[.string s] w fun e w' => e = .returned (.tuple #[.int .u64 0, .string ⟨#[]⟩, .int .i64 2]) ∧ w = w' := by
  have hx2 : x < 256 := by rw [← hx]; exact s[0].toNat_lt
  have hk3 : k ≤ 3 := by omega
  have hk' : (x : Int) / 64 = (k : Int) := by omega
  have hw := wrap_pow k m hk3 hm
  have hne := not_empty s h
  have hb : s.toList.isEmpty = false := by simpa using hne
  clear hk hm
  go_enter Try.func58, Try.ntmps58
  go_wp2
  go_ret3
  exact ⟨rfl, rfl⟩

set_option maxRecDepth 100000 in
theorem take_ok (w : World) (s : ByteArray) (b : UInt8) (x k m : Nat) (r : List UInt8) (h : 0 < s.size) (hr : byt s = b :: r) (hx : b.toNat = x) (hk : x / 64 = k) (hm : 2 ^ k = m) (hs : m ≤ s.size) :
    Calls Try.prog 58 #[.string s] w fun e w' => e = .returned (.tuple #[.int .u64 (num ((byt s).take m) % lim k : Nat), .string (s.extract m s.size), .int .i64 0]) ∧ Below w.heap.size w w' := by
  have hx0 : s[0].toNat = x := by rw [byt_get, ← hx]; simp [hr]
  have hx2 : x < 256 := by rw [← hx]; exact b.toNat_lt
  have hk3 : k ≤ 3 := by omega
  have hk' : (x : Int) / 64 = (k : Int) := by omega
  have hw := wrap_pow k m hk3 hm
  have hne := not_empty s h
  have hb : s.toList.isEmpty = false := by simpa using hne
  have hm8 : m ≤ 8 := by have := pow_le8 k hk3; omega
  have hm1 : 1 ≤ m := by rw [← hm]; exact Nat.pow_pos (by omega)
  obtain ⟨l, hl⟩ : ∃ l, l = r.take (m - 1) := ⟨_, rfl⟩
  have hrl : r.length + 1 = s.size := by rw [← byt_length, hr]; simp
  have hll : l.length = m - 1 := by rw [hl, List.length_take]; omega
  have hex : s.extract 1 m = txt l := by
    rw [← txt_byt (s.extract 1 m), byt_extract, hr, hl]
    congr 1
    have : m = (m - 1) + 1 := by omega
    rw [this, List.take_succ_cons]
    simp
  have hfin : num ((byt s).take m) % lim k = numF (x % 64) l := by
    rw [← hx, num_mark b l k hk3 (by omega), hr, hl]
    have : m = (m - 1) + 1 := by omega
    rw [this, List.take_succ_cons]
    simp
  rw [hfin]
  obtain ⟨w1, cap, hc1, hc2, hc3, hc4, hc5⟩ := conv_bytes3 l (m - 1) w hll
  rw [← hex] at hc1
  have Hex := Lib.hid hex
  have Hll := Lib.hid hll
  have Hc4 := Lib.hid hc4
  have Hc3 := Lib.hid hc3
  clear hk hm hex hl hrl hfin hr hx hc4 hc5 hc3 hll
  go_enter Try.func58, Try.ntmps58
  go_wp2
  go_loop [6, 33] (fun v i => ∃ j a : Nat, j ≤ m - 1 ∧ i = .int .i64 j ∧ a = numF (x % 64) (l.take j) ∧ v = .int .u64 a) (fun _ i => m - 1 - (intOf i).toNat)
  case atStart => exact ⟨0, x % 64, by omega, rfl, by simp [numF], by go_num⟩
  case round =>
    obtain ⟨j, a, hj, rfl, ha, rfl⟩ := hrel
    by_cases hlt : j < m - 1
    · have hjl : j < l.length := by rw [Hll.out]; exact hlt
      have hcell := Hc4.out j hjl
      obtain ⟨c, hc⟩ : ∃ c, l[j].toNat = c := ⟨_, rfl⟩
      have hc8 : c < 256 := by rw [← hc]; exact l[j].toNat_lt
      rw [hc] at hcell
      have hab : a < 18014398509481984 := by
        have h1 := numF_lt (x % 64) (l.take j) 64 (Nat.mod_lt _ (by omega))
        rw [← ha, List.length_take, Nat.min_eq_left (by omega)] at h1
        have h2 : 256 ^ j ≤ 256 ^ 6 := Nat.pow_le_pow_right (by omega) (by omega)
        omega
      have hnext : a * 256 + c = numF (x % 64) (l.take (j + 1)) := by
        rw [ha, ← hc, ← numF_snoc, List.take_succ_eq_append_getElem hjl]
      have Hnext := Lib.hid hnext
      have hor : bits BinOp.or IntKind.u64 ((a : Int) * 256) (c : Int) = ((a * 256 + c : Nat) : Int) := by
        rw [show (a : Int) * 256 = ((a * 256 : Nat) : Int) by omega, u64_or_nat _ _ (by omega) (by omega), or_byte _ _ hc8]
      rw [Int.natCast_add, Int.natCast_mul] at hor
      clear hnext hc ha
      go_wp2
      go_round
      case rel => exact ⟨j + 1, a * 256 + c, by omega, by go_num, Hnext.out, by go_num⟩
      case measure => simp [intOf]; omega
    · obtain rfl : j = m - 1 := by omega
      have Ha : Hid (a = numF (x % 64) l) := Lib.hid (by rw [ha, List.take_of_length_le (by rw [Hll.out]; exact Nat.le_refl _)])
      clear ha
      have hs' : (m : Int) ≤ s.size := by omega
      go_wp2
      go_quiet (fail)
      go_wp2
      go_ret3
      exact ⟨by rw [Ha.out]; rfl, below_drewN Hc3.out _⟩

/-- What Take answers: the number, what follows, what is wrong. -/
def takeL : List UInt8 → Nat × List UInt8 × Int
  | [] => (0, [], 2)
  | b :: r => if (b :: r).length < 2 ^ (b.toNat / 64) then (0, [], 2) else (num ((b :: r).take (2 ^ (b.toNat / 64))) % lim (b.toNat / 64), (b :: r).drop (2 ^ (b.toNat / 64)), 0)

theorem Take_any (s : ByteArray) (w : World) :
    Calls Try.prog 58 #[.string s] w fun e w' => e = .returned (.tuple #[.int .u64 ((takeL (byt s)).1 : Nat), .string (txt (takeL (byt s)).2.1), .int .i64 (takeL (byt s)).2.2]) ∧ Below w.heap.size w w' := by
  rcases hb : byt s with _ | ⟨b, r⟩
  · have h0 : s.size = 0 := by rw [← byt_length, hb]; rfl
    exact (take_nil w s h0).mono fun e w' ⟨he, hw⟩ => ⟨he, hw ▸ Below.refl _ _⟩
  · have h1 : s.size = (b :: r).length := by rw [← byt_length, hb]
    have h0 : 0 < s.size := by rw [h1]; simp
    have hx : s[0].toNat = b.toNat := by rw [byt_get]; simp [hb]
    by_cases hs : (b :: r).length < 2 ^ (b.toNat / 64)
    · simp only [takeL, if_pos hs]
      exact (take_short w s b.toNat _ _ h0 hx rfl rfl (by omega)).mono fun e w' ⟨he, hw⟩ => ⟨he, hw ▸ Below.refl _ _⟩
    · simp only [takeL, if_neg hs]
      have he : s.extract (2 ^ (b.toNat / 64)) s.size = txt ((b :: r).drop (2 ^ (b.toNat / 64))) := by
        rw [← txt_byt (s.extract _ _), byt_extract, hb, List.take_of_length_le (by omega)]
      have h := take_ok w s b b.toNat _ _ r h0 hb rfl rfl rfl (by omega)
      rw [he, hb] at h
      exact h

end Go.Proofs.Ytgnoiheekgmleaa
