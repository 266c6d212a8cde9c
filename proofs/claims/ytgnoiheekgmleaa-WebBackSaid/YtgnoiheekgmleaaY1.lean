/- Contracts of varint's inner functions: fits, high, laid, least. -/
import Derived.Test.YtgnoiheekgmleaaRows
import Derived.Test.YtgnoiheekgmleaaYl
import Derived.WalkKit
import Derived.Outline
import Derived.WalkLawsBesides
import Derived.WalkSpells
import Derived.Lib.Hide
import Derived.Laws.IdiomStrings
namespace Go.Proofs.Ytgnoiheekgmleaa
open Go.ChangeShapes Go.WideShapes Go.RowKit

theorem u8s_set (b k : Nat) (l : List UInt8) (x : UInt8) (hk : k < b) :
    (u8s (List.replicate (b - k) 0 ++ l)).setIfInBounds (b - 1 - k) (.int .u8 (x.toNat : Int)) = u8s (List.replicate (b - (k + 1)) 0 ++ x :: l) := by
  have e : b - k = (b - (k + 1)) + 1 := by omega
  have e2 : b - 1 - k = b - (k + 1) := by omega
  rw [e, e2, List.replicate_succ']
  unfold u8s
  rw [List.setIfInBounds_toArray, List.append_assoc, List.map_append, List.set_append_right _ _ (by simp)]
  simp

theorem u8s_get (b k : Nat) (l : List UInt8) (hk : k < b) : (u8s (List.replicate (b - k) 0 ++ l))[b - 1 - k]? = some (.int .u8 0) := by
  unfold u8s
  rw [List.getElem?_toArray, List.map_append, List.getElem?_append_left (by simp; omega)]
  rw [List.getElem?_map, List.getElem?_replicate, if_pos (by omega)]
  rfl

theorem u8s_zero (b : Nat) : madeCells #[.int .u8 0] b = u8s (List.replicate b 0) := by
  apply Array.toList_inj.1
  rw [toList_madeCells_one]
  simp [u8s]

theorem make_u8 (b : Nat) (w : World) (hb : b ≤ 281474976710656) : (Instr.makeSlice 76 (.int .i64 (b : Int)) (.int .i64 (b : Int))).run Try.prog w = .ok (.slice (some ⟨w.heap.size, 0, none⟩) b b) (w.alloc (.cells (u8s (List.replicate b 0)) 5)) := by
  obtain ⟨i, hi, hz, hs, hy⟩ := info_parts Try.infoU8
  have h := run_make (P := Try.prog) w 76 5 i (.int .u8 0) Try.underlying76 hi hz .i64 .i64 b b (by omega) (by omega) (by rw [hy]; omega) (by omega)
  rw [h, hs]
  simp only [Int.toNat_natCast, Nat.mul_one]
  rw [show (Value.int IntKind.u8 0).cells = #[Value.int IntKind.u8 0] from rfl, u8s_zero]

theorem high_any (n b : Nat) (w : World) (hb : b ≤ 100) :
    Calls Try.prog 84 #[.int .u64 (n : Int), .int .i64 (b : Int)] w fun e w' => e = .returned (.slice (some ⟨w.heap.size, 0, none⟩) b b) ∧ w.alloc (.cells (u8s (be b n)) 5) = w' := by
  have hmk := fun w => make_u8 b w (by omega)
  go_enter Try.func84, Try.ntmps84
  go_wp2
  go_loopw [0, 11] (fun v i wr => ∃ k m : Nat, k ≤ b ∧ m = n / 256 ^ k ∧ i = .int .i64 k ∧ v = .int .u64 m ∧ wr = w.alloc (.cells (u8s (List.replicate (b - k) 0 ++ be k n)) 5)) (fun _ i _ => b - (intOf i).toNat)
  case atStart => exact ⟨0, n, by omega, by simp, rfl, rfl, by simp [be]⟩
  case round =>
    obtain ⟨k, m, hk, hm, rfl, rfl, rfl⟩ := hrel
    have Hm := Lib.hid hm
    have hmn : m ≤ n := by rw [hm]; exact Nat.div_le_self _ _
    clear hm
    by_cases hlt : k < b
    · have hg := u8s_get b k (be k n) hlt
      go_wp2
      go_roundw
      case rel => 
        refine ⟨k + 1, m / 256, by omega, ?_, by go_num, by go_num, ?_⟩
        · rw [Hm.out, Nat.div_div_eq_div_mul, Nat.pow_succ]
        · have h := u8s_set b k (be k n) (UInt8.ofNat (m % 256)) hlt
          rw [show ((UInt8.ofNat (m % 256)).toNat : Int) = (m : Int) % 256 by simp] at h
          rw [h, be_cons, Hm.out]
      case measure => simp [intOf]; omega
    · obtain rfl : k = b := by omega
      go_wp2
      go_ret
      exact ⟨rfl, by simp⟩

theorem dec_lim (n k : Nat) (m : Int) (h : m = (lim k : Nat)) : decide ((n : Int) < m) = decide (n < lim k) := by
  subst h
  rw [decide_eq_decide]
  omega

theorem fits_any (n k : Nat) (w : World) (hk : k ≤ 3) :
    Calls Try.prog 85 #[.int .u64 (n : Int), .int .i64 (k : Int)] w fun e w' => e = .returned (.bool (decide (n < lim k))) ∧ w = w' := by
  have hc : k = 0 ∨ k = 1 ∨ k = 2 ∨ k = 3 := by omega
  rcases hc with rfl | rfl | rfl | rfl
  · have hd := Lib.hid (dec_lim n 0 64 rfl)
    go_enter Try.func85, Try.ntmps85
    go_wp2
    go_ret
    exact ⟨by rw [← hd.out]; rfl, rfl⟩
  · have hd := Lib.hid (dec_lim n 1 16384 rfl)
    go_enter Try.func85, Try.ntmps85
    go_wp2
    go_ret
    exact ⟨by rw [← hd.out]; rfl, rfl⟩
  · have hd := Lib.hid (dec_lim n 2 1073741824 rfl)
    go_enter Try.func85, Try.ntmps85
    go_wp2
    go_ret
    exact ⟨by rw [← hd.out]; rfl, rfl⟩
  · have hd := Lib.hid (dec_lim n 3 4611686018427387904 rfl)
    go_enter Try.func85, Try.ntmps85
    go_wp2
    go_ret
    exact ⟨by rw [← hd.out]; rfl, rfl⟩

theorem least_any (n : Nat) (w : World) :
    Calls Try.prog 75 #[.int .u64 (n : Int)] w fun e w' => e = .returned (.int .i64 (lst n : Nat)) ∧ w = w' := by
  go_enter Try.func75, Try.ntmps75
  go_wp2
  go_loop [3] (fun i => ∃ k : Nat, k ≤ lst n ∧ i = .int .i64 k) (fun i => 3 - (intOf i).toNat)
  case atStart => exact ⟨0, by omega, rfl⟩
  case round =>
    obtain ⟨k, hk, rfl⟩ := hrel
    have hl := lst_le n
    by_cases h3 : k < 3
    · by_cases hf : n < lim k
      · have hd : decide (n < lim k) = true := by simpa using hf
        have hs := Lib.hid (lst_stop n k hk hf)
        go_wp2_with (go_at_call 85; refine (fits_any _ _ _ (by omega)).mono ?_; rintro e w' ⟨rfl, rfl⟩)
        go_ret
        exact ⟨ret_nat hs.out, rfl⟩
      · have hd : decide (n < lim k) = false := by simpa using hf
        have hs := lst_go n k hk h3 hf
        go_wp2_with (go_at_call 85; refine (fits_any _ _ _ (by omega)).mono ?_; rintro e w' ⟨rfl, rfl⟩)
        go_round
        case rel => exact ⟨k + 1, hs, by go_num⟩
        case measure => simp [intOf]; omega
    · obtain rfl : k = 3 := by omega
      have hs : Hid (3 = lst n) := Lib.hid (by omega)
      go_wp2
      go_ret
      exact ⟨ret_nat hs.out, rfl⟩

theorem conv_back (l : List UInt8) (n cap : Nat) (w : World) (hn : l.length = n) :
    (convert 76 9 (.slice (some ⟨w.heap.size, 0, none⟩) n cap)).run Try.prog (w.alloc (.cells (u8s l) 5)) = .ok (.string (txt l)) (w.alloc (.cells (u8s l) 5)) := by
  subst hn
  refine run_convert_bytes_back (P := Try.prog) _ 76 9 5 ⟨w.heap.size, 0, none⟩ cap l Try.underlying76 Try.underlying5 Try.underlying9 ?_
  intro j hj
  have e : (⟨w.heap.size, 0, none⟩ : Addr).add j = ⟨w.heap.size, j, none⟩ := by simp only [Addr.add]; split <;> simp_all
  rw [e, World.cell?_alloc_at _ _ _ _ rfl]
  simp [u8s, hj]

theorem pow_le8 (k : Nat) (hk : k ≤ 3) : 2 ^ k ≤ 8 := by
  have hc : k = 0 ∨ k = 1 ∨ k = 2 ∨ k = 3 := by omega
  rcases hc with rfl | rfl | rfl | rfl <;> decide

theorem wrap_pow (k b : Nat) (hk : k ≤ 3) (hb : 2 ^ k = b) : wrap64 ((2 : Int) ^ k) = (b : Int) := by
  subst hb
  have := pow_le8 k hk
  have h : ((2 : Int) ^ k) = ((2 ^ k : Nat) : Int) := by simp
  rw [h]
  exact IntWalk.wrap64_in _ ⟨by have := Int.natCast_nonneg (2 ^ k); omega, by have := Int.ofNat_le.2 this; omega⟩

theorem laid_any (n k : Nat) (w : World) (hk : k ≤ 3) (hn : n < lim k) :
    Calls Try.prog 74 #[.int .u64 (n : Int), .int .i64 (k : Int)] w fun e w' => e = .returned (.string (txt (put k n))) ∧ w.alloc (.cells (u8s (put k n)) 5) = w' := by
  obtain ⟨x, l, h1, hx, h2, hl⟩ := put_eq k n hk hn
  obtain ⟨b, hb⟩ : ∃ b, 2 ^ k = b := ⟨_, rfl⟩
  have hp : b ≤ 8 := by have := pow_le8 k hk; omega
  have hp1 : 0 < b := by rw [← hb]; exact Nat.pow_pos (by omega)
  have hw := wrap_pow k b hk hb
  have hbk := fun w => conv_back (put k n) b b w (by rw [put_length, hb])
  rw [h2] at hbk ⊢
  rw [hb] at h1
  have H1 := Lib.hid h1
  have hg : (u8s (UInt8.ofNat x :: l))[0]? = some (.int .u8 (x : Int)) := by simp [u8s]; omega
  have hs : (u8s (UInt8.ofNat x :: l)).setIfInBounds 0 (.int .u8 (bits BinOp.or IntKind.u8 (x : Int) ((k : Int) * 64))) = u8s (UInt8.ofNat (x ||| k * 64) :: l) := by
    rw [show (k : Int) * 64 = ((k * 64 : Nat) : Int) by omega, u8_or_nat _ _ (by omega) (by omega)]
    have hlt : x ||| k * 64 < 256 := by rw [mark_or _ _ hx]; omega
    have e : (UInt8.ofNat (x ||| k * 64)).toNat = x ||| k * 64 := by simp only [UInt8.toNat_ofNat']; omega
    simp only [u8s, List.map_cons, e, List.setIfInBounds_toArray, List.set_cons_zero]
  clear h1 h2 hl hn hb
  generalize UInt8.ofNat (x ||| k * 64) = y at *
  generalize UInt8.ofNat x = z at *
  go_enter Try.func74, Try.ntmps74
  go_wp2_with (go_at_call 84; refine (high_any n b _ (by omega)).mono ?_; rintro e w' ⟨rfl, rfl⟩; rw [H1.out])
  go_ret
  exact ⟨rfl, rfl⟩

theorem put_any (n : Nat) (w : World) (hn : n < 4611686018427387904) :
    Calls Try.prog 57 #[.int .u64 (n : Int)] w fun e w' => e = .returned (.tuple #[.string (txt (put (lst n) n)), .int .i64 0]) ∧ w.alloc (.cells (u8s (put (lst n) n)) 5) = w' := by
  have hl := lst_le n
  have hm := lst_lim n hn
  have hd : decide ((n : Int) > 4611686018427387903) = false := by simp; omega
  clear hn
  go_enter Try.func57, Try.ntmps57
  go_wp2_with (first | (go_at_call 75; refine (least_any n _).mono ?_; rintro e w' ⟨rfl, rfl⟩) | (go_at_call 74; refine (laid_any n (lst n) _ hl hm).mono ?_; rintro e w' ⟨rfl, rfl⟩))
  go_ret2
  exact ⟨rfl, rfl⟩

theorem put_no (n : Nat) (w : World) (hn : ¬ n < 4611686018427387904) :
    Calls Try.prog 57 #[.int .u64 (n : Int)] w fun e w' => e = .returned (.tuple #[.string ⟨#[]⟩, .int .i64 3]) ∧ w = w' := by
  have hd : decide ((n : Int) > 4611686018427387903) = true := by simp; omega
  clear hn
  go_enter Try.func57, Try.ntmps57
  go_wp2
  go_ret2
  exact ⟨rfl, rfl⟩

theorem size_any (n : Nat) (w : World) (hn : n < 4611686018427387904) :
    Calls Try.prog 59 #[.int .u64 (n : Int)] w fun e w' => e = .returned (.int .i64 (2 ^ lst n : Nat)) ∧ w = w' := by
  have hl := lst_le n
  have hd : decide ((n : Int) > 4611686018427387903) = false := by simp; omega
  have hw := Lib.hid (wrap_pow (lst n) _ hl rfl)
  clear hn
  go_enter Try.func59, Try.ntmps59
  go_wp2_with (go_at_call 75; refine (least_any n _).mono ?_; rintro e w' ⟨rfl, rfl⟩)
  go_ret
  exact ⟨ret_int hw.out, rfl⟩

theorem size_no (n : Nat) (w : World) (hn : ¬ n < 4611686018427387904) :
    Calls Try.prog 59 #[.int .u64 (n : Int)] w fun e w' => e = .returned (.int .i64 0) ∧ w = w' := by
  have hd : decide ((n : Int) > 4611686018427387903) = true := by simp; omega
  clear hn
  go_enter Try.func59, Try.ntmps59
  go_wp2
  go_ret
  exact ⟨rfl, rfl⟩

end Go.Proofs.Ytgnoiheekgmleaa
