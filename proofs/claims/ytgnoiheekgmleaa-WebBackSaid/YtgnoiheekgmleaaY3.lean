/- Contracts of the reference's functions for numbers: bytes, laid, most, Put, Wide. -/
import Derived.Test.YtgnoiheekgmleaaY2
namespace Go.Proofs.Ytgnoiheekgmleaa
open Go.ChangeShapes Go.WideShapes Go.RowKit

theorem rbytes_any (n b : Nat) (w : World) (hb : b ≤ 100) (hn : n < 18446744073709551616) :
    Calls Try.prog 91 #[.int .u64 (n : Int), .int .i64 (b : Int)] w fun e w' => e = .returned (.string (txt (be b n))) ∧ Below w.heap.size w w' := by
  have hmk := fun w => make_u8 b w (by omega)
  have hbk := fun w => conv_back (be b n) b b w (be_length b n)
  go_enter Try.func91, Try.ntmps91
  go_wp2
  go_loopw [0, 6] (fun v i wr => ∃ k m : Nat, k ≤ b ∧ m = n / 256 ^ k ∧ i = .int .i64 ((b : Int) - k - 1) ∧ v = .int .u64 m ∧ wr = w.alloc (.cells (u8s (List.replicate (b - k) 0 ++ be k n)) 5)) (fun _ i _ => (intOf i + 1).toNat)
  case atStart => exact ⟨0, n, by omega, by simp, by simp, rfl, by simp [be]⟩
  case round =>
    obtain ⟨k, m, hk, hm, rfl, rfl, rfl⟩ := hrel
    have Hm := Lib.hid hm
    have hmn : m ≤ n := by rw [hm]; exact Nat.div_le_self _ _
    clear hm
    by_cases hlt : k < b
    · obtain ⟨j, hj⟩ : ∃ j : Nat, b = j + k + 1 := ⟨b - k - 1, by omega⟩
      have hg := u8s_get b k (be k n) hlt
      have h := u8s_set b k (be k n) (UInt8.ofNat (m % 256)) hlt
      rw [show ((UInt8.ofNat (m % 256)).toNat : Int) = (m : Int) % 256 by simp] at h
      rw [show b - 1 - k = j by omega] at hg h
      have H := Lib.hid h
      have Hj := Lib.hid hj
      have hi : (b : Int) - k - 1 = (j : Int) := by omega
      rw [hi]
      have hjb : j < b := by omega
      clear h hj hi
      go_wp2
      go_roundw
      case rel =>
        refine ⟨k + 1, m / 256, by omega, ?_, by have := Hj.out; congr 1; omega, by go_num, ?_⟩
        · rw [Hm.out, Nat.div_div_eq_div_mul, Nat.pow_succ]
        · rw [H.out, be_cons, Hm.out]
      case measure => simp [intOf]
    · obtain rfl : k = b := by omega
      rw [show (k : Int) - k - 1 = -1 by omega]
      rw [show (List.replicate (k - k) 0 ++ be k n) = be k n by simp]
      go_wp2
      go_ret
      exact ⟨rfl, (Below.refl _ _).alloc (Nat.le_refl _) _⟩

theorem rmost_any (k : Nat) (w : World) (hk : k ≤ 3) :
    Calls Try.prog 82 #[.int .i64 (k : Int)] w fun e w' => e = .returned (.int .u64 (lim k : Nat)) ∧ Below w.heap.size w w' := by
  have hc : k = 0 ∨ k = 1 ∨ k = 2 ∨ k = 3 := by omega
  rcases hc with rfl | rfl | rfl | rfl
  all_goals
    go_enter Try.func82, Try.ntmps82
    go_wp2
    go_ret
    exact ⟨rfl, (Below.refl _ _).alloc (Nat.le_refl _) _⟩


/-- '[]byte(t)': a new row that holds t's bytes, and may be written. -/
theorem conv_bytes3 (l : List UInt8) (n : Nat) (w : World) (hn : l.length = n) : ∃ w1 cap, (convert 9 76 (.string (txt l))).run Try.prog w = .ok (.slice (some ⟨w.heap.size, 0, none⟩) n cap) w1 ∧ w1.heap.size = w.heap.size + 1 ∧ Below w.heap.size w w1 ∧
    (∀ j (h : j < l.length), w1.cell? ⟨w.heap.size, j, none⟩ = some (.int .u8 (l[j].toNat : Int))) ∧ (∀ j, j < l.length → w1.frozen? ⟨w.heap.size, j, none⟩ = false) := by
  obtain ⟨t, ht⟩ : ∃ t, txt l = t := ⟨_, rfl⟩
  have hs : t.size = n := by rw [← ht, ← hn]; simp [txt, ByteArray.size]
  have h0 := run_bytes_of_string (P := Try.prog) w 9 76 5 t Try.underlying9 Try.underlying76 Try.underlying5
  rw [hs] at h0
  rw [ht]
  refine ⟨_, _, h0, ?_, ?_, ?_, ?_⟩
  · simp
  · exact ((Below.refl _ _).drew).alloc (Nat.le_refl _) _
  · intro j h
    refine (World.cell?_alloc_mark w.drew _ _ _ j).trans ?_
    have hj : j < t.data.size := by show j < t.size; omega
    rw [bytesRow_at _ _ _ hj]
    subst ht
    simp [txt]
  · intro j h
    refine (World.frozen?_alloc_mark w.drew _ _ _ _ j).trans ?_
    have h2 : t.size ≤ (bytesRow t (grownCap w n 0 5)).size := by
      simp only [bytesRow, Array.size_append, Array.size_map]
      show t.data.size ≤ _
      omega
    simp
    omega

/-- 'string(b)' where b's cells are these bytes. -/
theorem conv_str (l : List UInt8) (n cap blk : Nat) (w : World) (hn : l.length = n) (hc : ∀ j (h : j < l.length), w.cell? ⟨blk, j, none⟩ = some (.int .u8 (l[j].toNat : Int))) :
    (convert 76 9 (.slice (some ⟨blk, 0, none⟩) n cap)).run Try.prog w = .ok (.string (txt l)) w := by
  subst hn
  refine run_convert_bytes_back (P := Try.prog) _ 76 9 5 ⟨blk, 0, none⟩ cap l Try.underlying76 Try.underlying5 Try.underlying9 ?_
  intro j hj
  have e : (⟨blk, 0, none⟩ : Addr).add j = ⟨blk, j, none⟩ := by simp only [Addr.add]; split <;> simp_all
  rw [e]
  exact hc j hj

theorem txt_get (l : List UInt8) (j : Nat) (h : j < (txt l).size) : (txt l)[j] = l[j]'(by rwa [txt_size] at h) := by
  simp [txt]
  rfl

theorem lim_le (k : Nat) : lim k ≤ 4611686018427387904 := by
  match k with
  | 0 | 1 | 2 => simp [lim]
  | k + 3 => simp [lim]

theorem rlaid_any (n k : Nat) (w : World) (hk : k ≤ 3) (hn : n < lim k) :
    Calls Try.prog 83 #[.int .u64 (n : Int), .int .i64 (k : Int)] w fun e w' => e = .returned (.string (txt (put k n))) ∧ Below w.heap.size w w' := by
  obtain ⟨x, l, h1, hx, h2, hl⟩ := put_eq k n hk hn
  obtain ⟨b, hb⟩ : ∃ b, 2 ^ k = b := ⟨_, rfl⟩
  have hp : b ≤ 8 := by have := pow_le8 k hk; omega
  have hp1 : 0 < b := by rw [← hb]; exact Nat.pow_pos (by omega)
  rw [h2]
  rw [hb] at h1 hl
  have H1 := Lib.hid h1
  have Hb := Lib.hid hb
  clear h1 h2 hb
  go_enter Try.func83, Try.ntmps83
  go_wp2
  go_loop [5, 6] (fun m i => ∃ j : Nat, j ≤ k ∧ i = .int .i64 j ∧ m = .int .i64 (2 ^ j : Nat)) (fun _ i => k - (intOf i).toNat)
  case atStart => exact ⟨0, by omega, rfl, rfl⟩
  case round =>
    obtain ⟨j, hj, rfl, rfl⟩ := hrel
    by_cases hlt : j < k
    · have hp2 : 2 ^ j ≤ 8 := pow_le8 j (by omega)
      obtain ⟨q, hq⟩ : ∃ q, 2 ^ j = q := ⟨_, rfl⟩
      rw [hq] at hp2 ⊢
      have Hq := Lib.hid hq
      clear hq
      go_wp2
      go_round
      case rel => exact ⟨j + 1, by omega, by go_num, by rw [Nat.pow_succ, Hq.out]; go_num⟩
      case measure => simp [intOf]; omega
    · obtain rfl : j = k := by omega
      rw [Hb.out]
      go_wp2_with fail
      refine (rbytes_any n b _ (by omega) (by have := lim_le j; omega)).mono ?_
      rintro e w1 ⟨rfl, hb1⟩
      rw [H1.out]
      obtain ⟨w2, cap, hc1, hc2, hc3, hc4, hc5⟩ := conv_bytes3 (UInt8.ofNat x :: l) b w1 hl
      have hz : w2.cell? ⟨w1.heap.size, 0, none⟩ = some (.int .u8 (x : Int)) := by
        rw [hc4 0 (by simp)]
        simp
        omega
      have hf := hc5 0 (by simp)
      have hback : (convert 76 9 (.slice (some ⟨w1.heap.size, 0, none⟩) b cap)).run Try.prog (w2.setCell ⟨w1.heap.size, 0, none⟩ (.int .u8 ((x : Int) + (j : Int) * 64))) = .ok (.string (txt (UInt8.ofNat (x ||| j * 64) :: l))) (w2.setCell ⟨w1.heap.size, 0, none⟩ (.int .u8 ((x : Int) + (j : Int) * 64))) := by
        refine conv_str _ _ _ _ _ (by simpa using hl) ?_
        intro i hi
        rcases i with _ | i
        · rw [World.cell?_setCell_same' _ _ _ (by rw [hz]; rfl)]
          rw [mark_or _ _ hx]
          simp
          omega
        · rw [World.cell?_setCell_other _ _ _ _ (by simp), hc4 (i + 1) (by simpa using hi)]
          rfl
      have hbb : Below w.heap.size w (w2.setCell ⟨w1.heap.size, 0, none⟩ (.int .u8 ((x : Int) + (j : Int) * 64))) := (hb1.trans (hc3.mono hb1.size)).setCell hb1.size _
      have Hbb := Lib.hid hbb
      clear hbb hc4 hc5 hc3 hb1
      obtain ⟨y, hy⟩ : ∃ y, txt (UInt8.ofNat (x ||| j * 64) :: l) = y := ⟨_, rfl⟩
      rw [hy] at hback
      have Hy := Lib.hid hy
      clear hy
      go_wp2
      go_ret
      exact ⟨by rw [Hy.out]; rfl, Hbb.out⟩

/-- Put, searched from mark k on. -/
def rputK (n : Nat) : Nat → List UInt8 × Int
  | 0 => ([], 3)
  | j + 1 => if n < lim (3 - j) then (put (3 - j) n, 0) else rputK n j

theorem rput_eq (n : Nat) : rputK n 4 = putF n := by
  simp only [rputK, putF, lst, Nat.sub_self, Nat.reduceSub, lim]
  by_cases h0 : n < 64
  · rw [if_pos h0, if_pos h0, if_pos (by omega)]
  · rw [if_neg h0, if_neg h0]
    by_cases h1 : n < 16384
    · rw [if_pos h1, if_pos h1, if_pos (by omega)]
    · rw [if_neg h1, if_neg h1]
      by_cases h2 : n < 1073741824
      · rw [if_pos h2, if_pos h2, if_pos (by omega)]
      · rw [if_neg h2, if_neg h2]

theorem rPut_any (n : Nat) (w : World) :
    Calls Try.prog 73 #[.int .u64 (n : Int)] w fun e w' => e = .returned (.tuple #[.string (txt (putF n).1), .int .i64 (putF n).2]) ∧ Below w.heap.size w w' := by
  rw [← rput_eq]
  go_enter Try.func73, Try.ntmps73
  go_wp2
  go_loopw [4] (fun i wr => ∃ k : Nat, k ≤ 4 ∧ rputK n 4 = rputK n (4 - k) ∧ i = .int .i64 k ∧ Below w.heap.size w wr) (fun i _ => 4 - (intOf i).toNat)
  case atStart => exact ⟨0, by omega, rfl, rfl, Below.refl _ _⟩
  case round =>
    obtain ⟨k, hk, hw, rfl, hbl⟩ := hrel
    have Hw := Lib.hid hw
    clear hw
    by_cases h4 : k < 4
    · have he : rputK n (4 - k) = if n < lim k then (put k n, 0) else rputK n (4 - (k + 1)) := by
        have hc : k = 0 ∨ k = 1 ∨ k = 2 ∨ k = 3 := by omega
        rcases hc with rfl | rfl | rfl | rfl <;> rfl
      have He := Lib.hid he
      clear he
      go_wp2_with fail
      refine (rmost_any k _ (by omega)).mono ?_
      rintro e w1 ⟨rfl, hb1⟩
      have hb2 := hbl.trans (hb1.mono hbl.size)
      have Hb2 := Lib.hid hb2
      clear hbl hb1 hb2
      by_cases hn : n < lim k
      · have Hr : Hid (rputK n 4 = (put k n, 0)) := Lib.hid (by rw [Hw.out, He.out, if_pos hn])
        go_wp2_with (go_at_call 83; refine (rlaid_any n k _ (by omega) hn).mono ?_; rintro e w2 ⟨rfl, hb3⟩)
        go_ret2
        exact ⟨by rw [Hr.out]; rfl, Hb2.out.trans (hb3.mono Hb2.out.size)⟩
      · have Hr : Hid (rputK n 4 = rputK n (4 - (k + 1))) := Lib.hid (by rw [Hw.out, He.out, if_neg hn])
        go_wp2
        go_roundw
        case rel => exact ⟨k + 1, by omega, Hr.out, by go_num, Hb2.out⟩
        case measure => simp [intOf]; omega
    · obtain rfl : k = 4 := by omega
      go_wp2
      go_ret2
      exact ⟨by rw [Hw.out]; rfl, hbl⟩

end Go.Proofs.Ytgnoiheekgmleaa
