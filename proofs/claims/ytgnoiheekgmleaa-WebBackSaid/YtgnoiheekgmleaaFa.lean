/- fields: numbers in plain words; contract of Number. -/
import Derived.Test.YtgnoiheekgmleaaIf
import Derived.Test.YtgnoiheekgmleaaMa
namespace Go.Proofs.Ytgnoiheekgmleaa
open Go.ChangeShapes Go.WideShapes Go.RowKit
set_option linter.unusedVariables false

/-- A number's further bytes, seven bits each, the lowest first. -/
def tailF (m : Nat) : List UInt8 := if h : m < 128 then [UInt8.ofNat m] else UInt8.ofNat (m % 128 + 128) :: tailF (m / 128)
decreasing_by omega

theorem tailF_small (m : Nat) (h : m < 128) : tailF m = [UInt8.ofNat m] := by
  rw [tailF, dif_pos h]
theorem tailF_big (m : Nat) (h : ¬ m < 128) : tailF m = UInt8.ofNat (m % 128 + 128) :: tailF (m / 128) := by
  rw [tailF, dif_neg h]

/-- A number's bytes, in k bits of the first byte. -/
def numberF (n k high : Nat) : List UInt8 :=
  if n < 2 ^ k - 1 then [UInt8.ofNat (high ||| n)] else UInt8.ofNat (high ||| (2 ^ k - 1)) :: tailF (n - (2 ^ k - 1))

theorem conv_one8 (x : Nat) (hx : x < 256) (w : World) :
    (convert 76 9 (.slice (some ⟨w.heap.size, 0, none⟩) 1 1)).run Try.prog (w.alloc (.cells #[.int .u8 (x : Int)] 5)) = .ok (.string (txt [UInt8.ofNat x])) (w.alloc (.cells #[.int .u8 (x : Int)] 5)) := by
  refine run_convert_bytes_back (P := Try.prog) _ 76 9 5 ⟨w.heap.size, 0, none⟩ 1 [UInt8.ofNat x] Try.underlying76 Try.underlying5 Try.underlying9 ?_
  intro j hj
  match j, hj with
  | 0, _ =>
    rw [add_zero, (blk.new w 5 [.int .u8 (x : Int)]).cell (k := 0) rfl]
    simp
    omega

theorem shl_bits (k : Nat) (hk : 1 ≤ k ∧ k ≤ 8) : IntKind.u64.wrap ((2 : Int) ^ k) = ((2 ^ k : Nat) : Int) := by
  have hc : k = 1 ∨ k = 2 ∨ k = 3 ∨ k = 4 ∨ k = 5 ∨ k = 6 ∨ k = 7 ∨ k = 8 := by omega
  rcases hc with rfl | rfl | rfl | rfl | rfl | rfl | rfl | rfl <;> decide

theorem full_facts (k : Nat) (hk : 1 ≤ k ∧ k ≤ 8) : 1 ≤ 2 ^ k - 1 ∧ 2 ^ k - 1 ≤ 255 := by
  have hc : k = 1 ∨ k = 2 ∨ k = 3 ∨ k = 4 ∨ k = 5 ∨ k = 6 ∨ k = 7 ∨ k = 8 := by omega
  rcases hc with rfl | rfl | rfl | rfl | rfl | rfl | rfl | rfl <;> decide

theorem or_lt (a b : Nat) (ha : a < 256) (hb : b < 256) : a ||| b < 256 := Nat.or_lt_two_pow (n := 8) ha hb

theorem or_128 (m : Nat) : (m % 256) ||| 128 = m % 128 + 128 := by
  have H : ∀ x : Fin 256, x.val ||| 128 = x.val % 128 + 128 := by decide +kernel
  have := H ⟨m % 256, Nat.mod_lt _ (by omega)⟩
  simp only at this
  rw [this]
  omega

theorem Own8.one (B : Nat) (w : World) (x : Nat) (hx : x < 256) (hB : B ≤ w.heap.size) : Own8 B (w.alloc (.cells #[.int .u8 (x : Int)] 5)) (.slice (some ⟨w.heap.size, 0, none⟩) 1 1) [UInt8.ofNat x] := by
  refine ⟨rfl, .inr ⟨w.heap.size, 1, #[.int .u8 (x : Int)], rfl, hB, heap_alloc_new w _, Nat.le_refl _, by decide, rfl, ?_⟩⟩
  have e : (UInt8.ofNat x).toNat = x := by simp only [UInt8.toNat_ofNat']; omega
  simp [u8v, e]

theorem tailF_len : ∀ (k m : Nat), m < 128 ^ (k + 1) → (tailF m).length ≤ k + 1
  | 0, m, h => by rw [tailF_small m (by simpa using h)]; simp
  | k + 1, m, h => by
    by_cases hm : m < 128
    · rw [tailF_small m hm]; simp
    · rw [tailF_big m hm, List.length_cons]
      have := tailF_len k (m / 128) (by rw [Nat.div_lt_iff_lt_mul (by omega), ← Nat.pow_succ]; exact h)
      omega

theorem tailF_app (l : List UInt8) (m : Nat) (h : ¬ m < 128) : (l ++ [UInt8.ofNat (m % 128 + 128)]) ++ tailF (m / 128) = l ++ tailF m := by
  rw [tailF_big m h]
  simp

set_option maxRecDepth 100000 in
set_option maxHeartbeats 4000000 in
theorem Number_any (n k high : Nat) (w : World) (hk : 1 ≤ k ∧ k ≤ 8) (hn : n < 2 ^ 64) (hh : high < 256) :
    Calls Try.prog 46 #[.int .u64 (n : Int), .int .i64 (k : Int), .int .u8 (high : Int)] w fun e w' => e = .returned (.string (txt (numberF n k high))) ∧ Below w.heap.size w w' := by
  have hs := shl_bits k hk
  obtain ⟨f1, f2⟩ := full_facts k hk
  unfold numberF
  obtain ⟨F, hF⟩ : ∃ F, 2 ^ k - 1 = F := ⟨_, rfl⟩
  have hF1 : 2 ^ k = F + 1 := by omega
  rw [hF1] at hs
  rw [hF] at f1 f2 ⊢
  have hs2 : IntKind.u64.wrap ((2 : Int) ^ k) = (F : Int) + 1 := hs
  clear hF hF1 hs
  by_cases hlt : n < F
  · rw [if_pos hlt]
    have hd : decide ((n : Int) < (F : Int)) = true := by simpa using hlt
    have hor : bits BinOp.or IntKind.u8 (high : Int) (n : Int) = ((high ||| n : Nat) : Int) := u8_or_nat _ _ hh (by omega)
    have ho8 := or_lt high n hh (by omega)
    have hcv := conv_one8 (high ||| n) ho8
    generalize high ||| n = x at *
    go_enter Try.func46, Try.ntmps46
    go_wp2_with fail
    go_ret
    exact ⟨rfl, (Below.refl _ _).alloc (Nat.le_refl _) _⟩
  · rw [if_neg hlt]
    have hd : decide ((n : Int) < (F : Int)) = false := by simpa using hlt
    have hor : bits BinOp.or IntKind.u8 (high : Int) (F : Int) = ((high ||| F : Nat) : Int) := u8_or_nat _ _ hh (by omega)
    have ho8 := or_lt high F hh (by omega)
    generalize high ||| F = x at *
    obtain ⟨m0, hm0⟩ : ∃ m0, n - F = m0 := ⟨_, rfl⟩
    have hm0i : (n : Int) - (F : Int) = (m0 : Int) := by omega
    have hm0b : m0 < 2 ^ 64 := by omega
    rw [hm0]
    have hown := Own8.one w.heap.size w x ho8 (Nat.le_refl _)
    have HOWN := Lib.hid hown
    clear hown hm0
    go_enter Try.func46, Try.ntmps46
    go_wp2_with fail
    go_loopw [0, 8] (fun v0 v8 wr => ∃ (m : Nat) (l : List UInt8), m < 2 ^ 64 ∧ l.length + (tailF m).length ≤ 1 + (tailF m0).length ∧ v0 = .int .u64 (m : Int) ∧ Own8 w.heap.size wr v8 l ∧ l ++ tailF m = UInt8.ofNat x :: tailF m0 ∧ Below w.heap.size w wr) (fun v0 _ _ => (intOf v0).toNat)
    case atStart => exact ⟨m0, [UInt8.ofNat x], hm0b, by simp, rfl, HOWN.out, rfl, (Below.refl _ _).alloc (Nat.le_refl _) _⟩
    case round =>
      obtain ⟨m, l, hm, hlen, rfl, ho, hap, hbw⟩ := hrel
      have htl := tailF_len 9 m0 (by have : (128 : Nat) ^ (9 + 1) = 2 ^ 70 := by decide
                                     omega)
      have hll : l.length ≤ 1000000 := by omega
      have HO := Lib.hid ho
      have HBW := Lib.hid hbw
      have HAP := Lib.hid hap
      have HLEN := Lib.hid hlen
      have hsz := hbw.size
      clear ho hbw hap hlen htl
      by_cases h128 : m < 128
      · have hd1 : decide ((128 : Int) ≤ (m : Int)) = false := by rw [decide_eq_false_iff_not]; omega
        have e1 : (UInt8.ofNat m).toNat = m := by simp only [UInt8.toNat_ofNat']; omega
        have hfin := HAP.out
        rw [tailF_small m h128] at hfin
        have HFIN := Lib.hid hfin
        clear hfin
        go_wp2_with (at_builtin; refine app8 wr rfl _ _ rfl w.heap.size u8 l _ (UInt8.ofNat m) (by rw [e1]) rfl rfl HO.out hll hsz ?_)
        intro v' wn hO hB
        have HB := Lib.hid (HBW.out.trans hB)
        have hcv := conv_own w.heap.size wn v' _ hO
        rw [HFIN.out] at hcv
        clear hO hB
        go_wp2_with fail
        go_ret
        exact ⟨rfl, HB.out⟩
      · have hd1 : decide ((128 : Int) ≤ (m : Int)) = true := by rw [decide_eq_true_iff]; omega
        have hob : bits BinOp.or IntKind.u8 ((m : Int) % 256) 128 = ((m % 128 + 128 : Nat) : Int) := by
          have := u8_or_nat (m % 256) 128 (by omega) (by omega)
          rw [or_128] at this
          rw [← this]
          congr 1
        obtain ⟨y, hy⟩ : ∃ y, m % 128 + 128 = y := ⟨_, rfl⟩
        obtain ⟨m2, hm2⟩ : ∃ m2, m / 128 = m2 := ⟨_, rfl⟩
        have hy8 : y < 256 := by omega
        have e1 : (UInt8.ofNat y).toNat = y := by simp only [UInt8.toNat_ofNat']; omega
        have hdv : (m : Int) / 128 = (m2 : Int) := by omega
        have happ := tailF_app l m h128
        rw [HAP.out, hy, hm2] at happ
        have hl2 : (l ++ [UInt8.ofNat y]).length + (tailF m2).length ≤ 1 + (tailF m0).length := by
          have h1 := HLEN.out
          rw [tailF_big m h128, List.length_cons, hm2] at h1
          rw [List.length_append, List.length_singleton]
          omega
        have hml : m2 < m := by omega
        rw [hy] at hob
        have HAPP := Lib.hid happ
        have HL2 := Lib.hid hl2
        have hm2b : m2 < 2 ^ 64 := by omega
        clear happ hl2 hy hm2
        go_wp2_with (at_builtin; refine app8 wr rfl _ _ rfl w.heap.size u8 l _ (UInt8.ofNat y) (by rw [e1]) rfl rfl HO.out hll hsz ?_)
        intro v' wn hO hB
        have HB := Lib.hid (HBW.out.trans hB)
        have HO2 := Lib.hid hO
        clear hO hB
        go_wp2_with fail
        go_roundw
        case rel => exact ⟨m2, _, hm2b, HL2.out, rfl, HO2.out, HAPP.out, HB.out⟩
        case measure => simp [intOf]; omega

end Go.Proofs.Ytgnoiheekgmleaa
