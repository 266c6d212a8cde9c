/- Texts put together by wip/tools/merge.py: Ga Gb Yd Yp Yg Yh. -/
import Derived.Test.YtgnoiheekgmleaaFo
import Derived.Test.YtgnoiheekgmleaaYq
import Derived.Deep.DeepCutAuto
import Derived.Test.YtgnoiheekgmleaaMv

/- fields: the reference's Number. -/
namespace Go.Proofs.Ytgnoiheekgmleaa
open Go.ChangeShapes Go.WideShapes Go.RowKit
set_option linter.unusedVariables false
set_option linter.unusedSimpArgs false

theorem high_or (high n k : Nat) (hh : high % 2 ^ k = 0) (hn : n < 2 ^ k) : high ||| n = high + n := by
  obtain ⟨a, ha⟩ : ∃ a, high = 2 ^ k * a := ⟨high / 2 ^ k, by have := Nat.div_add_mod high (2 ^ k); omega⟩
  rw [ha]
  exact (Nat.two_pow_add_eq_or_of_lt hn a).symm

theorem high_lt (high k : Nat) (hk : 1 ≤ k ∧ k ≤ 8) (hh : high % 2 ^ k = 0) (h8 : high < 256) : high + (2 ^ k - 1) < 256 := by
  have hc : k = 1 ∨ k = 2 ∨ k = 3 ∨ k = 4 ∨ k = 5 ∨ k = 6 ∨ k = 7 ∨ k = 8 := by omega
  rcases hc with rfl | rfl | rfl | rfl | rfl | rfl | rfl | rfl <;> (simp only [Nat.reducePow] at hh ⊢; omega)

theorem pow_le (j : Nat) (hj : j ≤ 8) : 2 ^ j ≤ 256 := by
  have : (2 : Nat) ^ j ≤ 2 ^ 8 := Nat.pow_le_pow_right (by omega) hj
  simpa using this

set_option maxRecDepth 100000 in
set_option maxHeartbeats 4000000 in
theorem RNumber_any (n k high : Nat) (w : World) (hk : 1 ≤ k ∧ k ≤ 8) (hn : n < 2 ^ 64) (hh : high < 256) (hz : high % 2 ^ k = 0) :
    Calls Try.prog 54 #[.int .u64 (n : Int), .int .i64 (k : Int), .int .u8 (high : Int)] w fun e w' => e = .returned (.string (txt (numberF n k high))) ∧ Below w.heap.size w w' := by
  obtain ⟨f1, f2⟩ := full_facts k hk
  have hl := high_lt high k hk hz hh
  obtain ⟨res, hres⟩ : ∃ r, txt (numberF n k high) = r := ⟨_, rfl⟩
  have HRES := Lib.hid hres
  rw [hres]
  clear hres
  go_enter Try.func54, Try.ntmps54
  go_wp2_with fail
  go_loop [7, 8] (fun f i => ∃ j : Nat, j ≤ k ∧ i = .int .i64 j ∧ f = .int .u64 ((2 ^ j : Nat) : Int)) (fun _ i => k - (intOf i).toNat)
  case atStart => exact ⟨0, by omega, rfl, rfl⟩
  case round =>
    obtain ⟨j, hj, rfl, rfl⟩ := hrel
    by_cases hlt : j < k
    · have hp := pow_le j (by omega)
      have hs : 2 ^ (j + 1) = 2 ^ j * 2 := Nat.pow_succ 2 j
      have HS := Lib.hid hs
      clear hs
      generalize 2 ^ j = P at *
      have hw : IntKind.u64.wrap ((P : Int) * 2) = ((P * 2 : Nat) : Int) := IntWalk.u64_in _ (by omega)
      obtain ⟨P2, hP2⟩ : ∃ P2, P * 2 = P2 := ⟨_, rfl⟩
      rw [hP2] at hw HS
      clear hP2
      go_wp2_with fail
      go_round
      case rel => exact ⟨j + 1, by omega, by go_num, by rw [HS.out]⟩
      case measure => simp [intOf]; omega
    · have hjk : j = k := by omega
      subst hjk
      obtain ⟨F, hF⟩ : ∃ F, 2 ^ j - 1 = F := ⟨_, rfl⟩
      have hF1 : 2 ^ j = F + 1 := by omega
      have hor := high_or high F j hz (by omega)
      have horn : n < F → high ||| n = high + n := fun h => high_or high n j hz (by omega)
      have HRES2 := HRES.out
      unfold numberF at HRES2
      rw [hF] at f1 f2 hl HRES2
      rw [hF1]
      have hwf : IntKind.u64.wrap (((F + 1 : Nat) : Int) - 1) = (F : Int) := by rw [IntWalk.u64_in _ (by omega)]; omega
      have hwf2 : IntKind.u64.wrap ((F : Int) + 1 - 1) = (F : Int) := by rw [IntWalk.u64_in _ (by omega)]; omega
      rw [hor] at HRES2
      clear hF hF1 hor HRES hz
      by_cases hltF : n < F
      · rw [if_pos hltF, horn hltF] at HRES2
        have hd : decide ((n : Int) < (F : Int)) = true := by simpa using hltF
        have ho8 : high + n < 256 := by omega
        have hw8 : IntKind.u8.wrap (n : Int) = n := IntWalk.u8_in _ (by omega)
        have hw9 : IntKind.u8.wrap ((high : Int) + (n : Int)) = ((high + n : Nat) : Int) := by rw [IntWalk.u8_in _ (by omega)]; omega
        have hcv := conv_one8 (high + n) ho8
        rw [HRES2] at hcv
        generalize high + n = x at *
        clear HRES2 horn
        go_wp2_with fail
        go_ret
        exact ⟨rfl, (Below.refl _ _).alloc (Nat.le_refl _) _⟩
      · rw [if_neg hltF] at HRES2
        have hd : decide ((n : Int) < (F : Int)) = false := by simpa using hltF
        have ho8 : high + F < 256 := by omega
        have hw8 : IntKind.u8.wrap (F : Int) = F := IntWalk.u8_in _ (by omega)
        have hw9 : IntKind.u8.wrap ((high : Int) + (F : Int)) = ((high + F : Nat) : Int) := by rw [IntWalk.u8_in _ (by omega)]; omega
        generalize high + F = x at *
        obtain ⟨m0, hm0⟩ : ∃ m0, n - F = m0 := ⟨_, rfl⟩
        have hm0i : IntKind.u64.wrap ((n : Int) - (F : Int)) = (m0 : Int) := by rw [IntWalk.u64_in _ (by omega)]; omega
        have hm0b : m0 < 2 ^ 64 := by omega
        rw [hm0] at HRES2
        have HOWN := Lib.hid (Own8.one w.heap.size w x ho8 (Nat.le_refl _))
        have HR := Lib.hid HRES2
        clear hm0 HRES2 horn
        go_wp2_with fail
        go_loopw [0, 9] (fun v0 v9 wr => ∃ (m : Nat) (l : List UInt8), m < 2 ^ 64 ∧ l.length + (tailF m).length ≤ 1 + (tailF m0).length ∧ v0 = .int .u64 (m : Int) ∧ Own8 w.heap.size wr v9 l ∧ l ++ tailF m = UInt8.ofNat x :: tailF m0 ∧ Below w.heap.size w wr) (fun v0 _ _ => (intOf v0).toNat)
        case atStart => exact ⟨m0, [UInt8.ofNat x], hm0b, by simp, rfl, HOWN.out, rfl, (Below.refl _ _).alloc (Nat.le_refl _) _⟩
        case round =>
          obtain ⟨m, l, hm, hlen, rfl, ho, hap, hbw⟩ := hrel
          have htl := tailF_len 9 m0 (by have : (128 : Nat) ^ (9 + 1) = 2 ^ 70 := by decide
                                         omega)
          have hll : l.length ≤ 1000000 := by omega
          have HO := Lib.hid ho
          have HBW := Lib.hid hbw
          have HAP := Lib.hid hap
          have HLEN := Lib.hid hlen
          have hsz := hbw.size
          clear ho hbw hap hlen htl
          by_cases h128 : m < 128
          · have hd1 : decide ((127 : Int) < (m : Int)) = false := by rw [decide_eq_false_iff_not]; omega
            have e1 : (UInt8.ofNat m).toNat = m := by simp only [UInt8.toNat_ofNat']; omega
            have hw10 : IntKind.u8.wrap (m : Int) = m := IntWalk.u8_in _ (by omega)
            have hfin := HAP.out
            rw [tailF_small m h128] at hfin
            have HFIN := Lib.hid hfin
            clear hfin
            go_wp2_with (at_builtin; refine app8 wr rfl _ _ rfl w.heap.size u9 l _ (UInt8.ofNat m) (by rw [e1]) rfl rfl HO.out hll hsz ?_)
            intro v' wn hO hB
            have HB := Lib.hid (HBW.out.trans hB)
            have hcv := conv_own w.heap.size wn v' _ hO
            rw [HFIN.out, HR.out] at hcv
            clear hO hB
            go_wp2_with fail
            go_ret
            exact ⟨rfl, HB.out⟩
          · have hd1 : decide ((127 : Int) < (m : Int)) = true := by rw [decide_eq_true_iff]; omega
            obtain ⟨y, hy⟩ : ∃ y, m % 128 + 128 = y := ⟨_, rfl⟩
            obtain ⟨m2, hm2⟩ : ∃ m2, m / 128 = m2 := ⟨_, rfl⟩
            have hy8 : y < 256 := by omega
            have hob : IntKind.u64.wrap ((m : Int) % 128 + 128) = (y : Int) := by rw [IntWalk.u64_in _ (by omega)]; omega
            have hob2 : IntKind.u8.wrap (y : Int) = y := IntWalk.u8_in _ (by omega)
            have e1 : (UInt8.ofNat y).toNat = y := by simp only [UInt8.toNat_ofNat']; omega
            have hdv : (m : Int) / 128 = (m2 : Int) := by omega
            have happ := tailF_app l m h128
            rw [HAP.out, hy, hm2] at happ
            have hl2 : (l ++ [UInt8.ofNat y]).length + (tailF m2).length ≤ 1 + (tailF m0).length := by
              have h1 := HLEN.out
              rw [tailF_big m h128, List.length_cons, hm2] at h1
              rw [List.length_append, List.length_singleton]
              omega
            have hml : m2 < m := by omega
            have HAPP := Lib.hid happ
            have HL2 := Lib.hid hl2
            have hm2b : m2 < 2 ^ 64 := by omega
            clear happ hl2 hy hm2
            go_wp2_with (at_builtin; refine app8 wr rfl _ _ rfl w.heap.size u9 l _ (UInt8.ofNat y) (by rw [e1]) rfl rfl HO.out hll hsz ?_)
            intro v' wn hO hB
            have HB := Lib.hid (HBW.out.trans hB)
            have HO2 := Lib.hid hO
            clear hO hB
            go_wp2_with fail
            go_roundw
            case rel => exact ⟨m2, _, hm2b, HL2.out, rfl, HO2.out, HAPP.out, HB.out⟩
            case measure => simp [intOf]; omega

end Go.Proofs.Ytgnoiheekgmleaa

/- fields: the reference's Take in plain words: it takes off just what ours does. -/
namespace Go.Proofs.Ytgnoiheekgmleaa
open Go.ChangeShapes Go.WideShapes Go.RowKit
set_option linter.unusedVariables false
set_option linter.unusedSimpArgs false

/-- The bytes that follow, as they stand: the number, and how many. -/
def rG : Nat → Nat → Nat → List UInt8 → Option (Nat × Nat)
  | 0, _, _, _ => none
  | _ + 1, _, _, [] => none
  | k + 1, i, n, b :: r => if b.toNat < 128 then some (n + b.toNat % 128 * 128 ^ i, i + 1) else rG k (i + 1) (n + b.toNat % 128 * 128 ^ i) r

def chkF (l : List UInt8) (k high n c : Nat) : Nat × List UInt8 × Bool :=
  if 4294967296 < n ∨ numberF n k high ≠ l.take c then (0, [], false) else (n, l.drop c, true)
def rTakeF (l : List UInt8) (k : Nat) : Nat × List UInt8 × Bool :=
  match l with
  | [] => (0, [], false)
  | b :: r => if b.toNat % 2 ^ k < 2 ^ k - 1 then chkF (b :: r) k (b.toNat - b.toNat % 2 ^ k) (b.toNat % 2 ^ k) 1
    else match rG 9 0 0 r with
      | none => (0, [], false)
      | some (v, c) => chkF (b :: r) k (b.toNat - b.toNat % 2 ^ k) (2 ^ k - 1 + v) (c + 1)

/-- What the bytes that follow are worth: by places behind i. -/
theorem rG_spec : ∀ (k i n : Nat) (r : List UInt8) (v c : Nat), rG k i n r = some (v, c) →
    ∃ t d, v = n + 128 ^ i * t ∧ c = i + d ∧ 1 ≤ d ∧ d ≤ r.length ∧ (moreG k i n r = (v, r.drop d, (decide (i = 0) && decide (d = 1)) || decide ((r.getD (d - 1) 0).toNat ≠ 0))) ∧
      (tailF t = r.take d ↔ (d = 1 ∨ (r.getD (d - 1) 0).toNat ≠ 0)) ∧ (t = 0 → (r.getD (d - 1) 0).toNat = 0)
  | 0, i, n, r, v, c, h => by simp [rG] at h
  | k + 1, i, n, [], v, c, h => by simp [rG] at h
  | k + 1, i, n, b :: r, v, c, h => by
    unfold rG at h
    have hb8 : b.toNat < 256 := UInt8.toNat_lt b
    by_cases hb : b.toNat < 128
    · rw [if_pos hb] at h
      injection h with h
      injection h with h1 h2
      have hm : b.toNat % 128 = b.toNat := Nat.mod_eq_of_lt hb
      refine ⟨b.toNat, 1, by rw [← h1, hm, Nat.mul_comm], h2.symm, by omega, by simp, ?_, ?_, ?_⟩
      · rw [moreG, if_pos hb, h1]
        simp
      · rw [tailF_small _ hb]
        simp
      · intro h0
        simpa using h0
    · rw [if_neg hb] at h
      obtain ⟨t, d, e1, e2, e3, e4, e5, e6, e7⟩ := rG_spec k (i + 1) (n + b.toNat % 128 * 128 ^ i) r v c h
      have hget : (b :: r).getD (d + 1 - 1) 0 = r.getD (d - 1) 0 := by
        obtain ⟨d', rfl⟩ : ∃ d', d = d' + 1 := ⟨d - 1, by omega⟩
        simp
      refine ⟨b.toNat % 128 + 128 * t, d + 1, ?_, by omega, by omega, by simp; omega, ?_, ?_, ?_⟩
      · rw [e1, Nat.pow_succ, Nat.mul_add, Nat.mul_comm (b.toNat % 128), Nat.mul_assoc, ← Nat.add_assoc]
      · rw [moreG, if_neg hb, e5, hget]
        simp only [List.drop_succ_cons]
        have h2 : ¬ (d + 1 = 1) := by omega
        have a1 : (decide (i + 1 = 0) && decide (d = 1)) = false := by simp
        have a2 : (decide (i = 0) && decide (d + 1 = 1)) = false := by rw [decide_eq_false h2, Bool.and_false]
        rw [a1, a2]
      · rw [hget]
        have hmod : b.toNat % 128 < 128 := Nat.mod_lt _ (by omega)
        by_cases ht : t = 0
        · have h0 := e7 ht
          rw [ht, Nat.mul_zero, Nat.add_zero, tailF_small _ hmod, h0]
          constructor
          · intro h
            have := congrArg List.length h
            rw [List.length_take, List.length_cons, List.length_cons, List.length_nil] at this
            omega
          · rintro (h | h)
            · omega
            · exact absurd rfl h
        · rw [tailF_big _ (by omega), List.take_succ_cons]
          have q1 : (b.toNat % 128 + 128 * t) % 128 + 128 = b.toNat := by omega
          have q2 : (b.toNat % 128 + 128 * t) / 128 = t := by omega
          rw [q1, q2]
          have q3 : UInt8.ofNat b.toNat = b := by simp
          rw [q3]
          constructor
          · intro h
            injection h with _ hh
            rcases e6.1 hh with h | h
            · refine .inr ?_
              intro h0
              subst h
              have hs : r.take 1 = [r.getD 0 0] := by
                cases r with
                | nil => simp at e4
                | cons a r => simp
              rw [hs] at hh
              have ht8 : t < 128 := by
                by_cases h8 : t < 128
                · exact h8
                · rw [tailF_big t h8] at hh
                  have := congrArg List.length hh
                  simp at this
                  rw [tailF] at this
                  split at this <;> simp at this
              rw [tailF_small t ht8] at hh
              injection hh with hh _
              have hh2 : t = (r.getD 0 0).toNat := by
                rw [← hh]
                simp only [UInt8.toNat_ofNat']
                omega
              exact ht (hh2.trans h0)
            · exact .inr h
          · rintro (h | h)
            · omega
            · rw [e6.2 (.inr h)]
      · intro h0
        rw [hget]
        exact e7 (by omega)

theorem rG_none : ∀ (k i n : Nat) (r : List UInt8), rG k i n r = none → moreG k i n r = (0, [], false)
  | 0, i, n, r, h => by simp [moreG]
  | k + 1, i, n, [], h => by simp [moreG]
  | k + 1, i, n, b :: r, h => by
    unfold rG at h
    rw [moreG]
    by_cases hb : b.toNat < 128
    · rw [if_pos hb] at h; cases h
    · rw [if_neg hb] at h ⊢
      exact rG_none k (i + 1) _ r h

theorem sub_mod (x k : Nat) : (x - x % 2 ^ k) % 2 ^ k = 0 := by
  have h := Nat.div_add_mod x (2 ^ k)
  have e : x - x % 2 ^ k = 2 ^ k * (x / 2 ^ k) := by omega
  rw [e]
  exact Nat.mul_mod_right _ _

theorem rTake_eq (l : List UInt8) (k : Nat) (hk : 1 ≤ k ∧ k ≤ 8) : rTakeF l k = takeF l k := by
  cases l with
  | nil => rfl
  | cons b r =>
    have hb8 : b.toNat < 256 := UInt8.toNat_lt b
    obtain ⟨f1, f2⟩ := full_facts k hk
    have hmod : b.toNat % 2 ^ k < 2 ^ k := Nat.mod_lt _ (by omega)
    have hle := Nat.mod_le b.toNat (2 ^ k)
    have hsm := sub_mod b.toNat k
    unfold rTakeF takeF
    simp only
    by_cases hlt : b.toNat % 2 ^ k < 2 ^ k - 1
    · rw [if_pos hlt, if_pos hlt]
      unfold chkF
      have e : numberF (b.toNat % 2 ^ k) k (b.toNat - b.toNat % 2 ^ k) = [b] := by
        unfold numberF
        rw [if_pos hlt, high_or _ _ k hsm hmod]
        rw [show b.toNat - b.toNat % 2 ^ k + b.toNat % 2 ^ k = b.toNat by omega]
        simp
      rw [if_neg]
      · rfl
      · rintro (h | h)
        · omega
        · exact h (by rw [e]; rfl)
    · rw [if_neg hlt, if_neg hlt]
      cases hr : rG 9 0 0 r with
      | none =>
        have := rG_none 9 0 0 r hr
        have hm : moreF r = (0, [], false) := this
        rw [hm]
        simp
      | some vc =>
        obtain ⟨v, c⟩ := vc
        obtain ⟨t, d, e1, e2, e3, e4, e5, e6, e7⟩ := rG_spec 9 0 0 r v c hr
        rw [Nat.zero_add] at e1 e2
        rw [Nat.pow_zero, Nat.one_mul] at e1
        subst e1 e2
        have hm : moreF r = (v, r.drop c, (decide (0 = 0) && decide (c = 1)) || decide ((r.getD (c - 1) 0).toNat ≠ 0)) := e5
        have hiff : ((decide (0 = 0) && decide (c = 1)) || decide ((r.getD (c - 1) 0).toNat ≠ 0)) = true ↔ tailF v = r.take c := by
          rw [e6]
          simp
        generalize ((decide (0 = 0) && decide (c = 1)) || decide ((r.getD (c - 1) 0).toNat ≠ 0)) = fl at hm hiff
        rw [hm]
        simp only
        unfold chkF
        have hF : b.toNat % 2 ^ k = 2 ^ k - 1 := by omega
        have e : numberF (2 ^ k - 1 + v) k (b.toNat - b.toNat % 2 ^ k) = b :: tailF v := by
          unfold numberF
          rw [if_neg (by omega), high_or _ _ k hsm (by omega)]
          rw [show b.toNat - b.toNat % 2 ^ k + (2 ^ k - 1) = b.toNat by omega, show 2 ^ k - 1 + v - (2 ^ k - 1) = v by omega]
          simp
        rw [e, List.take_succ_cons, List.drop_succ_cons]
        by_cases hcan : tailF v = r.take c
        · rw [hiff.2 hcan]
          by_cases hbig : 4294967296 < 2 ^ k - 1 + v
          · rw [if_pos (.inl hbig), if_pos (.inr (by omega))]
          · rw [if_neg, if_neg]
            · rintro (h | h)
              · cases h
              · omega
            · rintro (h | h)
              · exact hbig h
              · exact h (by rw [hcan])
        · have hf : fl = false := by
            cases hh : fl
            · rfl
            · exact absurd (hiff.1 hh) hcan
          have hne : b :: tailF v ≠ b :: r.take c := by
            intro h
            injection h with _ h
            exact hcan h
          rw [hf, if_pos (.inr hne), if_pos (.inl rfl)]

end Go.Proofs.Ytgnoiheekgmleaa

/- fields: the law's own, the reference's Fixed and Same. -/
namespace Go.Proofs.Ytgnoiheekgmleaa
open Go.ChangeShapes Go.WideShapes Go.RowKit
set_option linter.unusedVariables false
set_option linter.unusedSimpArgs false

theorem Try.infoR : (Try.prog.info? 84).map (fun i => (i.zero, i.size, i.bytes)) = some (some (.agg #[.string ⟨#[]⟩, .string ⟨#[]⟩]), 2, 32) := by kernel_rfl

/-- A slice of the call's own with these fields, of the reference's type. -/
def OwnR (B : Nat) (w : World) (v : Value) (L : List Fl) : Prop := w.ownsRow B 84 2 v L.length (flc L)

theorem OwnR.empty (B : Nat) (w : World) (hB : B ≤ w.heap.size) : OwnR B (w.alloc (.cells #[] 84)) (.slice (some ⟨w.heap.size, 0, none⟩) 0 0) [] :=
  ⟨rfl, .inr ⟨w.heap.size, 0, #[], rfl, hB, heap_alloc_new w _, Nat.le_refl _, by decide, rfl, rfl⟩⟩
theorem OwnR.below {B : Nat} {w w' : World} {v : Value} {L : List Fl} (h : OwnR B w v L) (hb : Below w.heap.size w w') : OwnR B w' v L := own_below h hb
theorem OwnR.fv {B : Nat} {w : World} {p : Option Addr} {n cap : Nat} {L : List Fl} (h : OwnR B w (.slice p n cap) L) : FV w p L := by
  intro hl
  obtain ⟨g, cap', hv, hb, hg, hc, _⟩ := own_view h hl
  injection hv with hv1 hv2 hv3
  refine ⟨g, 0, hv1, hg, fun i f hf => ?_⟩
  obtain ⟨h1, h2⟩ := flc_at L i f hf
  rw [Nat.zero_add]
  exact ⟨hc _ _ h1, hc _ _ h2⟩

/-- 'out = append(out, f)'. -/
theorem appR {ops : Array Oper} {rest : List Oper} {o : Oper} {a : Act} {Q : Exit → Act → World → Prop} (wr : World) (hgd : o.guard = none) (s x : Operand)
    (ho : o.op = .call { callee := .builtin .append, args := #[s, x], argTypes := #[36, 36] })
    (B : Nat) (v : Value) (L : List Fl) (n0 v0 : ByteArray) (hs : a.eval s = v) (hx : a.eval x = .slice (some ⟨wr.heap.size, 0, none⟩) 1 1)
    (hown : OwnR B wr v L) (hl : L.length ≤ 1000000) (hB : B ≤ wr.heap.size)
    (h : ∀ v' w', OwnR B w' v' (L ++ [(n0, v0)]) → Below B wr w' → Only (fun k => v.ownBlock = some k) wr w' → wpList Try.prog ops Q rest (a.put o.dst v') w') : wpList Try.prog ops Q (o :: rest) a (wr.alloc (.cells #[.string n0, .string v0] 84)) := by
  obtain ⟨i, hi, hz, hsz, hy⟩ := info_parts Try.infoR
  refine wpList_append_new wr hgd s x 36 ho B 84 i _ 2 32 Try.underlying36 hi hz hsz hy rfl (by decide) v L.length (flc L) hown [.string n0, .string v0] _ rfl rfl ?_ hl (by decide) hB hs hx ?_
  · intro u hu
    simp at hu
    rcases hu with rfl | rfl <;> rfl
  · intro v' w' h1 h2 _
    refine h v' w' ?_ (h2.below hB (fun k hk => (World.ownsRow.lt hown k hk).1)) h2
    unfold OwnR
    rw [List.length_append, List.length_singleton, flc_append]
    exact h1

theorem take_fl (L : List Fl) (j : Nat) (f : Fl) (h : L[j]? = some f) : L.take (j + 1) = L.take j ++ [f] := by
  rw [List.take_add_one, h, Option.toList_some]

set_option maxRecDepth 100000 in
set_option maxHeartbeats 4000000 in
theorem own_any (L : List Fl) (p : Option Addr) (cap : Nat) (w : World) (hL : FV w p L) (hlen : L.length ≤ 10000) :
    Calls Try.prog 13 #[.slice p L.length cap] w fun e w' => ∃ v, e = .returned v ∧ OwnR w.heap.size w' v L ∧ Below w.heap.size w w' := by
  obtain ⟨N, hN⟩ : ∃ N, L.length = N := ⟨_, rfl⟩
  rw [hN] at hlen ⊢
  have HN := Lib.hid hN
  have HL := Lib.hid hL
  have HO := Lib.hid (OwnR.empty w.heap.size w (Nat.le_refl _))
  have HB : Hid (Below w.heap.size w (w.alloc (.cells #[] 84))) := Lib.hid ((Below.refl _ _).alloc (Nat.le_refl _) _)
  clear hN hL
  go_enter Try.func13, Try.ntmps13
  go_wp2_with fail
  go_loopw [3, 4, 8] (fun ov _ i wr => ∃ j : Nat, j ≤ N ∧ i = .int .i64 j ∧ OwnR w.heap.size wr ov (L.take j) ∧ Below w.heap.size w wr) (fun _ _ i _ => N - (intOf i).toNat)
  case atStart => exact ⟨0, by omega, rfl, HO.out, HB.out⟩
  case round =>
    obtain ⟨j, hj, rfl, hO, hbw⟩ := hrel
    have HOJ := Lib.hid hO
    have HBW := Lib.hid hbw
    have hsz := hbw.size
    by_cases hlt : j < N
    · have hjl : j < L.length := by rw [HN.out]; exact hlt
      obtain ⟨q, hq⟩ : ∃ q, L[j]? = some q := ⟨_, List.getElem?_eq_getElem hjl⟩
      obtain ⟨g, o, rfl, hg, hc⟩ := (HL.out.below hbw) (by omega)
      obtain ⟨k1, k2⟩ := hc j q hq
      have HTK := Lib.hid (take_fl L j q hq)
      obtain ⟨n0, v0⟩ := q
      simp only at k1 k2
      have hjt : (L.take j).length ≤ 1000000 := by rw [List.length_take]; omega
      clear hc hq hjl hbw hO
      go_wp2_with (at_builtin; refine appR wr rfl (.tmp 11) (.tmp 16) rfl w.heap.size u3 (L.take j) n0 v0 rfl (by simp [Act.eval]) HOJ.out hjt hsz ?_)
      intro v4 w4 ho4 hb4 _
      have B4 := Lib.hid (HBW.out.trans hb4)
      have O4 := Lib.hid ho4
      clear ho4 hb4
      go_wp2_with fail
      go_roundw
      case rel => exact ⟨j + 1, by omega, by go_num, by rw [HTK.out]; exact O4.out, B4.out⟩
      case measure => simp [intOf]; omega
    · have hjN : j = N := by omega
      subst hjN
      have HE : Hid (L.take j = L) := Lib.hid (by rw [← HN.out, List.take_length])
      clear hbw hO
      go_wp2_with fail
      go_ret
      exact ⟨_, rfl, by rw [← HE.out]; exact HOJ.out, HBW.out⟩

def sameF (A B : List Fl) : Bool := decide (A = B)

theorem fl_ne {a b : Fl} (h : a ≠ b) : (a.1.toList == b.1.toList && a.2.toList == b.2.toList) = false := by
  cases hh : (a.1.toList == b.1.toList && a.2.toList == b.2.toList)
  · rfl
  · rw [Bool.and_eq_true] at hh
    exact absurd (Prod.ext (ba_eq hh.1).symm (ba_eq hh.2).symm) h

set_option maxRecDepth 100000 in
set_option maxHeartbeats 4000000 in
theorem RSame_any (A C : List Fl) (p q : Option Addr) (ca cb : Nat) (w : World) (hA : FV w p A) (hC : FV w q C) (hla : A.length ≤ 10000) (hlc : C.length ≤ 10000) :
    Calls Try.prog 25 #[.slice p A.length ca, .slice q C.length cb] w fun e w' => e = .returned (.bool (sameF A C)) ∧ Below w.heap.size w w' := by
  obtain ⟨N, hN⟩ : ∃ N, A.length = N := ⟨_, rfl⟩
  obtain ⟨M, hM⟩ : ∃ N, C.length = N := ⟨_, rfl⟩
  by_cases hNM : N = M
  case neg =>
    have e1 : sameF A C = false := decide_eq_false (fun e => hNM (by rw [← hN, ← hM, e]))
    rw [e1, hN, hM]
    have hne : ((N : Int) == (M : Int)) = false := by rw [beq_eq_false_iff_ne]; omega
    have hne2 : (N == M) = false := by rw [beq_eq_false_iff_ne]; omega
    have hne3 : ((N : Int) != (M : Int)) = true := by rw [bne_iff_ne]; omega
    clear e1 hN hM hA hC hla hlc
    go_enter Try.func25, Try.ntmps25
    go_wp2_with fail
    go_ret
    exact ⟨rfl, Below.refl _ _⟩
  case pos =>
    subst hNM
    obtain ⟨res, hres⟩ : ∃ r, sameF A C = r := ⟨_, rfl⟩
    rw [hres, hN, hM]
    have HR := Lib.hid hres
    have HA := Lib.hid hA
    have HC := Lib.hid hC
    have HN := Lib.hid hN
    have HM := Lib.hid hM
    rw [hN] at hla
    clear hres hA hC hN hM hlc
    go_enter Try.func25, Try.ntmps25
    go_wp2_with fail
    go_loopw [4, 5] (fun _ i wr => ∃ j : Nat, j ≤ N ∧ i = .int .i64 j ∧ (∀ k, k < j → A[k]? = C[k]?) ∧ Below w.heap.size w wr) (fun _ i _ => N - (intOf i).toNat)
    case atStart => exact ⟨0, by omega, rfl, fun k hk => by omega, Below.refl _ _⟩
    case round =>
      obtain ⟨j, hj, rfl, hsm, hbw⟩ := hrel
      have HSM := Lib.hid hsm
      have HBW := Lib.hid hbw
      clear hsm
      by_cases hlt : j < N
      · have hja : j < A.length := by rw [HN.out]; exact hlt
        have hjc : j < C.length := by rw [HM.out]; exact hlt
        obtain ⟨fa, hfa⟩ : ∃ q, A[j]? = some q := ⟨_, List.getElem?_eq_getElem hja⟩
        obtain ⟨fc, hfc⟩ : ∃ q, C[j]? = some q := ⟨_, List.getElem?_eq_getElem hjc⟩
        obtain ⟨ga, oa, rfl, hga, hka⟩ := (HA.out.below hbw) (by omega)
        obtain ⟨gc, oc, rfl, hgc, hkc⟩ := (HC.out.below hbw) (by omega)
        obtain ⟨a1, a2⟩ := hka j fa hfa
        obtain ⟨c1, c2⟩ := hkc j fc hfc
        by_cases hfe : fa = fc
        · subst hfe
          have HE : Hid (∀ k, k < j + 1 → A[k]? = C[k]?) := Lib.hid (fun k hk => by
            rcases Nat.lt_succ_iff_lt_or_eq.1 hk with h | h
            · exact HSM.out k h
            · rw [h, hfa, hfc])
          obtain ⟨n0, v0⟩ := fa
          simp only at a1 a2 c1 c2
          clear hka hkc hfa hfc hja hjc hbw
          go_wp2_with fail
          go_quiet (fail)
          go_wp2_with fail
          go_roundw
          case rel => exact ⟨j + 1, by omega, by go_num, HE.out, below_drewN HBW.out _⟩
          case measure => simp [intOf]; omega
        · have hb := fl_ne hfe
          have hr : res = false := by
            rw [← HR.out]
            refine decide_eq_false (fun e => hfe ?_)
            rw [e, hfc] at hfa
            exact (Option.some.inj hfa).symm
          obtain ⟨n0, v0⟩ := fa
          obtain ⟨n1, v1⟩ := fc
          simp only at a1 a2 c1 c2 hb
          have HRF := Lib.hid hr
          obtain ⟨b1, hb1⟩ : ∃ b, (n0.toList == n1.toList) = b := ⟨_, rfl⟩
          obtain ⟨b2, hb2⟩ : ∃ b, (v0.toList == v1.toList) = b := ⟨_, rfl⟩
          rw [hb1, hb2] at hb
          clear hka hkc hfa hfc hja hjc hfe hr hbw
          cases b1 <;> cases b2
          case true.true => cases hb
          all_goals
            clear hb
            go_wp2_with fail
            go_quiet (fail)
            go_wp2_with fail
            go_ret
            rw [HRF.out]
            exact ⟨rfl, below_drewN HBW.out _⟩
      · have hjN : j = N := by omega
        subst hjN
        have hr : res = true := by
          rw [← HR.out]
          refine decide_eq_true (List.ext_getElem? (fun k => ?_))
          by_cases hk : k < j
          · exact HSM.out k hk
          · rw [List.getElem?_eq_none (by rw [HN.out]; omega), List.getElem?_eq_none (by rw [HM.out]; omega)]
        have HRF := Lib.hid hr
        clear hr hbw
        go_wp2_with fail
        go_ret
        rw [HRF.out]
        exact ⟨rfl, HBW.out⟩

/-- Texts in a slice. -/
def strsB (L : List ByteArray) : List Value := L.map .string
theorem strsB_at (L : List ByteArray) (j : Nat) (s : ByteArray) (h : L[j]? = some s) : (strsB L)[j]? = some (.string s) := by
  unfold strsB
  rw [List.getElem?_map, h]
  rfl

def nN : List ByteArray := fixedL.map (·.1)
def nV : List ByteArray := fixedL.map (·.2)

theorem fixed_at (j : Nat) (hj : j < 12) : ∃ f, fixedL[j]? = some f ∧ nN[j]? = some f.1 ∧ nV[j]? = some f.2 := by
  have hl : j < fixedL.length := hj
  refine ⟨fixedL[j], List.getElem?_eq_getElem hl, ?_, ?_⟩
  · unfold nN; rw [List.getElem?_map, List.getElem?_eq_getElem hl]; rfl
  · unfold nV; rw [List.getElem?_map, List.getElem?_eq_getElem hl]; rfl

set_option maxRecDepth 100000 in
set_option maxHeartbeats 4000000 in
theorem RFixed_any (w : World) : Calls Try.prog 51 #[] w fun e w' => ∃ v, e = .returned v ∧ OwnR w.heap.size w' v fixedL ∧ Below w.heap.size w w' := by
  have hN : blk (w.alloc (.cells (strsB nN).toArray 9)) w.heap.size 9 (strsB nN) := blk.new w _ _
  have hV : blk ((w.alloc (.cells (strsB nN).toArray 9)).alloc (.cells (strsB nV).toArray 9)) (w.alloc (.cells (strsB nN).toArray 9)).heap.size 9 (strsB nV) := blk.new _ _ _
  rw [show (w.alloc (.cells (strsB nN).toArray 9)).heap.size = w.heap.size + 1 by simp] at hV
  have hb2 : Below w.heap.size w ((w.alloc (.cells (strsB nN).toArray 9)).alloc (.cells (strsB nV).toArray 9)) := ((Below.refl _ _).alloc (Nat.le_refl _) _).alloc (by simp) _
  have hO := OwnR.empty w.heap.size _ hb2.size
  rw [show ((w.alloc (.cells (strsB nN).toArray 9)).alloc (.cells (strsB nV).toArray 9)).heap.size = w.heap.size + 1 + 1 by simp] at hO
  have HS : Hid (_ ∧ _ ∧ _ ∧ _) := Lib.hid ⟨hO, (hN.alloc (.cells (strsB nV).toArray 9)).alloc (.cells #[] 84), hV.alloc (.cells #[] 84), hb2.alloc hb2.size (.cells #[] 84)⟩
  clear hN hV hb2 hO
  go_enter Try.func51, Try.ntmps51
  go_wp2_with fail
  go_loopw [3, 4] (fun ov i wr => ∃ j : Nat, j ≤ 12 ∧ i = .int .i64 j ∧ OwnR w.heap.size wr ov (fixedL.take j) ∧ blk wr w.heap.size 9 (strsB nN) ∧ blk wr (w.heap.size + 1) 9 (strsB nV) ∧ Below w.heap.size w wr) (fun _ i _ => 12 - (intOf i).toNat)
  case atStart => exact ⟨0, by omega, rfl, HS.out.1, HS.out.2.1, HS.out.2.2.1, HS.out.2.2.2⟩
  case round =>
    obtain ⟨j, hj, rfl, hO, hN, hV, hbw⟩ := hrel
    have hsz := hbw.size
    by_cases hlt : j < 12
    · obtain ⟨f, e1, e2, e3⟩ := fixed_at j hlt
      have HTK := Lib.hid (take_fl fixedL j f e1)
      obtain ⟨n0, v0⟩ := f
      simp only at e2 e3
      have k1 := hN.cell (strsB_at _ _ _ e2)
      have k2 := hV.cell (strsB_at _ _ _ e3)
      obtain ⟨p, cap, rfl, _⟩ := own_shape hO
      have hjl : (fixedL.take j).length = j := by rw [List.length_take]; show min j 12 = j; omega
      rw [hjl] at hO
      obtain ⟨i0, hi0, hz0, hz1, hz2⟩ := info_parts Try.infoR
      have hO2 : wr.drew.ownsRow w.heap.size 84 2 (.slice p j cap) j (flc (fixedL.take j)) := by
        have := own_below hO ((Below.refl _ _).drew)
        rw [hjl] at this
        exact this
      have hne1 := own_ne hO hN (by decide)
      have hne2 := own_ne hO hV (by decide)
      have HO := Lib.hid hO2
      have HNV := Lib.hid (And.intro hN (And.intro hV hbw))
      have HNE := Lib.hid (And.intro hne1 (And.intro hne2 (fun k hk => (World.ownsRow.lt hO2 k hk).1)))
      have HJL := Lib.hid hjl
      have hj1 : j ≤ 1000000 := by omega
      have hszd : w.heap.size ≤ wr.drew.heap.size := hsz
      rw [hjl]
      clear e1 e2 e3 hO hO2 hN hV hbw hne1 hne2 hjl HS
      go_wp2_with fail
      go_region_law ((refine step_append_new wr.drew _ rfl (.tmp 14) (.tmp 24) 36 rfl w.heap.size 84 i0 _ 2 32 Try.underlying36 hi0 hz0 hz1 hz2 rfl (by decide) (.slice p j cap) j (flc (fixedL.take j)) HO.out [.string n0, .string v0] _ rfl rfl (by intro u hu; simp at hu; rcases hu with rfl | rfl <;> rfl) hj1 (by decide) hszd rfl (by simp [Act.eval]) (by simp [Act.eval]) ?_); (intro v4 w4 ho4 hon4 hat4; have Hon4 := Lib.hid hon4; have Ho4 := Lib.hid ho4; clear hon4 ho4 hat4))
      all_goals go_wp2_with fail
      all_goals
        go_roundw
        case rel =>
          have hx : Only (fun k => (Value.slice p j cap).ownBlock = some k) wr w4 := ((Only.refl _ wr).drew).trans Hon4.out
          refine ⟨j + 1, by omega, by go_num, ?_, blk.only HNV.out.1 hx HNE.out.1, blk.only HNV.out.2.1 hx HNE.out.2.1, HNV.out.2.2.trans (hx.below hsz HNE.out.2.2)⟩
          rw [HTK.out]
          unfold OwnR
          rw [List.length_append, List.length_singleton, HJL.out, flc_append]
          exact Ho4.out
        case measure => simp [intOf]; omega
    · have hj12 : j = 12 := by omega
      subst hj12
      have HE : Hid (OwnR w.heap.size wr u3 fixedL ∧ Below w.heap.size w wr) := Lib.hid ⟨hO, hbw⟩
      clear hO hN hV hbw hj hlt
      go_wp2_with fail
      go_ret
      exact ⟨_, rfl, HE.out.1, HE.out.2⟩

end Go.Proofs.Ytgnoiheekgmleaa

/- fields: what is written is read, in plain words. -/
namespace Go.Proofs.Ytgnoiheekgmleaa
open Go.ChangeShapes Go.WideShapes Go.RowKit
set_option linter.unusedVariables false
set_option linter.unusedSimpArgs false

theorem ofNat_toNat8 (x : Nat) (h : x < 256) : (UInt8.ofNat x).toNat = x := by simp only [UInt8.toNat_ofNat']; omega

theorem more_tail : ∀ (k i n t : Nat) (r : List UInt8), 1 ≤ k → t < 128 ^ k → (i = 0 ∨ t ≠ 0) → moreG k i n (tailF t ++ r) = (n + t * 128 ^ i, r, true)
  | 0, i, n, t, r, h1, _, _ => by omega
  | k + 1, i, n, t, r, _, ht, hi => by
    by_cases h128 : t < 128
    · rw [tailF_small t h128]
      show moreG (k + 1) i n (UInt8.ofNat t :: r) = _
      rw [moreG, ofNat_toNat8 t (by omega), if_pos h128, Nat.mod_eq_of_lt h128]
      congr 2
      rcases hi with hi | hi <;> simp [hi]
    · rw [tailF_big t h128]
      show moreG (k + 1) i n (UInt8.ofNat (t % 128 + 128) :: (tailF (t / 128) ++ r)) = _
      have hm : t % 128 < 128 := Nat.mod_lt _ (by omega)
      rw [moreG, ofNat_toNat8 _ (by omega), if_neg (by omega)]
      have hk : 1 ≤ k := by
        rcases Nat.eq_zero_or_pos k with h | h
        · subst h; simp at ht; omega
        · exact h
      rw [more_tail k (i + 1) _ (t / 128) r hk (by rw [Nat.div_lt_iff_lt_mul (by omega), ← Nat.pow_succ]; exact ht) (.inr (by omega))]
      congr 1
      rw [show (t % 128 + 128) % 128 = t % 128 by omega, Nat.pow_succ, Nat.mul_comm (128 ^ i) 128, ← Nat.mul_assoc, Nat.add_assoc, ← Nat.add_mul]
      congr 2
      omega

/-- The first byte of a number. -/
theorem number_head (n k high : Nat) (hk : 1 ≤ k ∧ k ≤ 8) (hz : high % 2 ^ k = 0) (h8 : high < 256) (r : List UInt8) :
    ∃ b t, numberF n k high ++ r = b :: t ∧ b.toNat = high + min n (2 ^ k - 1) := by
  obtain ⟨f1, f2⟩ := full_facts k hk
  have hl := high_lt high k hk hz h8
  unfold numberF
  by_cases hlt : n < 2 ^ k - 1
  · rw [if_pos hlt, high_or high n k hz (by omega)]
    refine ⟨_, r, rfl, ?_⟩
    rw [ofNat_toNat8 _ (by omega)]
    omega
  · rw [if_neg hlt, high_or high _ k hz (by omega)]
    refine ⟨_, _, rfl, ?_⟩
    rw [ofNat_toNat8 _ (by omega)]
    omega

theorem take_number (n k high : Nat) (hk : 1 ≤ k ∧ k ≤ 8) (hz : high % 2 ^ k = 0) (h8 : high < 256) (hn : n ≤ 4294967296) (r : List UInt8) : takeF (numberF n k high ++ r) k = (n, r, true) := by
  obtain ⟨f1, f2⟩ := full_facts k hk
  have hl := high_lt high k hk hz h8
  have hmod : ∀ x, x < 2 ^ k → (high + x) % 2 ^ k = x := by
    intro x hx
    rw [Nat.add_mod, hz, Nat.zero_add, Nat.mod_mod, Nat.mod_eq_of_lt hx]
  unfold numberF
  by_cases hlt : n < 2 ^ k - 1
  · rw [if_pos hlt, high_or high n k hz (by omega)]
    show takeF (UInt8.ofNat (high + n) :: r) k = _
    unfold takeF
    simp only
    rw [ofNat_toNat8 _ (by omega), hmod n (by omega), if_pos hlt]
  · rw [if_neg hlt, high_or high _ k hz (by omega)]
    show takeF (UInt8.ofNat (high + (2 ^ k - 1)) :: (tailF (n - (2 ^ k - 1)) ++ r)) k = _
    unfold takeF
    simp only
    have hm : moreF (tailF (n - (2 ^ k - 1)) ++ r) = (n - (2 ^ k - 1), r, true) := by
      have := more_tail 9 0 0 (n - (2 ^ k - 1)) r (by omega) (by have : (128 : Nat) ^ 9 = 9223372036854775808 := by decide
                                                                 omega) (.inl rfl)
      unfold moreF
      rw [this]
      simp
    rw [ofNat_toNat8 _ (by omega), hmod _ (by omega), if_neg (by omega), hm]
    simp only
    rw [if_neg]
    · congr 1
      omega
    · rintro (h | h)
      · cases h
      · omega

theorem pow_pred (k : Nat) (hk : 1 ≤ k) : 2 ^ k = 2 * 2 ^ (k - 1) := by
  obtain ⟨j, rfl⟩ : ∃ j, k = j + 1 := ⟨k - 1, by omega⟩
  rw [Nat.add_sub_cancel, Nat.pow_succ, Nat.mul_comm]

/-- A text comes back; its first byte lies in its own bits. -/
theorem take_text (l : List UInt8) (k high : Nat) (hk : 2 ≤ k ∧ k ≤ 8) (hz : high % 2 ^ k = 0) (h8 : high < 256) (hl : l.length ≤ 1000000) (r : List UInt8) :
    takeTextF (textB l k high ++ r) k = (l, r, true) ∧ ∃ b t, textB l k high ++ r = b :: t ∧ ∃ m, m < 2 ^ k ∧ b.toNat = high + m := by
  have hp := pow_pred k (by omega)
  have hpk : 1 ≤ 2 ^ (k - 1) := Nat.one_le_two_pow
  have hlt := high_lt high k (by omega) hz h8
  obtain ⟨a, ha⟩ : ∃ a, high = 2 ^ k * a := ⟨high / 2 ^ k, by have := Nat.div_add_mod high (2 ^ k); omega⟩
  have hz1 : high % 2 ^ (k - 1) = 0 := by rw [ha, hp, Nat.mul_assoc, Nat.mul_left_comm]; exact Nat.mul_mod_right _ _
  have hor : high ||| 2 ^ (k - 1) = high + 2 ^ (k - 1) := high_or high _ k hz (by omega)
  have hz2 : (high + 2 ^ (k - 1)) % 2 ^ (k - 1) = 0 := by rw [Nat.add_mod, hz1, Nat.mod_self]; simp
  have hdiv : ∀ c m, m < 2 ^ (k - 1) → (high + c * 2 ^ (k - 1) + m) / 2 ^ (k - 1) % 2 = c % 2 := by
    intro c m hm
    have e : high + c * 2 ^ (k - 1) + m = (2 * a + c) * 2 ^ (k - 1) + m := by
      rw [ha, hp, Nat.add_mul, Nat.mul_assoc 2 _ a, Nat.mul_comm _ a, ← Nat.mul_assoc 2 a]
    rw [e, Nat.mul_comm, Nat.mul_add_div (by omega), Nat.div_eq_of_lt hm]
    omega
  unfold textB
  by_cases hs : (packF l).length < l.length
  · rw [if_pos hs, hor, List.append_assoc]
    have hh8 : high + 2 ^ (k - 1) < 256 := by omega
    have ht := take_number (packF l).length (k - 1) (high + 2 ^ (k - 1)) (by omega) hz2 hh8 (by omega) (packF l ++ r)
    obtain ⟨b, t, e1, e2⟩ := number_head (packF l).length (k - 1) (high + 2 ^ (k - 1)) (by omega) hz2 hh8 (packF l ++ r)
    refine ⟨?_, b, t, e1, 2 ^ (k - 1) + min (packF l).length (2 ^ (k - 1) - 1), by omega, by omega⟩
    have hh : ((numberF (packF l).length (k - 1) (high + 2 ^ (k - 1)) ++ (packF l ++ r)).headD 0).toNat / 2 ^ (k - 1) % 2 = 1 := by
      rw [e1]
      show b.toNat / 2 ^ (k - 1) % 2 = 1
      rw [e2]
      have := hdiv 1 (min (packF l).length (2 ^ (k - 1) - 1)) (by omega)
      rw [Nat.one_mul] at this
      exact this
    unfold takeTextF
    rw [ht]
    simp only
    rw [if_neg (by rw [List.length_append]; rintro (h | h); cases h; omega), hh, if_neg (by decide), List.take_left, List.drop_left, unpack_pack]
    simp only
    rw [decide_eq_true hs]
    rfl
  · rw [if_neg hs, List.append_assoc]
    have ht := take_number l.length (k - 1) high (by omega) hz1 h8 (by omega) (l ++ r)
    obtain ⟨b, t, e1, e2⟩ := number_head l.length (k - 1) high (by omega) hz1 h8 (l ++ r)
    refine ⟨?_, b, t, e1, min l.length (2 ^ (k - 1) - 1), by omega, by omega⟩
    have hh : ((numberF l.length (k - 1) high ++ (l ++ r)).headD 0).toNat / 2 ^ (k - 1) % 2 = 0 := by
      rw [e1]
      show b.toNat / 2 ^ (k - 1) % 2 = 0
      rw [e2]
      have := hdiv 0 (min l.length (2 ^ (k - 1) - 1)) (by omega)
      rw [Nat.zero_mul, Nat.add_zero] at this
      exact this
    unfold takeTextF
    rw [ht]
    simp only
    rw [if_neg (by rw [List.length_append]; rintro (h | h); cases h; omega), hh, if_pos rfl, List.take_left, List.drop_left, decide_eq_true (by omega)]

theorem byt_app (a b : ByteArray) : byt (a ++ b) = byt a ++ byt b := by
  unfold byt
  simp [ByteArray.data_append]
theorem byt_inj {a b : ByteArray} (h : byt a = byt b) : a = b := by rw [← txt_byt a, ← txt_byt b, h]
theorem byt_nF (n k h : Int) : byt (nF n k h) = numberF n.toNat k.toNat h.toNat := by unfold nF; rw [byt_txt]
theorem byt_tF (s : ByteArray) (k h : Int) : byt (tF s k h) = textB (byt s) k.toNat h.toNat := by unfold tF; rw [byt_txt]

/-- A field's value comes back. -/
theorem val_back (n0 v : ByteArray) (r : ByteArray) (hv : v.size ≤ 1000000) : valF n0 (tF v 8 0 ++ r) = ((n0, v), r, mayFl (n0, v)) := by
  unfold valF
  rw [byt_app, byt_tF]
  have := (take_text (byt v) 8 0 (by omega) (by omega) (by omega) (by rw [byt_length]; exact hv) (byt r)).1
  show ((n0, txt (takeTextF (textB (byt v) 8 0 ++ byt r) 8).1), _, _) = _
  have e : (8 : Int).toNat = 8 := rfl
  have e0 : (0 : Int).toNat = 0 := rfl
  rw [e, e0, this]
  simp only [txt_byt, Bool.true_and]

theorem known_back (i k high : Nat) (hk : 1 ≤ k ∧ k ≤ 8) (hz : high % 2 ^ k = 0) (h8 : high < 256) (hi : i < 12) (s r : ByteArray) (hs : byt s = numberF i k high ++ byt r) : knownF s k = (fixedL.getD i emptyF, r, true) := by
  unfold knownF
  rw [hs, take_number i k high hk hz h8 (by omega)]
  rw [if_neg (by simp; omega), txt_byt]

theorem where_is {L : List Fl} {P : Fl → Bool} (h : 0 ≤ whereF L P) : ∃ i : Nat, whereF L P = i ∧ i < L.length ∧ P (L.getD i emptyF) = true := by
  unfold whereF at h ⊢
  cases hh : L.findIdx? P with
  | none => rw [hh] at h; simp at h
  | some i =>
    rw [List.findIdx?_eq_some_iff_getElem] at hh
    obtain ⟨hi, h1, _⟩ := hh
    refine ⟨i, rfl, hi, ?_⟩
    rw [List.getD_eq_getElem?_getD, List.getElem?_eq_getElem hi]
    exact h1

theorem named_is {n : ByteArray} (h : 0 ≤ namedF n) : ∃ i : Nat, namedF n = i ∧ i < 12 ∧ (fixedL.getD i emptyF).1 = n := by
  obtain ⟨i, h1, h2, h3⟩ := where_is h
  refine ⟨i, h1, h2, ?_⟩
  unfold isName at h3
  exact (ba_eq h3).symm

theorem head_of {l : List UInt8} {b : UInt8} {t : List UInt8} (h : l = b :: t) : (l.headD 0).toNat = b.toNat := by rw [h]; rfl

/-- What is told of a field is that field's instruction. -/
theorem instr_back (f : Fl) (r : ByteArray) (hf : mayFl f = true) : instrF (tellF f ++ r) = (f, r, true) := by
  obtain ⟨n, v⟩ := f
  obtain ⟨q0, q1, q2⟩ := (mayFl_iff (n, v)).1 hf
  simp only at q0 q1 q2
  unfold tellF instrF
  simp only
  by_cases hn : 0 ≤ namedF n
  · rw [if_pos hn]
    obtain ⟨i, hi, hi12, hin⟩ := named_is hn
    rw [hi]
    have hb : byt (nF (i : Int) 6 192 ++ tF v 8 0 ++ r) = numberF i 6 192 ++ byt (tF v 8 0 ++ r) := by
      rw [byt_app, byt_app, byt_nF, byt_app, List.append_assoc]
      rfl
    obtain ⟨b, t, e1, e2⟩ := number_head i 6 192 (by omega) (by decide) (by omega) (byt (tF v 8 0 ++ r))
    have hk := known_back i 6 192 (by omega) (by decide) (by omega) hi12 _ _ hb
    rw [hk, hb, head_of e1, e2, if_pos (by simp only [Nat.reducePow]; omega), if_neg (by simp)]
    simp only
    rw [hin, val_back n v r (by omega), hf]
  · rw [if_neg hn]
    have hb : byt (tF n 6 64 ++ tF v 8 0 ++ r) = textB (byt n) 6 64 ++ byt (tF v 8 0 ++ r) := by
      rw [byt_app, byt_app, byt_tF, byt_app, List.append_assoc]
      rfl
    obtain ⟨ht, b, t, e1, m, hm, e2⟩ := take_text (byt n) 6 64 (by omega) (by decide) (by omega) (by rw [byt_length]; omega) (byt (tF v 8 0 ++ r))
    simp only [Nat.reducePow] at hm
    rw [hb, head_of e1, e2, if_neg (by omega), if_pos (by omega), ht]
    simp only
    rw [if_neg (by simp), txt_byt, txt_byt, val_back n v r (by omega), hf]

/-- What is told, from the front on. -/
def tellsF (S : Tbl) : List Fl → ByteArray
  | [] => ⟨#[]⟩
  | f :: L => (comeF S f).2 ++ tellsF (comeF S f).1 L
def tblF (S : Tbl) (L : List Fl) : Tbl := L.foldl (fun S f => (comeF S f).1) S

theorem ba_assoc (a b c : ByteArray) : a ++ b ++ c = a ++ (b ++ c) := byt_inj (by simp only [byt_app, List.append_assoc])
theorem ba_empty_app (a : ByteArray) : (⟨#[]⟩ : ByteArray) ++ a = a := byt_inj (by rw [byt_app]; rfl)
theorem ba_app_empty (a : ByteArray) : a ++ (⟨#[]⟩ : ByteArray) = a := byt_inj (by rw [byt_app]; show byt a ++ [] = byt a; rw [List.append_nil])

theorem fold_told : ∀ (L : List Fl) (S : Tbl) (t : ByteArray) (m : Int), (L.foldl stepW (S, t, m)).1 = tblF S L ∧ (L.foldl stepW (S, t, m)).2.1 = t ++ tellsF S L
  | [], S, t, m => ⟨rfl, (ba_app_empty t).symm⟩
  | f :: L, S, t, m => by
    have h := fold_told L (comeF S f).1 (t ++ (comeF S f).2) (if hasF fixedL f = true then m else max m (idxF (comeF S f).1.l f + 1))
    refine ⟨h.1, ?_⟩
    rw [List.foldl_cons]
    exact h.2.trans (ba_assoc _ _ _)
theorem foldW_tab (S : Tbl) (L : List Fl) : (foldW S L).1 = tblF S L := (fold_told L S _ _).1
theorem foldW_told (S : Tbl) (L : List Fl) : (foldW S L).2.1 = tellsF S L := by rw [show (foldW S L).2.1 = _ from (fold_told L S ⟨#[]⟩ 0).2, ba_empty_app]

theorem comeF_told (S : Tbl) (f : Fl) : ((comeF S f).1 = S ∧ (comeF S f).2 = ⟨#[]⟩) ∨ ((addF S f).2 = true ∧ (comeF S f).1 = (addF S f).1 ∧ (comeF S f).2 = tellF f) := by
  unfold comeF
  by_cases h : hasF fixedL f = true ∨ hasF S.l f = true ∨ (addF S f).2 = false
  · rw [if_pos h]; exact .inl ⟨rfl, rfl⟩
  · rw [if_neg h]
    refine .inr ⟨?_, rfl, rfl⟩
    cases hh : (addF S f).2
    · exact absurd (.inr (.inr hh)) h
    · rfl

theorem tell_pos (f : Fl) : 0 < (tellF f).size := by
  unfold tellF
  split
  · rw [ba_app_size]
    have : 0 < (nF (namedF f.1) 6 192).size := by
      unfold nF
      rw [txt_size]
      obtain ⟨b, t, e, _⟩ := number_head (namedF f.1).toNat 6 192 (by omega) (by decide) (by omega) []
      rw [List.append_nil] at e
      show 0 < (numberF (namedF f.1).toNat 6 192).length
      rw [e]; simp
    omega
  · rw [ba_app_size]
    have : 0 < (tF f.1 6 64).size := by
      unfold tF
      rw [txt_size]
      show 0 < (textB (byt f.1) 6 64).length
      unfold textB
      split
      · rw [List.length_append]
        obtain ⟨b, t, e, _⟩ := number_head (packF (byt f.1)).length 5 96 (by omega) (by decide) (by omega) []
        rw [List.append_nil] at e
        show 0 < (numberF (packF (byt f.1)).length 5 96).length + _
        rw [e, List.length_cons]; omega
      · rw [List.length_append]
        obtain ⟨b, t, e, _⟩ := number_head (byt f.1).length 5 64 (by omega) (by decide) (by omega) []
        rw [List.append_nil] at e
        show 0 < (numberF (byt f.1).length 5 64).length + _
        rw [e, List.length_cons]; omega
    omega

/-- WHAT IS TOLD IS TAKEN. -/
theorem told_back : ∀ (L : List Fl) (S : Tbl) (k : Nat), (∀ f ∈ L, mayFl f = true) → (tellsF S L).size < k → toldF k S (tellsF S L) = (tblF S L, 0)
  | [], S, k, _, hk => by
    obtain ⟨k, rfl⟩ : ∃ k', k = k' + 1 := ⟨k - 1, by omega⟩
    unfold toldF
    rw [if_pos (show (tellsF S []).size = 0 from rfl)]
    rfl
  | f :: L, S, k, hm, hk => by
    have e : tellsF S (f :: L) = (comeF S f).2 ++ tellsF (comeF S f).1 L := rfl
    have et : tblF S (f :: L) = tblF (comeF S f).1 L := rfl
    have hmL : ∀ g ∈ L, mayFl g = true := fun g hg => hm g (List.mem_cons_of_mem _ hg)
    rw [e] at hk
    rw [e, et]
    rcases comeF_told S f with ⟨e1, e2⟩ | ⟨e0, e1, e2⟩
    · rw [e2, ba_empty_app, e1] at hk ⊢
      exact told_back L S k hmL hk
    · rw [e2] at hk ⊢
      rw [ba_app_size] at hk
      have hp := tell_pos f
      obtain ⟨k, rfl⟩ : ∃ k', k = k' + 1 := ⟨k - 1, by omega⟩
      unfold toldF
      rw [if_neg (by rw [ba_app_size]; omega), instr_back f _ (hm f (List.mem_cons_self ..))]
      simp only
      rw [if_neg (by simp), if_neg (by rw [e0]; simp), ← e1]
      exact told_back L _ k hmL (by omega)

theorem fixed_idx {f : Fl} (h : 0 ≤ idxF fixedL f) : ∃ i : Nat, idxF fixedL f = i ∧ i < 12 ∧ fixedL.getD i emptyF = f := by
  obtain ⟨i, h1, h2, h3⟩ := where_is (P := fun g => decide (g = f)) h
  exact ⟨i, h1, h2, of_decide_eq_true h3⟩

/-- A field of a section comes back. -/
theorem one_back (l l' : List Fl) (m : Nat) (f : Fl) (r : ByteArray) (hf : mayFl f = true) (hm : m ≤ 5000) (hl : l.take m = l'.take m) (hi : idxF fixedL f < 0 → idxF l f < (m : Int)) :
    rOneF l' m (oneF l m f ++ r) = (f, r, true) := by
  obtain ⟨n, v⟩ := f
  obtain ⟨q0, q1, q2⟩ := (mayFl_iff (n, v)).1 hf
  simp only at q0 q1 q2
  unfold oneF
  by_cases h1 : 0 ≤ idxF fixedL (n, v)
  · rw [if_pos h1]
    obtain ⟨i, hi1, hi2, hi3⟩ := fixed_idx h1
    rw [hi1]
    have hb : byt (nF (i : Int) 6 192 ++ r) = numberF i 6 192 ++ byt r := by rw [byt_app, byt_nF]; rfl
    obtain ⟨b, t, e1, e2⟩ := number_head i 6 192 (by omega) (by decide) (by omega) (byt r)
    have hk := known_back i 6 192 (by omega) (by decide) (by omega) hi2 _ _ hb
    unfold rOneF
    rw [hb, head_of e1, e2, if_pos (by simp only [Nat.reducePow]; omega), hk, hi3]
  · rw [if_neg h1]
    have hlt := hi (by omega)
    by_cases h2 : 0 ≤ idxF l (n, v)
    · rw [if_pos h2]
      rcases idx_spec l (n, v) with ⟨e, _⟩ | ⟨i, e, hli, _⟩
      · omega
      · rw [e] at hlt ⊢
        have him : i < m := by omega
        have hb : byt (nF ((m : Int) - 1 - i) 6 128 ++ r) = numberF (m - 1 - i) 6 128 ++ byt r := by
          rw [byt_app, byt_nF]
          have : ((m : Int) - 1 - i).toNat = m - 1 - i := by omega
          rw [this]
          rfl
        obtain ⟨b, t, e1, e2⟩ := number_head (m - 1 - i) 6 128 (by omega) (by decide) (by omega) (byt r)
        have hk := take_number (m - 1 - i) 6 128 (by omega) (by decide) (by omega) (by omega) (byt r)
        have hli' : l'[i]? = some (n, v) := by
          have h3 : (l.take m)[i]? = (l'.take m)[i]? := by rw [hl]
          rw [List.getElem?_take_of_lt him, List.getElem?_take_of_lt him] at h3
          rw [← h3]
          exact hli
        unfold rOneF
        rw [hb, head_of e1, e2, if_neg (by simp only [Nat.reducePow]; omega), if_pos (by simp only [Nat.reducePow]; omega), hk]
        simp only
        rw [if_neg (by simp; omega), show m - 1 - (m - 1 - i) = i by omega, List.getD_eq_getElem?_getD, hli', txt_byt]
        rfl
    · rw [if_neg h2]
      by_cases h3 : 0 ≤ namedF n
      · rw [if_pos h3]
        obtain ⟨i, hi1, hi12, hin⟩ := named_is h3
        rw [hi1]
        have hb : byt (nF (i : Int) 4 80 ++ tF v 8 0 ++ r) = numberF i 4 80 ++ byt (tF v 8 0 ++ r) := by
          rw [byt_app, byt_app, byt_nF, byt_app, List.append_assoc]
          rfl
        obtain ⟨b, t, e1, e2⟩ := number_head i 4 80 (by omega) (by decide) (by omega) (byt (tF v 8 0 ++ r))
        have hk := known_back i 4 80 (by omega) (by decide) (by omega) hi12 _ _ hb
        unfold rOneF
        rw [hk, hb, head_of e1, e2, if_neg (by simp only [Nat.reducePow]; omega), if_neg (by simp only [Nat.reducePow]; omega), if_pos (by simp only [Nat.reducePow]; omega), if_neg (by simp)]
        simp only
        rw [hin, val_back n v r (by omega), hf]
      · rw [if_neg h3]
        have hb : byt (tF n 4 32 ++ tF v 8 0 ++ r) = textB (byt n) 4 32 ++ byt (tF v 8 0 ++ r) := by
          rw [byt_app, byt_app, byt_tF, byt_app, List.append_assoc]
          rfl
        obtain ⟨ht, b, t, e1, m', hm', e2⟩ := take_text (byt n) 4 32 (by omega) (by decide) (by omega) (by rw [byt_length]; omega) (byt (tF v 8 0 ++ r))
        simp only [Nat.reducePow] at hm'
        unfold rOneF
        rw [hb, head_of e1, e2, if_neg (by omega), if_neg (by omega), if_neg (by omega), if_pos (by omega), ht]
        simp only
        rw [if_neg (by simp), txt_byt, txt_byt, val_back n v r (by omega), hf]

/-- A section's fields, from the front on. -/
def onesF (l : List Fl) (m : Int) : List Fl → ByteArray
  | [] => ⟨#[]⟩
  | f :: L => oneF l m f ++ onesF l m L
theorem fold_ones (l : List Fl) (m : Int) : ∀ (L : List Fl) (a : ByteArray), L.foldl (fun a f => a ++ oneF l m f) a = a ++ onesF l m L
  | [], a => (ba_app_empty a).symm
  | f :: L, a => by
    rw [List.foldl_cons, fold_ones l m L]
    exact ba_assoc _ _ _

theorem one_pos (l : List Fl) (m : Int) (f : Fl) : 0 < (oneF l m f).size := by
  have hnum : ∀ n k h : Int, 1 ≤ k ∧ k ≤ 8 → h.toNat % 2 ^ k.toNat = 0 → h.toNat < 256 → 0 < (nF n k h).size := by
    intro n k h hk hz h8
    unfold nF
    rw [txt_size]
    obtain ⟨b, t, e, _⟩ := number_head n.toNat k.toNat h.toNat (by omega) hz h8 []
    rw [List.append_nil] at e
    rw [e, List.length_cons]; omega
  unfold oneF
  split
  · exact hnum _ _ _ (by omega) (by decide) (by decide)
  · split
    · exact hnum _ _ _ (by omega) (by decide) (by decide)
    · split
      · rw [ba_app_size]
        have := hnum (namedF f.1) 4 80 (by omega) (by decide) (by decide)
        omega
      · rw [ba_app_size]
        have : 0 < (tF f.1 4 32).size := by
          unfold tF
          rw [txt_size]
          show 0 < (textB (byt f.1) 4 32).length
          unfold textB
          split
          · rw [List.length_append]
            obtain ⟨b, t, e, _⟩ := number_head (packF (byt f.1)).length 3 40 (by omega) (by decide) (by omega) []
            rw [List.append_nil] at e
            show 0 < (numberF (packF (byt f.1)).length 3 40).length + _
            rw [e, List.length_cons]; omega
          · rw [List.length_append]
            obtain ⟨b, t, e, _⟩ := number_head (byt f.1).length 3 32 (by omega) (by decide) (by omega) []
            rw [List.append_nil] at e
            show 0 < (numberF (byt f.1).length 3 32).length + _
            rw [e, List.length_cons]; omega
        omega

theorem ones_back (l l' : List Fl) (m : Nat) (hm : m ≤ 5000) (hl : l.take m = l'.take m) : ∀ (L out : List Fl) (k : Nat), (∀ f ∈ L, mayFl f = true ∧ (idxF fixedL f < 0 → idxF l f < (m : Int))) → (onesF l m L).size < k → out.length + L.length ≤ 100 →
    readL k l' m (onesF l m L) out = (out ++ L, 0)
  | [], out, k, _, hk, _ => by
    obtain ⟨k, rfl⟩ : ∃ k', k = k' + 1 := ⟨k - 1, by omega⟩
    unfold readL
    rw [if_pos (show (onesF l m []).size = 0 from rfl), List.append_nil]
  | f :: L, out, k, hf, hk, ho => by
    have e : onesF l m (f :: L) = oneF l m f ++ onesF l m L := rfl
    rw [e, ba_app_size] at hk
    rw [List.length_cons] at ho
    have hp := one_pos l m f
    obtain ⟨k, rfl⟩ : ∃ k', k = k' + 1 := ⟨k - 1, by omega⟩
    obtain ⟨h1, h2⟩ := hf f (List.mem_cons_self ..)
    rw [e]
    unfold readL
    rw [if_neg (by rw [ba_app_size]; omega), one_back l l' m f _ h1 hm hl h2]
    simp only
    rw [if_neg (by simp; omega), ones_back l l' m hm hl L (out ++ [f]) k (fun g hg => hf g (List.mem_cons_of_mem _ hg)) (by omega) (by rw [List.length_append, List.length_singleton]; omega), List.append_assoc]
    rfl

/-- WHAT IS WRITTEN IS READ, by who was told as much; who wasn't waits. -/
theorem sec_back (l l' : List Fl) (m : Nat) (hm : m ≤ 5000) (L : List Fl) (hf : ∀ f ∈ L, mayFl f = true ∧ (idxF fixedL f < 0 → idxF l f < (m : Int))) (hL : L.length ≤ 100) :
    readF l' (secF l m L) = if l'.length < m then ([], 13) else if l.take m = l'.take m then (L, 0) else readF l' (secF l m L) := by
  have hb : byt (secF l m L) = numberF m 8 0 ++ (0 :: byt (onesF l m L)) := by
    unfold secF
    rw [fold_ones, byt_app, byt_app, byt_nF, List.append_assoc]
    rfl
  have ht := take_number m 8 0 (by omega) (by decide) (by omega) (by omega) (0 :: byt (onesF l m L))
  by_cases h1 : l'.length < m
  · rw [if_pos h1]
    unfold readF
    rw [hb, ht]
    simp only
    rw [if_neg (by simp), if_pos h1]
  · rw [if_neg h1]
    by_cases h2 : l.take m = l'.take m
    · rw [if_pos h2]
      unfold readF
      rw [hb, ht]
      simp only
      rw [if_neg (by simp), if_neg h1, if_pos (by decide), txt_byt]
      rw [ones_back l l' m hm h2 L [] _ hf (by rw [byt_length]; omega) (by simpa using hL)]
      rfl
    · rw [if_neg h2]

end Go.Proofs.Ytgnoiheekgmleaa

/- fields: lists of fields, as they come in; the law's large. -/
namespace Go.Proofs.Ytgnoiheekgmleaa
open Go.ChangeShapes Go.WideShapes Go.RowKit
set_option linter.unusedVariables false
set_option linter.unusedSimpArgs false

section
variable {H : Type} {enc : TypeId × Value → H} {w : World} {base : Nat} {spare : Nat → Bool} {held : Bool}

/-- Fields that came in: they lie in the slice; each text is no longer than may be. -/
def InFl (w : World) (p : Option Addr) (L : List Fl) : Prop := FV w p L ∧ (∀ f ∈ L, f.1.size ≤ maxLen ∧ f.2.size ≤ maxLen) ∧ L.length ≤ maxLen ∧ ∀ g o, 0 < L.length → p = some ⟨g, o, none⟩ → g < w.heap.size

theorem InFl.below {w w' : World} {p : Option Addr} {L : List Fl} (h : InFl w p L) (hb : Below w.heap.size w w') : InFl w' p L :=
  ⟨h.1.below hb, h.2.1, h.2.2.1, fun g o hl e => Nat.lt_of_lt_of_le (h.2.2.2 g o hl e) hb.size⟩

theorem fields_view {a : Option Addr} {len cap : Nat} {fuel : Nat} {x : DataW H × List MemPlace} (h : DataW.trod enc Try.prog w base spare held fuel 29 [.slice a len cap] = some x) :
    ∃ L : List Fl, L.length = len ∧ InFl w a L := by
  obtain ⟨hm, hv⟩ := rows_view (C := 2) Try.underlying29 (by kernel_rfl) (by omega) h
  rcases Nat.eq_zero_or_pos len with h0 | h0
  · subst h0
    exact ⟨[], rfl, fun h => by simp at h, fun f hf => (by cases hf), Nat.zero_le _, fun g o h => by simp at h⟩
  · obtain ⟨g, o, n, rfl, hg, hi⟩ := hv h0
    obtain ⟨L, hl, hp⟩ := list_of (α := Fl) (p := fun i f => (w.cell? ⟨g, o + i * 2, none⟩ = some (.string f.1) ∧ w.cell? ⟨g, o + i * 2 + 1, none⟩ = some (.string f.2)) ∧ f.1.size ≤ maxLen ∧ f.2.size ≤ maxLen) (n := len) (by
      intro i hil
      obtain ⟨cs, y, h1, h2, h3⟩ := hi i hil
      match cs, h1 with
      | [c0, c1], _ =>
        obtain ⟨_, _, z0⟩ := field_one Try.underlying66 h3 0 _ c0 rfl rfl (by kernel_rfl) rfl
        obtain ⟨_, _, z1⟩ := field_one Try.underlying66 h3 1 _ c1 rfl rfl (by kernel_rfl) rfl
        obtain ⟨s0, e0, _, f0⟩ := DataW.trod_string Try.underlying9 z0
        obtain ⟨s1, e1, _, f1⟩ := DataW.trod_string Try.underlying9 z1
        simp at e0 e1
        subst e0
        subst e1
        exact ⟨(s0, s1), ⟨h2 0 _ rfl, h2 1 _ rfl⟩, f0, f1⟩)
    refine ⟨L, hl, fun _ => ⟨g, o, rfl, hg, fun i f hf => (hp i f hf).1⟩, fun f hf => ?_, by rw [hl]; exact hm, fun g' o' _ e => ?_⟩
    · obtain ⟨i, hi', rfl⟩ := List.getElem_of_mem hf
      exact (hp i _ (List.getElem?_eq_getElem hi')).2
    · injection e with e
      injection e with e1 e2
      subst e1
      exact hg
end

def flSum (L : List Fl) : Nat := (L.map fun f => f.1.size + f.2.size).sum
theorem flSum_snoc (L : List Fl) (f : Fl) : flSum (L ++ [f]) = flSum L + (f.1.size + f.2.size) := by
  unfold flSum
  rw [List.map_append, List.sum_append]
  simp
/-- A list that isn't large. -/
def Small (L : List Fl) : Prop := L.length ≤ 110 ∧ (∀ f ∈ L, f.1.size ≤ 150 ∧ f.2.size ≤ 250) ∧ flSum L ≤ 3000

theorem flSum_le : ∀ (L : List Fl), (∀ f ∈ L, f.1.size ≤ 150 ∧ f.2.size ≤ 250) → flSum L ≤ 400 * L.length
  | [], _ => Nat.zero_le _
  | f :: L, h => by
    have h1 := h f (List.mem_cons_self ..)
    have h2 := flSum_le L (fun g hg => h g (List.mem_cons_of_mem _ hg))
    have e : flSum (f :: L) = (f.1.size + f.2.size) + flSum L := by unfold flSum; simp
    rw [e, List.length_cons]
    omega

end Go.Proofs.Ytgnoiheekgmleaa

/- fields: what a table was told is told by its place; sizes: plain. -/
namespace Go.Proofs.Ytgnoiheekgmleaa
open Go.ChangeShapes Go.WideShapes Go.RowKit
set_option linter.unusedVariables false
set_option linter.unusedSimpArgs false

/-- A list that is written. -/
def WOk (L : List Fl) : Prop := L.length ≤ 100 ∧ ∀ f ∈ L, mayFl f = true

theorem where_none_all {L : List Fl} (h : ¬ 0 ≤ whereF L (fun f => !mayFl f)) : ∀ f ∈ L, mayFl f = true := by
  intro f hf
  obtain ⟨i, hi, rfl⟩ := List.getElem_of_mem hf
  have := where_neg h i _ (List.getElem?_eq_getElem hi)
  simpa using this
theorem where_all2 {L : List Fl} (h : ∀ f ∈ L, mayFl f = true) : ¬ 0 ≤ whereF L (fun f => !mayFl f) := by
  intro h0
  obtain ⟨i, _, hi, hp⟩ := where_is h0
  have hm : L.getD i emptyF ∈ L := by
    rw [List.getD_eq_getElem?_getD, List.getElem?_eq_getElem hi]
    exact List.getElem_mem hi
  rw [h _ hm] at hp
  cases hp

theorem write_ok {S : Tbl} {L : List Fl} (h : WOk L) : writeF S L = ((foldW S L).1, (foldW S L).2.1, secF (foldW S L).1.l (foldW S L).2.2 L, 0) := by
  unfold writeF
  rw [if_neg (by have := h.1; omega), if_neg (where_all2 h.2)]
theorem write_bad {S : Tbl} {L : List Fl} (h : ¬ WOk L) : ∃ E : Int, writeF S L = (S, ⟨#[]⟩, ⟨#[]⟩, E) ∧ (E = 4 ∨ E = 2) := by
  unfold writeF
  by_cases h1 : 100 < L.length
  · exact ⟨4, by rw [if_pos h1], .inl rfl⟩
  · by_cases h2 : 0 ≤ whereF L (fun f => !mayFl f)
    · exact ⟨2, by rw [if_neg h1, if_pos h2], .inr rfl⟩
    · exact absurd ⟨by omega, where_none_all h2⟩ h

theorem fold_inv {S : Tbl} (h : S.Ok) (L : List Fl) : InvW S L (foldW S L) := by
  have := InvW.fold h L L.length (Nat.le_refl _)
  rw [List.take_length] at this
  exact this

theorem again_come {S0 : Tbl} {L : List Fl} {st : Tbl × ByteArray × Int} (h : InvW S0 L st) : ∀ f ∈ L, comeF st.1 f = (st.1, ⟨#[]⟩) := by
  intro f hf
  unfold comeF
  by_cases h1 : f ∈ fixedL
  · rw [if_pos (.inl ((has_iff _ _).2 h1))]
  · by_cases h2 : f ∈ st.1.l
    · rw [if_pos (.inr (.inl ((has_iff _ _).2 h2)))]
    · have h3 := (h.2.2.2.2.2 f hf h1).2 h2
      have h4 : (addF st.1 f).2 = false := by unfold addF; rw [if_pos h3]
      rw [if_pos (.inr (.inr h4))]

def ndF (l : List Fl) (L : List Fl) (m : Int) : Int := L.foldl (fun m f => if hasF fixedL f = true then m else max m (idxF l f + 1)) m
theorem fold_same (S : Tbl) : ∀ (L : List Fl) (t : ByteArray) (m : Int), (∀ f ∈ L, comeF S f = (S, ⟨#[]⟩)) → L.foldl stepW (S, t, m) = (S, t, ndF S.l L m)
  | [], t, m, _ => rfl
  | f :: L, t, m, h => by
    have hf := h f (List.mem_cons_self ..)
    have e : stepW (S, t, m) f = (S, t, if hasF fixedL f = true then m else max m (idxF S.l f + 1)) := by
      unfold stepW
      simp only [hf]
      rw [ba_app_empty]
    rw [List.foldl_cons, e, fold_same S L t _ (fun g hg => h g (List.mem_cons_of_mem _ hg))]
    rfl
theorem nd_le (l : List Fl) (M : Int) : ∀ (L : List Fl) (m : Int), m ≤ M → (∀ f ∈ L, f ∉ fixedL → idxF l f < M) → ndF l L m ≤ M
  | [], m, h, _ => h
  | f :: L, m, h, hf => by
    have e : ndF l (f :: L) m = ndF l L (if hasF fixedL f = true then m else max m (idxF l f + 1)) := rfl
    rw [e]
    refine nd_le l M L _ ?_ (fun g hg => hf g (List.mem_cons_of_mem _ hg))
    by_cases h1 : hasF fixedL f = true
    · rw [if_pos h1]; exact h
    · rw [if_neg h1]
      have := hf f (List.mem_cons_self ..) (fun hm => h1 ((has_iff _ _).2 hm))
      omega
theorem nd_ge (l : List Fl) : ∀ (L : List Fl) (m : Int), m ≤ ndF l L m ∧ ∀ f ∈ L, f ∉ fixedL → idxF l f + 1 ≤ ndF l L m
  | [], m => ⟨Int.le_refl _, fun f hf => by cases hf⟩
  | f :: L, m => by
    have e : ndF l (f :: L) m = ndF l L (if hasF fixedL f = true then m else max m (idxF l f + 1)) := rfl
    rw [e]
    obtain ⟨h1, h2⟩ := nd_ge l L (if hasF fixedL f = true then m else max m (idxF l f + 1))
    refine ⟨?_, fun g hg hgf => ?_⟩
    · by_cases hc : hasF fixedL f = true
      · rw [if_pos hc] at h1 ⊢; exact h1
      · rw [if_neg hc] at h1 ⊢; omega
    · rcases List.mem_cons.1 hg with rfl | hg
      · have hn : ¬ hasF fixedL g = true := fun hm => hgf ((has_iff _ _).1 hm)
        rw [if_neg hn] at h1 ⊢
        omega
      · exact h2 g hg hgf

/-- What is needed stands in the list. -/
def InvM (done : List Fl) (st : Tbl × ByteArray × Int) : Prop := 0 ≤ st.2.2 ∧ (st.2.2 = 0 ∨ ∃ f ∈ done, f ∉ fixedL ∧ f ∈ st.1.l ∧ idxF st.1.l f + 1 = st.2.2)
theorem InvM.step {done : List Fl} {st : Tbl × ByteArray × Int} (h : InvM done st) (g : Fl) : InvM (done ++ [g]) (stepW st g) := by
  obtain ⟨S, told, m⟩ := st
  obtain ⟨h0, h1⟩ := h
  simp only at h0 h1
  unfold stepW
  have hkeep : ∀ f, f ∈ S.l → f ∈ (comeF S g).1.l ∧ idxF (comeF S g).1.l f = idxF S.l f := by
    intro f hf
    rcases comeF_cases S g with ⟨e, _⟩ | ⟨_, _, _, e⟩
    · rw [e]; exact ⟨hf, rfl⟩
    · rw [e]; exact ⟨List.mem_append_left _ hf, idx_app hf _⟩
  have hold : m = 0 ∨ ∃ f ∈ done ++ [g], f ∉ fixedL ∧ f ∈ (comeF S g).1.l ∧ idxF (comeF S g).1.l f + 1 = m := by
    rcases h1 with h1 | ⟨f, hf, hx, hl, he⟩
    · exact .inl h1
    · obtain ⟨k1, k2⟩ := hkeep f hl
      exact .inr ⟨f, List.mem_append_left _ hf, hx, k1, by rw [k2]; exact he⟩
  unfold InvM
  simp only
  by_cases hx : hasF fixedL g = true
  · rw [if_pos hx]
    exact ⟨h0, hold⟩
  · rw [if_neg hx]
    refine ⟨by omega, ?_⟩
    by_cases hm : idxF (comeF S g).1.l g + 1 ≤ m
    · rw [Int.max_eq_left hm]
      exact hold
    · rw [Int.max_eq_right (by omega)]
      refine .inr ⟨g, List.mem_append_right _ (List.mem_singleton.2 rfl), fun hm => hx ((has_iff _ _).2 hm), ?_, rfl⟩
      rw [← has_iff]
      unfold hasF
      exact decide_eq_true (by omega)
theorem InvM.fold (S : Tbl) (L : List Fl) : ∀ j, j ≤ L.length → InvM (L.take j) (foldW S (L.take j))
  | 0, _ => ⟨Int.le_refl _, .inl rfl⟩
  | j + 1, hj => by
    have hg : L[j]? = some (L[j]'(by omega)) := List.getElem?_eq_getElem (by omega)
    rw [foldW_succ S L j _ hg, List.take_add_one, hg, Option.toList_some]
    exact (InvM.fold S L j (by omega)).step _

/-- WHAT A TABLE WAS TOLD IS TOLD BY ITS PLACE: a list that is written again tells nothing, and is the same section. -/
theorem fold_again {S : Tbl} (hS : S.Ok) (L : List Fl) : foldW (foldW S L).1 L = ((foldW S L).1, ⟨#[]⟩, (foldW S L).2.2) := by
  have hi := fold_inv hS L
  have hm := InvM.fold S L L.length (Nat.le_refl _)
  rw [List.take_length] at hm
  have hc := again_come hi
  have e : foldW (foldW S L).1 L = ((foldW S L).1, ⟨#[]⟩, ndF (foldW S L).1.l L 0) := fold_same _ L _ _ hc
  rw [e]
  have h1 := nd_le (foldW S L).1.l (foldW S L).2.2 L 0 hi.2.1 (fun f hf hx => (hi.2.2.2.2.2 f hf hx).1)
  obtain ⟨h2, h3⟩ := nd_ge (foldW S L).1.l L 0
  have h4 : (foldW S L).2.2 ≤ ndF (foldW S L).1.l L 0 := by
    rcases hm.2 with h | ⟨f, hf, hx, _, he⟩
    · rw [h]; exact h2
    · rw [← he]; exact h3 f hf hx
  rw [Int.le_antisymm h1 h4]

theorem again_write {S : Tbl} (hS : S.Ok) {L : List Fl} (h : WOk L) : writeF (foldW S L).1 L = ((foldW S L).1, ⟨#[]⟩, secF (foldW S L).1.l (foldW S L).2.2 L, 0) := by
  rw [write_ok h, fold_again hS L]

theorem numberF_pos (n k h : Nat) : 1 ≤ (numberF n k h).length := by unfold numberF; split <;> simp
theorem nF_pos (n k h : Int) : 1 ≤ (nF n k h).size := by unfold nF; rw [txt_size]; exact numberF_pos _ _ _
theorem tF_pos (s : ByteArray) (k h : Int) : 1 ≤ (tF s k h).size := by
  unfold tF
  rw [txt_size]
  unfold textB
  split
  · rw [List.length_append]; have := numberF_pos (packF (byt s)).length (k.toNat - 1) (h.toNat ||| 2 ^ (k.toNat - 1)); omega
  · rw [List.length_append]; have := numberF_pos (byt s).length (k.toNat - 1) h.toNat; omega
theorem nF_two (n : Int) (hn : 0 ≤ n ∧ n ≤ 127) : (nF n 6 128).size ≤ 2 := by
  unfold nF
  rw [txt_size]
  show (numberF n.toNat 6 128).length ≤ 2
  unfold numberF
  split
  · simp
  · rw [List.length_cons, tailF_small _ (by simp only [Nat.reducePow]; omega)]
    simp

theorem one_le (l : List Fl) (m : Int) (f : Fl) (hm : 0 ≤ m ∧ m ≤ 100) (hi : idxF fixedL f < 0 → idxF l f < m) : (oneF l m f).size ≤ (oneF [] 0 f).size := by
  unfold oneF
  by_cases h1 : 0 ≤ idxF fixedL f
  · rw [if_pos h1, if_pos h1]
    exact Nat.le_refl _
  · have hlt := hi (by omega)
    have h0 : idxF [] f = -1 := idx_neg (by simp)
    rw [if_neg h1, if_neg h1, h0, if_neg (show ¬ (0 : Int) ≤ -1 by omega)]
    by_cases h2 : 0 ≤ idxF l f
    · rw [if_pos h2]
      have := nF_two (m - 1 - idxF l f) (by omega)
      have := nF_pos (namedF f.1) 4 80
      have := tF_pos f.1 4 32
      have := tF_pos f.2 8 0
      split <;> rw [ba_app_size] <;> omega
    · rw [if_neg h2]
      exact Nat.le_refl _
theorem ones_le (l : List Fl) (m : Int) (hm : 0 ≤ m ∧ m ≤ 100) : ∀ (L : List Fl), (∀ f ∈ L, idxF fixedL f < 0 → idxF l f < m) → (onesF l m L).size ≤ (onesF [] 0 L).size
  | [], _ => Nat.le_refl _
  | f :: L, h => by
    have e1 : onesF l m (f :: L) = oneF l m f ++ onesF l m L := rfl
    have e2 : onesF [] 0 (f :: L) = oneF [] 0 f ++ onesF [] 0 L := rfl
    rw [e1, e2, ba_app_size, ba_app_size]
    have := one_le l m f hm (h f (List.mem_cons_self ..))
    have := ones_le l m hm L (fun g hg => h g (List.mem_cons_of_mem _ hg))
    omega

theorem nF8_one (m : Int) (hm : 0 ≤ m ∧ m ≤ 100) : (nF m 8 0).size = 1 := by
  unfold nF
  rw [txt_size]
  show (numberF m.toNat 8 0).length = 1
  unfold numberF
  rw [if_pos (by simp only [Nat.reducePow]; omega)]
  rfl
theorem sec_size (l : List Fl) (m : Int) (L : List Fl) (hm : 0 ≤ m ∧ m ≤ 100) : (secF l m L).size = 2 + (onesF l m L).size := by
  unfold secF
  rw [fold_ones, ba_app_size, ba_app_size, nF8_one m hm]
  have e : (⟨#[0]⟩ : ByteArray).size = 1 := rfl
  omega

theorem not_fixed {f : Fl} (h : idxF fixedL f < 0) : f ∉ fixedL := by
  intro hm
  have := (has_iff fixedL f).2 hm
  unfold hasF at this
  have := of_decide_eq_true this
  omega

/-- Facts of a list that was written to a table of its own. -/
theorem wrote {S : Tbl} (hS : S.Ok) {L : List Fl} (h : WOk L) : 0 ≤ (foldW S L).2.2 ∧ (foldW S L).2.2 ≤ ((foldW S L).1.l.length : Int) ∧ ∀ f ∈ L, idxF fixedL f < 0 → idxF (foldW S L).1.l f < (foldW S L).2.2 := by
  have hi := fold_inv hS L
  exact ⟨hi.2.1, hi.2.2.1, fun f hf hx => (hi.2.2.2.2.2 f hf (not_fixed hx)).1⟩

theorem again_size (most : Nat) {L : List Fl} (h : WOk L) (hS : (⟨[], most, 0⟩ : Tbl).Ok) : (secF (foldW ⟨[], most, 0⟩ L).1.l (foldW ⟨[], most, 0⟩ L).2.2 L).size ≤ (secF (foldW ⟨[], 0, 0⟩ L).1.l (foldW ⟨[], 0, 0⟩ L).2.2 L).size := by
  have hi := fold_inv hS L
  obtain ⟨q1, q2, q3⟩ := wrote hS h
  obtain ⟨M, hM, hML⟩ := hi.2.2.2.2.1
  have hl : (foldW ⟨[], most, 0⟩ L).1.l.length ≤ 100 := by
    rw [hM, List.length_append]
    have := h.1
    show [].length + M.length ≤ 100
    simp
    omega
  have hc : ∀ f, comeF ⟨[], 0, 0⟩ f = (⟨[], 0, 0⟩, ⟨#[]⟩) := by
    intro f
    unfold comeF
    have h4 : (addF ⟨[], 0, 0⟩ f).2 = false := by unfold addF weigh; rw [if_pos (by show 0 < 0 + _; omega)]
    rw [if_pos (.inr (.inr h4))]
  have e : foldW ⟨[], 0, 0⟩ L = (⟨[], 0, 0⟩, ⟨#[]⟩, ndF [] L 0) := fold_same _ L _ _ (fun f _ => hc f)
  have h0 : ndF [] L 0 = 0 := by
    refine Int.le_antisymm (nd_le [] 0 L 0 (Int.le_refl _) (fun f _ _ => ?_)) (nd_ge [] L 0).1
    rw [idx_neg (by simp)]
    omega
  rw [e, h0]
  show _ ≤ (secF [] 0 L).size
  rw [sec_size _ _ _ (by omega), sec_size _ _ _ (by omega)]
  have := ones_le (foldW ⟨[], most, 0⟩ L).1.l (foldW ⟨[], most, 0⟩ L).2.2 (by omega) L q3
  omega

theorem come_size (S : Tbl) (f : Fl) (h1 : f.1.size ≤ 5000) (h2 : f.2.size ≤ 5000) : (comeF S f).2.size ≤ f.1.size + f.2.size + 6 := by
  unfold comeF
  split
  · show (0 : Nat) ≤ _; omega
  · show (tellF f).size ≤ _
    unfold tellF
    obtain ⟨m1, m2⟩ := named_rng f.1
    have := tF_size f.2 8 0 (by omega) h2
    have := tF_size f.1 6 64 (by omega) h1
    split
    · have := nF_size (namedF f.1) 6 192 (by omega) (by omega)
      rw [ba_app_size]; omega
    · rw [ba_app_size]; omega
theorem one_size (l : List Fl) (m : Int) (f : Fl) (h1 : f.1.size ≤ 5000) (h2 : f.2.size ≤ 5000) (hm : 0 ≤ m ∧ m ≤ 5000) (hi : idxF fixedL f < 0 → idxF l f < m) : (oneF l m f).size ≤ f.1.size + f.2.size + 6 := by
  unfold oneF
  obtain ⟨m1, m2⟩ := named_rng f.1
  have hr := idx_rng fixedL f
  have hfl : (fixedL.length : Int) = 12 := rfl
  have := tF_size f.2 8 0 (by omega) h2
  have := tF_size f.1 4 32 (by omega) h1
  split
  · have := nF_size (idxF fixedL f) 6 192 (by omega) (by omega); omega
  · have := hi (by omega)
    split
    · have := nF_size (m - 1 - idxF l f) 6 128 (by omega) (by omega); omega
    · split
      · have := nF_size (namedF f.1) 4 80 (by omega) (by omega)
        rw [ba_app_size]; omega
      · rw [ba_app_size]; omega
theorem flSum_cons (f : Fl) (L : List Fl) : flSum (f :: L) = f.1.size + f.2.size + flSum L := by unfold flSum; simp
theorem tells_size : ∀ (L : List Fl) (S : Tbl), (∀ f ∈ L, mayFl f = true) → (tellsF S L).size ≤ flSum L + 6 * L.length
  | [], S, _ => Nat.zero_le _
  | f :: L, S, h => by
    have e : tellsF S (f :: L) = (comeF S f).2 ++ tellsF (comeF S f).1 L := rfl
    obtain ⟨_, q1, q2⟩ := (mayFl_iff f).1 (h f (List.mem_cons_self ..))
    have := come_size S f (by omega) (by omega)
    have := tells_size L (comeF S f).1 (fun g hg => h g (List.mem_cons_of_mem _ hg))
    rw [e, ba_app_size, flSum_cons, List.length_cons]
    omega
theorem ones_size (l : List Fl) (m : Int) (hm : 0 ≤ m ∧ m ≤ 5000) : ∀ (L : List Fl), (∀ f ∈ L, mayFl f = true ∧ (idxF fixedL f < 0 → idxF l f < m)) → (onesF l m L).size ≤ flSum L + 6 * L.length
  | [], _ => Nat.zero_le _
  | f :: L, h => by
    have e : onesF l m (f :: L) = oneF l m f ++ onesF l m L := rfl
    obtain ⟨h1, h2⟩ := h f (List.mem_cons_self ..)
    obtain ⟨_, q1, q2⟩ := (mayFl_iff f).1 h1
    have := one_size l m f (by omega) (by omega) hm h2
    have := ones_size l m hm L (fun g hg => h g (List.mem_cons_of_mem _ hg))
    rw [e, ba_app_size, flSum_cons, List.length_cons]
    omega
/-- What is told, and a section, are no longer than may be read. -/
theorem sizes {S : Tbl} (hS : S.Ok) {L : List Fl} (h : WOk L) (hs : Small L) : (foldW S L).2.1.size ≤ 3600 ∧ (secF (foldW S L).1.l (foldW S L).2.2 L).size ≤ 3604 := by
  have hi := fold_inv hS L
  obtain ⟨q1, q2, q3⟩ := wrote hS h
  have hok := hi.1
  have hml : (foldW S L).2.2 ≤ 5000 := by have := hok.2.1; have := hok.2.2; omega
  have h1 := tells_size L S h.2
  have h2 := ones_size (foldW S L).1.l (foldW S L).2.2 ⟨q1, hml⟩ L (fun f hf => ⟨h.2 f hf, q3 f hf⟩)
  have h3 := h.1
  have h4 := hs.2.2
  rw [foldW_told]
  refine ⟨by omega, ?_⟩
  unfold secF
  rw [fold_ones, ba_app_size, ba_app_size]
  have := nF_size (foldW S L).2.2 8 0 (by omega) (by omega)
  have e : (⟨#[0]⟩ : ByteArray).size = 1 := rfl
  omega

end Go.Proofs.Ytgnoiheekgmleaa
