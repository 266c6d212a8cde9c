/- ranges: the law RangesOrder, walked. Printed by wip/tools. -/
import Derived.Test.YtcpkpofmapjgdaaPf
import Derived.StillTailTactics
namespace Go.Proofs.Ytcpkpofmapjgdaa
open Go.ChangeShapes Go.WideShapes Go.RowKit
set_option linter.unusedVariables false

theorem add_twice {L : List Rg} (h : OkR L) (hn : L.length ≤ 200) (a b : Nat) : addR (addR L a b) a b = addR L a b := by
  obtain ⟨s1, s2, s3, s4, s5⟩ := add_spec h a b
  obtain ⟨h1, h2⟩ := addR_ok h hn a b
  rcases s5 with e | e | e
  · obtain ⟨t1, t2, t3, t4⟩ := s1 e
    obtain ⟨u1, u2, u3, u4, u5⟩ := add_spec h1 a b
    rcases u5 with f | f | f
    · obtain ⟨x1, x2, x3, x4⟩ := u1 f
      refine same_set _ _ _ (addR_ok h1 h2 a b).1 h1 (fun n => ?_)
      rw [x4, t4]
      constructor
      · rintro (h | h)
        · exact .inl h
        · exact h
      · intro h; exact .inr h
    · exact u2 (by omega)
    · exact u2 (by omega)
  · rw [s2 (by omega)]
    exact s2 (by omega)
  · rw [s2 (by omega)]
    exact s2 (by omega)
theorem add_has {L : List Rg} (h : OkR L) (hn : L.length < 200) (a b n : Nat) : hasR (addR L a b) n ↔ (a ≤ b ∧ b ≤ 4611686018427387903 ∧ a ≤ n ∧ n ≤ b) ∨ hasR L n := by
  obtain ⟨s1, s2, s3, s4, s5⟩ := add_spec h a b
  rcases s5 with e | e | e
  · obtain ⟨t1, t2, t3, t4⟩ := s1 e
    rw [t4]
    constructor
    · rintro (h | h)
      · exact .inl ⟨t1, t2, h⟩
      · exact .inr h
    · rintro (h | h)
      · exact .inl h.2.2
      · exact .inr h
  · rw [s2 (by omega)]
    have := s3.1 e
    constructor
    · intro h; exact .inr h
    · rintro (h | h)
      · omega
      · exact h
  · have := s4 e
    omega

/-- A number that one of the ranges from i to k let come. -/
def came (xs : List Rg) (i k n : Nat) : Prop := ∃ j r, i ≤ j ∧ j < k ∧ xs[j]? = some r ∧ r.1 ≤ r.2 ∧ r.2 ≤ 4611686018427387903 ∧ r.1 ≤ n ∧ n ≤ r.2
theorem came_up {xs : List Rg} {k n : Nat} {r : Rg} (hr : xs[k]? = some r) : came xs 0 (k + 1) n ↔ (r.1 ≤ r.2 ∧ r.2 ≤ 4611686018427387903 ∧ r.1 ≤ n ∧ n ≤ r.2) ∨ came xs 0 k n := by
  unfold came
  constructor
  · rintro ⟨j, q, h1, h2, h3, h4⟩
    by_cases hj : j = k
    · subst hj
      rw [hr] at h3
      injection h3 with h3
      subst h3
      exact .inl h4
    · exact .inr ⟨j, q, h1, by omega, h3, h4⟩
  · rintro (h | ⟨j, q, h1, h2, h3⟩)
    · exact ⟨k, r, by omega, by omega, hr, h⟩
    · exact ⟨j, q, h1, by omega, h3⟩
theorem came_down {xs : List Rg} {i k n : Nat} {r : Rg} (hik : i < k) (hr : xs[i]? = some r) : came xs i k n ↔ (r.1 ≤ r.2 ∧ r.2 ≤ 4611686018427387903 ∧ r.1 ≤ n ∧ n ≤ r.2) ∨ came xs (i + 1) k n := by
  unfold came
  constructor
  · rintro ⟨j, q, h1, h2, h3, h4⟩
    by_cases hj : j = i
    · subst hj
      rw [hr] at h3
      injection h3 with h3
      subst h3
      exact .inl h4
    · exact .inr ⟨j, q, by omega, h2, h3, h4⟩
  · rintro (h | ⟨j, q, h1, h2, h3⟩)
    · exact ⟨i, r, by omega, by omega, hr, h⟩
    · exact ⟨j, q, by omega, by omega, h3⟩

/-- Two sets under way. -/
structure Two (w0 : World) (b c : Nat) (vs : Value) (Ls : List Rg) (vt : Value) (Lt : List Rg) (w : World) : Prop where
  s : St w0 b vs Ls w
  t : St w0 c vt Lt w
  ne : b ≠ c
  apart : ∀ k, vs.ownBlock = some k → vt.ownBlock ≠ some k
theorem Two.swap {w0 w : World} {b c : Nat} {vs vt : Value} {Ls Lt : List Rg} (h : Two w0 b c vs Ls vt Lt w) : Two w0 c b vt Lt vs Ls w :=
  ⟨h.t, h.s, fun e => h.ne e.symm, fun k h1 h2 => h.apart k h2 h1⟩
theorem Two.next {w0 w w' : World} {b c : Nat} {vs vt : Value} {Ls Lt : List Rg} (h : Two w0 b c vs Ls vt Lt w) (hb : Below w.heap.size w w') : Two w0 b c vs Ls vt Lt w' :=
  ⟨h.s.next hb, h.t.next hb, h.ne, h.apart⟩
theorem Two.left {w0 w w' : World} {b c : Nat} {vs vt v' : Value} {Ls Lt L' : List Rg} (h : Two w0 b c vs Ls vt Lt w) (hs : St w0 b v' L' w') (hto : SetTo b w0.heap.size vs w v' L' w') : Two w0 b c v' L' vt Lt w' := by
  have hO := hto.2.1
  have hcs : vs.ownBlock ≠ some c := own_ne h.s.is.own h.t.is.at_ (by decide)
  have hbt : vt.ownBlock ≠ some b := own_ne h.t.is.own h.s.is.at_ (by decide)
  refine ⟨hs, ⟨⟨h.t.is.at_.only hO ?_, own_only h.t.is.own hO ?_, Nat.le_trans h.t.is.bw hO.size, h.t.is.bb⟩, hs.bel, h.t.ok, h.t.len⟩, h.ne, ?_⟩
  · rintro (e | e)
    · exact h.ne e.symm
    · exact hcs e
  · rintro k hk (e | e)
    · subst e; exact hbt hk
    · exact h.apart k e hk
  · intro k h1 h2
    rcases hto.2.2 with e | e
    · rw [e] at h1; exact h.apart k h1 h2
    · have := e k h1
      have := (own_base_le h.t.is.own k h2).2
      omega
theorem Two.addL {w0 w : World} {b c : Nat} {vs vt : Value} {Ls Lt : List Rg} (h : Two w0 b c vs Ls vt Lt w) (low high : Nat) (hl : low < 18446744073709551616) (hh : high < 18446744073709551616) :
    Calls Try.prog 11 #[.pointer (some ⟨b, 0, none⟩), .int .u64 (low : Int), .int .u64 (high : Int)] w fun e w' => e = .returned (.int .i64 ((addE Ls low high : Nat) : Int)) ∧ ∃ v', Two w0 b c v' (addR Ls low high) vt Lt w' := by
  refine (h.s.add low high hl hh).mono ?_
  rintro e w' ⟨rfl, v', hst, hto⟩
  exact ⟨rfl, v', h.left hst hto⟩
theorem Two.addR {w0 w : World} {b c : Nat} {vs vt : Value} {Ls Lt : List Rg} (h : Two w0 b c vs Ls vt Lt w) (low high : Nat) (hl : low < 18446744073709551616) (hh : high < 18446744073709551616) :
    Calls Try.prog 11 #[.pointer (some ⟨c, 0, none⟩), .int .u64 (low : Int), .int .u64 (high : Int)] w fun e w' => e = .returned (.int .i64 ((addE Lt low high : Nat) : Int)) ∧ ∃ v', Two w0 b c vs Ls v' (Go.Proofs.Ytcpkpofmapjgdaa.addR Lt low high) w' := by
  refine (h.swap.addL low high hl hh).mono ?_
  rintro e w' ⟨rfl, v', ht⟩
  exact ⟨rfl, v', ht.swap⟩
theorem Two.drew {w0 w : World} {b c : Nat} {vs vt : Value} {Ls Lt : List Rg} (h : Two w0 b c vs Ls vt Lt w) : Two w0 b c vs Ls vt Lt w.drew := h.next (Below.drew2 (Below.refl _ _))
theorem Two.start (w0 : World) : Two w0 w0.heap.size (w0.heap.size + 1) (.slice none 0 0) [] (.slice none 0 0) [] ((w0.alloc (.cells #[.slice none 0 0] 27)).alloc (.cells #[.slice none 0 0] 27)) := by
  have h1 := St.start w0
  have h2 := St.start (w0.alloc (.cells #[.slice none 0 0] 27))
  have hs : (w0.alloc (.cells #[.slice none 0 0] 27)).heap.size = w0.heap.size + 1 := by simp
  have hb : Below (w0.alloc (.cells #[.slice none 0 0] 27)).heap.size (w0.alloc (.cells #[.slice none 0 0] 27)) ((w0.alloc (.cells #[.slice none 0 0] 27)).alloc (.cells #[.slice none 0 0] 27)) := (Below.refl _ _).alloc (Nat.le_refl _) _
  have h3 := h1.next hb
  rw [← hs]
  refine ⟨h3, ⟨⟨h2.is.at_, ⟨rfl, .inl ⟨rfl, rfl⟩⟩, h3.is.bw, by omega⟩, h3.bel, trivial, by simp⟩, by omega, fun k hk => by cases hk⟩

set_option maxRecDepth 100000 in
set_option maxHeartbeats 8000000 in
theorem order_walk (p : Option Addr) (cap : Nat) (xs : List Rg) (w : World) (hA : RgAt w p xs) (hl : xs.length ≤ maxLen) :
    Calls Try.prog 4 #[.slice p xs.length cap] w fun e w' => e = .returned (.bool true) ∧ Below w.heap.size w w' := by
  obtain ⟨N, hN⟩ : ∃ N, xs.length = N := ⟨_, rfl⟩
  rw [hN] at hl ⊢
  have hl2 : N ≤ 9223372036854775807 := hl
  have HN := Lib.hid hN
  have HA := Lib.hid hA
  clear hN hA hl
  go_enter Try.func4, Try.ntmps4
  go_wp2_with fail
  refine (awake_ok w).mono ?_
  rintro e w0 ⟨rfl, hb0⟩
  have hst := Two.start w0
  obtain ⟨b, hb⟩ : ∃ b, w0.heap.size = b := ⟨_, rfl⟩
  obtain ⟨c, hc⟩ : ∃ c, b + 1 = c := ⟨_, rfl⟩
  obtain ⟨w1, hw1⟩ : ∃ w1, (w0.alloc (.cells #[.slice none 0 0] 27)).alloc (.cells #[.slice none 0 0] 27) = w1 := ⟨_, rfl⟩
  rw [hw1, hb, hc] at hst
  have HA0 : Hid (RgAt w0 p xs) := Lib.hid (fun h => by
    obtain ⟨g, o, hp, hg, hc⟩ := HA.out h
    exact ⟨g, o, hp, Nat.lt_of_lt_of_le hg hb0.size, fun i r hr => ⟨⟨(hb0.cell (p := ⟨g, o + i * 2, none⟩) hg).trans (hc i r hr).1.1, (hb0.cell (p := ⟨g, o + i * 2 + 1, none⟩) hg).trans (hc i r hr).1.2⟩, (hc i r hr).2⟩⟩)
  have HST := Lib.hid hst
  have HB0 := Lib.hid hb0
  clear hst hb0 HA
  obtain ⟨K, hK, hKN, hK190⟩ : ∃ K : Nat, min (N : Int) 190 = (K : Int) ∧ K ≤ N ∧ K ≤ 190 := ⟨min N 190, by omega, by omega, by omega⟩
  have HC : Hid (∀ (j : Nat) (r : Rg), xs[j]? = some r → ∃ g o, p = some ⟨g, o, none⟩ ∧ r.1 < 18446744073709551616 ∧ r.2 < 18446744073709551616 ∧ ∀ x, Below w0.heap.size w0 x → x.cell? ⟨g, o + j * 2, none⟩ = some (.int .u64 (r.1 : Int)) ∧ x.cell? ⟨g, o + j * 2 + 1, none⟩ = some (.int .u64 (r.2 : Int))) := Lib.hid (fun j r hr => by
    obtain ⟨g, o, hp, hg, hc⟩ := HA0.out (by have := (List.getElem?_eq_some_iff.1 hr).1; omega)
    obtain ⟨h1, h2, h3⟩ := hc j r hr
    exact ⟨g, o, hp, h2, h3, fun x hx => ⟨(hx.cell (p := ⟨g, o + j * 2, none⟩) hg).trans h1.1, (hx.cell (p := ⟨g, o + j * 2 + 1, none⟩) hg).trans h1.2⟩⟩)
  clear HA0
  go_wp2_with (rw [hw1, hb, hc])
  clear hw1
  clear hK
  go_loopw [6] (fun v6 W => ∃ (j : Nat) (vs : Value) (Ls : List Rg), j ≤ K ∧ v6 = .int .i64 j ∧ Two w0 b c vs Ls (.slice none 0 0) [] W ∧ Ls.length ≤ j ∧ (∀ n, hasR Ls n ↔ came xs 0 j n)) (fun v6 _ => K - (intOf v6).toNat)
  case atStart => exact ⟨0, _, [], by omega, rfl, HST.out, Nat.le_refl _, fun n => by unfold hasR came; simp⟩
  case round =>
    obtain ⟨j, vs, Ls, hj, rfl, htw, hlen, hin⟩ := hrel
    have HT := Lib.hid htw
    have HI := Lib.hid hin
    have HL := Lib.hid hlen
    clear htw hin hlen
    by_cases hlt : j < K
    · have hltN : j < N := by omega
      obtain ⟨⟨r1, r2⟩, hr⟩ : ∃ r, xs[j]? = some r := ⟨_, List.getElem?_eq_getElem (by rw [HN.out]; omega)⟩
      obtain ⟨g, o, rfl, hr1, hr2, hcc⟩ := HC.out j _ hr
      have d0 := (hcc wr HT.out.s.bel).1
      have d1 := (hcc wr HT.out.s.bel).2
      have HRr := Lib.hid hr
      have hadd := HT.out.drew.addL r1 r2 hr1 hr2
      have HAdd := Lib.hid hadd
      simp only at d0 d1
      clear hr hcc hadd
      go_wp2_with fail
      go_still_tail 10, (by kernel_rfl)
      change wpList _ _ _ _ _ wr.drew
      go_wp2_with (go_at_call 11; refine HAdd.out.mono ?_; rintro e x1 ⟨rfl, v', ht'⟩; have HT' := Lib.hid ht'; clear ht')
      go_roundw
      case rel => exact ⟨j + 1, v', _, by omega, by go_num, HT'.out, by have := addR_len Ls r1 r2; have := HL.out; omega, fun n => by rw [add_has HT.out.s.ok (by have := HL.out; omega), came_up HRr.out, HI.out n]⟩
      case measure => simp [intOf]; omega
    · obtain rfl : j = K := by omega
      go_wp2_with fail
      obtain ⟨wo, rfl⟩ : ∃ wo : World, wo = wr := ⟨_, rfl⟩
      go_loopw [7] (fun v7 W => ∃ (z : Int) (i : Nat) (vt : Value) (Lt : List Rg), i ≤ j ∧ z + 1 = (i : Int) ∧ v7 = .int .i64 z ∧ Two w0 b c vs Ls vt Lt W ∧ Lt.length + i ≤ j ∧ (∀ n, hasR Lt n ↔ came xs i j n)) (fun v7 _ => (intOf v7 + 1).toNat)
      case atStart => exact ⟨_, j, _, [], Nat.le_refl _, by omega, rfl, HT.out, by simp, fun n => by unfold hasR came; simp; omega⟩
      case round =>
        obtain ⟨z, i, vt, Lt, hi, hz, rfl, htw, hlen, hin⟩ := hrel
        have HT2 := Lib.hid htw
        have HI2 := Lib.hid hin
        have HL2 := Lib.hid hlen
        clear htw hin hlen
        cases i with
        | succ i =>
          obtain rfl : z = (i : Int) := by omega
          clear hz
          have hltN : i < N := by omega
          obtain ⟨⟨r1, r2⟩, hr⟩ : ∃ r, xs[i]? = some r := ⟨_, List.getElem?_eq_getElem (by rw [HN.out]; omega)⟩
          obtain ⟨g, o, rfl, hr1, hr2, hcc⟩ := HC.out i _ hr
          have d0 := (hcc wr HT2.out.s.bel).1
          have d1 := (hcc wr HT2.out.s.bel).2
          have HRr := Lib.hid hr
          have HCc := Lib.hid hcc
          have hadd := HT2.out.drew.addR r1 r2 hr1 hr2
          have HAdd := Lib.hid hadd
          simp only at d0 d1
          clear hr hcc hadd
          go_wp2_with fail
          go_still_tail 10, (by kernel_rfl)
          change wpList _ _ _ _ _ wr.drew
          go_wp2_with (go_at_call 11; refine HAdd.out.mono ?_; rintro e x1 ⟨rfl, v1, ht1⟩; have HT3 := Lib.hid ht1; clear ht1)
          have d0 := (HCc.out x1 HT3.out.s.bel).1
          have d1 := (HCc.out x1 HT3.out.s.bel).2
          have hadd := HT3.out.drew.addR r1 r2 hr1 hr2
          rw [add_twice HT2.out.t.ok HT2.out.t.len r1 r2] at hadd
          have HAdd2 := Lib.hid hadd
          clear hadd HAdd
          go_still_tail 10, (by kernel_rfl)
          change wpList _ _ _ _ _ x1.drew
          go_wp2_with (go_at_call 11; refine HAdd2.out.mono ?_; rintro e x2 ⟨rfl, v2, ht2⟩; have HT4 := Lib.hid ht2; clear ht2)
          go_roundw
          case rel => exact ⟨(i : Int) - 1, i, v2, _, by omega, by omega, by first | rfl | go_num, HT4.out, by have := addR_len Lt r1 r2; have := HL2.out; omega, fun n => by rw [add_has HT2.out.t.ok (by have := HL2.out; omega), came_down (by omega) HRr.out, HI2.out n]⟩
          case measure => (simp [intOf] <;> omega)
        | zero =>
          obtain rfl : z = -1 := by omega
          clear hz
          have heq : Ls = Lt := same_set _ _ _ HT2.out.s.ok HT2.out.t.ok (fun n => (HI.out n).trans (HI2.out n).symm)
          subst heq
          clear HL2 HI2 HI HL HC
          have s0 := HT2.out.s.ranges
          have S0 := Lib.hid s0
          clear s0
          go_wp2_with fail
          refine S0.out.mono ?_
          rintro e x1 ⟨p1, cap1, rfl, hrow1, hb1, -⟩
          have ht1 := HT2.out.next hb1
          have HT3 := Lib.hid ht1
          have HR1 := Lib.hid (RV.of_row hrow1)
          clear hrow1 hb1 ht1 S0 HT2
          have s0 := HT3.out.t.ranges
          have S0 := Lib.hid s0
          clear s0
          go_wp2_with fail
          refine S0.out.mono ?_
          rintro e x2 ⟨p2, cap2, rfl, hrow2, hb2, -⟩
          have ht1 := HT3.out.next hb2
          have HT4 := Lib.hid ht1
          have hsame := same_ok p1 p2 Ls.length Ls.length cap1 cap2 Ls Ls x2 (HR1.out.below hb2) (RV.of_row hrow2) rfl rfl (by have := HT4.out.s.len; omega) (by have := HT4.out.s.len; omega)
          rw [show decide (Ls = Ls) = true from decide_eq_true rfl] at hsame
          have HSame := Lib.hid hsame
          clear hrow2 hb2 ht1 S0 HT3 HR1 hsame
          go_wp2_with fail
          refine HSame.out.mono ?_
          rintro e x3 ⟨rfl, hb3⟩
          have ht1 := HT4.out.next hb3
          have HT5 := Lib.hid ht1
          clear hb3 ht1 HSame HT4
          have s0 := HT5.out.s.count
          have S0 := Lib.hid s0
          clear s0
          go_wp2_with fail
          refine S0.out.mono ?_
          rintro e x4 ⟨rfl, hb4, -⟩
          have ht1 := HT5.out.next hb4
          have HT6 := Lib.hid ht1
          clear hb4 ht1 S0 HT5
          have s0 := HT6.out.t.count
          have S0 := Lib.hid s0
          clear s0
          go_wp2_with fail
          refine S0.out.mono ?_
          rintro e x5 ⟨rfl, hb5, -⟩
          have ht1 := HT6.out.next hb5
          have HF := Lib.hid (HB0.out.trans (ht1.s.bel.mono HB0.out.size))
          clear hb5 ht1 S0 HT6
          go_wp2_with fail
          go_ret
          exact ⟨by simp, HF.out⟩

end Go.Proofs.Ytcpkpofmapjgdaa
