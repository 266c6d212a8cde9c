/- The law LossBest, walked. -/
import Derived.Test.YtaoeamkkbopioaaLn
import Derived.Deep.DeepCutAuto
import Derived.Deep.LoopGhost
import Derived.Deep.CutBlock
namespace Go.Proofs.Ytaoeamkkbopioaa
open Go.ChangeShapes Go.WideShapes Go.RowKit
set_option linter.unusedVariables false

theorem sg_ack (S : Lg) (rs : List (Nat × Nat)) (h : Inv S) : sg S.bi S.bn ≤ sg (ackS S rs).bi (ackS S rs).bn := by
  unfold ackS
  split
  · exact Int.le_refl _
  · show sg S.bi S.bn ≤ sg (S.bi || !rs.isEmpty) (bestN S.bn rs)
    have := bestN_le S.bn rs
    unfold sg
    cases hb : S.bi with
    | true => simp; omega
    | false =>
      rw [if_neg Bool.false_ne_true, Bool.false_or]
      split <;> omega

theorem sg_num {S S' : Lg} (h : Inv S) (hs : S' = S ∨ ∃ n, badNum S n = false ∧ S'.ln = n ∧ S'.li = true ∧ S'.bn = S.bn ∧ S'.bi = S.bi) : sg S.li S.ln ≤ sg S'.li S'.ln ∧ sg S.bi S.bn ≤ sg S'.bi S'.bn := by
  rcases hs with rfl | ⟨n, h1, h2, h3, h4, h5⟩
  · exact ⟨Int.le_refl _, Int.le_refl _⟩
  · rw [h4, h5, h2, h3]
    refine ⟨?_, Int.le_refl _⟩
    unfold badNum at h1
    unfold sg
    cases hli : S.li with
    | false => simp
    | true =>
      rw [hli] at h1
      simp only [Bool.true_and, Bool.or_eq_false_iff, decide_eq_false_iff_not] at h1
      simp
      omega

theorem sent_num (S : Lg) (p : Pk) : (sentF S p).1 = S ∨ ∃ n, badNum S n = false ∧ (sentF S p).1.ln = n ∧ (sentF S p).1.li = true ∧ (sentF S p).1.bn = S.bn ∧ (sentF S p).1.bi = S.bi := by
  unfold sentF
  by_cases hb : sentBad S p = true
  · rw [if_pos hb]; exact .inl rfl
  · rw [if_neg hb]
    by_cases h5 : 500 ≤ S.op.length
    · rw [if_pos h5]; exact .inl rfl
    · rw [if_neg h5]
      refine .inr ⟨p.num, ?_, rfl, rfl, rfl, rfl⟩
      unfold sentBad at hb
      simp only [Bool.or_eq_true, not_or] at hb
      simpa using hb.1.1
theorem skip_num (S : Lg) (n : Nat) : (skipF S n).1 = S ∨ ∃ m, badNum S m = false ∧ (skipF S n).1.ln = m ∧ (skipF S n).1.li = true ∧ (skipF S n).1.bn = S.bn ∧ (skipF S n).1.bi = S.bi := by
  unfold skipF
  by_cases hb : badNum S n = true
  · rw [if_pos hb]; exact .inl rfl
  · rw [if_neg hb]
    exact .inr ⟨n, by simpa using hb, rfl, rfl, rfl, rfl⟩

theorem sg_le {S : Lg} (h : Inv S) : sg S.bi S.bn ≤ sg S.li S.ln := by
  have := h.bl
  unfold sg
  cases hb : S.bi with
  | false => rw [if_neg Bool.false_ne_true]; split <;> omega
  | true =>
    cases hl : S.li with
    | false => rw [(h.li hl).2.2] at hb; exact absurd hb (by decide)
    | true => simp; omega

/-- What an act leaves behind. -/
def BestStep (B : Nat) (w : World) (S : Lg) (wx : World) : Prop :=
  ∃ S' v', Owns B B 29 [] v' S' wx ∧ Inv S' ∧ sg S.li S.ln ≤ sg S'.li S'.ln ∧ sg S.bi S.bn ≤ sg S'.bi S'.bn ∧ Below B w wx

set_option maxRecDepth 100000 in
set_option maxHeartbeats 4000000 in
theorem lossBest_walk (p : Option Addr) (cap : Nat) (xs : List Act1) (w : World) (hA : ActsAt w p xs) (hl : xs.length ≤ maxLen) :
    Calls Try.prog 8 #[.slice p xs.length cap] w fun e w' => e = .returned (.bool true) ∧ Below w.heap.size w w' := by
  obtain ⟨N, hN⟩ : ∃ N, xs.length = N := ⟨_, rfl⟩
  rw [hN] at hl ⊢
  unfold maxLen at hl
  have HN := Lib.hid hN
  have HA := Lib.hid hA
  clear hN hA
  go_enter Try.func8, Try.ntmps8
  go_wp2_with fail
  refine (awake_any w).mono ?_
  rintro e w0 ⟨rfl, hb0⟩
  have h0 := Owns.start w0
  obtain ⟨w1, hw1⟩ : ∃ w1, w0.alloc (.cells #[.slice none 0 0, .int .u64 0, .bool false, .int .u64 0, .bool false] 29) = w1 := ⟨_, rfl⟩
  have hb1 : Below w0.heap.size w0 w1 := by rw [← hw1]; exact (Below.refl _ _).alloc (Nat.le_refl _) _
  obtain ⟨B, hB⟩ : ∃ B, w0.heap.size = B := ⟨_, rfl⟩
  rw [hw1, hB] at h0
  rw [hB] at hb1
  have hBl : w.heap.size ≤ B := by rw [← hB]; exact hb0.size
  have H0 := Lib.hid h0
  have Hb0 := Lib.hid hb0
  have Hb1 := Lib.hid hb1
  clear h0 hb0 hb1
  go_wp2_with fail
  go_loopg [4, 5, 6] N (fun gk m n i wr => ∃ j : Nat, ∃ S : Lg, ∃ v : Value, j ≤ N ∧ N - j ≤ gk ∧ i = .int .i64 j ∧ Inv S ∧ m = .int .i64 (sg S.li S.ln) ∧ n = .int .i64 (sg S.bi S.bn) ∧ Owns B B 29 [] v S wr ∧ Below B w0 wr)
  case atStart => exact ⟨0, S0, _, by omega, by omega, rfl, Inv.start, rfl, rfl, H0.out, Hb1.out⟩
  case round =>
    obtain ⟨j, S, v, hj, hgk, rfl, hI, rfl, rfl, hO, hbw⟩ := hrel
    obtain ⟨mm, hmm⟩ : ∃ x, sg S.li S.ln = x := ⟨_, rfl⟩
    obtain ⟨nn, hnn⟩ : ∃ x, sg S.bi S.bn = x := ⟨_, rfl⟩
    have HO := Lib.hid hO
    have Hbw := Lib.hid hbw
    have HI := Lib.hid hI
    rw [hmm, hnn]
    have Hmm := Lib.hid hmm
    have Hnn := Lib.hid hnn
    clear hO hbw hI hmm hnn
    by_cases hlt : j < N
    · by_cases h200 : j < 200
      · have hjl : j < xs.length := by rw [HN.out]; exact hlt
        obtain ⟨a, ha⟩ : ∃ a, xs[j] = a := ⟨_, rfl⟩
        have ha2 : xs[j]? = some a := by rw [List.getElem?_eq_getElem hjl, ha]
        obtain ⟨g, o, rfl, hg, hc⟩ := HA.out (by omega)
        have hbB : Below w.heap.size w wr := Hb0.out.trans (Hbw.out.mono hBl)
        have hact := (hc j a ha2).below hg hbB rfl
        have hrb : ∀ x, a.lp = some x → a.rs.length ≤ 100 → 0 < a.rs.length → x.block ≠ B := by
          intro x hx h1 h2
          obtain ⟨g2, o2, e2, hg2, _⟩ := (hc j a ha2).rg h2
          rw [hx] at e2
          injection e2 with e2
          subst e2
          exact Nat.ne_of_lt (Nat.lt_of_lt_of_le hg2 hBl)
        have Hact := Lib.hid hact
        have Hrb := Lib.hid hrb
        have q0 := hact.c0
        have q1 := hact.c1
        have q2 := hact.c2
        have q3 := hact.c3
        have q4 := hact.c4
        have q5 := hact.c5
        obtain ⟨L, hL⟩ : ∃ L, a.rs.length = L := ⟨_, rfl⟩
        rw [hL] at q5
        have HL := Lib.hid hL
        obtain ⟨K, hK⟩ : ∃ K, a.kind = K := ⟨_, rfl⟩
        rw [hK] at q0
        clear hc ha ha2 hact hrb hL hbB hK
        have hba : Below wr.heap.size wr (wr.alloc (.cells #[.int .i64 K, .int .u64 (a.num : Int), .int .u64 (a.time : Int), .int .u64 (a.size : Int), .bool a.asks, .slice a.lp L a.lcap] 33)) := (Below.refl _ _).alloc (Nat.le_refl _) _
        have hOa := HO.out.next hba
        have HOa := Lib.hid hOa
        have Hba := Lib.hid hba
        clear hOa hba
        by_cases h100 : 100 < L
        · go_wp2_with fail
          go_ret
          exact ⟨rfl, (Hb0.out.trans (Hbw.out.mono hBl)).alloc (Nat.le_trans hBl HO.out.bw) _⟩
        · have d100 : decide ((100 : Int) < (L : Int)) = false := by rw [decide_eq_false_iff_not]; omega
          go_upto_block 2 with (fail)
          go_cut [36] (fun _ wx => BestStep B wr S wx)
          case first =>
            by_cases k0 : K = 0
            · subst k0
              have hs := Sent_any B B 29 [] v S _ a.num a.time a.size false HOa.out Hact.out.n1 HI.out.lnb HI.out.len1
              have hs' := hs.mono (R' := fun e w' => (∃ c, e = .returned (.int .i64 c)) ∧ BestStep B wr S w') (fun e w' ⟨h1, h2⟩ => by
                obtain ⟨v', g1, g2⟩ := h2.owns2 HOa.out
                obtain ⟨g3, g4⟩ := sg_num HI.out (sent_num S _)
                exact ⟨⟨_, h1⟩, _, v', g1, HI.out.sent _, g3, g4, (Hba.out.mono HO.out.bw).trans g2⟩)
              have HS := Lib.hid hs'
              clear hs hs'
              go_wp2_with fail
              refine HS.out.mono ?_
              rintro e w2 ⟨⟨c, rfl⟩, h2⟩
              have H2 := Lib.hid h2
              clear h2
              go_wp2_with fail
              go_meet
              exact H2.out
            · have e0 : (K == 0) = false := by rw [beq_eq_false_iff_ne]; exact k0
              by_cases k1 : K = 1
              · subst k1
                have hrg := (Hact.out.rg.below Hba.out)
                have hs := Acked_any B B 29 [] v S _ a.lp a.lcap a.rs HOa.out HI.out.len1 HI.out.bnb HI.out.lnb hrg (by rw [HL.out]; omega) (fun h0 x hx => Hrb.out x hx (by rw [HL.out]; omega) h0)
                have hs' := hs.mono (R' := fun e w' => (∃ vg c, e = .returned (.tuple #[vg, .int .i64 c])) ∧ BestStep B wr S w') (fun e w' h2 => by
                  obtain ⟨vg, c, v', h1, g1, _, _, g2⟩ := h2.owns HOa.out
                  refine ⟨⟨_, _, h1⟩, _, v', g1, HI.out.ack _, ?_, sg_ack S a.rs HI.out, (Hba.out.mono HO.out.bw).trans g2⟩
                  have e1 : (ackS S a.rs).li = S.li := by unfold ackS; split <;> rfl
                  have e2 : (ackS S a.rs).ln = S.ln := by unfold ackS; split <;> rfl
                  rw [e1, e2]
                  exact Int.le_refl _)
                rw [HL.out] at hs'
                have HS := Lib.hid hs'
                clear hs hs' hrg e0 k0
                go_wp2_with fail
                refine HS.out.mono ?_
                rintro e w2 ⟨⟨vg, c, rfl⟩, h2⟩
                have H2 := Lib.hid h2
                clear h2
                go_wp2_with fail
                go_meet
                exact H2.out
              · have e1 : (K == 1) = false := by rw [beq_eq_false_iff_ne]; exact k1
                by_cases k2 : K = 2
                · subst k2
                  have hs := Lost_any B B 29 [] v S _ a.time a.num HOa.out HI.out.len1 HI.out.bnb Hact.out.n2
                  have hs' := hs.mono (R' := fun e w' => (∃ vg, e = .returned vg) ∧ BestStep B wr S w') (fun e w' h2 => by
                    obtain ⟨vg, v', h1, g1, _, _, g2⟩ := h2.owns HOa.out
                    exact ⟨⟨_, h1⟩, _, v', g1, HI.out.filter _, Int.le_refl _, Int.le_refl _, (Hba.out.mono HO.out.bw).trans g2⟩)
                  have HS := Lib.hid hs'
                  clear hs hs' e0 e1 k0 k1
                  go_wp2_with fail
                  refine HS.out.mono ?_
                  rintro e w2 ⟨⟨vg, rfl⟩, h2⟩
                  have H2 := Lib.hid h2
                  clear h2
                  go_wp2_with fail
                  go_meet
                  exact H2.out
                · have e2 : (K == 2) = false := by rw [beq_eq_false_iff_ne]; exact k2
                  by_cases k3 : K = 3
                  · subst k3
                    have hs := Clear_any B B 29 [] v S _ HOa.out HI.out.len1
                    have hs' := hs.mono (R' := fun e w' => (∃ vg, e = .returned vg) ∧ BestStep B wr S w') (fun e w' h2 => by
                      obtain ⟨vg, v', h1, g1, _, _, g2⟩ := h2.owns HOa.out
                      exact ⟨⟨_, h1⟩, _, v', g1, HI.out.filter _, Int.le_refl _, Int.le_refl _, (Hba.out.mono HO.out.bw).trans g2⟩)
                    have HS := Lib.hid hs'
                    clear hs hs' e0 e1 e2 k0 k1 k2
                    go_wp2_with fail
                    refine HS.out.mono ?_
                    rintro e w2 ⟨⟨vg, rfl⟩, h2⟩
                    have H2 := Lib.hid h2
                    clear h2
                    go_wp2_with fail
                    go_meet
                    exact H2.out
                  · have e3 : (K == 3) = false := by rw [beq_eq_false_iff_ne]; exact k3
                    by_cases k4 : K = 4
                    · subst k4
                      have hs := Skip_any B B 29 [] v S _ a.num HOa.out Hact.out.n1 HI.out.lnb
                      have hs' := hs.mono (R' := fun e w' => (∃ c, e = .returned (.int .i64 c)) ∧ BestStep B wr S w') (fun e w' ⟨h1, h2⟩ => by
                        obtain ⟨v', g1, g2⟩ := h2.owns2 HOa.out
                        obtain ⟨g3, g4⟩ := sg_num HI.out (skip_num S _)
                        exact ⟨⟨_, h1⟩, _, v', g1, HI.out.skip _, g3, g4, (Hba.out.mono HO.out.bw).trans g2⟩)
                      have HS := Lib.hid hs'
                      clear hs hs' e0 e1 e2 e3 k0 k1 k2 k3
                      go_wp2_with fail
                      refine HS.out.mono ?_
                      rintro e w2 ⟨⟨c, rfl⟩, h2⟩
                      have H2 := Lib.hid h2
                      clear h2
                      go_wp2_with fail
                      go_meet
                      exact H2.out
                    · have e4 : (K == 4) = false := by rw [beq_eq_false_iff_ne]; exact k4
                      have hs : BestStep B wr S _ := ⟨S, v, HOa.out, HI.out, Int.le_refl _, Int.le_refl _, Hba.out.mono HO.out.bw⟩
                      have HS := Lib.hid hs
                      clear hs k0 k1 k2 k3 k4
                      go_wp2_with fail
                      go_meet
                      exact HS.out
          case rest =>
            obtain ⟨S', v', hO', hI', hm, hn, hb⟩ := hcut
            have hle := sg_le hI'
            have hla := fun ln li (h1 : S'.ln = ln) (h2 : S'.li = li) => Last_any B ln li wc hO'.led.lt (by rw [← h1]; exact hO'.led.cell rfl) (by rw [← h2]; exact hO'.led.cell rfl)
            have hbe := fun W (hx : Below wc.heap.size wc W) bn bi (h1 : S'.bn = bn) (h2 : S'.bi = bi) => Best_any B bn bi W (hO'.next hx).led.lt (by rw [← h1]; exact (hO'.next hx).led.cell rfl) (by rw [← h2]; exact (hO'.next hx).led.cell rfl)
            obtain ⟨ln, hln⟩ : ∃ x, S'.ln = x := ⟨_, rfl⟩
            obtain ⟨li, hli⟩ : ∃ x, S'.li = x := ⟨_, rfl⟩
            obtain ⟨bn, hbn⟩ : ∃ x, S'.bn = x := ⟨_, rfl⟩
            obtain ⟨bi, hbi⟩ : ∃ x, S'.bi = x := ⟨_, rfl⟩
            have hlnb : ln ≤ 4611686018427387903 := by rw [← hln]; exact hI'.ln
            have hbnb : bn ≤ 4611686018427387903 := by rw [← hbn]; exact Nat.le_trans hI'.bl hI'.ln
            have HLa := Lib.hid (hla ln li hln hli)
            have HBe := Lib.hid (fun W hx => hbe W hx bn bi hbn hbi)
            rw [hln, hli, hbn, hbi] at hle
            rw [Hmm.out, hln, hli] at hm
            rw [Hnn.out, hbn, hbi] at hn
            have hrel : ∀ W, Below wc.heap.size wc W → Owns B B 29 [] v' S' W ∧ Below B w0 W := fun W hx => ⟨hO'.next hx, (Hbw.out.trans hb).trans (hx.mono hO'.bw)⟩
            have Hrel := Lib.hid hrel
            have HI' := Lib.hid hI'
            have Hln := Lib.hid hln
            have Hli := Lib.hid hli
            have Hbn := Lib.hid hbn
            have Hbi := Lib.hid hbi
            clear hla hbe hrel hI' hO' hb hln hli hbn hbi
            have hcon : li = true ∨ bi = false := by
              cases li
              · cases bi
                · exact .inr rfl
                · simp only [sg, Bool.false_eq_true, if_false, if_pos] at hle
                  omega
              · exact .inl rfl
            cases li <;> cases bi
            case false.true => exact absurd hcon (by decide)
            all_goals simp only [sg, if_pos, Bool.false_eq_true, if_false] at hle hm hn
            all_goals
              clear hcon
              go_wp2_with fail
              refine HLa.out.mono ?_
              rintro e w3 ⟨rfl, hb3⟩
              have Hb3 := Lib.hid hb3
              clear hb3
              go_wp2_with fail
              refine (HBe.out _ Hb3.out).mono ?_
              rintro e w4 ⟨rfl, hb4⟩
              have Hb4 := Lib.hid (Hb3.out.trans (hb4.mono Hb3.out.size))
              clear hb4
              go_wp2_with fail
              go_roundg (N - (j + 1))
              case measure => omega
              case rel => exact ⟨j + 1, S', v', by omega, by omega, by go_num, HI'.out, by rw [Hln.out, Hli.out]; rfl, by rw [Hbn.out, Hbi.out]; rfl, Hrel.out _ Hb4.out⟩
      · go_wp2_with fail
        go_ret
        exact ⟨rfl, Hb0.out.trans (Hbw.out.mono hBl)⟩
    · go_wp2_with fail
      go_ret
      exact ⟨rfl, Hb0.out.trans (Hbw.out.mono hBl)⟩

end Go.Proofs.Ytaoeamkkbopioaa
