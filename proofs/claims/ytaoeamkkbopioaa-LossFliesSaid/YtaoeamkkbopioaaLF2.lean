/- The law LossFlies, walked. -/
import Derived.Test.YtaoeamkkbopioaaLn
import Derived.Deep.DeepCutAuto
import Derived.Deep.LoopGhost
import Derived.Deep.CutBlock
namespace Go.Proofs.Ytaoeamkkbopioaa
open Go.ChangeShapes Go.WideShapes Go.RowKit
set_option linter.unusedVariables false

theorem fly_split (f : Pk → Bool) (l : List Pk) : flyF (l.filter (fun p => !f p)) + flyF (l.filter f) = flyF l + 0 := by
  induction l with
  | nil => rfl
  | cons p l ih =>
    cases hf : f p with
    | true =>
      rw [List.filter_cons_of_pos hf, List.filter_cons_of_neg (by rw [hf]; simp)]
      simp only [flyF]
      omega
    | false =>
      have e1 : (p :: l).filter f = l.filter f := List.filter_cons_of_neg (by rw [hf]; exact Bool.false_ne_true)
      have e2 : (p :: l).filter (fun p => !f p) = p :: l.filter (fun p => !f p) := List.filter_cons_of_pos (by rw [hf]; rfl)
      rw [e1, e2]
      simp only [flyF]
      omega
theorem fly_ack (S : Lg) (rs : List (Nat × Nat)) : flyF (ackS S rs).op + flyF (ackT S rs) = flyF S.op + 0 := by
  unfold ackS ackT
  split
  · simp [flyF]
  · exact fly_split _ S.op
theorem fly_sent (S : Lg) (p : Pk) : flyF (sentF S p).1.op + flyF [] = flyF S.op + (if (sentF S p).2 = 0 ∧ p.asks = true then p.size else 0) := by
  unfold sentF
  by_cases hb : sentBad S p = true
  · rw [if_pos hb]; simp [flyF]
  · rw [if_neg hb]
    by_cases h5 : 500 ≤ S.op.length
    · rw [if_pos h5]; simp [flyF]
    · rw [if_neg h5]
      simp only [flyF_append, flyF, true_and]
      omega

theorem ackT_len {S : Lg} (h : Inv S) (rs : List (Nat × Nat)) : (ackT S rs).length ≤ 500 := by
  unfold ackT
  split
  · simp
  · exact Nat.le_trans (List.length_filter_le _ _) h.len

/-- Packets that were told. -/
def Td (tv : Value) (told : List Pk) (w : World) : Prop := (told = [] ∧ ∃ p cap, tv = .slice p 0 cap) ∨ ∃ base, w.ownsRow base 38 5 tv told.length (pks told)
theorem Td.shape {tv : Value} {told : List Pk} {w : World} (h : Td tv told w) : ∃ p cap, tv = .slice p told.length cap ∧ ∀ i q, told[i]? = some q → ∃ g, p = some ⟨g, 0, none⟩ ∧ g < w.heap.size ∧ w.cell? ⟨g, i * 5, none⟩ = some (.int .u64 (q.num : Int)) ∧ w.cell? ⟨g, i * 5 + 1, none⟩ = some (.int .u64 (q.time : Int)) ∧
      w.cell? ⟨g, i * 5 + 2, none⟩ = some (.int .u64 (q.size : Int)) ∧ w.cell? ⟨g, i * 5 + 3, none⟩ = some (.bool q.asks) ∧ w.cell? ⟨g, i * 5 + 4, none⟩ = some (.slice q.fa q.fl q.fc) := by
  rcases h with ⟨rfl, p, cap, rfl⟩ | ⟨base, ho⟩
  · exact ⟨p, cap, rfl, fun i q h => by simp at h⟩
  · obtain ⟨p, cap, rfl, _⟩ := own_shape ho
    refine ⟨p, cap, rfl, fun i q h => ?_⟩
    obtain ⟨g, cap2, hv, _, hg, k0, k1, k2, k3, k4⟩ := pk_cells ho i q h
    injection hv with hv _ _
    exact ⟨g, hv, hg, k0, k1, k2, k3, k4⟩

/-- What an act leaves behind. -/
def FlyStep (B : Nat) (w : World) (S : Lg) (s7 s8 : Value) (wx : World) : Prop :=
  ∃ S' v' told more, Owns B B 29 [] v' S' wx ∧ Inv S' ∧ Td s7 told wx ∧ s8 = .int .u64 ((more : Nat) : Int) ∧ flyF S'.op + flyF told = flyF S.op + more ∧ told.length ≤ 500 ∧ flyF told ≤ flyF S.op ∧ Below B w wx

set_option maxRecDepth 100000 in
set_option maxHeartbeats 8000000 in
theorem lossFlies_walk (p : Option Addr) (cap : Nat) (xs : List Act1) (w : World) (hA : ActsAt w p xs) (hl : xs.length ≤ maxLen) :
    Calls Try.prog 6 #[.slice p xs.length cap] w fun e w' => e = .returned (.bool true) ∧ Below w.heap.size w w' := by
  obtain ⟨N, hN⟩ : ∃ N, xs.length = N := ⟨_, rfl⟩
  rw [hN] at hl ⊢
  unfold maxLen at hl
  have HN := Lib.hid hN
  have HA := Lib.hid hA
  clear hN hA
  go_enter Try.func6, Try.ntmps6
  go_wp2_with fail
  refine (awake_any _).mono ?_
  rintro e w0 ⟨rfl, hb0⟩
  have h0 := Owns.start w0
  obtain ⟨w1, hw1⟩ : ∃ w1, w0.alloc (.cells #[.slice none 0 0, .int .u64 0, .bool false, .int .u64 0, .bool false] 29) = w1 := ⟨_, rfl⟩
  have hb1 : Below w0.heap.size w0 w1 := by rw [← hw1]; exact (Below.refl _ _).alloc (Nat.le_refl _) _
  obtain ⟨B, hB⟩ : ∃ B, w0.heap.size = B := ⟨_, rfl⟩
  rw [hw1, hB] at h0
  rw [hB] at hb1
  have hBl : w.heap.size ≤ B := by rw [← hB]; exact hb0.size
  have H0 := Lib.hid h0
  have Hb0 := Lib.hid hb0
  have Hb1 := Lib.hid hb1
  clear h0 hb0 hb1
  go_wp2_with fail
  go_loopg [4] N (fun gk i wr => ∃ j : Nat, ∃ S : Lg, ∃ v : Value, j ≤ N ∧ N - j ≤ gk ∧ i = .int .i64 j ∧ Inv S ∧ Owns B B 29 [] v S wr ∧ Below B w0 wr)
  case atStart => exact ⟨0, S0, _, by omega, by omega, rfl, Inv.start, H0.out, Hb1.out⟩
  case round =>
    obtain ⟨j, S, v, hj, hgk, rfl, hI, hO, hbw⟩ := hrel
    have HO := Lib.hid hO
    have Hbw := Lib.hid hbw
    have HI := Lib.hid hI
    clear hO hbw hI
    by_cases hlt : j < N
    · by_cases h200 : j < 200
      · have hjl : j < xs.length := by rw [HN.out]; exact hlt
        obtain ⟨a, ha⟩ : ∃ a, xs[j] = a := ⟨_, rfl⟩
        have ha2 : xs[j]? = some a := by rw [List.getElem?_eq_getElem hjl, ha]
        obtain ⟨g, o, rfl, hg, hc⟩ := HA.out (by omega)
        have hbB : Below w.heap.size w wr := Hb0.out.trans (Hbw.out.mono hBl)
        have hact := (hc j a ha2).below hg hbB rfl
        have hrb : ∀ x, a.lp = some x → a.rs.length ≤ 100 → 0 < a.rs.length → x.block ≠ B := by
          intro x hx h1 h2
          obtain ⟨g2, o2, e2, hg2, _⟩ := (hc j a ha2).rg h2
          rw [hx] at e2
          injection e2 with e2
          subst e2
          exact Nat.ne_of_lt (Nat.lt_of_lt_of_le hg2 hBl)
        have Hact := Lib.hid hact
        have Hrb := Lib.hid hrb
        have q0 := hact.c0
        have q1 := hact.c1
        have q2 := hact.c2
        have q3 := hact.c3
        have q4 := hact.c4
        have q5 := hact.c5
        obtain ⟨L, hL⟩ : ∃ L, a.rs.length = L := ⟨_, rfl⟩
        rw [hL] at q5
        have HL := Lib.hid hL
        obtain ⟨K, hK⟩ : ∃ K, a.kind = K := ⟨_, rfl⟩
        rw [hK] at q0
        clear hc ha ha2 hact hrb hL hbB hK
        have hba : Below wr.heap.size wr (wr.alloc (.cells #[.int .i64 K, .int .u64 (a.num : Int), .int .u64 (a.time : Int), .int .u64 (a.size : Int), .bool a.asks, .slice a.lp L a.lcap] 33)) := (Below.refl _ _).alloc (Nat.le_refl _) _
        have hbx0 := blk.new wr 33 [.int .i64 K, .int .u64 (a.num : Int), .int .u64 (a.time : Int), .int .u64 (a.size : Int), .bool a.asks, .slice a.lp L a.lcap]
        have HF := Lib.hid (Flying_any B B 29 [] v S _ (HO.out.next hba) HI.out.len1 (fun p hp => (HI.out.le p hp).2.2))
        have Hba0 := Lib.hid hba
        have Hbx0 := Lib.hid hbx0
        clear hba hbx0
        by_cases h100 : 100 < L
        · go_wp2_with fail
          go_ret
          exact ⟨rfl, (Hb0.out.trans (Hbw.out.mono hBl)).alloc (Nat.le_trans hBl HO.out.bw) _⟩
        · have d100 : decide ((100 : Int) < (L : Int)) = false := by rw [decide_eq_false_iff_not]; omega
          go_wp2_with fail
          refine HF.out.mono ?_
          rintro e w2 ⟨rfl, hb2⟩
          have hbx := Hbx0.out.below hb2 Hbx0.out.lt
          have x0 := hbx.cell (k := 0) rfl
          have x1 := hbx.cell (k := 1) rfl
          have x2 := hbx.cell (k := 2) rfl
          have x3 := hbx.cell (k := 3) rfl
          have x4 := hbx.cell (k := 4) rfl
          have x5 := hbx.cell (k := 5) rfl
          have hxl := hbx.lt
          have hbe : Below wr.heap.size wr (w2.alloc (.cells #[] 38)) := (Hba0.out.trans (hb2.mono Hba0.out.size)).alloc (Nat.le_trans Hba0.out.size hb2.size) _
          have Hba := Lib.hid hbe
          have HOa := Lib.hid (HO.out.next hbe)
          have hxw : blk (w2.alloc (.cells #[] 38)) wr.heap.size 33 [.int .i64 K, .int .u64 (a.num : Int), .int .u64 (a.time : Int), .int .u64 (a.size : Int), .bool a.asks, .slice a.lp L a.lcap] := hbx.alloc _
          have Hxw := Lib.hid hxw
          clear hb2 hbx hbe hxw q0 q1 q2 q3 q4 q5 HF
          go_upto_block 2 with (fail)
          go_cut [7, 8] (fun s7 s8 wx => FlyStep B wr S s7 s8 wx)
          case first =>
            by_cases k0 : K = 0
            · subst k0
              have hs := Sent_any B B 29 [] v S _ a.num a.time a.size a.asks HOa.out Hact.out.n1 HI.out.lnb HI.out.len1
              have hs' := hs.mono (R' := fun e w' => e = .returned (.int .i64 (sentF S (pkOf a a.asks)).2) ∧ w'.cell? ⟨wr.heap.size, 3, none⟩ = some (.int .u64 (a.size : Int)) ∧ w'.cell? ⟨wr.heap.size, 4, none⟩ = some (.bool a.asks) ∧ FlyStep B wr S (.slice (some ⟨w2.heap.size, 0, none⟩) 0 0) (.int .u64 ((if (sentF S (pkOf a a.asks)).2 = 0 ∧ a.asks = true then a.size else 0 : Nat) : Int)) w') (fun e w' ⟨h1, v', h2⟩ => by
                have hx := Hxw.out.only h2.2.2.1 (by
                  rintro (h3 | h3)
                  · have := HO.out.led.lt
                    omega
                  · have := (HO.out.own.lt _ h3).2
                    omega)
                exact ⟨h1, hx.cell rfl, hx.cell rfl, _, v', [], _, h2.owns HOa.out, HI.out.sent _, .inl ⟨rfl, _, _, rfl⟩, rfl, fly_sent S (pkOf a a.asks), by simp, by simp [flyF], (Hba.out.mono HO.out.bw).trans (h2.below HOa.out)⟩)
              obtain ⟨c, hc⟩ : ∃ c, (sentF S (pkOf a a.asks)).2 = c := ⟨_, rfl⟩
              obtain ⟨ak, hak⟩ : ∃ ak, a.asks = ak := ⟨_, rfl⟩
              rw [hc, hak] at hs'
              rw [hak] at x4
              by_cases hc0 : c = 0
              · subst hc0
                cases ak
                · rw [if_neg (by simp)] at hs'
                  have HS := Lib.hid hs'
                  clear hs hs' hc hak
                  go_wp2_with fail
                  refine HS.out.mono ?_
                  rintro e w3 ⟨rfl, y3, y4, h2⟩
                  have H2 := Lib.hid h2
                  clear h2
                  go_wp2_with fail
                  go_meet
                  exact H2.out
                · rw [if_pos (by simp)] at hs'
                  have HS := Lib.hid hs'
                  clear hs hs' hc hak
                  go_wp2_with fail
                  refine HS.out.mono ?_
                  rintro e w3 ⟨rfl, y3, y4, h2⟩
                  have H2 := Lib.hid h2
                  clear h2
                  go_wp2_with fail
                  go_meet
                  exact H2.out
              · have ec : (c == 0) = false := by rw [beq_eq_false_iff_ne]; exact hc0
                rw [if_neg (by rintro ⟨h, _⟩; exact hc0 h)] at hs'
                have HS := Lib.hid hs'
                clear hs hs' hc hak hc0
                go_wp2_with fail
                refine HS.out.mono ?_
                rintro e w3 ⟨rfl, y3, y4, h2⟩
                have H2 := Lib.hid h2
                clear h2
                go_wp2_with fail
                go_meet
                exact H2.out
            · have e0 : (K == 0) = false := by rw [beq_eq_false_iff_ne]; exact k0
              by_cases k1 : K = 1
              · subst k1
                have hs := Acked_any B B 29 [] v S _ a.lp a.lcap a.rs HOa.out HI.out.len1 HI.out.bnb HI.out.lnb (Hact.out.rg.below Hba.out) (by rw [HL.out]; omega) (fun h0 x hx => Hrb.out x hx (by rw [HL.out]; omega) h0)
                have hs' := hs.mono (R' := fun e w' => ∃ vg c, e = .returned (.tuple #[vg, .int .i64 c]) ∧ FlyStep B wr S vg (.int .u64 0) w') (fun e w' h2 => by
                  obtain ⟨vg, c, v', h1, g1, g3, _, g2⟩ := h2.owns HOa.out
                  exact ⟨vg, c, h1, _, v', _, 0, g1, HI.out.ack _, (.inr ⟨_, g3⟩), rfl, fly_ack S a.rs, ackT_len HI.out a.rs, by have := fly_ack S a.rs; omega, (Hba.out.mono HO.out.bw).trans g2⟩)
                rw [HL.out] at hs'
                have HS := Lib.hid hs'
                clear hs hs' e0 k0
                go_wp2_with fail
                refine HS.out.mono ?_
                rintro e w3 ⟨vg, c, rfl, h2⟩
                have H2 := Lib.hid h2
                clear h2
                go_wp2_with fail
                go_meet
                exact H2.out
              · have e1 : (K == 1) = false := by rw [beq_eq_false_iff_ne]; exact k1
                by_cases k2 : K = 2
                · subst k2
                  have hs := Lost_any B B 29 [] v S _ a.time a.num HOa.out HI.out.len1 HI.out.bnb Hact.out.n2
                  have hs' := hs.mono (R' := fun e w' => ∃ vg, e = .returned vg ∧ FlyStep B wr S vg (.int .u64 0) w') (fun e w' h2 => by
                    obtain ⟨vg, v', h1, g1, g3, _, g2⟩ := h2.owns HOa.out
                    exact ⟨vg, h1, _, v', _, 0, g1, HI.out.filter _, (.inr ⟨_, g3⟩), rfl, fly_split _ S.op, Nat.le_trans (List.length_filter_le _ _) HI.out.len, by have := fly_split (lostP S.bi S.bn a.time a.num) S.op; omega, (Hba.out.mono HO.out.bw).trans g2⟩)
                  have HS := Lib.hid hs'
                  clear hs hs' e0 k0 e1 k1
                  go_wp2_with fail
                  refine HS.out.mono ?_
                  rintro e w3 ⟨vg, rfl, h2⟩
                  have H2 := Lib.hid h2
                  clear h2
                  go_wp2_with fail
                  go_meet
                  exact H2.out
                · have e2 : (K == 2) = false := by rw [beq_eq_false_iff_ne]; exact k2
                  by_cases k3 : K = 3
                  · subst k3
                    have hs := Clear_any B B 29 [] v S _ HOa.out HI.out.len1
                    have hs' := hs.mono (R' := fun e w' => ∃ vg, e = .returned vg ∧ FlyStep B wr S vg (.int .u64 0) w') (fun e w' h2 => by
                      obtain ⟨vg, v', h1, g1, g3, _, g2⟩ := h2.owns HOa.out
                      exact ⟨vg, h1, _, v', _, 0, g1, HI.out.filter _, (.inr ⟨_, g3⟩), rfl, fly_split _ S.op, Nat.le_trans (List.length_filter_le _ _) HI.out.len, by have := fly_split (fun _ => true) S.op; omega, (Hba.out.mono HO.out.bw).trans g2⟩)
                    have HS := Lib.hid hs'
                    clear hs hs' e0 k0 e1 k1 e2 k2
                    go_wp2_with fail
                    refine HS.out.mono ?_
                    rintro e w3 ⟨vg, rfl, h2⟩
                    have H2 := Lib.hid h2
                    clear h2
                    go_wp2_with fail
                    go_meet
                    exact H2.out
                  · have e3 : (K == 3) = false := by rw [beq_eq_false_iff_ne]; exact k3
                    have hs : FlyStep B wr S (.slice (some ⟨w2.heap.size, 0, none⟩) 0 0) (.int .u64 0) (w2.alloc (.cells #[] 38)) := ⟨S, v, [], 0, HOa.out, HI.out, (.inl ⟨rfl, _, _, rfl⟩), rfl, by simp [flyF], by simp, by simp [flyF], Hba.out.mono HO.out.bw⟩
                    have HS := Lib.hid hs
                    clear hs k0 k1 k2 k3
                    go_wp2_with fail
                    go_meet
                    exact HS.out
          case rest =>
            obtain ⟨S', v', told, more, hO', hI', htd, rfl, hfl, htl, hft, hb⟩ := hcut
            obtain ⟨pt, ct, rfl, hcells⟩ := htd.shape
            obtain ⟨n, hn⟩ : ∃ n, told.length = n := ⟨_, rfl⟩
            have hF0b : flyF S.op ≤ 549755813888000 := Nat.le_trans (flyF_le _ (fun p hp => (HI.out.le p hp).2.2)) (Nat.mul_le_mul_right 1099511627776 HI.out.len)
            have hF1b : flyF S'.op ≤ 549755813888000 := Nat.le_trans (flyF_le _ (fun p hp => (hI'.le p hp).2.2)) (Nat.mul_le_mul_right 1099511627776 hI'.len)
            have hfl2 := fun W (hx : Below wc.heap.size wc W) => Flying_any B B 29 [] v' S' W (hO'.next hx) hI'.len1 (fun p hp => (hI'.le p hp).2.2)
            obtain ⟨F0, hF0⟩ : ∃ x, flyF S.op = x := ⟨_, rfl⟩
            obtain ⟨F1, hF1⟩ : ∃ x, flyF S'.op = x := ⟨_, rfl⟩
            rw [hF0] at hfl hft hF0b ⊢
            rw [hF1] at hfl hF1b hfl2
            rw [hn] at htl ⊢
            have hrel : ∀ W, Below wc.heap.size wc W → Owns B B 29 [] v' S' W ∧ Below B w0 W := fun W hx => ⟨hO'.next hx, (Hbw.out.trans hb).trans (hx.mono hO'.bw)⟩
            have Hrel := Lib.hid hrel
            have HI' := Lib.hid hI'
            have Hn := Lib.hid hn
            have Hcells := Lib.hid hcells
            have Hfl := Lib.hid hfl
            have Hft := Lib.hid hft
            have Hfl2 := Lib.hid hfl2
            clear hrel hI' hn hcells hfl hft hfl2 hO' hb htd hF0 hF1
            go_wp2_with fail
            go_loopw [6, 74] (fun s i wz => ∃ k t : Nat, k ≤ n ∧ i = .int .i64 k ∧ s = .int .u64 t ∧ t + flyF (told.take k) = F0 ∧ Below wc.heap.size wc wz) (fun _ i _ => n - (intOf i).toNat)
            case atStart => exact ⟨0, F0, by omega, rfl, rfl, by simp [flyF], Below.refl _ _⟩
            case round =>
              obtain ⟨k, t, hk, rfl, rfl, ht, hbz⟩ := hrel
              have htF : t ≤ F0 := by omega
              by_cases hlt2 : k < n
              · have hkl : k < told.length := by rw [Hn.out]; exact hlt2
                obtain ⟨q, hq⟩ : ∃ q, told[k] = q := ⟨_, rfl⟩
                have hq2 : told[k]? = some q := by rw [List.getElem?_eq_getElem hkl, hq]
                obtain ⟨g1, rfl, hg1, z0, z1, z2, z3, z4⟩ := Hcells.out k q hq2
                have htk : flyF (told.take (k + 1)) = flyF (told.take k) + (if q.asks then q.size else 0) := by rw [List.take_succ_eq_append_getElem hkl, hq, flyF_append]; simp [flyF]
                have hle : flyF (told.take (k + 1)) ≤ flyF told := by
                  have := flyF_append (told.take (k + 1)) (told.drop (k + 1))
                  rw [List.take_append_drop] at this
                  omega
                have hle2 := Nat.le_trans hle Hft.out
                obtain ⟨num, time, size, asks, fa, fl, fc⟩ := q
                simp only at z0 z1 z2 z3 z4 htk
                have e0 := (hbz.cell (p := ⟨g1, k * 5, none⟩) hg1).trans z0
                have e1 := (hbz.cell (p := ⟨g1, k * 5 + 1, none⟩) hg1).trans z1
                have e2 := (hbz.cell (p := ⟨g1, k * 5 + 2, none⟩) hg1).trans z2
                have e3 := (hbz.cell (p := ⟨g1, k * 5 + 3, none⟩) hg1).trans z3
                have e4 := (hbz.cell (p := ⟨g1, k * 5 + 4, none⟩) hg1).trans z4
                have hbn := hbz.alloc hbz.size (.cells #[.int .u64 (num : Int), .int .u64 (time : Int), .int .u64 (size : Int), .bool asks, .slice fa fl fc] 38)
                have Hbn := Lib.hid hbn
                clear hbz hbn hq hq2 z0 z1 z2 z3 z4 hle
                cases asks
                · rw [if_neg Bool.false_ne_true] at htk
                  have hnx : t + flyF (told.take (k + 1)) = F0 := by omega
                  have Hnx := Lib.hid hnx
                  clear htk hnx ht hle2
                  go_wp2_with fail
                  go_roundw
                  case rel => exact ⟨k + 1, t, by omega, by go_num, rfl, Hnx.out, Hbn.out⟩
                  case measure => simp [intOf]; omega
                · rw [if_pos rfl] at htk
                  have hsz : size ≤ t := by omega
                  obtain ⟨t2, ht2⟩ : ∃ t2, t - size = t2 := ⟨_, rfl⟩
                  have hsub : (t : Int) - (size : Int) = (t2 : Int) := by omega
                  have hnx : t2 + flyF (told.take (k + 1)) = F0 := by omega
                  have Hnx := Lib.hid hnx
                  have ht2b : t2 ≤ F0 := by omega
                  clear htk hnx ht hle2 ht2
                  go_wp2_with fail
                  go_roundw
                  case rel => exact ⟨k + 1, t2, by omega, by go_num, by go_num, Hnx.out, Hbn.out⟩
                  case measure => simp [intOf]; omega
              · obtain rfl : k = n := by omega
                rw [List.take_of_length_le (by rw [Hn.out]; exact Nat.le_refl _)] at ht
                have hfin : F1 = t + more := by have := Hfl.out; omega
                have hmb : more ≤ 1099511627776000 := by have := Hfl.out; have := Hft.out; omega
                have hne : ((F1 : Int) != (t : Int) + (more : Int)) = false := by
                  have : (F1 : Int) = (t : Int) + (more : Int) := by omega
                  rw [this]
                  simp
                have HF2 := Lib.hid (Hfl2.out _ hbz)
                have Hbz := Lib.hid hbz
                clear ht hfin hbz
                go_wp2_with fail
                refine HF2.out.mono ?_
                rintro e w5 ⟨rfl, hb5⟩
                have Hb5 := Lib.hid (Hbz.out.trans (hb5.mono Hbz.out.size))
                clear hb5
                go_wp2_with fail
                go_roundg (N - (j + 1))
                case measure => omega
                case rel => exact ⟨j + 1, S', v', by omega, by omega, by go_num, HI'.out, Hrel.out _ Hb5.out⟩
      · (go_wp2_with fail; go_ret; exact ⟨rfl, Hb0.out.trans (Hbw.out.mono hBl)⟩)
    · (go_wp2_with fail; go_ret; exact ⟨rfl, Hb0.out.trans (Hbw.out.mono hBl)⟩)

end Go.Proofs.Ytaoeamkkbopioaa
