/- Printed by wip/tools/does_tpl.py out of texts of other layers. -/
import Derived.Test.YtmnmpmiocgfalaaVc

namespace Go.Proofs.Ytmnmpmiocgfalaa
open Go.ChangeShapes Go.WideShapes Go.RowKit
set_option linter.unusedVariables false
theorem best_sg {bn hi t : Nat} {bi : Bool} {rs : List (Nat × Nat)} {r : Nat × Nat} (hr : rs[t]? = some r) (h0 : bi = false → bn = 0) :
    sg (bi || decide (0 < t + 1)) (bestN bn (rs.take (t + 1))) = if sg (bi || decide (0 < t)) (bestN bn (rs.take t)) < (r.2 : Int) then (r.2 : Int) else sg (bi || decide (0 < t)) (bestN bn (rs.take t)) := by
  rw [bestN_take hr]
  have e1 : (bi || decide (0 < t + 1)) = true := by simp
  rw [e1]
  by_cases h1 : (bi || decide (0 < t)) = true
  · rw [h1]
    unfold sg
    rw [if_pos rfl, if_pos rfl]
    split <;> omega
  · have h2 : (bi || decide (0 < t)) = false := by simpa using h1
    rw [h2]
    simp only [Bool.or_eq_false_iff, decide_eq_false_iff_not] at h2
    obtain ⟨h3, h4⟩ := h2
    have ht : t = 0 := by omega
    subst ht
    have e2 : bestN bn (rs.take 0) = 0 := h0 h3
    rw [e2]
    unfold sg
    rw [if_pos rfl, if_neg Bool.false_ne_true]
    split <;> omega

theorem ackP_take {rs : List (Nat × Nat)} {t : Nat} {r : Nat × Nat} (hr : rs[t]? = some r) (q : Pk) : ackP (rs.take (t + 1)) q = (ackP (rs.take t) q || (decide (r.1 ≤ q.num) && decide (q.num ≤ r.2))) := by
  unfold ackP
  rw [any_take hr]
  rfl

theorem Bs.turn {op : List Pk} {bs : List Bool} {f1 f2 f0 : Pk → Bool} (h : Bs op bs f1 f0 0) : Bs op bs f2 f0 0 := Bs.start h.1 (fun i q hq => by have := h.2 i q hq; rw [if_neg (Nat.not_lt_zero i)] at this; exact this)
theorem Bs.over {op : List Pk} {bs : List Bool} {f1 f2 f0 : Pk → Bool} {j : Nat} (h : Bs op bs f1 f0 j) (hj : op.length ≤ j) : Bs op bs f2 f1 0 := Bs.start h.1 (h.full hj)

theorem ack_round {G k b : Nat} {T : TypeId} {w wr : World} {bs : List Bool} {op : List Pk} {f f0 : Pk → Bool} {q : Pk} {x : Bool} {L : List Value} (hb : blk wr G 4 (bools bs)) (hBs : Bs op bs f f0 k) (hq : op[k]? = some q) (hf : f q = x)
    (hl : blk wr b T L) (hon : Only (fun i => i = b) w wr) (hGb : G ≠ b) (hGw : w.heap.size ≤ G) :
    Bs op (bs.set k x) f f0 (k + 1) ∧ blk (wr.setCell ⟨G, k, none⟩ (.bool x)).drew G 4 (bools (bs.set k x)) ∧ blk (wr.setCell ⟨G, k, none⟩ (.bool x)).drew b T L ∧ Only (fun i => i = b) w (wr.setCell ⟨G, k, none⟩ (.bool x)).drew := by
  refine ⟨hBs.step hq hf, ?_, (hl.set_other (p := ⟨G, k, none⟩) hGb _).drew, (hon.setCell (p := ⟨G, k, none⟩) (.inr hGw) _).drew⟩
  rw [bools_set]
  exact (hb.set k _).drew

set_option maxRecDepth 100000 in
set_option maxHeartbeats 4000000 in
theorem rAcked_any (B b : Nat) (v : Value) (S : Lg) (w : World) (p : Option Addr) (cap : Nat) (rs : List (Nat × Nat)) (h : ROwns B b v S w) (hI : Inv S)
    (hr : RgAt w p rs) (hrl : rs.length ≤ 1000) (hrb : 0 < rs.length → ∀ a, p = some a → a.block ≠ b) :
    Calls Try.prog 66 #[.pointer (some ⟨b, 0, none⟩), .slice p rs.length cap] w fun e w' => ∃ vg, e = .returned (.tuple #[vg, .int .i64 (ackE S rs)]) ∧
      ∃ v', w'.ownsRow w.heap.size 103 5 vg (ackT S rs).length (pks (ackT S rs)) ∧ RCame B b v w (ackS S rs) v' w' ∧ ∀ k, vg.ownBlock = some k → v'.ownBlock ≠ some k := by
  have hlen := hI.len1
  have hlnb := hI.ln
  have hbi := hI.bi
  have hbl := h.led.lt
  have hO := h.own
  obtain ⟨po, co, rfl, hpn⟩ := own_shape hO
  have c0 := h.led.cell (k := 0) rfl
  have c1 := h.led.cell (k := 1) rfl
  have hbad1 : rs.any formB = true → ∀ w', Below w.heap.size w w' → ∃ v', w'.ownsRow w.heap.size 103 5 (.slice none 0 0) (ackT S rs).length (pks (ackT S rs)) ∧ RCame B b (.slice po S.op.length co) w (ackS S rs) v' w' ∧ ∀ k, (Value.slice none 0 0).ownBlock = some k → v'.ownBlock ≠ some k := by
    intro h1 w' hb
    have e1 : ackS S rs = S := by unfold ackS; rw [if_pos (.inl h1)]
    have e2 : ackT S rs = [] := by unfold ackT; rw [if_pos (.inl h1)]
    rw [e1, e2]
    exact ⟨_, World.ownsRow_nil _ _ _ _, RCame.same h hb, fun k hk => by simp [Value.ownBlock] at hk⟩
  have hbad2 : rs.any (rangeB S.li S.ln) = true → ∀ w', Below w.heap.size w w' → ∃ v', w'.ownsRow w.heap.size 103 5 (.slice none 0 0) (ackT S rs).length (pks (ackT S rs)) ∧ RCame B b (.slice po S.op.length co) w (ackS S rs) v' w' ∧ ∀ k, (Value.slice none 0 0).ownBlock = some k → v'.ownBlock ≠ some k := by
    intro h1 w' hb
    have e1 : ackS S rs = S := by unfold ackS; rw [if_pos (.inr h1)]
    have e2 : ackT S rs = [] := by unfold ackT; rw [if_pos (.inr h1)]
    rw [e1, e2]
    exact ⟨_, World.ownsRow_nil _ _ _ _, RCame.same h hb, fun k hk => by simp [Value.ownBlock] at hk⟩
  have hE1 : rs.any formB = true → ackE S rs = 2 := fun h => by unfold ackE; rw [if_pos h]
  have hE2 : rs.any formB = false → rs.any (rangeB S.li S.ln) = true → ackE S rs = 3 := fun h h2 => by unfold ackE; rw [if_neg (by rw [h]; exact Bool.false_ne_true), if_pos h2]
  have hE3 : rs.any formB = false → rs.any (rangeB S.li S.ln) = false → ackE S rs = 0 ∧ ackS S rs = { bestF S rs with op := S.op.filter (fun q => !ackP rs q) } ∧ ackT S rs = S.op.filter (ackP rs) := fun h0 h1 => by
    have hn : ¬ (rs.any formB = true ∨ rs.any (rangeB S.li S.ln) = true) := by rw [h0, h1]; simp
    refine ⟨?_, ?_, ?_⟩
    · unfold ackE; rw [if_neg (by rw [h0]; exact Bool.false_ne_true), if_neg (by rw [h1]; exact Bool.false_ne_true)]
    · unfold ackS; rw [if_neg hn]
    · unfold ackT; rw [if_neg hn]
  obtain ⟨E, hEe⟩ : ∃ E, ackE S rs = E := ⟨_, rfl⟩
  rw [hEe] at hE1 hE2 hE3 ⊢
  have HB1 := Lib.hid hbad1
  have HB2 := Lib.hid hbad2
  have HE1 := Lib.hid hE1
  have HE2 := Lib.hid hE2
  have HE3 := Lib.hid hE3
  have Hh := Lib.hid h
  have Hbi := Lib.hid hbi
  obtain ⟨N, hN⟩ : ∃ N, S.op.length = N := ⟨_, rfl⟩
  rw [hN] at hpn hlen hO c0
  obtain ⟨n, hn⟩ : ∃ n, rs.length = n := ⟨_, rfl⟩
  rw [hn] at hrl hrb ⊢
  obtain ⟨R, hR⟩ : ∃ R : List Pk → List Pk → Prop, R = R := ⟨fun _ _ => True, rfl⟩
  have HN := Lib.hid hN
  have Hn := Lib.hid hn
  have HO := Lib.hid hO
  have HR := Lib.hid hr
  have Hrb := Lib.hid hrb
  have hno := own_ne h.own h.led (by decide)
  rw [hN] at hno
  have Hno := Lib.hid hno
  clear h hN hn hO hpn hI hr hrb hno hbad1 hbad2 hE1 hE2 hE3 hEe hbi hR
  clear R
  obtain ⟨ln, hlne⟩ : ∃ x, S.ln = x := ⟨_, rfl⟩
  obtain ⟨li, hlie⟩ : ∃ x, S.li = x := ⟨_, rfl⟩
  rw [hlne, hlie] at c1
  rw [hlne] at hlnb
  have Hln := Lib.hid hlne
  have Hli := Lib.hid hlie
  clear hlne hlie
  obtain ⟨la, hlae⟩ : ∃ x, sg li ln = x := ⟨_, rfl⟩
  rw [hlae] at c1
  have hrange : li = false ∧ la = -1 ∨ li = true ∧ la = (ln : Int) := by
    rw [← hlae]
    cases li
    · exact .inl ⟨rfl, rfl⟩
    · exact .inr ⟨rfl, rfl⟩
  clear hlae
  have Hrange := Lib.hid hrange
  clear hrange
  obtain ⟨i0, hi0, hz0, hz1, hz2⟩ := info_parts Try.infoB
  go_enter Try.func66, Try.ntmps66
  go_wp2_with fail
  go_loopw [6, 7] (fun bad i wr => ∃ j : Nat, ∃ z : Bool, j ≤ n ∧ i = .int .i64 j ∧ bad = .bool z ∧ (rs.take j).any formB = false ∧ (rs.take j).any (rangeB li ln) = z ∧ Below w.heap.size w wr) (fun _ i _ => n - (intOf i).toNat)
  case atStart => exact ⟨0, false, by omega, rfl, rfl, rfl, rfl, Below.refl _ _⟩
  case round =>
    obtain ⟨j, z, hj, rfl, rfl, hnf, hz, hbw⟩ := hrel
    have e0 := (hbw.cell (p := ⟨b, 0, none⟩) hbl).trans c0
    have e1 := (hbw.cell (p := ⟨b, 1, none⟩) hbl).trans c1
    have hblr := Nat.lt_of_lt_of_le hbl hbw.size
    by_cases hlt : j < n
    · have hjl : j < rs.length := by rw [Hn.out]; exact hlt
      obtain ⟨⟨lo, hi⟩, hq⟩ : ∃ r, rs[j] = r := ⟨_, rfl⟩
      have hq2 : rs[j]? = some (lo, hi) := by rw [List.getElem?_eq_getElem hjl, hq]
      obtain ⟨gb, o, hpe, hg, hc⟩ := (HR.out.below hbw) (by omega)
      obtain ⟨x1, x2⟩ := hc j _ hq2
      simp only at x1 x2
      have Htk := Lib.hid (any_take (f := formB) hq2)
      have Htr := Lib.hid (any_take (f := rangeB li ln) hq2)
      have Hq2 := Lib.hid hq2
      have Hnf := Lib.hid hnf
      have Hz := Lib.hid hz
      have Hbw := Lib.hid hbw
      subst hpe
      clear hbw hc hq hq2 hnf hz
      by_cases hbad : hi < lo
      · have hf : formB (lo, hi) = true := by simp [formB, hbad]
        have Hany := Lib.hid (any_mem Hq2.out hf)
        clear hf
        go_wp2_with fail
        go_quiet (fail)
        go_wp2_with fail
        go_ret2
        exact ⟨_, by rw [HE1.out Hany.out]; rfl, HB1.out Hany.out _ (below_drewN Hbw.out _)⟩
      · have hf : formB (lo, hi) = false := by simp [formB]; omega
        have hnext : (rs.take (j + 1)).any formB = false := by rw [Htk.out, Hnf.out, hf]; rfl
        have Hnext := Lib.hid hnext
        clear hf hnext
        cases z
        · rcases Hrange.out with ⟨hl1, hl2⟩ | ⟨hl1, hl2⟩
          · subst hl2
            have hfr : (rs.take (j + 1)).any (rangeB li ln) = true := by rw [Htr.out, Hz.out, hl1]; rfl
            have Hfr := Lib.hid hfr
            clear hfr hl1
            go_wp2_with fail
            go_quiet (fail)
            go_wp2_with fail
            go_quiet (fail)
            go_wp2_with fail
            go_roundw
            case rel => exact ⟨j + 1, true, by omega, by go_num, rfl, Hnext.out, Hfr.out, below_drewN Hbw.out _⟩
            case measure => simp [intOf]; omega
          · subst hl2
            have d0 : decide ((ln : Int) < 0) = false := by rw [decide_eq_false_iff_not]; omega
            by_cases hlr : ln < hi
            · have d1 : decide (ln < hi) = true := by rw [decide_eq_true_iff]; exact hlr
              have hfr : (rs.take (j + 1)).any (rangeB li ln) = true := by rw [Htr.out, Hz.out, hl1]; simp [rangeB, hlr]
              have Hfr := Lib.hid hfr
              clear hfr hl1
              go_wp2_with fail
              go_quiet (fail)
              go_wp2_with fail
              go_quiet (fail)
              go_wp2_with fail
              go_roundw
              case rel => exact ⟨j + 1, true, by omega, by go_num, rfl, Hnext.out, Hfr.out, below_drewN Hbw.out _⟩
              case measure => simp [intOf]; omega
            · have d1 : decide (ln < hi) = false := by rw [decide_eq_false_iff_not]; exact hlr
              have hfr : (rs.take (j + 1)).any (rangeB li ln) = false := by rw [Htr.out, Hz.out, hl1]; simp [rangeB]; omega
              have Hfr := Lib.hid hfr
              clear hfr hl1
              go_wp2_with fail
              go_quiet (fail)
              go_wp2_with fail
              go_quiet (fail)
              go_wp2_with fail
              go_roundw
              case rel => exact ⟨j + 1, false, by omega, by go_num, rfl, Hnext.out, Hfr.out, below_drewN Hbw.out _⟩
              case measure => simp [intOf]; omega
        · have hfr : (rs.take (j + 1)).any (rangeB li ln) = true := by rw [Htr.out, Hz.out]; rfl
          have Hfr := Lib.hid hfr
          clear hfr
          go_wp2_with fail
          go_quiet (fail)
          go_wp2_with fail
          go_quiet (fail)
          go_wp2_with fail
          go_roundw
          case rel => exact ⟨j + 1, true, by omega, by go_num, rfl, Hnext.out, Hfr.out, below_drewN Hbw.out _⟩
          case measure => simp [intOf]; omega
    · obtain rfl : j = n := by omega
      rw [List.take_of_length_le (by rw [Hn.out]; exact Nat.le_refl _)] at hnf hz
      have Hform := Lib.hid hnf
      have Hz := Lib.hid hz
      have Hbw := Lib.hid hbw
      clear hnf hz
      cases z
      · clear hbw
        go_wp2_with (at_make; refine wpList_make_full wr rfl _ _ 51 rfl wr.heap.size 4 i0 _ 1 Try.underlying51 hi0 hz0 hz1 .i64 .i64 _ _ N rfl rfl rfl rfl (by rw [hz2]; omega) (by unfold maxLen; omega) (Nat.le_refl _) ?_)
        intro w1 ho1 hg1
        have hb1 : Below wr.heap.size wr w1 := (Below.refl _ _).grown hg1 (Nat.le_refl _) (fun k hk => by cases hk)
        have hbg := own_blk ho1
        rw [bools_zero] at hbg
        have hGw : w.heap.size ≤ wr.heap.size := Hbw.out.size
        obtain ⟨G, hG⟩ : ∃ G, wr.heap.size = G := ⟨_, rfl⟩
        rw [hG] at hbg hGw ⊢
        have hbw1 := Hbw.out.trans (hb1.mono Hbw.out.size)
        have hled1 := (Hh.out.next hbw1).led
        have hled2 : blk w1 b 80 [.slice po S.op.length co, .int .i64 (sg S.li S.ln), .int .i64 (sg (S.bi || decide (0 < 0)) (bestN S.bn (rs.take 0)))] := by
          have e1 : bestN S.bn (rs.take 0) = S.bn := rfl
          have e2 : (S.bi || decide (0 < 0)) = S.bi := by simp
          rw [e1, e2]
          exact hled1
        rw [HN.out] at hled2
        have Hst := Lib.hid (And.intro hbg (And.intro hled2 (Only.ofBelow (S := fun k => k = b) hbw1)))
        have HbwX := Lib.hid hbw1
        clear ho1 hg1 hb1 hbg hled1 hled2 hbw1 hG e0 e1
        go_wp2_with fail
        go_loopw [9] (fun i wr => ∃ t : Nat, ∃ bs : List Bool, t ≤ j ∧ i = .int .i64 t ∧ Bs S.op bs (ackP (rs.take t)) (ackP (rs.take t)) 0 ∧ blk wr G 4 (bools bs) ∧ blk wr b 80 [.slice po N co, .int .i64 (sg S.li S.ln), .int .i64 (sg (S.bi || decide (0 < t)) (bestN S.bn (rs.take t)))] ∧ Only (fun k => k = b) w wr) (fun i _ => j - (intOf i).toNat)
        case atStart => exact ⟨0, _, by omega, rfl, Bs.zero _ _ _ HN.out, Hst.out.1, Hst.out.2.1, Hst.out.2.2⟩
        case round =>
          obtain ⟨t, bs, ht, rfl, hBs, hbg, hled, hon⟩ := hrel
          have hblr := Nat.lt_of_lt_of_le hbl hon.size
          by_cases hlt : t < j
          · have htl : t < rs.length := by rw [Hn.out]; exact hlt
            obtain ⟨⟨lo, hi⟩, hq⟩ : ∃ r, rs[t] = r := ⟨_, rfl⟩
            have hq2 : rs[t]? = some (lo, hi) := by rw [List.getElem?_eq_getElem htl, hq]
            have hzr : rs.any (rangeB S.li S.ln) = false := by rw [Hli.out, Hln.out]; exact Hz.out
            have hhi : hi ≤ ln := by
              rw [List.any_eq_false] at hzr
              have := hzr _ (List.mem_of_getElem? hq2)
              rw [Hli.out, Hln.out] at this
              simp only [rangeB, Bool.or_eq_true, decide_eq_true_eq, not_or] at this
              omega
            obtain ⟨gb, o, hpe, hg, hc⟩ := HR.out (by omega)
            have hgb : gb ≠ b := Hrb.out (by omega) _ hpe
            obtain ⟨x1, x2⟩ := hc t _ hq2
            simp only at x1 x2
            have r1 := (hon.cell (p := ⟨gb, o + t * 2, none⟩) hg hgb).trans x1
            have r2 := (hon.cell (p := ⟨gb, o + t * 2 + 1, none⟩) hg hgb).trans x2
            have hgr := Nat.lt_of_lt_of_le hg hon.size
            have hbest := best_sg (bn := S.bn) (hi := hi) hq2 Hbi.out
            simp only at hbest
            obtain ⟨be, hbe⟩ : ∃ x, sg (S.bi || decide (0 < t)) (bestN S.bn (rs.take t)) = x := ⟨_, rfl⟩
            rw [hbe] at hbest hled
            have b0 := hled.cell (k := 0) rfl
            have b2 := hled.cell (k := 2) rfl
            have b3 := hled.free 2
            have Hbest := Lib.hid hbest
            have Hled := Lib.hid hled
            have Hon := Lib.hid hon
            have Hbg := Lib.hid hbg
            have HBs := Lib.hid hBs
            have Hq2 := Lib.hid hq2
            have HX := Lib.hid (And.intro x1 x2)
            have Hpk := Lib.hid (fun q => ackP_take hq2 q)
            subst hpe
            clear hbest hled hon hbg hBs hq hq2 hc hzr hbe x1 x2
            go_wp2_with fail
            go_region
            all_goals
              have hbest2 := Hbest.out
              try rw [show max be (hi : Int) = (if be < (hi : Int) then (hi : Int) else be) by split <;> omega]
              obtain ⟨bm, hbm⟩ : ∃ x, (if be < (hi : Int) then (hi : Int) else be) = x := ⟨_, rfl⟩
              rw [hbm] at hbest2 ⊢
              clear hbm
              obtain ⟨w2, hw2⟩ : ∃ w2, (wr.setCell ⟨b, 2, none⟩ (.int .i64 bm)).drew = w2 := ⟨_, rfl⟩
              rw [hw2]
              have hGb : G ≠ b := by omega
              have hled2 : blk w2 b 80 [.slice po N co, .int .i64 (sg S.li S.ln), .int .i64 (sg (S.bi || decide (0 < t + 1)) (bestN S.bn (rs.take (t + 1))))] := by rw [hbest2, ← hw2]; exact (Hled.out.set 2 _).drew
              have hbg2 : blk w2 G 4 (bools bs) := by rw [← hw2]; exact (Hbg.out.set_other (p := ⟨b, 2, none⟩) (Ne.symm hGb) _).drew
              have hon2 : Only (fun k => k = b) w w2 := by rw [← hw2]; exact (Hon.out.setCell (p := ⟨b, 2, none⟩) (.inl rfl) _).drew
              have m0 := hled2.cell (k := 0) rfl
              have hblr2 := hled2.lt
              obtain ⟨bf, hbf⟩ : ∃ x, sg (S.bi || decide (0 < t + 1)) (bestN S.bn (rs.take (t + 1))) = x := ⟨_, rfl⟩
              rw [hbf] at hled2
              have Hbf := Lib.hid hbf
              have Hled2 := Lib.hid hled2
              have Hbg2 := Lib.hid hbg2
              have Hon2 := Lib.hid hon2
              have HGb := Lib.hid hGb
              clear hw2 hled2 hbg2 hon2 hGb hbest2 b0 b2 b3 r1 r2 hblr hgr hbf
              clear Hled Hbg Hon Hbest
              go_wp2_with fail
              go_loopw [10] (fun i wr => ∃ k : Nat, ∃ bs : List Bool, k ≤ N ∧ i = .int .i64 k ∧ Bs S.op bs (ackP (rs.take (t + 1))) (ackP (rs.take t)) k ∧ blk wr G 4 (bools bs) ∧ blk wr b 80 [.slice po N co, .int .i64 (sg S.li S.ln), .int .i64 bf] ∧ Only (fun k => k = b) w wr) (fun i _ => N - (intOf i).toNat)
              case atStart => exact ⟨0, _, by omega, rfl, HBs.out.turn, Hbg2.out, Hled2.out, Hon2.out⟩
              case round =>
                obtain ⟨k, bs3, hk, rfl, hBs, hbg, hled, hon⟩ := hrel
                have e0 := hled.cell (k := 0) rfl
                have hblr := hled.lt
                have HBs3 := Lib.hid hBs
                have Hbg3 := Lib.hid hbg
                have Hled3 := Lib.hid hled
                have Hon3 := Lib.hid hon
                by_cases hlt3 : k < N
                · have hkl : k < S.op.length := by rw [HN.out]; exact hlt3
                  obtain ⟨q, hq⟩ : ∃ q, S.op[k] = q := ⟨_, rfl⟩
                  have hq2 : S.op[k]? = some q := by rw [List.getElem?_eq_getElem hkl, hq]
                  obtain ⟨g1, cap1, hv, hgB, hg1, k0, k1, k2, k3, k4⟩ := rpk_cells HO.out k q hq2
                  injection hv with hv1 hv2 hv3
                  subst hv1
                  have hg1b : g1 ≠ b := fun e => Hno.out (congrArg some e)
                  have z0 := (hon.cell (p := ⟨g1, k * 5, none⟩) hg1 hg1b).trans k0
                  have z1 := (hon.cell (p := ⟨gb, o + t * 2, none⟩) hg hgb).trans HX.out.1
                  have z2 := (hon.cell (p := ⟨gb, o + t * 2 + 1, none⟩) hg hgb).trans HX.out.2
                  have y0 := hbg.cell (k := k) (bools_at (hBs.at hq2))
                  have y1 := hbg.free k
                  have hgl := hbg.lt
                  have hg1r := Nat.lt_of_lt_of_le hg1 hon.size
                  have hgr := Nat.lt_of_lt_of_le hg hon.size
                  have hfq := Hpk.out q
                  have Hp2 := Lib.hid hq2
                  obtain ⟨y, hy⟩ : ∃ y, ackP (rs.take t) q = y := ⟨_, rfl⟩
                  rw [hy] at y0 hfq
                  obtain ⟨num, time, size, asks, fa, fl, fc⟩ := q
                  simp only at z0 hfq
                  clear hBs hbg hled hon hq hq2 k0 k1 k2 k3 k4 hv2 hv3 hg1b hy
                  cases y
                  · rw [Bool.false_or] at hfq
                    by_cases h1 : lo ≤ num
                    · have d1 : decide (lo ≤ num) = true := by rw [decide_eq_true_iff]; exact h1
                      rw [d1, Bool.true_and] at hfq
                      by_cases h2 : num ≤ hi
                      · have d2 : decide (num ≤ hi) = true := by rw [decide_eq_true_iff]; exact h2
                        rw [d2] at hfq
                        have Hfq := Lib.hid hfq
                        clear hfq
                        go_wp2_with fail
                        go_region
                        all_goals
                          go_wp2_with fail
                          go_roundw
                          case rel =>
                            obtain ⟨r1, r2, r3, r4⟩ := ack_round Hbg3.out HBs3.out Hp2.out Hfq.out Hled3.out Hon3.out HGb.out hGw
                            exact ⟨k + 1, _, by omega, by go_num, r1, r2, r3, r4⟩
                          case measure => simp [intOf]; omega
                      · have d2 : decide (num ≤ hi) = false := by rw [decide_eq_false_iff_not]; exact h2
                        rw [d2] at hfq
                        have Hfq := Lib.hid hfq
                        clear hfq
                        go_wp2_with fail
                        go_region
                        all_goals
                          go_wp2_with fail
                          go_roundw
                          case rel =>
                            obtain ⟨r1, r2, r3, r4⟩ := ack_round Hbg3.out HBs3.out Hp2.out Hfq.out Hled3.out Hon3.out HGb.out hGw
                            exact ⟨k + 1, _, by omega, by go_num, r1, r2, r3, r4⟩
                          case measure => simp [intOf]; omega
                    · have d1 : decide (lo ≤ num) = false := by rw [decide_eq_false_iff_not]; exact h1
                      rw [d1, Bool.false_and] at hfq
                      have Hfq := Lib.hid hfq
                      clear hfq
                      go_wp2_with fail
                      go_region
                      all_goals
                        go_wp2_with fail
                        go_roundw
                        case rel =>
                          obtain ⟨r1, r2, r3, r4⟩ := ack_round Hbg3.out HBs3.out Hp2.out Hfq.out Hled3.out Hon3.out HGb.out hGw
                          exact ⟨k + 1, _, by omega, by go_num, r1, r2, r3, r4⟩
                        case measure => simp [intOf]; omega
                  · rw [Bool.true_or] at hfq
                    have Hfq := Lib.hid hfq
                    clear hfq
                    go_wp2_with fail
                    go_region
                    all_goals
                      go_wp2_with fail
                      go_roundw
                      case rel =>
                        obtain ⟨r1, r2, r3, r4⟩ := ack_round Hbg3.out HBs3.out Hp2.out Hfq.out Hled3.out Hon3.out HGb.out hGw
                        exact ⟨k + 1, _, by omega, by go_num, r1, r2, r3, r4⟩
                      case measure => simp [intOf]; omega
                · obtain rfl : k = N := by omega
                  clear hBs hbg hled hon
                  go_wp2_with fail
                  go_roundw
                  case rel => exact ⟨t + 1, bs3, by omega, by go_num, HBs3.out.over (by rw [HN.out]; exact Nat.le_refl _), Hbg3.out, by rw [Hbf.out]; exact Hled3.out, Hon3.out⟩
                  case measure => simp [intOf]; omega
          · obtain rfl : t = j := by omega
            have hzr : rs.any (rangeB S.li S.ln) = false := by rw [Hli.out, Hln.out]; exact Hz.out
            obtain ⟨q1, q2, q3⟩ := HE3.out Hform.out hzr
            have etk : rs.take t = rs := List.take_of_length_le (by rw [Hn.out]; exact Nat.le_refl _)
            have ed : decide (0 < t) = !rs.isEmpty := by
              rw [← Hn.out]
              cases rs <;> simp
            rw [etk, ed] at hled
            rw [etk] at hBs
            have hownr : wr.ownsRow B 103 5 (.slice po S.op.length co) S.op.length (pks S.op) := own_only Hh.out.own hon (fun i hi e => by rw [HN.out, e] at hi; exact Hno.out hi)
            have hT := take_any B b (.slice po S.op.length co) (.int .i64 (sg S.li S.ln)) (.int .i64 (sg (bestF S rs).bi (bestF S rs).bn)) S wr (ackP rs) G N (by rw [HN.out]; exact hled) hownr (by rw [HN.out]; exact hlen) hbg.lt (fun i q hq => hbg.cell (bools_at (by have := hBs.2 i q hq; rw [if_neg (Nat.not_lt_zero i)] at this; exact this)))
            rw [HN.out] at hT
            have Hon := Lib.hid hon
            have HT := Lib.hid hT
            have b0 := hled.cell (k := 0) rfl
            have Hq := Lib.hid (And.intro q1 (And.intro q2 q3))
            clear hled hownr hT hon hbg hBs hzr q1 q2 q3 etk ed
            go_wp2_with fail
            refine HT.out.mono ?_
            rintro e w' ⟨vg, vs, rfl, t1, t2, t3, t5, t4⟩
            have HE := Lib.hid (take_end (S1 := bestF S rs) Hh.out Hon.out rfl t1 t2 t3 t5 t4)
            clear t1 t2 t3 t4 t5
            go_wp2_with fail
            go_ret2
            refine ⟨vg, by rw [Hq.out.1]; rfl, vs, ?_⟩
            rw [Hq.out.2.1, Hq.out.2.2]
            exact HE.out
      · go_wp2_with fail
        go_ret2
        have hzr : rs.any (rangeB S.li S.ln) = true := by rw [Hli.out, Hln.out]; exact Hz.out
        exact ⟨_, by rw [HE2.out Hform.out hzr]; rfl, HB2.out hzr _ Hbw.out⟩

end Go.Proofs.Ytmnmpmiocgfalaa
