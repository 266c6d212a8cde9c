/- The reference's Sent (whole), Skip, Clear, Flying. -/
import Derived.Test.YtaoeamkkbopioaaRa
namespace Go.Proofs.Ytaoeamkkbopioaa
open Go.ChangeShapes Go.WideShapes Go.RowKit
set_option linter.unusedVariables false

set_option maxRecDepth 100000 in
set_option maxHeartbeats 1000000 in
theorem rSent_many (B b : Nat) (v : Value) (S : Lg) (w : World) (num time size : Nat) (asks : Bool) (h : ROwns B b v S w) (hla : -1 ≤ sg S.li S.ln ∧ sg S.li S.ln ≤ 4611686018427387903)
    (h1 : num < 4611686018427387904) (h2 : ¬ (num : Int) ≤ sg S.li S.ln) (h3 : time ≤ 1099511627776) (h4 : size ≤ 1099511627776) (h5 : 500 ≤ S.op.length) (h6 : S.op.length ≤ 1000) :
    Calls Try.prog 20 #[.pointer (some ⟨b, 0, none⟩), .agg #[.int .u64 (num : Int), .int .u64 (time : Int), .int .u64 (size : Int), .bool asks, .slice none 0 0]] w fun e w' => e = .returned (.int .i64 4) ∧ Below w.heap.size w w' := by
  obtain ⟨hl1, hl2⟩ := hla
  have hO := h.own
  obtain ⟨p, cap, rfl, hpn⟩ := own_shape hO
  have hbl := h.led.lt
  have c0 := h.led.cell (k := 0) rfl
  have c1 := h.led.cell (k := 1) rfl
  obtain ⟨N, hN⟩ : ∃ N, S.op.length = N := ⟨_, rfl⟩
  obtain ⟨la, hlae⟩ : ∃ x, sg S.li S.ln = x := ⟨_, rfl⟩
  rw [hN] at c0 h5 h6
  rw [hlae] at c1 hl1 hl2 h2
  have d1 : decide ((4611686018427387904 : Int) ≤ (num : Int)) = false := by rw [decide_eq_false_iff_not]; omega
  have d2 : decide ((num : Int) ≤ la) = false := by rw [decide_eq_false_iff_not]; exact h2
  have d3 : decide ((1099511627776 : Int) < (time : Int)) = false := by rw [decide_eq_false_iff_not]; omega
  have d4 : decide ((1099511627776 : Int) < (size : Int)) = false := by rw [decide_eq_false_iff_not]; omega
  clear h hN hlae h2 hO hpn
  go_enter Try.func20, Try.ntmps20
  go_wp2_with fail
  go_quiet (fail)
  go_wp2_with fail
  go_ret
  exact ⟨rfl, below_drewN ((Below.refl _ _).alloc (Nat.le_refl _) _) _⟩

/-- Sent, whole. -/
theorem rSent_any (B b : Nat) (v : Value) (S : Lg) (w : World) (num time size : Nat) (asks : Bool) (h : ROwns B b v S w) (hI : Inv S) (hnum : num < 2 ^ 64) :
    Calls Try.prog 20 #[.pointer (some ⟨b, 0, none⟩), .agg #[.int .u64 (num : Int), .int .u64 (time : Int), .int .u64 (size : Int), .bool asks, .slice none 0 0]] w fun e w' => e = .returned (.int .i64 (sentF S ⟨num, time, size, asks, none, 0, 0⟩).2) ∧ ∃ v', RCame B b v w (sentF S ⟨num, time, size, asks, none, 0, 0⟩).1 v' w' := by
  have hla := sg_bounds (is := S.li) hI.ln
  have hbs := bad_sg (num := num) hI
  unfold sentF
  by_cases hbad : sentBad S ⟨num, time, size, asks, none, 0, 0⟩ = true
  · rw [if_pos hbad]
    refine (rSent_bad b _ w num time size asks h.led.lt (h.led.cell rfl) hla hnum ?_).mono fun e w' ⟨h1, h2⟩ => ⟨h1, v, RCame.same h h2⟩
    rw [← hbs]
    exact hbad
  · rw [if_neg hbad]
    unfold sentBad at hbad
    simp only [hbs, Bool.or_eq_true, decide_eq_true_eq, not_or] at hbad
    obtain ⟨⟨⟨g1, g2⟩, g3⟩, g4⟩ := hbad
    by_cases h5 : 500 ≤ S.op.length
    · rw [if_pos h5]
      exact (rSent_many B b v S w num time size asks h hla (by omega) g2 (by omega) (by omega) h5 hI.len1).mono fun e w' ⟨h1, h2⟩ => ⟨h1, v, RCame.same h h2⟩
    · rw [if_neg h5]
      exact rSent_ok B b v S w num time size asks h hla (by omega) g2 (by omega) (by omega) (by omega)

set_option maxRecDepth 100000 in
set_option maxHeartbeats 1000000 in
theorem rSkip_any (B b : Nat) (v : Value) (S : Lg) (w : World) (num : Nat) (h : ROwns B b v S w) (hI : Inv S) (hnum : num < 2 ^ 64) :
    Calls Try.prog 26 #[.pointer (some ⟨b, 0, none⟩), .int .u64 (num : Int)] w fun e w' => e = .returned (.int .i64 (skipF S num).2) ∧ ∃ v', RCame B b v w (skipF S num).1 v' w' := by
  have hla := sg_bounds (is := S.li) hI.ln
  have hbs := bad_sg (num := num) hI
  obtain ⟨hl1, hl2⟩ := hla
  have hbl := h.led.lt
  have c1 := h.led.cell (k := 1) rfl
  have f1 := h.led.free 1
  have hgood : ∃ v', RCame B b v w { S with ln := num, li := true } v' (w.setCell ⟨b, 1, none⟩ (.int .i64 (num : Int))) := by
    have hob : Only (fun k => k = b) w (w.setCell ⟨b, 1, none⟩ (.int .i64 (num : Int))) := (Only.refl (fun k => k = b) w).setCell (p := ⟨b, 1, none⟩) (.inl rfl) _
    have hne : v.ownBlock ≠ some b := own_ne h.own h.led (by decide)
    refine ⟨v, ⟨(h.led.set 1 _), own_only h.own hob (fun k e e2 => hne (by rw [e, e2])), Nat.le_trans h.bw hob.size, h.bb⟩, hob.mono (fun i e => .inl e), .inl rfl⟩
  have hsame := fun w' hb => (⟨v, RCame.same (w' := w') h hb⟩ : ∃ v', RCame B b v w S v' w')
  unfold skipF
  rw [hbs]
  obtain ⟨la, hlae⟩ : ∃ x, sg S.li S.ln = x := ⟨_, rfl⟩
  rw [hlae] at c1 hl1 hl2 ⊢
  have Hg := Lib.hid hgood
  have Hs := Lib.hid hsame
  clear hgood hsame h hlae hbs hI
  by_cases h1 : 4611686018427387904 ≤ num
  · have hd : decide (4611686018427387904 ≤ num) = true := by rw [decide_eq_true_iff]; exact h1
    rw [hd, Bool.true_or, if_pos rfl]
    have d1 : decide ((4611686018427387904 : Int) ≤ (num : Int)) = true := by rw [decide_eq_true_iff]; omega
    clear hd
    go_enter Try.func26, Try.ntmps26
    go_wp2_with fail
    go_ret
    exact ⟨rfl, Hs.out _ (Below.refl _ _)⟩
  · have hd : decide (4611686018427387904 ≤ num) = false := by rw [decide_eq_false_iff_not]; exact h1
    have d1 : decide ((4611686018427387904 : Int) ≤ (num : Int)) = false := by rw [decide_eq_false_iff_not]; omega
    rw [hd, Bool.false_or]
    clear hd
    by_cases h2 : (num : Int) ≤ la
    · have d2 : decide ((num : Int) ≤ la) = true := by rw [decide_eq_true_iff]; exact h2
      rw [d2, if_pos rfl]
      go_enter Try.func26, Try.ntmps26
      go_wp2_with fail
      go_ret
      exact ⟨rfl, Hs.out _ (Below.refl _ _)⟩
    · have d2 : decide ((num : Int) ≤ la) = false := by rw [decide_eq_false_iff_not]; exact h2
      rw [d2, if_neg Bool.false_ne_true]
      go_enter Try.func26, Try.ntmps26
      go_wp2_with fail
      go_ret
      exact ⟨rfl, Hg.out⟩

set_option maxRecDepth 100000 in
theorem rClear_any (B b : Nat) (v : Value) (S : Lg) (w : World) (h : ROwns B b v S w) :
    Calls Try.prog 24 #[.pointer (some ⟨b, 0, none⟩)] w fun e w' => e = .returned v ∧ w'.ownsRow B 54 5 v S.op.length (pks S.op) ∧ RCame B b v w { S with op := [] } (.slice none 0 0) w' := by
  have hbl := h.led.lt
  have c0 := h.led.cell (k := 0) rfl
  have f0 := h.led.free 0
  obtain ⟨p, cap, rfl, _⟩ := own_shape h.own
  have hob : Only (fun k => k = b) w (w.setCell ⟨b, 0, none⟩ (.slice none 0 0)) := (Only.refl (fun k => k = b) w).setCell (p := ⟨b, 0, none⟩) (.inl rfl) _
  have hne := own_ne h.own h.led (by decide)
  have hown := own_only h.own hob (fun k e e2 => hne (by rw [e, e2]))
  have hend : RCame B b (.slice p S.op.length cap) w { S with op := [] } (.slice none 0 0) (w.setCell ⟨b, 0, none⟩ (.slice none 0 0)) :=
    ⟨⟨h.led.set 0 _, World.ownsRow_nil _ _ _ _, Nat.le_trans h.bw hob.size, h.bb⟩, hob.mono (fun i e => .inl e), .inr fun k e => by simp [Value.ownBlock] at e⟩
  have He := Lib.hid (And.intro hown hend)
  clear h hob hne hown hend
  go_enter Try.func24, Try.ntmps24
  go_wp2_with fail
  go_ret
  exact ⟨rfl, He.out⟩

/-- A packet's five cells at the place of element i. -/
theorem rpk_cells {w : World} {base : Nat} {v : Value} {n : Nat} {l : List Pk} (h : w.ownsRow base 54 5 v n (pks l)) (i : Nat) (p : Pk) (hp : l[i]? = some p) :
    ∃ g cap, v = .slice (some ⟨g, 0, none⟩) n cap ∧ base ≤ g ∧ g < w.heap.size ∧ w.cell? ⟨g, i * 5, none⟩ = some (.int .u64 (p.num : Int)) ∧ w.cell? ⟨g, i * 5 + 1, none⟩ = some (.int .u64 (p.time : Int)) ∧
      w.cell? ⟨g, i * 5 + 2, none⟩ = some (.int .u64 (p.size : Int)) ∧ w.cell? ⟨g, i * 5 + 3, none⟩ = some (.bool p.asks) ∧ w.cell? ⟨g, i * 5 + 4, none⟩ = some (.slice p.fa p.fl p.fc) := by
  have hl := h.1
  rw [pks_length] at hl
  have hi : i < l.length := (List.getElem?_eq_some_iff.1 hp).1
  obtain ⟨g, cap, hv, hb, hg, hc, _⟩ := own_view h (by omega)
  exact ⟨g, cap, hv, hb, hg, hc _ _ (pks_at l i p hp 0 (by omega)), hc _ _ (pks_at l i p hp 1 (by omega)), hc _ _ (pks_at l i p hp 2 (by omega)), hc _ _ (pks_at l i p hp 3 (by omega)), hc _ _ (pks_at l i p hp 4 (by omega))⟩

set_option maxRecDepth 100000 in
set_option maxHeartbeats 1000000 in
theorem rFlying_any (B b : Nat) (v : Value) (S : Lg) (w : World) (h : ROwns B b v S w) (hI : Inv S) :
    Calls Try.prog 29 #[.pointer (some ⟨b, 0, none⟩)] w fun e w' => e = .returned (.int .u64 (flyF S.op : Nat)) ∧ Below w.heap.size w w' := by
  have hsz : ∀ p ∈ S.op, p.size ≤ 1099511627776 := fun p hp => (hI.le p hp).2.2
  have hlen := hI.len1
  have hbl := h.led.lt
  have hO := h.own
  obtain ⟨p, cap, rfl, hpn⟩ := own_shape hO
  have c0 : w.cell? ⟨b, 0, none⟩ = some (.slice p S.op.length cap) := h.led.cell rfl
  obtain ⟨N, hN⟩ : ∃ N, S.op.length = N := ⟨_, rfl⟩
  rw [hN] at hpn hlen hO c0
  have HN := Lib.hid hN
  have HO := Lib.hid hO
  have Hsz := Lib.hid hsz
  clear h hN hO hpn hsz hI
  go_enter Try.func29, Try.ntmps29
  go_wp2_with fail
  go_loopw [3, 4] (fun n i wr => ∃ j t : Nat, j ≤ N ∧ i = .int .i64 j ∧ t = flyF (S.op.take j) ∧ t ≤ j * 1099511627776 ∧ n = .int .u64 t ∧ Below w.heap.size w wr) (fun _ i _ => N - (intOf i).toNat)
  case atStart => exact ⟨0, 0, by omega, rfl, rfl, by omega, rfl, Below.refl _ _⟩
  case round =>
    obtain ⟨j, t, hj, rfl, ht, htl, rfl, hbw⟩ := hrel
    have e0 := (hbw.cell (p := ⟨b, 0, none⟩) hbl).trans c0
    by_cases hlt : j < N
    · have hjl : j < S.op.length := by rw [HN.out]; exact hlt
      obtain ⟨q, hq⟩ : ∃ q, S.op[j] = q := ⟨_, rfl⟩
      have hq2 : S.op[j]? = some q := by rw [List.getElem?_eq_getElem hjl, hq]
      obtain ⟨g1, cap1, hv, hgB, hg1, k0, k1, k2, k3, k4⟩ := rpk_cells HO.out j q hq2
      injection hv with hv1 hv2 hv3
      subst hv1
      have hqm : q ∈ S.op := by rw [← hq]; exact List.getElem_mem _
      have htk : flyF (S.op.take (j + 1)) = t + (if q.asks then q.size else 0) := by rw [List.take_succ_eq_append_getElem hjl, hq, flyF_append, ← ht]; simp [flyF]
      have hqs := Hsz.out q hqm
      obtain ⟨hst0, hst1, hb1, hb2⟩ := fly_step t q.size j htl hqs (Nat.lt_of_lt_of_le hlt hlen)
      have Hst0 := Lib.hid hst0
      have Hst1 := Lib.hid hst1
      obtain ⟨num, time, size, asks, fa, fl, fc⟩ := q
      simp only at k0 k1 k2 k3 k4 htk hb2 Hst1
      clear hqs htl hst0 hst1
      have c2 := (hbw.cell (p := ⟨g1, j * 5 + 2, none⟩) hg1).trans k2
      have c3 := (hbw.cell (p := ⟨g1, j * 5 + 3, none⟩) hg1).trans k3
      have Htk := Lib.hid htk
      have Hbw := Lib.hid hbw
      clear hbw hq hq2 htk k0 k1 k2 k3 k4 hv2 hv3 ht hqm
      cases asks
      · go_wp2_with fail
        go_roundw
        case rel => exact ⟨j + 1, t, by omega, by go_num, by rw [Htk.out, if_neg Bool.false_ne_true, Nat.add_zero], Hst0.out, rfl, Hbw.out⟩
        case measure => simp [intOf]; omega
      · go_wp2_with fail
        go_roundw
        case rel => exact ⟨j + 1, t + size, by omega, by go_num, by rw [Htk.out, if_pos rfl], Hst1.out, by go_num, Hbw.out⟩
        case measure => simp [intOf]; omega
    · obtain rfl : j = N := by omega
      rw [List.take_of_length_le (by rw [HN.out]; exact Nat.le_refl _)] at ht
      have Ht := Lib.hid ht
      have Hbw := Lib.hid hbw
      clear ht hbw
      go_wp2_with fail
      go_ret
      exact ⟨by rw [← Ht.out]; rfl, Hbw.out⟩

end Go.Proofs.Ytaoeamkkbopioaa
