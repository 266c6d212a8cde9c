/- Printed by wip/tools/space_tpl.py out of texts of other layers. -/
import Derived.Test.YtmnmpmiocgfalaaSc

namespace Go.Proofs.Ytmnmpmiocgfalaa
open Go.ChangeShapes Go.WideShapes Go.RowKit
set_option linter.unusedVariables false

theorem pks_one_cell (l : List Pk) : ∀ u ∈ pks l, u.oneCell' = true := by
  intro u hu
  unfold pks at hu
  rw [List.mem_flatMap] at hu
  obtain ⟨p, _, hp⟩ := hu
  simp [Pk.vals] at hp
  rcases hp with rfl | rfl | rfl | rfl | rfl <;> rfl

set_option maxRecDepth 100000 in
set_option maxHeartbeats 1000000 in
theorem Open_any (B b : Nat) (T : TypeId) (rest : List Value) (v : Value) (S : Lg) (w : World) (h : Owns B b T rest v S w) (hlen : S.op.length ≤ 1000) :
    Calls Try.prog 69 #[.pointer (some ⟨b, 0, none⟩)] w fun e w' => ∃ vo, e = .returned vo ∧ w'.ownsRow w.heap.size 57 5 vo S.op.length (pks S.op) ∧ Below w.heap.size w w' := by
  have hbl := h.led.lt
  have hO := h.own
  have hxl := hO.1
  obtain ⟨p, cap, rfl, hpn⟩ := own_shape hO
  have c0 : w.cell? ⟨b, 0, none⟩ = some (.slice p S.op.length cap) := h.led.cell rfl
  obtain ⟨N, hN⟩ : ∃ N, S.op.length = N := ⟨_, rfl⟩
  obtain ⟨xs, hxs⟩ : ∃ xs, pks S.op = xs := ⟨_, rfl⟩
  have h1 := pks_one_cell S.op
  rw [hxs] at h1 hxl hO ⊢
  rw [hN] at hpn hxl hlen hO c0 ⊢
  obtain ⟨i0, hi0, hz0, hz1, hz2⟩ := info_parts Try.infoP
  have hsz5 : (Try.prog.info? 57).map (·.size) = some 5 := by rw [hi0, ← hz1]; rfl
  have Hxl := Lib.hid hxl
  have HO := Lib.hid hO
  clear h hN hxs hxl hO
  go_enter Try.func69, Try.ntmps69
  go_wp2_with (at_make; refine wpList_make_full w rfl _ _ 24 rfl w.heap.size 57 i0 _ 5 Try.underlying24 hi0 hz0 hz1 .i64 .i64 _ _ N rfl rfl rfl rfl (by rw [hz2]; omega) (by unfold maxLen; omega) (Nat.le_refl _) ?_)
  intro w1 ho1 hg1
  have hb1 : Below w.heap.size w w1 := (Below.refl _ _).grown hg1 (Nat.le_refl _) (fun k hk => by cases hk)
  have d0 := (hb1.cell (p := ⟨b, 0, none⟩) hbl).trans c0
  have hsrc : 0 < N → ∃ A, p = some A ∧ ∀ j u, xs[j]? = some u → w1.cell? (A.add j) = some u := by
    intro hn
    obtain ⟨g, hg⟩ := hpn hn
    have hO := HO.out
    subst hg
    refine ⟨_, rfl, fun j u hu => ?_⟩
    rw [add_zero]
    obtain ⟨g2, cap2, hv, _, hgl, hc, _⟩ := own_view hO hn
    injection hv with hv _ _
    injection hv with hv
    injection hv with hv _ _
    subst hv
    rw [hb1.cell (p := ⟨g, j, none⟩) hgl]
    exact hc j u hu
  obtain ⟨w2, hrun, ho2, hg2⟩ := run_copy_full (P := Try.prog) 24 24 3 57 5 Try.underlying24 hsz5 w.heap.size N _ _ xs ho1 p cap Hxl.out hsrc h1
  have hb2 : Below w.heap.size w w2 := hb1.grown hg2 hb1.size (fun k hk => (ho1.lt k hk).1)
  have Ho2 := Lib.hid ho2
  have Hb2 := Lib.hid hb2
  clear ho1 hg1 hb1 hsrc hpn ho2 hg2 hb2
  go_wp2_with fail
  go_ret
  exact ⟨_, rfl, Ho2.out, Hb2.out⟩

/-- The bytes under way. -/
def flyF : List Pk → Nat
  | [] => 0
  | p :: l => (if p.asks then p.size else 0) + flyF l
theorem flyF_append (a b : List Pk) : flyF (a ++ b) = flyF a + flyF b := by
  induction a with
  | nil => simp [flyF]
  | cons p l ih => simp only [List.cons_append, flyF, ih]; omega
theorem flyF_le (l : List Pk) (h : ∀ p ∈ l, p.size ≤ 1099511627776) : flyF l ≤ l.length * 1099511627776 := by
  induction l with
  | nil => simp [flyF]
  | cons p l ih =>
    have h1 := h p (by simp)
    have h2 := ih (fun q hq => h q (by simp [hq]))
    rw [List.length_cons, Nat.add_mul]
    simp only [flyF]
    split <;> omega

theorem fly_step (t s j : Nat) (h : t ≤ j * 1099511627776) (hs : s ≤ 1099511627776) (hj : j < 1000) : t ≤ (j + 1) * 1099511627776 ∧ t + s ≤ (j + 1) * 1099511627776 ∧ t < 4503599627370496 ∧ s < 4503599627370496 := by
  refine ⟨Nat.le_trans h (Nat.mul_le_mul_right _ (Nat.le_succ j)), ?_, ?_, ?_⟩
  · rw [Nat.succ_mul]
    exact Nat.add_le_add h hs
  · exact Nat.lt_of_le_of_lt (Nat.le_trans h (Nat.mul_le_mul_right _ (Nat.le_of_lt hj))) (by decide)
  · exact Nat.lt_of_le_of_lt hs (by decide)

set_option maxRecDepth 100000 in
set_option maxHeartbeats 1000000 in
theorem Flying_any (B b : Nat) (T : TypeId) (rest : List Value) (v : Value) (S : Lg) (w : World) (h : Owns B b T rest v S w) (hlen : S.op.length ≤ 1000) (hsz : ∀ p ∈ S.op, p.size ≤ 1099511627776) :
    Calls Try.prog 18 #[.pointer (some ⟨b, 0, none⟩)] w fun e w' => e = .returned (.int .u64 (flyF S.op : Nat)) ∧ Below w.heap.size w w' := by
  have hbl := h.led.lt
  have hO := h.own
  obtain ⟨p, cap, rfl, hpn⟩ := own_shape hO
  have c0 : w.cell? ⟨b, 0, none⟩ = some (.slice p S.op.length cap) := h.led.cell rfl
  obtain ⟨N, hN⟩ : ∃ N, S.op.length = N := ⟨_, rfl⟩
  rw [hN] at hpn hlen hO c0
  have HN := Lib.hid hN
  have HO := Lib.hid hO
  have Hsz := Lib.hid hsz
  clear h hN hO hpn hsz
  go_enter Try.func18, Try.ntmps18
  go_wp2_with fail
  go_loopw [3, 11] (fun n i wr => ∃ j t : Nat, j ≤ N ∧ i = .int .i64 j ∧ t = flyF (S.op.take j) ∧ t ≤ j * 1099511627776 ∧ n = .int .u64 t ∧ Below w.heap.size w wr) (fun _ i _ => N - (intOf i).toNat)
  case atStart => exact ⟨0, 0, by omega, rfl, rfl, by omega, rfl, Below.refl _ _⟩
  case round =>
    obtain ⟨j, t, hj, rfl, ht, htl, rfl, hbw⟩ := hrel
    by_cases hlt : j < N
    · have hjl : j < S.op.length := by rw [HN.out]; exact hlt
      obtain ⟨q, hq⟩ : ∃ q, S.op[j] = q := ⟨_, rfl⟩
      have hq2 : S.op[j]? = some q := by rw [List.getElem?_eq_getElem hjl, hq]
      have hqm : q ∈ S.op := by rw [← hq]; exact List.getElem_mem _
      obtain ⟨g1, cap1, hv, hgB, hg1, k0, k1, k2, k3, k4⟩ := pk_cells HO.out j q hq2
      injection hv with hv1 hv2 hv3
      subst hv1
      have htk : flyF (S.op.take (j + 1)) = t + (if q.asks then q.size else 0) := by rw [List.take_succ_eq_append_getElem hjl, hq, flyF_append, ← ht]; simp [flyF]
      have hqs := Hsz.out q hqm
      obtain ⟨hst0, hst1, hb1, hb2⟩ := fly_step t q.size j htl hqs (Nat.lt_of_lt_of_le hlt hlen)
      have Hst0 := Lib.hid hst0
      have Hst1 := Lib.hid hst1
      obtain ⟨num, time, size, asks, fa, fl, fc⟩ := q
      simp only at k0 k1 k2 k3 k4 htk hb2 Hst1
      clear hqs htl hst0 hst1
      have c0 := (hbw.cell (p := ⟨g1, j * 5, none⟩) hg1).trans k0
      have c1 := (hbw.cell (p := ⟨g1, j * 5 + 1, none⟩) hg1).trans k1
      have c2 := (hbw.cell (p := ⟨g1, j * 5 + 2, none⟩) hg1).trans k2
      have c3 := (hbw.cell (p := ⟨g1, j * 5 + 3, none⟩) hg1).trans k3
      have c4 := (hbw.cell (p := ⟨g1, j * 5 + 4, none⟩) hg1).trans k4
      have hbn : Below w.heap.size w (wr.alloc (.cells #[.int .u64 (num : Int), .int .u64 (time : Int), .int .u64 (size : Int), .bool asks, .slice fa fl fc] 57)) := hbw.alloc hbw.size _
      have Htk := Lib.hid htk
      have Hbw := Lib.hid hbn
      clear hbw hq hq2 htk k0 k1 k2 k3 k4 hv2 hv3 ht hbn hqm
      cases asks
      · go_wp2_with fail
        go_roundw
        case rel => exact ⟨j + 1, t, by omega, by go_num, by rw [Htk.out, if_neg Bool.false_ne_true, Nat.add_zero], Hst0.out, rfl, Hbw.out⟩
        case measure => simp [intOf]; omega
      · go_wp2_with fail
        go_roundw
        case rel => exact ⟨j + 1, t + size, by omega, by go_num, by rw [Htk.out, if_pos rfl], Hst1.out, by go_num, Hbw.out⟩
        case measure => simp [intOf]; omega
    · obtain rfl : j = N := by omega
      rw [List.take_of_length_le (by rw [HN.out]; exact Nat.le_refl _)] at ht
      have Ht := Lib.hid ht
      have Hbw := Lib.hid hbw
      clear ht hbw
      go_wp2_with fail
      go_ret
      exact ⟨by rw [← Ht.out]; rfl, Hbw.out⟩

/-- What has come out of a split. -/
def Told (B b : Nat) (T : TypeId) (rest : List Value) (v : Value) (S : Lg) (w : World) (f : Pk → Bool) (e : Ending) (w' : World) : Prop :=
  ∃ vg v', e = .returned vg ∧ w'.ownsRow w.heap.size 57 5 vg (S.op.filter f).length (pks (S.op.filter f)) ∧ CameV B b T rest v w { S with op := S.op.filter (fun p => !f p) } v' w' ∧ ∀ k, vg.ownBlock = some k → v'.ownBlock ≠ some k

theorem split_told {B b : Nat} {T : TypeId} {rest : List Value} {v : Value} {S : Lg} {w W w' : World} {f : Pk → Bool} {e : Ending} (h : Owns B b T rest v S w) (hb : Below w.heap.size w W)
    (hs : ∃ vg vs, e = .returned vg ∧ LedIs w' b T rest vs { S with op := S.op.filter (fun p => !f p) } ∧
      w'.ownsRow W.heap.size 57 5 vg (S.op.filter f).length (pks (S.op.filter f)) ∧ w'.ownsRow W.heap.size 57 5 vs (S.op.filter (fun p => !f p)).length (pks (S.op.filter (fun p => !f p))) ∧ (∀ k, vg.ownBlock = some k → vs.ownBlock ≠ some k) ∧ Only (fun k => k = b) W w') :
    Told B b T rest v S w f e w' := by
  obtain ⟨vg, vs, he, h1, h2, h3, h5, h4⟩ := hs
  refine ⟨vg, vs, he, own_base h2 hb.size, ⟨h1, own_base h3 (Nat.le_trans h.bw hb.size), (Only.ofBelow hb).then h4 (fun i hi => .inl (.inl hi)), .inr (fun k hk => ?_)⟩, h5⟩
  have := (h3.lt k hk).1
  have := hb.size
  omega

end Go.Proofs.Ytmnmpmiocgfalaa

namespace Go.Proofs.Ytmnmpmiocgfalaa
open Go.ChangeShapes Go.WideShapes Go.RowKit
set_option linter.unusedVariables false

def lostP (bi : Bool) (bn now wait : Nat) (p : Pk) : Bool := farF bi bn p.num || (behindF bi bn p.num && decide (p.time ≤ now) && decide (wait ≤ now - p.time))

theorem u64_sub (a b : Nat) (h : b ≤ a) (ha : a < 2 ^ 64) : IntKind.u64.wrap ((a : Int) - (b : Int)) = ((a - b : Nat) : Int) := by
  rw [IntKind.wrap_u64]
  omega

set_option maxRecDepth 100000 in
set_option maxHeartbeats 1000000 in
theorem lost_fn (b lb nb wb : Nat) (p : Pk) (bn now wait : Nat) (bi : Bool) (w : World) (hb : b < w.heap.size) (hn : w.cell? ⟨b, 3, none⟩ = some (.int .u64 (bn : Int))) (hi : w.cell? ⟨b, 4, none⟩ = some (.bool bi)) (hbn : bn < 2 ^ 63)
    (hlb : lb < w.heap.size) (hnb : nb < w.heap.size) (hwb : wb < w.heap.size) (cl : w.cell? ⟨lb, 0, none⟩ = some (.pointer (some ⟨b, 0, none⟩))) (cn : w.cell? ⟨nb, 0, none⟩ = some (.int .u64 (now : Int))) (cw : w.cell? ⟨wb, 0, none⟩ = some (.int .u64 (wait : Int))) (hnow : now < 2 ^ 64) :
    Calls Try.prog 56 (#[pkV p] ++ #[.pointer (some ⟨lb, 0, none⟩), .pointer (some ⟨nb, 0, none⟩), .pointer (some ⟨wb, 0, none⟩)]) w fun e w' => e = .returned (.bool (lostP bi bn now wait p)) ∧ Below w.heap.size w w' := by
  obtain ⟨num, time, size, asks, fa, fl, fc⟩ := p
  have hlt := fun W h1 h2 h3 => late_any b num time size asks (.slice fa fl fc) bn bi W h1 h2 h3 hbn
  unfold lostP pkV
  simp only
  have hfb : behindF bi bn num = false → farF bi bn num = false := by intro h; rw [farF, h]; rfl
  obtain ⟨far, hfar⟩ : ∃ x, farF bi bn num = x := ⟨_, rfl⟩
  obtain ⟨beh, hbeh⟩ : ∃ x, behindF bi bn num = x := ⟨_, rfl⟩
  rw [hfar, hbeh] at hlt hfb ⊢
  have HL := Lib.hid hlt
  clear hlt hfar hbeh
  have hW : Below w.heap.size w (w.alloc (.cells #[.int .u64 (num : Int), .int .u64 (time : Int), .int .u64 (size : Int), .bool asks, .slice fa fl fc] 57)) := (Below.refl _ _).alloc (Nat.le_refl _) _
  have hnw : blk (w.alloc (.cells #[.int .u64 (num : Int), .int .u64 (time : Int), .int .u64 (size : Int), .bool asks, .slice fa fl fc] 57)) w.heap.size 57 [.int .u64 (num : Int), .int .u64 (time : Int), .int .u64 (size : Int), .bool asks, .slice fa fl fc] := blk.new w _ _
  have HW := Lib.hid (And.intro hW hnw)
  clear hW hnw
  cases far
  · cases beh
    · clear hfb
      go_enter Try.func56, Try.ntmps56
      go_wp2_with fail
      refine (HL.out _ (by simp; omega) (by rw [HW.out.1.cell (p := ⟨b, 3, none⟩) hb]; exact hn) (by rw [HW.out.1.cell (p := ⟨b, 4, none⟩) hb]; exact hi)).mono ?_
      rintro e w2 ⟨rfl, hb2⟩
      have Hb2 := Lib.hid (HW.out.1.trans (hb2.mono HW.out.1.size))
      clear hb2
      go_wp2_with fail
      go_ret
      exact ⟨rfl, Hb2.out⟩
    · clear hfb
      by_cases h1 : time ≤ now
      · have d1 : decide (time ≤ now) = true := by simpa using h1
        have hwr := u64_sub now time h1 hnow
        obtain ⟨m, hm⟩ : ∃ m, now - time = m := ⟨_, rfl⟩
        rw [hm] at hwr ⊢
        clear hm hnow
        by_cases h2 : wait ≤ m
        · have d2 : decide (wait ≤ m) = true := by simpa using h2
          rw [d1, d2]
          clear d1
          go_enter Try.func56, Try.ntmps56
          go_wp2_with fail
          refine (HL.out _ (by simp; omega) (by rw [HW.out.1.cell (p := ⟨b, 3, none⟩) hb]; exact hn) (by rw [HW.out.1.cell (p := ⟨b, 4, none⟩) hb]; exact hi)).mono ?_
          rintro e w2 ⟨rfl, hb2⟩
          have hx := HW.out.2.below hb2 (by simp)
          have e1 := hx.cell (k := 1) rfl
          have e2 := (hb2.cell (p := ⟨nb, 0, none⟩) (by simp; omega)).trans ((HW.out.1.cell (p := ⟨nb, 0, none⟩) hnb).trans cn)
          have e3 := (hb2.cell (p := ⟨wb, 0, none⟩) (by simp; omega)).trans ((HW.out.1.cell (p := ⟨wb, 0, none⟩) hwb).trans cw)
          have Hb2 := Lib.hid (HW.out.1.trans (hb2.mono HW.out.1.size))
          clear hb2 hx
          go_wp2_with fail
          go_ret
          exact ⟨rfl, Hb2.out⟩
        · have d2 : decide (wait ≤ m) = false := by simpa using h2
          rw [d1, d2]
          clear d1
          go_enter Try.func56, Try.ntmps56
          go_wp2_with fail
          refine (HL.out _ (by simp; omega) (by rw [HW.out.1.cell (p := ⟨b, 3, none⟩) hb]; exact hn) (by rw [HW.out.1.cell (p := ⟨b, 4, none⟩) hb]; exact hi)).mono ?_
          rintro e w2 ⟨rfl, hb2⟩
          have hx := HW.out.2.below hb2 (by simp)
          have e1 := hx.cell (k := 1) rfl
          have e2 := (hb2.cell (p := ⟨nb, 0, none⟩) (by simp; omega)).trans ((HW.out.1.cell (p := ⟨nb, 0, none⟩) hnb).trans cn)
          have e3 := (hb2.cell (p := ⟨wb, 0, none⟩) (by simp; omega)).trans ((HW.out.1.cell (p := ⟨wb, 0, none⟩) hwb).trans cw)
          have Hb2 := Lib.hid (HW.out.1.trans (hb2.mono HW.out.1.size))
          clear hb2 hx
          go_wp2_with fail
          go_ret
          exact ⟨rfl, Hb2.out⟩
      · have d1 : decide (time ≤ now) = false := by simpa using h1
        rw [d1]
        go_enter Try.func56, Try.ntmps56
        go_wp2_with fail
        refine (HL.out _ (by simp; omega) (by rw [HW.out.1.cell (p := ⟨b, 3, none⟩) hb]; exact hn) (by rw [HW.out.1.cell (p := ⟨b, 4, none⟩) hb]; exact hi)).mono ?_
        rintro e w2 ⟨rfl, hb2⟩
        have hx := HW.out.2.below hb2 (by simp)
        have e1 := hx.cell (k := 1) rfl
        have e2 := (hb2.cell (p := ⟨nb, 0, none⟩) (by simp; omega)).trans ((HW.out.1.cell (p := ⟨nb, 0, none⟩) hnb).trans cn)
        have Hb2 := Lib.hid (HW.out.1.trans (hb2.mono HW.out.1.size))
        clear hb2 hx
        go_wp2_with fail
        go_ret
        exact ⟨rfl, Hb2.out⟩
  · cases beh
    · exact absurd (hfb rfl) (by decide)
    · clear hfb
      go_enter Try.func56, Try.ntmps56
      go_wp2_with fail
      refine (HL.out _ (by simp; omega) (by rw [HW.out.1.cell (p := ⟨b, 3, none⟩) hb]; exact hn) (by rw [HW.out.1.cell (p := ⟨b, 4, none⟩) hb]; exact hi)).mono ?_
      rintro e w2 ⟨rfl, hb2⟩
      have Hb2 := Lib.hid (HW.out.1.trans (hb2.mono HW.out.1.size))
      clear hb2
      go_wp2_with fail
      go_ret
      exact ⟨rfl, Hb2.out⟩

set_option maxRecDepth 100000 in
set_option maxHeartbeats 1000000 in
theorem Lost_any (B b : Nat) (T : TypeId) (rest : List Value) (v : Value) (S : Lg) (w : World) (now wait : Nat) (h : Owns B b T rest v S w) (hlen : S.op.length ≤ 1000) (hbn : S.bn < 2 ^ 63) (hnow : now < 2 ^ 64) :
    Calls Try.prog 20 #[.pointer (some ⟨b, 0, none⟩), .int .u64 (now : Int), .int .u64 (wait : Int)] w (Told B b T rest v S w (lostP S.bi S.bn now wait)) := by
  have eg : ∀ args w, (callFunc 56 args).run Try.prog w = .ok (.enter 56 args) w := enters_of Try.func56 (by kernel_rfl) rfl
  have hbl := h.led.lt
  obtain ⟨W, hWe⟩ : ∃ W, ((w.alloc (.cells #[.pointer (some ⟨b, 0, none⟩)] 97)).alloc (.cells #[.int .u64 (now : Int)] 25)).alloc (.cells #[.int .u64 (wait : Int)] 25) = W := ⟨_, rfl⟩
  have hWb : Below w.heap.size w W := by
    rw [← hWe]
    exact (((Below.refl _ _).alloc (Nat.le_refl _) _).alloc (by simp) _).alloc (by simp; omega) _
  have hb0 : blk W w.heap.size 97 [.pointer (some ⟨b, 0, none⟩)] := by rw [← hWe]; exact ((blk.new w _ _).alloc _).alloc _
  have hb1 : blk W (w.heap.size + 1) 25 [.int .u64 (now : Int)] := by
    rw [← hWe]
    have := (blk.new (w.alloc (.cells #[.pointer (some ⟨b, 0, none⟩)] 97)) 25 [.int .u64 (now : Int)]).alloc (.cells #[.int .u64 (wait : Int)] 25)
    rw [World.size_alloc] at this
    exact this
  have hb2 : blk W (w.heap.size + 1 + 1) 25 [.int .u64 (wait : Int)] := by
    rw [← hWe]
    have := blk.new ((w.alloc (.cells #[.pointer (some ⟨b, 0, none⟩)] 97)).alloc (.cells #[.int .u64 (now : Int)] 25)) 25 [.int .u64 (wait : Int)]
    rw [World.size_alloc, World.size_alloc] at this
    exact this
  have hOw : Owns B b T rest v S W := ⟨h.led.below hWb hbl, own_below h.own hWb, Nat.le_trans h.bw hWb.size, h.bb, h.ty⟩
  have hsp := split_any B b T rest v S W (lostP S.bi S.bn now wait) 56 #[.pointer (some ⟨w.heap.size, 0, none⟩), .pointer (some ⟨w.heap.size + 1, 0, none⟩), .pointer (some ⟨w.heap.size + 1 + 1, 0, none⟩)] eg
    (fun W2 p hb => by
      have g0 := hb0.below hb hb0.lt
      have g1 := hb1.below hb hb1.lt
      have g2 := hb2.below hb hb2.lt
      have gl : LedIs W2 b T rest v S := hOw.led.below hb hOw.led.lt
      exact lost_fn b _ _ _ p S.bn now wait S.bi W2 gl.lt (gl.cell rfl) (gl.cell rfl) hbn g0.lt g1.lt g2.lt (g0.cell rfl) (g1.cell rfl) (g2.cell rfl) hnow) hOw.led hOw.own hlen
  have hend := fun e w' => split_told (w' := w') (e := e) h hWb (f := lostP S.bi S.bn now wait)
  obtain ⟨f, hf⟩ : ∃ f, lostP S.bi S.bn now wait = f := ⟨_, rfl⟩
  rw [hf] at hsp hend ⊢
  have c0 := hb0.cell (k := 0) rfl
  have HS := Lib.hid hsp
  have HE := Lib.hid hend
  clear hsp hend h hb0 hb1 hb2 hOw hWb hf hnow
  go_enter Try.func20, Try.ntmps20
  go_wp2_with fail
  refine HS.out.mono ?_
  intro e w' hs
  have ht := HE.out e w' hs
  obtain ⟨vg, v', rfl, h2⟩ := ht
  have H2 := Lib.hid h2
  clear h2 hs
  go_wp2_with fail
  go_ret
  exact ⟨vg, v', rfl, H2.out⟩

end Go.Proofs.Ytmnmpmiocgfalaa

namespace Go.Proofs.Ytmnmpmiocgfalaa
open Go.ChangeShapes Go.WideShapes Go.RowKit
set_option linter.unusedVariables false

/-- Ranges lie there, two cells each. -/
def RgAt (w : World) (p : Option Addr) (rs : List (Nat × Nat)) : Prop :=
  0 < rs.length → ∃ g o, p = some ⟨g, o, none⟩ ∧ g < w.heap.size ∧ ∀ i r, rs[i]? = some r → w.cell? ⟨g, o + i * 2, none⟩ = some (.int .u64 (r.1 : Int)) ∧ w.cell? ⟨g, o + i * 2 + 1, none⟩ = some (.int .u64 (r.2 : Int))

theorem RgAt.below {w w' : World} {p : Option Addr} {rs : List (Nat × Nat)} (h : RgAt w p rs) (hb : Below w.heap.size w w') : RgAt w' p rs := by
  intro hn
  obtain ⟨g, o, hp, hg, hc⟩ := h hn
  exact ⟨g, o, hp, Nat.lt_of_lt_of_le hg hb.size, fun i r hr => ⟨(hb.cell (p := ⟨g, o + i * 2, none⟩) hg).trans (hc i r hr).1, (hb.cell (p := ⟨g, o + i * 2 + 1, none⟩) hg).trans (hc i r hr).2⟩⟩

def inR (num : Nat) (r : Nat × Nat) : Bool := decide (r.1 ≤ num) && decide (num ≤ r.2)

set_option maxRecDepth 100000 in
theorem in_fn (pb num : Nat) (r : Nat × Nat) (w : World) (hb : pb < w.heap.size) (hc : w.cell? ⟨pb, 0, none⟩ = some (.int .u64 (num : Int))) :
    Calls Try.prog 78 (#[.agg #[.int .u64 (r.1 : Int), .int .u64 (r.2 : Int)]] ++ #[.pointer (some ⟨pb, 0, none⟩)]) w fun e w' => e = .returned (.bool (inR num r)) ∧ Below w.heap.size w w' := by
  obtain ⟨lo, hi⟩ := r
  unfold inR
  simp only
  by_cases h1 : lo ≤ num
  · have d1 : decide (lo ≤ num) = true := by simpa using h1
    obtain ⟨d, hd⟩ : ∃ d, decide (num ≤ hi) = d := ⟨_, rfl⟩
    rw [d1, hd, Bool.true_and]
    go_enter Try.func78, Try.ntmps78
    go_wp2_with fail
    go_ret
    exact ⟨rfl, (Below.refl _ _).alloc (Nat.le_refl _) _⟩
  · have d1 : decide (lo ≤ num) = false := by simpa using h1
    rw [d1, Bool.false_and]
    go_enter Try.func78, Try.ntmps78
    go_wp2_with fail
    go_ret
    exact ⟨rfl, (Below.refl _ _).alloc (Nat.le_refl _) _⟩

set_option maxRecDepth 100000 in
set_option maxHeartbeats 1000000 in
theorem index_any (p : Option Addr) (n cap : Nat) (rs : List (Nat × Nat)) (w : World) (f : Nat × Nat → Bool) (g : Nat) (lb : Array Value)
    (eg : ∀ args w, (callFunc g args).run Try.prog w = .ok (.enter g args) w)
    (hp : ∀ W r, Below w.heap.size w W → Calls Try.prog g (#[.agg #[.int .u64 ((r : Nat × Nat).1 : Int), .int .u64 (r.2 : Int)]] ++ lb) W fun e w' => e = .returned (.bool (f r)) ∧ Below W.heap.size W w')
    (hn : rs.length = n) (hr : RgAt w p rs) (hlen : n ≤ 1000000) :
    Calls Try.prog 90 #[.slice p n cap, .func (.func g) #[] lb] w fun e w' => ∃ k : Int, e = .returned (.int .i64 k) ∧ decide (0 ≤ k) = rs.any f ∧ Below w.heap.size w w' := by
  have HN := Lib.hid hn
  have HR := Lib.hid hr
  have HP := Lib.hid hp
  clear hn hr hp
  go_enter Try.func90, Try.ntmps90
  go_wp2_with fail
  go_loopw [5, 8] (fun _ i wr => ∃ j : Nat, j ≤ n ∧ i = .int .i64 j ∧ (rs.take j).any f = false ∧ Below w.heap.size w wr) (fun _ i _ => n - (intOf i).toNat)
  case atStart => exact ⟨0, by omega, rfl, rfl, Below.refl _ _⟩
  case round =>
    obtain ⟨j, hj, rfl, hno, hbw⟩ := hrel
    by_cases hlt : j < n
    · have hjl : j < rs.length := by rw [HN.out]; exact hlt
      obtain ⟨r, hq⟩ : ∃ r, rs[j] = r := ⟨_, rfl⟩
      have hq2 : rs[j]? = some r := by rw [List.getElem?_eq_getElem hjl, hq]
      obtain ⟨gb, o, hpe, hg, hc⟩ := (HR.out.below hbw) (by omega)
      obtain ⟨c0, c1⟩ := hc j r hq2
      have hcall := HP.out wr r hbw
      obtain ⟨fr, hfr⟩ : ∃ x, f r = x := ⟨_, rfl⟩
      rw [hfr] at hcall
      have htk : (rs.take (j + 1)).any f = ((rs.take j).any f || fr) := by rw [List.take_succ_eq_append_getElem hjl, hq, List.any_append, List.any_cons, List.any_nil, hfr, Bool.or_false]
      rw [hno, Bool.false_or] at htk
      have hany : fr = true → rs.any f = true := by
        intro h
        rw [List.any_eq_true]
        exact ⟨r, by rw [← hq]; exact List.getElem_mem _, by rw [hfr, h]⟩
      have HC := Lib.hid hcall
      have Htk := Lib.hid htk
      have Hany := Lib.hid hany
      have Hbw := Lib.hid hbw
      subst hpe
      clear hcall htk hany hbw hc hq hq2 hno hfr HP HR
      cases fr
      · go_wp2_with fail
        refine HC.out.mono ?_
        rintro e w2 ⟨rfl, hb2⟩
        have Hb2 := Lib.hid (Hbw.out.trans (hb2.mono Hbw.out.size))
        clear hb2
        go_wp2_with fail
        go_roundw
        case rel => exact ⟨j + 1, by omega, by go_num, Htk.out, Hb2.out⟩
        case measure => simp [intOf]; omega
      · go_wp2_with fail
        refine HC.out.mono ?_
        rintro e w2 ⟨rfl, hb2⟩
        have Hb2 := Lib.hid (Hbw.out.trans (hb2.mono Hbw.out.size))
        clear hb2
        go_wp2_with fail
        go_ret
        refine ⟨_, rfl, ?_, Hb2.out⟩
        rw [Hany.out (by trivial)]
        simp
    · obtain rfl : j = n := by omega
      rw [List.take_of_length_le (by rw [HN.out]; exact Nat.le_refl _)] at hno
      have Hno := Lib.hid hno
      have Hbw := Lib.hid hbw
      clear hno hbw
      go_wp2_with fail
      go_ret
      refine ⟨_, rfl, ?_, Hbw.out⟩
      rw [Hno.out]
      rfl

set_option maxRecDepth 100000 in
theorem contains_any (p : Option Addr) (n cap : Nat) (rs : List (Nat × Nat)) (w : World) (f : Nat × Nat → Bool) (g : Nat) (lb : Array Value)
    (eg : ∀ args w, (callFunc g args).run Try.prog w = .ok (.enter g args) w)
    (hp : ∀ W r, Below w.heap.size w W → Calls Try.prog g (#[.agg #[.int .u64 ((r : Nat × Nat).1 : Int), .int .u64 (r.2 : Int)]] ++ lb) W fun e w' => e = .returned (.bool (f r)) ∧ Below W.heap.size W w')
    (hn : rs.length = n) (hr : RgAt w p rs) (hlen : n ≤ 1000000) :
    Calls Try.prog 77 #[.slice p n cap, .func (.func g) #[] lb] w fun e w' => e = .returned (.bool (rs.any f)) ∧ Below w.heap.size w w' := by
  have hi := index_any p n cap rs w f g lb eg hp hn hr hlen
  have HI := Lib.hid hi
  clear hi hp hn hr
  go_enter Try.func77, Try.ntmps77
  go_wp2_with fail
  refine HI.out.mono ?_
  rintro e w2 ⟨k, rfl, hk, hb2⟩
  have Hb2 := Lib.hid hb2
  have Hk := Lib.hid hk
  clear hb2 hk
  go_wp2_with fail
  go_ret
  exact ⟨by rw [← Hk.out]; rfl, Hb2.out⟩

set_option maxRecDepth 100000 in
theorem acked_fn (rb : Nat) (q : Pk) (p : Option Addr) (cap : Nat) (rs : List (Nat × Nat)) (w : World) (hb : rb < w.heap.size) (hc : w.cell? ⟨rb, 0, none⟩ = some (.slice p rs.length cap)) (hr : RgAt w p rs) (hlen : rs.length ≤ 1000000) :
    Calls Try.prog 76 (#[pkV q] ++ #[.pointer (some ⟨rb, 0, none⟩)]) w fun e w' => e = .returned (.bool (rs.any (inR q.num))) ∧ Below w.heap.size w w' := by
  have eg : ∀ args w, (callFunc 78 args).run Try.prog w = .ok (.enter 78 args) w := enters_of Try.func78 (by kernel_rfl) rfl
  obtain ⟨num, time, size, asks, fa, fl, fc⟩ := q
  unfold pkV
  simp only
  obtain ⟨W, hWe⟩ : ∃ W, w.alloc (.cells #[.int .u64 (num : Int), .int .u64 (time : Int), .int .u64 (size : Int), .bool asks, .slice fa fl fc] 57) = W := ⟨_, rfl⟩
  have hW : Below w.heap.size w W := by rw [← hWe]; exact (Below.refl _ _).alloc (Nat.le_refl _) _
  have hnw : blk W w.heap.size 57 [.int .u64 (num : Int), .int .u64 (time : Int), .int .u64 (size : Int), .bool asks, .slice fa fl fc] := by rw [← hWe]; exact blk.new w _ _
  have hcn := contains_any p rs.length cap rs W (inR num) 78 #[.pointer (some ⟨w.heap.size, 0, none⟩)] eg (fun W2 r hb2 => by
    have h := hnw.below hb2 hnw.lt
    exact in_fn w.heap.size num r W2 h.lt (h.cell rfl)) rfl (hr.below hW) hlen
  have hc2 := (hW.cell (p := ⟨rb, 0, none⟩) hb).trans hc
  obtain ⟨z, hz⟩ : ∃ z, rs.any (inR num) = z := ⟨_, rfl⟩
  obtain ⟨n, hn⟩ : ∃ n, rs.length = n := ⟨_, rfl⟩
  rw [hz] at hcn ⊢
  rw [hn] at hcn hc2 hc
  have HC := Lib.hid hcn
  have HW := Lib.hid hW
  clear hcn hW hnw hr hn hz hlen
  go_enter Try.func76, Try.ntmps76
  go_wp2_with fail
  refine HC.out.mono ?_
  rintro e w2 ⟨rfl, hb2⟩
  have Hb2 := Lib.hid (HW.out.trans (hb2.mono HW.out.size))
  clear hb2
  go_wp2_with fail
  go_ret
  exact ⟨rfl, Hb2.out⟩

end Go.Proofs.Ytmnmpmiocgfalaa

namespace Go.Proofs.Ytmnmpmiocgfalaa
open Go.ChangeShapes Go.WideShapes Go.RowKit
set_option linter.unusedVariables false

def formB (r : Nat × Nat) : Bool := decide (r.2 < r.1)
def rangeB (li : Bool) (ln : Nat) (r : Nat × Nat) : Bool := !li || decide (ln < r.2)
def bestN (bn : Nat) (rs : List (Nat × Nat)) : Nat := rs.foldl (fun m r => max m r.2) bn
def bestF (S : Lg) (rs : List (Nat × Nat)) : Lg := { S with bn := bestN S.bn rs, bi := S.bi || !rs.isEmpty }
def ackP (rs : List (Nat × Nat)) (q : Pk) : Bool := rs.any (inR q.num)

/-- What Acked comes to. -/
def AckEnd (B b : Nat) (T : TypeId) (rest : List Value) (v : Value) (S : Lg) (w : World) (rs : List (Nat × Nat)) (e : Ending) (w' : World) : Prop :=
  (rs.any formB = true ∧ e = .returned (.tuple #[.slice none 0 0, .int .i64 2]) ∧ Below w.heap.size w w') ∨
  (rs.any formB = false ∧ rs.any (rangeB S.li S.ln) = true ∧ e = .returned (.tuple #[.slice none 0 0, .int .i64 3]) ∧ Below w.heap.size w w') ∨
  (rs.any formB = false ∧ rs.any (rangeB S.li S.ln) = false ∧ ∃ vg v', e = .returned (.tuple #[vg, .int .i64 0]) ∧ w'.ownsRow w.heap.size 57 5 vg (S.op.filter (ackP rs)).length (pks (S.op.filter (ackP rs))) ∧
    CameV B b T rest v w { bestF S rs with op := S.op.filter (fun q => !ackP rs q) } v' w' ∧ ∀ k, vg.ownBlock = some k → v'.ownBlock ≠ some k)

theorem any_take {f : Nat × Nat → Bool} {rs : List (Nat × Nat)} {j : Nat} {r : Nat × Nat} (h : rs[j]? = some r) : (rs.take (j + 1)).any f = ((rs.take j).any f || f r) := by
  obtain ⟨hj, hr⟩ := List.getElem?_eq_some_iff.1 h
  rw [List.take_succ_eq_append_getElem hj, hr, List.any_append, List.any_cons, List.any_nil, Bool.or_false]
theorem any_mem {f : Nat × Nat → Bool} {rs : List (Nat × Nat)} {j : Nat} {r : Nat × Nat} (h : rs[j]? = some r) (hf : f r = true) : rs.any f = true := by
  rw [List.any_eq_true]
  exact ⟨r, List.mem_of_getElem? h, hf⟩
theorem bestN_take {rs : List (Nat × Nat)} {j bn : Nat} {r : Nat × Nat} (h : rs[j]? = some r) : bestN bn (rs.take (j + 1)) = max (bestN bn (rs.take j)) r.2 := by
  obtain ⟨hj, hr⟩ := List.getElem?_eq_some_iff.1 h
  unfold bestN
  rw [List.take_succ_eq_append_getElem hj, hr, List.foldl_append]
  rfl

set_option maxRecDepth 100000 in
set_option maxHeartbeats 2000000 in
theorem Acked_any (B b : Nat) (T : TypeId) (rest : List Value) (v : Value) (S : Lg) (w : World) (p : Option Addr) (cap : Nat) (rs : List (Nat × Nat)) (h : Owns B b T rest v S w) (hlen : S.op.length ≤ 1000) (hbn : S.bn < 2 ^ 63) (hln : S.ln < 2 ^ 63)
    (hr : RgAt w p rs) (hrl : rs.length ≤ 1000000) (hrb : 0 < rs.length → ∀ a, p = some a → a.block ≠ b) :
    Calls Try.prog 52 #[.pointer (some ⟨b, 0, none⟩), .slice p rs.length cap] w (AckEnd B b T rest v S w rs) := by
  obtain ⟨W, hWe⟩ : ∃ W, w.alloc (.cells #[.slice p rs.length cap] 30) = W := ⟨_, rfl⟩
  have hW : Below w.heap.size w W := by rw [← hWe]; exact (Below.refl _ _).alloc (Nat.le_refl _) _
  have hbx : blk W w.heap.size 30 [.slice p rs.length cap] := by rw [← hWe]; exact blk.new w _ _
  have hOw : Owns B b T rest v S W := ⟨h.led.below hW h.led.lt, own_below h.own hW, Nat.le_trans h.bw hW.size, h.bb, h.ty⟩
  have hRW := hr.below hW
  obtain ⟨n, hn⟩ : ∃ n, rs.length = n := ⟨_, rfl⟩
  rw [hn] at hWe hbx hrl ⊢
  have HN := Lib.hid hn
  have HW := Lib.hid hW
  have Hbx := Lib.hid hbx
  have HOw := Lib.hid hOw
  have HRW := Lib.hid hRW
  have Hh := Lib.hid h
  have Hrb := Lib.hid hrb
  have c0 := hbx.cell (k := 0) rfl
  have hbW : w.heap.size < W.heap.size := hbx.lt
  clear hn hW hbx hOw hRW h hr hrb
  go_enter Try.func52, Try.ntmps52
  go_wp2_with fail
  go_loopw [14] (fun i wr => ∃ j : Nat, j ≤ n ∧ i = .int .i64 j ∧ (rs.take j).any formB = false ∧ Below W.heap.size W wr) (fun i _ => n - (intOf i).toNat)
  case atStart => exact ⟨0, by omega, rfl, rfl, Below.refl _ _⟩
  case round =>
    obtain ⟨j, hj, rfl, hno, hbw⟩ := hrel
    by_cases hlt : j < n
    · have hjl : j < rs.length := by rw [HN.out]; exact hlt
      obtain ⟨⟨lo, hi⟩, hq⟩ : ∃ r, rs[j] = r := ⟨_, rfl⟩
      have hq2 : rs[j]? = some (lo, hi) := by rw [List.getElem?_eq_getElem hjl, hq]
      obtain ⟨gb, o, hpe, hg, hc⟩ := (HRW.out.below hbw) (by omega)
      obtain ⟨c1, c2⟩ := hc j _ hq2
      simp only at c1 c2
      have Htk := Lib.hid (any_take (f := formB) hq2)
      have Hq2 := Lib.hid hq2
      have Hno := Lib.hid hno
      have hbw2 : Below W.heap.size W (wr.alloc (.cells #[.int .u64 (lo : Int), .int .u64 (hi : Int)] 47)) := hbw.alloc hbw.size _
      have Hbw := Lib.hid hbw2
      subst hpe
      clear hbw hc hq hq2 hno hbw2
      by_cases hbad : hi < lo
      · have hf : formB (lo, hi) = true := by simp [formB, hbad]
        have Hany := Lib.hid (any_mem Hq2.out hf)
        clear hf
        go_wp2_with fail
        go_ret2
        exact .inl ⟨Hany.out, rfl, HW.out.trans (Hbw.out.mono HW.out.size)⟩
      · have hf : formB (lo, hi) = false := by simp [formB]; omega
        have hnext : (rs.take (j + 1)).any formB = false := by rw [Htk.out, Hno.out, hf]; rfl
        have Hnext := Lib.hid hnext
        clear hf hnext
        go_wp2_with fail
        go_roundw
        case rel => exact ⟨j + 1, by omega, by go_num, Hnext.out, Hbw.out⟩
        case measure => simp [intOf]; omega
    · obtain rfl : j = n := by omega
      rw [List.take_of_length_le (by rw [HN.out]; exact Nat.le_refl _)] at hno
      have Hform := Lib.hid hno
      have Hbw := Lib.hid hbw
      have c0 := (Hbx.out.below Hbw.out hbW).cell (k := 0) rfl
      obtain ⟨wo, rfl⟩ : ∃ wo, wo = wr := ⟨_, rfl⟩
      clear hno hbw
      have hLo : LedIs wo b T rest v S := HOw.out.led.below Hbw.out HOw.out.led.lt
      have hbo := hLo.lt
      have d1 := hLo.cell (k := 1) rfl
      have d2 := hLo.cell (k := 2) rfl
      obtain ⟨ln, hlne⟩ : ∃ x, S.ln = x := ⟨_, rfl⟩
      obtain ⟨li, hli⟩ : ∃ x, S.li = x := ⟨_, rfl⟩
      rw [hlne] at d1 hln
      rw [hli] at d2
      have Hlne := Lib.hid hlne
      have Hli := Lib.hid hli
      clear hLo hlne hli
      go_wp2_with fail
      go_loopw [26] (fun i wr => ∃ k : Nat, k ≤ j ∧ i = .int .i64 k ∧ (rs.take k).any (rangeB li ln) = false ∧ Below wo.heap.size wo wr) (fun i _ => j - (intOf i).toNat)
      case atStart => exact ⟨0, by omega, rfl, rfl, Below.refl _ _⟩
      case round =>
        obtain ⟨k, hk, rfl, hno, hbw⟩ := hrel
        by_cases hlt : k < j
        · have hkl : k < rs.length := by rw [HN.out]; exact hlt
          obtain ⟨⟨lo, hi⟩, hq⟩ : ∃ r, rs[k] = r := ⟨_, rfl⟩
          have hq2 : rs[k]? = some (lo, hi) := by rw [List.getElem?_eq_getElem hkl, hq]
          obtain ⟨gb, o, hpe, hg, hc⟩ := ((HRW.out.below Hbw.out).below hbw) (by omega)
          obtain ⟨c1, c2⟩ := hc k _ hq2
          simp only at c1 c2
          have Htk := Lib.hid (any_take (f := rangeB li ln) hq2)
          have Hq2 := Lib.hid hq2
          have Hno := Lib.hid hno
          have hbw2 : Below wo.heap.size wo (wr.alloc (.cells #[.int .u64 (lo : Int), .int .u64 (hi : Int)] 47)) := hbw.alloc hbw.size _
          have Hbw2 := Lib.hid hbw2
          have e1 := (hbw.cell (p := ⟨b, 1, none⟩) hbo).trans d1
          have e2 := (hbw.cell (p := ⟨b, 2, none⟩) hbo).trans d2
          have hbr : b < wr.heap.size := Nat.lt_of_lt_of_le hbo hbw.size
          subst hpe
          clear hbw hc hq hq2 hno hbw2
          cases li
          · have hf : rangeB false ln (lo, hi) = true := rfl
            have Hany := Lib.hid (any_mem Hq2.out hf)
            clear hf
            go_wp2_with fail
            go_quiet (fail)
            go_wp2_with fail
            go_ret2
            exact .inr (.inl ⟨Hform.out, by rw [Hlne.out, Hli.out]; exact Hany.out, rfl, HW.out.trans ((Hbw.out.trans (below_drewN (Hbw2.out.mono Hbw.out.size) _)).mono HW.out.size)⟩)
          · by_cases hbad : ln < hi
            · have hf : rangeB true ln (lo, hi) = true := by simp [rangeB, hbad]
              have Hany := Lib.hid (any_mem Hq2.out hf)
              clear hf
              go_wp2_with fail
              go_quiet (fail)
              go_wp2_with fail
              go_ret2
              exact .inr (.inl ⟨Hform.out, by rw [Hlne.out, Hli.out]; exact Hany.out, rfl, HW.out.trans ((Hbw.out.trans (below_drewN (Hbw2.out.mono Hbw.out.size) _)).mono HW.out.size)⟩)
            · have hf : rangeB true ln (lo, hi) = false := by simp [rangeB]; omega
              have hnext : (rs.take (k + 1)).any (rangeB true ln) = false := by rw [Htk.out, Hno.out, hf]; rfl
              have Hnext := Lib.hid hnext
              clear hf hnext
              go_wp2_with fail
              go_quiet (fail)
              go_wp2_with fail
              go_roundw
              case rel => exact ⟨k + 1, by omega, by go_num, Hnext.out, below_drewN Hbw2.out _⟩
              case measure => simp [intOf]; omega
        · obtain rfl : k = j := by omega
          rw [List.take_of_length_le (by rw [HN.out]; exact Nat.le_refl _)] at hno
          have Hrange := Lib.hid hno
          have Hbw2 := Lib.hid (Hbw.out.trans (hbw.mono Hbw.out.size))
          have c0 := (Hbx.out.below Hbw2.out hbW).cell (k := 0) rfl
          have hbr : b < wr.heap.size := Nat.lt_of_lt_of_le hbo hbw.size
          obtain ⟨wq, rfl⟩ : ∃ wq, wq = wr := ⟨_, rfl⟩
          clear hno hbw d1 d2
          have hLq : LedIs wq b T rest v S := HOw.out.led.below Hbw2.out HOw.out.led.lt
          have hst : LedIs wq b T rest v { S with bn := bestN S.bn (rs.take 0), bi := S.bi || decide (0 < 0) } := by
            have e1 : bestN S.bn (rs.take 0) = S.bn := rfl
            have e2 : (S.bi || decide (0 < 0)) = S.bi := by simp
            rw [e1, e2]
            exact hLq
          have Hst := Lib.hid hst
          clear hst hLq
          go_wp2_with fail
          go_loopw [49] (fun i wr => ∃ t : Nat, t ≤ k ∧ i = .int .i64 t ∧ LedIs wr b T rest v { S with bn := bestN S.bn (rs.take t), bi := S.bi || decide (0 < t) } ∧ Only (fun k => k = b) wq wr) (fun i _ => k - (intOf i).toNat)
          case atStart => exact ⟨0, by omega, rfl, Hst.out, Only.refl _ _⟩
          case round =>
            obtain ⟨t, ht, rfl, hLt, hon⟩ := hrel
            by_cases hlt : t < k
            · have htl : t < rs.length := by rw [HN.out]; exact hlt
              obtain ⟨⟨lo, hi⟩, hq⟩ : ∃ r, rs[t] = r := ⟨_, rfl⟩
              have hq2 : rs[t]? = some (lo, hi) := by rw [List.getElem?_eq_getElem htl, hq]
              obtain ⟨gb, o, hpe, hg, hc⟩ := (HRW.out.below Hbw2.out) (by omega)
              have hgb : gb ≠ b := Hrb.out (by omega) _ hpe
              obtain ⟨c1, c2⟩ := hc t _ hq2
              simp only at c1 c2
              have e1 := (hon.cell (p := ⟨gb, o + t * 2, none⟩) hg hgb).trans c1
              have e2 := (hon.cell (p := ⟨gb, o + t * 2 + 1, none⟩) hg hgb).trans c2
              have hbr : b < wr.heap.size := hLt.lt
              have hbn2 := bestN_take (bn := S.bn) hq2
              obtain ⟨m, hm⟩ : ∃ m, bestN S.bn (rs.take t) = m := ⟨_, rfl⟩
              obtain ⟨z, hz⟩ : ∃ z, (S.bi || decide (0 < t)) = z := ⟨_, rfl⟩
              rw [hm] at hbn2 hLt
              rw [hz] at hLt
              have f3 := hLt.cell (k := 3) rfl
              have f4 := hLt.cell (k := 4) rfl
              have f5 := hLt.free 3
              have f6 := hLt.free 4
              simp only at f3 f4
              have hmx : (if m < hi then (hi : Int) else (m : Int)) = ((bestN S.bn (rs.take (t + 1)) : Nat) : Int) := by
                rw [hbn2]
                split <;> omega
              have hLn : LedIs ((wr.setCell ⟨b, 3, none⟩ (.int .u64 (if m < hi then (hi : Int) else (m : Int)))).setCell ⟨b, 4, none⟩ (.bool true)) b T rest v { S with bn := bestN S.bn (rs.take (t + 1)), bi := S.bi || decide (0 < t + 1) } := by
                have e : (S.bi || decide (0 < t + 1)) = true := by simp
                rw [e, hmx]
                exact (blk.set hLt 3 _).set 4 _
              have hon2 : Only (fun k => k = b) wq ((wr.setCell ⟨b, 3, none⟩ (.int .u64 (if m < hi then (hi : Int) else (m : Int)))).setCell ⟨b, 4, none⟩ (.bool true)) :=
                Only.setCell (S := fun k => k = b) (p := ⟨b, 4, none⟩) (Only.setCell (S := fun k => k = b) (p := ⟨b, 3, none⟩) hon (.inl rfl) _) (.inl rfl) _
              have HLn := Lib.hid hLn
              have Hon2 := Lib.hid hon2
              subst hpe
              clear hc hq hq2 hm hz hLt hon c1 c2 hLn hon2 hbn2 hmx
              go_wp2_with fail
              go_region
              all_goals
                go_wp2_with fail
                go_roundw
                case rel => exact ⟨t + 1, by omega, by go_num, blk.alloc HLn.out _, (Hon2.out.alloc _).drew⟩
                case measure => simp [intOf]; omega
            · obtain rfl : t = k := by omega
              have hfin : LedIs wr b T rest v (bestF S rs) := by
                have e1 : rs.take t = rs := List.take_of_length_le (by rw [HN.out]; exact Nat.le_refl _)
                have e2 : decide (0 < t) = !rs.isEmpty := by
                  rw [← HN.out]
                  cases rs <;> simp
                rw [e1, e2] at hLt
                exact hLt
              have hne : v.ownBlock ≠ some b := own_ne HOw.out.own HOw.out.led HOw.out.ty
              have hownq := own_below HOw.out.own Hbw2.out
              have hown : wr.ownsRow B 57 5 v S.op.length (pks S.op) := own_only hownq hon (fun k hk e => hne (by rw [hk, e]))
              have hbxq := Hbx.out.below Hbw2.out hbW
              have hbxr := hbxq.only hon (fun e => by
                have h1 := Hh.out.led.lt
                omega)
              have hRr : RgAt wr p rs := by
                intro hn
                obtain ⟨g2, o2, hp2, hg2, hc2⟩ := HRW.out.below Hbw2.out hn
                have hgb := Hrb.out hn _ hp2
                exact ⟨g2, o2, hp2, Nat.lt_of_lt_of_le hg2 hon.size, fun i r hr => ⟨(hon.cell (p := ⟨g2, o2 + i * 2, none⟩) hg2 hgb).trans (hc2 i r hr).1, (hon.cell (p := ⟨g2, o2 + i * 2 + 1, none⟩) hg2 hgb).trans (hc2 i r hr).2⟩⟩
              have eg : ∀ args w, (callFunc 76 args).run Try.prog w = .ok (.enter 76 args) w := enters_of Try.func76 (by kernel_rfl) rfl
              have hsp := split_any B b T rest v (bestF S rs) wr (ackP rs) 76 #[.pointer (some ⟨w.heap.size, 0, none⟩)] eg
                (fun W2 q hb => by
                  have h1 := hbxr.below hb hbxr.lt
                  exact acked_fn w.heap.size q p cap rs W2 h1.lt (by rw [HN.out]; exact h1.cell rfl) (hRr.below hb) (by rw [HN.out]; exact hrl)) hfin hown hlen
              have hend : ∀ vg vs w', LedIs w' b T rest vs { bestF S rs with op := S.op.filter (fun q => !ackP rs q) } → w'.ownsRow wr.heap.size 57 5 vg (S.op.filter (ackP rs)).length (pks (S.op.filter (ackP rs))) →
                  w'.ownsRow wr.heap.size 57 5 vs (S.op.filter (fun q => !ackP rs q)).length (pks (S.op.filter (fun q => !ackP rs q))) → (∀ k, vg.ownBlock = some k → vs.ownBlock ≠ some k) → Only (fun k => k = b) wr w' → AckEnd B b T rest v S w rs (.returned (.tuple #[vg, .int .i64 0])) w' := by
                intro vg vs w' h1 h2 h3 h5 h4
                have hsz : w.heap.size ≤ wr.heap.size := Nat.le_trans HW.out.size (Nat.le_trans Hbw2.out.size hon.size)
                refine .inr (.inr ⟨Hform.out, by rw [Hlne.out, Hli.out]; exact Hrange.out, vg, vs, rfl, own_base h2 hsz, ⟨h1, own_base h3 (Nat.le_trans Hh.out.bw hsz), ?_, .inr (fun k hk => Nat.le_trans hsz (h3.lt k hk).1)⟩, h5⟩)
                have g1 : Only (fun k => k = b ∨ v.ownBlock = some k) w wq := Only.ofBelow (HW.out.trans (Hbw2.out.mono HW.out.size))
                exact (g1.then hon (fun i hi => .inl (.inl hi))).then h4 (fun i hi => .inl (.inl hi))
              have HS := Lib.hid hsp
              have HE := Lib.hid hend
              clear hsp hend hfin hne hownq hown hbxq hbxr hRr hLt hon
              go_wp2_with fail
              refine HS.out.mono ?_
              rintro e w' ⟨vg, vs, rfl, h1, h2, h3, h5, h4⟩
              have HX := Lib.hid (HE.out vg vs w' h1 h2 h3 h5 h4)
              clear h1 h2 h3 h4 h5
              go_wp2_with fail
              go_ret2
              exact HX.out

end Go.Proofs.Ytmnmpmiocgfalaa

namespace Go.Proofs.Ytmnmpmiocgfalaa
open Go.ChangeShapes Go.WideShapes Go.RowKit
set_option linter.unusedVariables false

def minT (bi : Bool) (bn : Nat) (a : Nat) (l : List Pk) : Nat := l.foldl (fun m q => if behindF bi bn q.num then min m q.time else m) a
theorem minT_snoc (bi : Bool) (bn a : Nat) (l : List Pk) (q : Pk) : minT bi bn a (l ++ [q]) = if behindF bi bn q.num then min (minT bi bn a l) q.time else minT bi bn a l := by
  unfold minT
  rw [List.foldl_append]
  rfl

/-- What Due comes to. -/
def DueEnd (S : Lg) (wait : Nat) (w : World) (e : Ending) (w' : World) : Prop :=
  Below w.heap.size w w' ∧ ((S.op.any (fun q => behindF S.bi S.bn q.num) = false ∧ e = .returned (.tuple #[.int .u64 0, .bool false])) ∨
    ∃ p, S.op.find? (fun q => behindF S.bi S.bn q.num) = some p ∧ e = .returned (.tuple #[.int .u64 (IntKind.u64.wrap ((minT S.bi S.bn p.time S.op : Nat) + (wait : Int))), .bool true]))

set_option maxRecDepth 100000 in
set_option maxHeartbeats 2000000 in
theorem Due_any (B b : Nat) (T : TypeId) (rest : List Value) (v : Value) (S : Lg) (w : World) (wait : Nat) (h : Owns B b T rest v S w) (hlen : S.op.length ≤ 1000) (hbn : S.bn < 2 ^ 63) :
    Calls Try.prog 33 #[.pointer (some ⟨b, 0, none⟩), .int .u64 (wait : Int)] w (DueEnd S wait w) := by
  have hbl := h.led.lt
  have hO := h.own
  obtain ⟨p, cap, rfl, hpn⟩ := own_shape hO
  have c0 : w.cell? ⟨b, 0, none⟩ = some (.slice p S.op.length cap) := h.led.cell rfl
  have c3 : w.cell? ⟨b, 3, none⟩ = some (.int .u64 (S.bn : Int)) := h.led.cell rfl
  have c4 : w.cell? ⟨b, 4, none⟩ = some (.bool S.bi) := h.led.cell rfl
  obtain ⟨N, hN⟩ : ∃ N, S.op.length = N := ⟨_, rfl⟩
  obtain ⟨bn, hbne⟩ : ∃ x, S.bn = x := ⟨_, rfl⟩
  obtain ⟨bi, hbie⟩ : ∃ x, S.bi = x := ⟨_, rfl⟩
  have hlt := fun num time size asks fr W h1 h2 h3 => late_any b num time size asks fr bn bi W h1 h2 h3 (by rw [← hbne]; exact hbn)
  unfold DueEnd
  rw [hN] at hpn hlen hO c0
  rw [hbne] at c3 ⊢
  rw [hbie] at c4 ⊢
  obtain ⟨L, hLe⟩ : ∃ L, S.op = L := ⟨_, rfl⟩
  rw [hLe] at hN hO ⊢
  have HN := Lib.hid hN
  have HO := Lib.hid hO
  have HL := Lib.hid hlt
  clear h hN hO hpn hbne hbie hlt hbn hLe
  go_enter Try.func33, Try.ntmps33
  go_wp2_with fail
  go_loopw [20] (fun i wr => ∃ j : Nat, j ≤ N ∧ i = .int .i64 j ∧ (∀ q ∈ L.take j, behindF bi bn q.num = false) ∧ Below w.heap.size w wr) (fun i _ => N - (intOf i).toNat)
  case atStart => exact ⟨0, by omega, rfl, by simp, Below.refl _ _⟩
  case round =>
    obtain ⟨j, hj, rfl, hno, hbw⟩ := hrel
    have Hno := Lib.hid hno
    clear hno
    by_cases hlt : j < N
    · have hjl : j < L.length := by rw [HN.out]; exact hlt
      obtain ⟨q, hq⟩ : ∃ q, L[j] = q := ⟨_, rfl⟩
      have hq2 : L[j]? = some q := by rw [List.getElem?_eq_getElem hjl, hq]
      obtain ⟨g1, cap1, hv, hgB, hg1, k0, k1, k2, k3, k4⟩ := pk_cells HO.out j q hq2
      injection hv with hv1 hv2 hv3
      subst hv1
      obtain ⟨z, hz⟩ : ∃ z, behindF bi bn q.num = z := ⟨_, rfl⟩
      have hnext : z = false → ∀ q ∈ L.take (j + 1), behindF bi bn q.num = false := by
        intro h0 x hx
        rw [List.take_succ_eq_append_getElem hjl, hq, List.mem_append, List.mem_singleton] at hx
        rcases hx with hx | rfl
        · exact Hno.out x hx
        · rw [hz]; exact h0
      have hfind : z = true → L.find? (fun q => behindF bi bn q.num) = some q := by
        intro h1
        have e : L = L.take j ++ q :: L.drop (j + 1) := by rw [← hq, List.getElem_cons_drop, List.take_append_drop]
        rw [e, List.find?_append]
        have e2 : (L.take j).find? (fun q => behindF bi bn q.num) = none := by
          rw [List.find?_eq_none]
          intro x hx
          rw [Hno.out x hx]
          exact Bool.false_ne_true
        rw [e2, Option.none_or, List.find?_cons_of_pos (by rw [hz, h1])]
      have Hz := Lib.hid hz
      have Hnext := Lib.hid hnext
      have Hfind := Lib.hid hfind
      clear hz hnext hfind
      obtain ⟨num, time, size, asks, fa, fl, fc⟩ := q
      simp only at k0 k1 k2 k3 k4 Hz
      have e0 := (hbw.cell (p := ⟨g1, j * 5, none⟩) hg1).trans k0
      have e1 := (hbw.cell (p := ⟨g1, j * 5 + 1, none⟩) hg1).trans k1
      have e2 := (hbw.cell (p := ⟨g1, j * 5 + 2, none⟩) hg1).trans k2
      have e3 := (hbw.cell (p := ⟨g1, j * 5 + 3, none⟩) hg1).trans k3
      have e4 := (hbw.cell (p := ⟨g1, j * 5 + 4, none⟩) hg1).trans k4
      have hW := hbw.alloc hbw.size (.cells #[.int .u64 (num : Int), .int .u64 (time : Int), .int .u64 (size : Int), .bool asks, .slice fa fl fc] 57)
      have hnw := blk.new wr 57 [.int .u64 (num : Int), .int .u64 (time : Int), .int .u64 (size : Int), .bool asks, .slice fa fl fc]
      have hcall := HL.out num time size asks (.slice fa fl fc) _ (Nat.lt_of_lt_of_le hbl hW.size) ((hW.cell (p := ⟨b, 3, none⟩) hbl).trans c3) ((hW.cell (p := ⟨b, 4, none⟩) hbl).trans c4)
      rw [Hz.out] at hcall
      obtain ⟨far, hfar⟩ : ∃ x, farF bi bn num = x := ⟨_, rfl⟩
      rw [hfar] at hcall
      have HC := Lib.hid hcall
      have HW := Lib.hid hW
      have Hnw := Lib.hid hnw
      clear hW hnw hcall hbw hq hq2 hv2 hv3 k0 k1 k2 k3 k4 hfar
      cases z
      · go_wp2_with fail
        refine HC.out.mono ?_
        rintro e w2 ⟨rfl, hb2⟩
        have Hb2 := Lib.hid (HW.out.trans (hb2.mono HW.out.size))
        clear hb2
        go_wp2_with fail
        go_roundw
        case rel => exact ⟨j + 1, by omega, by go_num, Hnext.out (by trivial), Hb2.out⟩
        case measure => simp [intOf]; omega
      · go_wp2_with fail
        refine HC.out.mono ?_
        rintro e w2 ⟨rfl, hb2⟩
        have hx := Hnw.out.below hb2 Hnw.out.lt
        have x1 := hx.cell (k := 1) rfl
        have hb2w := HW.out.trans (hb2.mono HW.out.size)
        have d0 := (hb2w.cell (p := ⟨b, 0, none⟩) hbl).trans c0
        have Hb2 := Lib.hid hb2w
        clear hb2 hx hb2w e0 e1 e2 e3 e4
        go_wp2_with fail
        obtain ⟨wo, rfl⟩ : ∃ wo, wo = w2 := ⟨_, rfl⟩
        go_loopw [10, 38] (fun f i wz => ∃ k t : Nat, k ≤ N ∧ i = .int .i64 k ∧ t = minT bi bn time (L.take k) ∧ f = .int .u64 t ∧ Below w.heap.size w wz) (fun _ i _ => N - (intOf i).toNat)
        case atStart => exact ⟨0, time, by omega, rfl, rfl, rfl, Hb2.out⟩
        case round =>
          obtain ⟨k, t, hk, rfl, ht, rfl, hbw⟩ := hrel
          by_cases hlt2 : k < N
          · have hkl : k < L.length := by rw [HN.out]; exact hlt2
            obtain ⟨q2, hq⟩ : ∃ q, L[k] = q := ⟨_, rfl⟩
            have hq2 : L[k]? = some q2 := by rw [List.getElem?_eq_getElem hkl, hq]
            obtain ⟨g3, cap3, hv3, _, hg3, k0, k1, k2, k3, k4⟩ := pk_cells HO.out k q2 hq2
            injection hv3 with hv1 hv2 hv3
            injection hv1 with hv1
            injection hv1 with hv1 _ _
            subst hv1
            have hsn := minT_snoc bi bn time (L.take k) q2
            rw [← hq, ← List.take_succ_eq_append_getElem hkl, hq, ← ht] at hsn
            obtain ⟨z2, hz2⟩ : ∃ z, behindF bi bn q2.num = z := ⟨_, rfl⟩
            rw [hz2] at hsn
            obtain ⟨num2, time2, size2, asks2, fa2, fl2, fc2⟩ := q2
            simp only at k0 k1 k2 k3 k4 hz2 hsn
            have e0 := (hbw.cell (p := ⟨g1, k * 5, none⟩) hg1).trans k0
            have e1 := (hbw.cell (p := ⟨g1, k * 5 + 1, none⟩) hg1).trans k1
            have e2 := (hbw.cell (p := ⟨g1, k * 5 + 2, none⟩) hg1).trans k2
            have e3 := (hbw.cell (p := ⟨g1, k * 5 + 3, none⟩) hg1).trans k3
            have e4 := (hbw.cell (p := ⟨g1, k * 5 + 4, none⟩) hg1).trans k4
            have hW := hbw.alloc hbw.size (.cells #[.int .u64 (num2 : Int), .int .u64 (time2 : Int), .int .u64 (size2 : Int), .bool asks2, .slice fa2 fl2 fc2] 57)
            have hnw := blk.new wr 57 [.int .u64 (num2 : Int), .int .u64 (time2 : Int), .int .u64 (size2 : Int), .bool asks2, .slice fa2 fl2 fc2]
            have hcall := HL.out num2 time2 size2 asks2 (.slice fa2 fl2 fc2) _ (Nat.lt_of_lt_of_le hbl hW.size) ((hW.cell (p := ⟨b, 3, none⟩) hbl).trans c3) ((hW.cell (p := ⟨b, 4, none⟩) hbl).trans c4)
            rw [hz2] at hcall
            obtain ⟨far2, hfar⟩ : ∃ x, farF bi bn num2 = x := ⟨_, rfl⟩
            rw [hfar] at hcall
            have HC2 := Lib.hid hcall
            have HW2 := Lib.hid hW
            have Hnw2 := Lib.hid hnw
            clear hW hnw hcall hbw hq hq2 hv2 hv3 k0 k1 k2 k3 k4 hfar hz2 ht
            cases z2
            · rw [if_neg Bool.false_ne_true] at hsn
              have Hsn := Lib.hid hsn
              clear hsn
              go_wp2_with fail
              refine HC2.out.mono ?_
              rintro e w3 ⟨rfl, hb3⟩
              have Hb3 := Lib.hid (HW2.out.trans (hb3.mono HW2.out.size))
              clear hb3
              go_wp2_with fail
              go_roundw
              case rel => exact ⟨k + 1, t, by omega, by go_num, Hsn.out.symm, rfl, Hb3.out⟩
              case measure => simp [intOf]; omega
            · rw [if_pos rfl] at hsn
              have hmn : (if time2 < t then (time2 : Int) else (t : Int)) = ((minT bi bn time (L.take (k + 1)) : Nat) : Int) := by
                rw [hsn]
                split <;> omega
              have Hmn := Lib.hid hmn
              clear hsn hmn
              go_wp2_with fail
              refine HC2.out.mono ?_
              rintro e w3 ⟨rfl, hb3⟩
              have hx := Hnw2.out.below hb3 Hnw2.out.lt
              have x1 := hx.cell (k := 1) rfl
              have Hb3 := Lib.hid (HW2.out.trans (hb3.mono HW2.out.size))
              clear hb3 hx
              go_wp2_with fail
              go_roundw
              case rel => exact ⟨k + 1, minT bi bn time (L.take (k + 1)), by omega, by go_num, rfl, by rw [← Hmn.out], Hb3.out⟩
              case measure => simp [intOf]; omega
          · obtain rfl : k = N := by omega
            rw [List.take_of_length_le (by rw [HN.out]; exact Nat.le_refl _)] at ht
            have Ht := Lib.hid ht
            have Hbw := Lib.hid hbw
            clear ht hbw
            go_wp2_with fail
            go_ret2
            refine ⟨Hbw.out, .inr ⟨_, Hfind.out (by trivial), ?_⟩⟩
            simp only
            rw [← Ht.out]
            rfl
    · obtain rfl : j = N := by omega
      have hany : L.any (fun q => behindF bi bn q.num) = false := by
        rw [List.any_eq_false]
        intro x hx
        rw [Hno.out x (by rw [List.take_of_length_le (by rw [HN.out]; exact Nat.le_refl _)]; exact hx)]
        exact Bool.false_ne_true
      have Hany := Lib.hid hany
      have Hbw := Lib.hid hbw
      clear hany hbw
      go_wp2_with fail
      go_ret2
      exact ⟨Hbw.out, .inl ⟨Hany.out, rfl⟩⟩

end Go.Proofs.Ytmnmpmiocgfalaa

namespace Go.Proofs.Ytmnmpmiocgfalaa
def S0 : Lg := ⟨[], 0, false, 0, false⟩

end Go.Proofs.Ytmnmpmiocgfalaa

namespace Go.Proofs.Ytmnmpmiocgfalaa
open Go.ChangeShapes Go.WideShapes Go.RowKit
set_option linter.unusedVariables false

/-- What holds of a ledger throughout. -/
structure Inv (S : Lg) : Prop where
  ln : S.ln ≤ 4611686018427387903
  bl : S.bn ≤ S.ln
  li : S.li = false → S.op = [] ∧ S.ln = 0 ∧ S.bi = false
  bi : S.bi = false → S.bn = 0
  len : S.op.length ≤ 500
  le : ∀ p ∈ S.op, p.num ≤ S.ln ∧ p.time ≤ 1099511627776 ∧ p.size ≤ 1099511627776
  up : S.op.Pairwise (fun p q => p.num < q.num)

theorem Inv.start : Inv S0 := ⟨by decide, by decide, fun _ => ⟨rfl, rfl, rfl⟩, fun _ => rfl, by decide, by simp [S0], List.Pairwise.nil⟩

theorem Inv.lnb {S : Lg} (h : Inv S) : S.ln < 2 ^ 63 := Nat.lt_of_le_of_lt h.ln (by decide)
theorem Inv.bnb {S : Lg} (h : Inv S) : S.bn < 2 ^ 63 := Nat.lt_of_le_of_lt h.bl h.lnb
theorem Inv.len1 {S : Lg} (h : Inv S) : S.op.length ≤ 1000 := Nat.le_trans h.len (by decide)

theorem Inv.sent {S : Lg} (h : Inv S) (p : Pk) : Inv (sentF S p).1 := by
  unfold sentF
  by_cases hb : sentBad S p = true
  · rw [if_pos hb]; exact h
  · rw [if_neg hb]
    by_cases h5 : 500 ≤ S.op.length
    · rw [if_pos h5]; exact h
    · rw [if_neg h5]
      unfold sentBad badNum at hb
      simp only [Bool.or_eq_true, Bool.and_eq_true, decide_eq_true_eq, not_or, not_and, Nat.not_lt, Nat.not_le] at hb
      obtain ⟨⟨⟨g1, g2⟩, g3⟩, g4⟩ := hb
      have hup : ∀ q ∈ S.op, q.num < p.num := by
        intro q hq
        cases hli : S.li with
        | false => rw [(h.li hli).1] at hq; simp at hq
        | true => exact Nat.lt_of_le_of_lt (h.le q hq).1 (g2 hli)
      have hln : S.ln ≤ p.num := by
        cases hli : S.li with
        | false => rw [(h.li hli).2.1]; exact Nat.zero_le _
        | true => exact Nat.le_of_lt (g2 hli)
      refine ⟨g1, Nat.le_trans h.bl hln, fun e => by simp at e, h.bi, by simp; omega, ?_, ?_⟩
      · intro q hq
        simp only [List.mem_append, List.mem_singleton] at hq
        rcases hq with hq | rfl
        · exact ⟨Nat.le_of_lt (hup q hq), (h.le q hq).2⟩
        · exact ⟨Nat.le_refl _, g3, g4⟩
      · rw [List.pairwise_append]
        refine ⟨h.up, List.pairwise_singleton _ _, fun a ha c hc => ?_⟩
        simp only [List.mem_singleton] at hc
        subst hc
        exact hup a ha

theorem Inv.skip {S : Lg} (h : Inv S) (num : Nat) : Inv (skipF S num).1 := by
  unfold skipF
  by_cases hb : badNum S num = true
  · rw [if_pos hb]; exact h
  · rw [if_neg hb]
    unfold badNum at hb
    simp only [Bool.or_eq_true, Bool.and_eq_true, decide_eq_true_eq, not_or, not_and, Nat.not_lt, Nat.not_le] at hb
    obtain ⟨g1, g2⟩ := hb
    have hln : S.ln ≤ num := by
      cases hli : S.li with
      | false => rw [(h.li hli).2.1]; exact Nat.zero_le _
      | true => exact Nat.le_of_lt (g2 hli)
    exact ⟨g1, Nat.le_trans h.bl hln, fun e => by simp at e, h.bi, h.len, fun q hq => ⟨Nat.le_trans (h.le q hq).1 hln, (h.le q hq).2⟩, h.up⟩

theorem Inv.filter {S : Lg} (h : Inv S) (f : Pk → Bool) : Inv { S with op := S.op.filter f } :=
  ⟨h.ln, h.bl, fun e => by obtain ⟨h1, h2⟩ := h.li e; exact ⟨by show S.op.filter f = []; rw [h1]; rfl, h2⟩, h.bi, Nat.le_trans (List.length_filter_le _ _) h.len, fun p hp => h.le p (List.mem_filter.1 hp).1, h.up.filter _⟩

theorem bestN_le (bn : Nat) (rs : List (Nat × Nat)) : bn ≤ bestN bn rs := by
  induction rs generalizing bn with
  | nil => exact Nat.le_refl _
  | cons r rs ih => exact Nat.le_trans (Nat.le_max_left bn r.2) (ih _)
theorem bestN_top (bn t : Nat) (rs : List (Nat × Nat)) (h : bn ≤ t) (hr : ∀ r ∈ rs, r.2 ≤ t) : bestN bn rs ≤ t := by
  induction rs generalizing bn with
  | nil => exact h
  | cons r rs ih => exact ih _ (Nat.max_le.2 ⟨h, hr r (by simp)⟩) (fun q hq => hr q (by simp [hq]))

theorem Inv.best {S : Lg} (h : Inv S) (rs : List (Nat × Nat)) (hr : rs.any (rangeB S.li S.ln) = false) : Inv (bestF S rs) := by
  rw [List.any_eq_false] at hr
  have hr2 : ∀ r ∈ rs, S.li = true ∧ r.2 ≤ S.ln := by
    intro r hm
    have := hr r hm
    unfold rangeB at this
    simp only [Bool.or_eq_true, Bool.not_eq_true', decide_eq_true_eq, not_or, Nat.not_lt] at this
    exact ⟨by simpa using this.1, this.2⟩
  refine ⟨h.ln, bestN_top _ _ _ h.bl (fun r hm => (hr2 r hm).2), fun e => ?_, fun e => ?_, h.len, h.le, h.up⟩
  · obtain ⟨h1, h2, h3⟩ := h.li e
    refine ⟨h1, h2, ?_⟩
    cases rs with
    | nil => simp [bestF, h3]
    | cons r rs =>
      have e2 : S.li = false := e
      rw [show S.li = true from (hr2 r (by simp)).1] at e2
      exact absurd e2 (by decide)
  · simp only [bestF, Bool.or_eq_false_iff, Bool.not_eq_false'] at e
    have : rs = [] := List.isEmpty_iff.1 e.2
    subst this
    exact h.bi e.1

/-- What Acked does to a ledger. -/
def ackS (S : Lg) (rs : List (Nat × Nat)) : Lg :=
  if rs.any formB = true ∨ rs.any (rangeB S.li S.ln) = true then S else { bestF S rs with op := S.op.filter (fun q => !ackP rs q) }
def ackT (S : Lg) (rs : List (Nat × Nat)) : List Pk :=
  if rs.any formB = true ∨ rs.any (rangeB S.li S.ln) = true then [] else S.op.filter (ackP rs)

theorem Inv.ack {S : Lg} (h : Inv S) (rs : List (Nat × Nat)) : Inv (ackS S rs) := by
  unfold ackS
  by_cases hb : rs.any formB = true ∨ rs.any (rangeB S.li S.ln) = true
  · rw [if_pos hb]; exact h
  · rw [if_neg hb]
    exact (h.best rs (by cases hx : rs.any (rangeB S.li S.ln) with | false => rfl | true => exact absurd (.inr hx) hb)).filter _

theorem AckEnd.owns {B b : Nat} {T : TypeId} {rest : List Value} {v : Value} {S : Lg} {w : World} {rs : List (Nat × Nat)} {e : Ending} {w' : World} (h : AckEnd B b T rest v S w rs e w') (ho : Owns B b T rest v S w) :
    ∃ vg c v', e = .returned (.tuple #[vg, .int .i64 c]) ∧ Owns B b T rest v' (ackS S rs) w' ∧ w'.ownsRow w.heap.size 57 5 vg (ackT S rs).length (pks (ackT S rs)) ∧ (∀ k, vg.ownBlock = some k → v'.ownBlock ≠ some k) ∧ Below B w w' := by
  rcases h with ⟨h1, h2, h3⟩ | ⟨h0, h1, h2, h3⟩ | ⟨h0, h1, vg, v', h2, h3, h4, h5⟩
  · have e1 : ackS S rs = S := by unfold ackS; rw [if_pos (.inl h1)]
    have e2 : ackT S rs = [] := by unfold ackT; rw [if_pos (.inl h1)]
    rw [e1, e2]
    exact ⟨_, _, v, h2, ho.next h3, World.ownsRow_nil _ _ _ _, fun k hk => by simp [Value.ownBlock] at hk, h3.mono ho.bw⟩
  · have e1 : ackS S rs = S := by unfold ackS; rw [if_pos (.inr h1)]
    have e2 : ackT S rs = [] := by unfold ackT; rw [if_pos (.inr h1)]
    rw [e1, e2]
    exact ⟨_, _, v, h2, ho.next h3, World.ownsRow_nil _ _ _ _, fun k hk => by simp [Value.ownBlock] at hk, h3.mono ho.bw⟩
  · have hn : ¬ (rs.any formB = true ∨ rs.any (rangeB S.li S.ln) = true) := by rw [h0, h1]; simp
    have e1 : ackS S rs = { bestF S rs with op := S.op.filter (fun q => !ackP rs q) } := by unfold ackS; rw [if_neg hn]
    have e2 : ackT S rs = S.op.filter (ackP rs) := by unfold ackT; rw [if_neg hn]
    rw [e1, e2]
    exact ⟨vg, _, v', h2, h4.owns ho, h3, h5, h4.below ho⟩

theorem Told.owns {B b : Nat} {T : TypeId} {rest : List Value} {v : Value} {S : Lg} {w : World} {f : Pk → Bool} {e : Ending} {w' : World} (h : Told B b T rest v S w f e w') (ho : Owns B b T rest v S w) :
    ∃ vg v', e = .returned vg ∧ Owns B b T rest v' { S with op := S.op.filter (fun p => !f p) } w' ∧ w'.ownsRow w.heap.size 57 5 vg (S.op.filter f).length (pks (S.op.filter f)) ∧ (∀ k, vg.ownBlock = some k → v'.ownBlock ≠ some k) ∧ Below B w w' := by
  obtain ⟨vg, v', h1, h2, h3, h4⟩ := h
  exact ⟨vg, v', h1, h3.owns ho, h2, h4, h3.below ho⟩

theorem Came.owns2 {B b : Nat} {T : TypeId} {rest : List Value} {v : Value} {S S' : Lg} {w w' : World} (h : Came B b T rest v w S' w') (ho : Owns B b T rest v S w) : ∃ v', Owns B b T rest v' S' w' ∧ Below B w w' := by
  obtain ⟨v', h1⟩ := h
  exact ⟨v', h1.owns ho, h1.below ho⟩

/-- A number, or -1 of none. -/
def sg (is : Bool) (n : Nat) : Int := if is then (n : Int) else -1

end Go.Proofs.Ytmnmpmiocgfalaa
