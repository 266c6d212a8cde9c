/- Contracts of Flying, Open, Clear, Lost. -/
import Derived.Test.YtaoeamkkbopioaaLe
namespace Go.Proofs.Ytaoeamkkbopioaa
open Go.ChangeShapes Go.WideShapes Go.RowKit
set_option linter.unusedVariables false

theorem pks_one_cell (l : List Pk) : ∀ u ∈ pks l, u.oneCell' = true := by
  intro u hu
  unfold pks at hu
  rw [List.mem_flatMap] at hu
  obtain ⟨p, _, hp⟩ := hu
  simp [Pk.vals] at hp
  rcases hp with rfl | rfl | rfl | rfl | rfl <;> rfl

set_option maxRecDepth 100000 in
set_option maxHeartbeats 1000000 in
theorem Open_any (B b : Nat) (T : TypeId) (rest : List Value) (v : Value) (S : Lg) (w : World) (h : Owns B b T rest v S w) (hlen : S.op.length ≤ 1000) :
    Calls Try.prog 14 #[.pointer (some ⟨b, 0, none⟩)] w fun e w' => ∃ vo, e = .returned vo ∧ w'.ownsRow w.heap.size 38 5 vo S.op.length (pks S.op) ∧ Below w.heap.size w w' := by
  have hbl := h.led.lt
  have hO := h.own
  have hxl := hO.1
  obtain ⟨p, cap, rfl, hpn⟩ := own_shape hO
  have c0 : w.cell? ⟨b, 0, none⟩ = some (.slice p S.op.length cap) := h.led.cell rfl
  obtain ⟨N, hN⟩ : ∃ N, S.op.length = N := ⟨_, rfl⟩
  obtain ⟨xs, hxs⟩ : ∃ xs, pks S.op = xs := ⟨_, rfl⟩
  have h1 := pks_one_cell S.op
  rw [hxs] at h1 hxl hO ⊢
  rw [hN] at hpn hxl hlen hO c0 ⊢
  obtain ⟨i0, hi0, hz0, hz1, hz2⟩ := info_parts Try.infoP
  have hsz5 : (Try.prog.info? 38).map (·.size) = some 5 := by rw [hi0, ← hz1]; rfl
  have Hxl := Lib.hid hxl
  have HO := Lib.hid hO
  clear h hN hxs hxl hO
  go_enter Try.func14, Try.ntmps14
  go_wp2_with (at_make; refine wpList_make_full w rfl _ _ 24 rfl w.heap.size 38 i0 _ 5 Try.underlying24 hi0 hz0 hz1 .i64 .i64 _ _ N rfl rfl rfl rfl (by rw [hz2]; omega) (by unfold maxLen; omega) (Nat.le_refl _) ?_)
  intro w1 ho1 hg1
  have hb1 : Below w.heap.size w w1 := (Below.refl _ _).grown hg1 (Nat.le_refl _) (fun k hk => by cases hk)
  have d0 := (hb1.cell (p := ⟨b, 0, none⟩) hbl).trans c0
  have hsrc : 0 < N → ∃ A, p = some A ∧ ∀ j u, xs[j]? = some u → w1.cell? (A.add j) = some u := by
    intro hn
    obtain ⟨g, hg⟩ := hpn hn
    have hO := HO.out
    subst hg
    refine ⟨_, rfl, fun j u hu => ?_⟩
    rw [add_zero]
    obtain ⟨g2, cap2, hv, _, hgl, hc, _⟩ := own_view hO hn
    injection hv with hv _ _
    injection hv with hv
    injection hv with hv _ _
    subst hv
    rw [hb1.cell (p := ⟨g, j, none⟩) hgl]
    exact hc j u hu
  obtain ⟨w2, hrun, ho2, hg2⟩ := run_copy_full (P := Try.prog) 24 24 3 38 5 Try.underlying24 hsz5 w.heap.size N _ _ xs ho1 p cap Hxl.out hsrc h1
  have hb2 : Below w.heap.size w w2 := hb1.grown hg2 hb1.size (fun k hk => (ho1.lt k hk).1)
  have Ho2 := Lib.hid ho2
  have Hb2 := Lib.hid hb2
  clear ho1 hg1 hb1 hsrc hpn ho2 hg2 hb2
  go_wp2_with fail
  go_ret
  exact ⟨_, rfl, Ho2.out, Hb2.out⟩

/-- The bytes under way. -/
def flyF : List Pk → Nat
  | [] => 0
  | p :: l => (if p.asks then p.size else 0) + flyF l
theorem flyF_append (a b : List Pk) : flyF (a ++ b) = flyF a + flyF b := by
  induction a with
  | nil => simp [flyF]
  | cons p l ih => simp only [List.cons_append, flyF, ih]; omega
theorem flyF_le (l : List Pk) (h : ∀ p ∈ l, p.size ≤ 1099511627776) : flyF l ≤ l.length * 1099511627776 := by
  induction l with
  | nil => simp [flyF]
  | cons p l ih =>
    have h1 := h p (by simp)
    have h2 := ih (fun q hq => h q (by simp [hq]))
    rw [List.length_cons, Nat.add_mul]
    simp only [flyF]
    split <;> omega

theorem fly_step (t s j : Nat) (h : t ≤ j * 1099511627776) (hs : s ≤ 1099511627776) (hj : j < 1000) : t ≤ (j + 1) * 1099511627776 ∧ t + s ≤ (j + 1) * 1099511627776 ∧ t < 4503599627370496 ∧ s < 4503599627370496 := by
  refine ⟨Nat.le_trans h (Nat.mul_le_mul_right _ (Nat.le_succ j)), ?_, ?_, ?_⟩
  · rw [Nat.succ_mul]
    exact Nat.add_le_add h hs
  · exact Nat.lt_of_le_of_lt (Nat.le_trans h (Nat.mul_le_mul_right _ (Nat.le_of_lt hj))) (by decide)
  · exact Nat.lt_of_le_of_lt hs (by decide)

set_option maxRecDepth 100000 in
set_option maxHeartbeats 1000000 in
theorem Flying_any (B b : Nat) (T : TypeId) (rest : List Value) (v : Value) (S : Lg) (w : World) (h : Owns B b T rest v S w) (hlen : S.op.length ≤ 1000) (hsz : ∀ p ∈ S.op, p.size ≤ 1099511627776) :
    Calls Try.prog 18 #[.pointer (some ⟨b, 0, none⟩)] w fun e w' => e = .returned (.int .u64 (flyF S.op : Nat)) ∧ Below w.heap.size w w' := by
  have hbl := h.led.lt
  have hO := h.own
  obtain ⟨p, cap, rfl, hpn⟩ := own_shape hO
  have c0 : w.cell? ⟨b, 0, none⟩ = some (.slice p S.op.length cap) := h.led.cell rfl
  obtain ⟨N, hN⟩ : ∃ N, S.op.length = N := ⟨_, rfl⟩
  rw [hN] at hpn hlen hO c0
  have HN := Lib.hid hN
  have HO := Lib.hid hO
  have Hsz := Lib.hid hsz
  clear h hN hO hpn hsz
  go_enter Try.func18, Try.ntmps18
  go_wp2_with fail
  go_loopw [3, 11] (fun n i wr => ∃ j t : Nat, j ≤ N ∧ i = .int .i64 j ∧ t = flyF (S.op.take j) ∧ t ≤ j * 1099511627776 ∧ n = .int .u64 t ∧ Below w.heap.size w wr) (fun _ i _ => N - (intOf i).toNat)
  case atStart => exact ⟨0, 0, by omega, rfl, rfl, by omega, rfl, Below.refl _ _⟩
  case round =>
    obtain ⟨j, t, hj, rfl, ht, htl, rfl, hbw⟩ := hrel
    by_cases hlt : j < N
    · have hjl : j < S.op.length := by rw [HN.out]; exact hlt
      obtain ⟨q, hq⟩ : ∃ q, S.op[j] = q := ⟨_, rfl⟩
      have hq2 : S.op[j]? = some q := by rw [List.getElem?_eq_getElem hjl, hq]
      have hqm : q ∈ S.op := by rw [← hq]; exact List.getElem_mem _
      obtain ⟨g1, cap1, hv, hgB, hg1, k0, k1, k2, k3, k4⟩ := pk_cells HO.out j q hq2
      injection hv with hv1 hv2 hv3
      subst hv1
      have htk : flyF (S.op.take (j + 1)) = t + (if q.asks then q.size else 0) := by rw [List.take_succ_eq_append_getElem hjl, hq, flyF_append, ← ht]; simp [flyF]
      have hqs := Hsz.out q hqm
      obtain ⟨hst0, hst1, hb1, hb2⟩ := fly_step t q.size j htl hqs (Nat.lt_of_lt_of_le hlt hlen)
      have Hst0 := Lib.hid hst0
      have Hst1 := Lib.hid hst1
      obtain ⟨num, time, size, asks, fa, fl, fc⟩ := q
      simp only at k0 k1 k2 k3 k4 htk hb2 Hst1
      clear hqs htl hst0 hst1
      have c0 := (hbw.cell (p := ⟨g1, j * 5, none⟩) hg1).trans k0
      have c1 := (hbw.cell (p := ⟨g1, j * 5 + 1, none⟩) hg1).trans k1
      have c2 := (hbw.cell (p := ⟨g1, j * 5 + 2, none⟩) hg1).trans k2
      have c3 := (hbw.cell (p := ⟨g1, j * 5 + 3, none⟩) hg1).trans k3
      have c4 := (hbw.cell (p := ⟨g1, j * 5 + 4, none⟩) hg1).trans k4
      have hbn : Below w.heap.size w (wr.alloc (.cells #[.int .u64 (num : Int), .int .u64 (time : Int), .int .u64 (size : Int), .bool asks, .slice fa fl fc] 38)) := hbw.alloc hbw.size _
      have Htk := Lib.hid htk
      have Hbw := Lib.hid hbn
      clear hbw hq hq2 htk k0 k1 k2 k3 k4 hv2 hv3 ht hbn hqm
      cases asks
      · go_wp2_with fail
        go_roundw
        case rel => exact ⟨j + 1, t, by omega, by go_num, by rw [Htk.out, if_neg Bool.false_ne_true, Nat.add_zero], Hst0.out, rfl, Hbw.out⟩
        case measure => simp [intOf]; omega
      · go_wp2_with fail
        go_roundw
        case rel => exact ⟨j + 1, t + size, by omega, by go_num, by rw [Htk.out, if_pos rfl], Hst1.out, by go_num, Hbw.out⟩
        case measure => simp [intOf]; omega
    · obtain rfl : j = N := by omega
      rw [List.take_of_length_le (by rw [HN.out]; exact Nat.le_refl _)] at ht
      have Ht := Lib.hid ht
      have Hbw := Lib.hid hbw
      clear ht hbw
      go_wp2_with fail
      go_ret
      exact ⟨by rw [← Ht.out]; rfl, Hbw.out⟩

theorem clear_fn (p : Pk) (w : World) : Calls Try.prog 38 #[pkV p] w fun e w' => e = .returned (.bool true) ∧ Below w.heap.size w w' := by
  unfold pkV
  go_enter Try.func38, Try.ntmps38
  go_wp2_with fail
  go_ret
  exact ⟨rfl, (Below.refl _ _).alloc (Nat.le_refl _) _⟩

/-- What has come out of a split. -/
def Told (B b : Nat) (T : TypeId) (rest : List Value) (v : Value) (S : Lg) (w : World) (f : Pk → Bool) (e : Ending) (w' : World) : Prop :=
  ∃ vg v', e = .returned vg ∧ w'.ownsRow w.heap.size 38 5 vg (S.op.filter f).length (pks (S.op.filter f)) ∧ CameV B b T rest v w { S with op := S.op.filter (fun p => !f p) } v' w' ∧ ∀ k, vg.ownBlock = some k → v'.ownBlock ≠ some k

theorem split_told {B b : Nat} {T : TypeId} {rest : List Value} {v : Value} {S : Lg} {w W w' : World} {f : Pk → Bool} {e : Ending} (h : Owns B b T rest v S w) (hb : Below w.heap.size w W)
    (hs : ∃ vg vs, e = .returned vg ∧ LedIs w' b T rest vs { S with op := S.op.filter (fun p => !f p) } ∧
      w'.ownsRow W.heap.size 38 5 vg (S.op.filter f).length (pks (S.op.filter f)) ∧ w'.ownsRow W.heap.size 38 5 vs (S.op.filter (fun p => !f p)).length (pks (S.op.filter (fun p => !f p))) ∧ (∀ k, vg.ownBlock = some k → vs.ownBlock ≠ some k) ∧ Only (fun k => k = b) W w') :
    Told B b T rest v S w f e w' := by
  obtain ⟨vg, vs, he, h1, h2, h3, h5, h4⟩ := hs
  refine ⟨vg, vs, he, own_base h2 hb.size, ⟨h1, own_base h3 (Nat.le_trans h.bw hb.size), (Only.ofBelow hb).then h4 (fun i hi => .inl (.inl hi)), .inr (fun k hk => ?_)⟩, h5⟩
  have := (h3.lt k hk).1
  have := hb.size
  omega

set_option maxRecDepth 100000 in
theorem Clear_any (B b : Nat) (T : TypeId) (rest : List Value) (v : Value) (S : Lg) (w : World) (h : Owns B b T rest v S w) (hlen : S.op.length ≤ 1000) :
    Calls Try.prog 13 #[.pointer (some ⟨b, 0, none⟩)] w (Told B b T rest v S w (fun _ => true)) := by
  have eg : ∀ args w, (callFunc 38 args).run Try.prog w = .ok (.enter 38 args) w := enters_of Try.func38 (by kernel_rfl) rfl
  have hsp := split_any B b T rest v S w (fun _ => true) 38 #[] eg (fun W p _ => clear_fn p W) h.led h.own hlen
  have hend := fun e w' => split_told (w' := w') (e := e) h (Below.refl _ _) (f := fun _ => true)
  have HS := Lib.hid hsp
  have HE := Lib.hid hend
  clear hsp hend h
  go_enter Try.func13, Try.ntmps13
  go_wp2_with fail
  refine HS.out.mono ?_
  intro e w' hs
  have ht := HE.out e w' hs
  obtain ⟨vg, v', rfl, h2⟩ := ht
  have H2 := Lib.hid h2
  clear h2 hs
  go_wp2_with fail
  go_ret
  exact ⟨vg, v', rfl, H2.out⟩

end Go.Proofs.Ytaoeamkkbopioaa
