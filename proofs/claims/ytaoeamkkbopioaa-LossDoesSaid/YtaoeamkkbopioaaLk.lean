/- The law's own first look at the program ('awake') answers true. -/
import Derived.Test.YtaoeamkkbopioaaLj
namespace Go.Proofs.Ytaoeamkkbopioaa
open Go.ChangeShapes Go.WideShapes Go.RowKit
set_option linter.unusedVariables false

def S0 : Lg := ⟨[], 0, false, 0, false⟩
theorem Owns.start (w : World) : Owns w.heap.size w.heap.size 29 [] (.slice none 0 0) S0 (w.alloc (.cells #[.slice none 0 0, .int .u64 0, .bool false, .int .u64 0, .bool false] 29)) :=
  ⟨blk.new w _ _, World.ownsRow_nil _ _ _ _, by simp, Nat.le_refl _, by decide⟩

def aw (j : Nat) : Pk := ⟨j, 10 * j, 100, decide (0 < j), none, 0, 0⟩
def Sj (j : Nat) : Lg := ⟨(List.range j).map aw, j - 1, decide (0 < j), 0, false⟩
theorem Sj_next (j : Nat) (h : j < 5) : sentF (Sj j) (aw j) = (Sj (j + 1), 0) := by
  match j, h with
  | 0, _ => rfl
  | 1, _ => rfl
  | 2, _ => rfl
  | 3, _ => rfl
  | 4, _ => rfl
theorem Sj_again : sentF (Sj 5) ⟨4, 0, 0, false, none, 0, 0⟩ = (Sj 5, 3) := rfl

def Sa : Lg := ⟨(List.range 4).map aw, 4, true, 4, true⟩
def Sb : Lg := ⟨[aw 2, aw 3], 4, true, 4, true⟩
def Sc : Lg := ⟨[], 4, true, 4, true⟩

/-- Each call with what it comes to, by the ledger's letters alone. -/
theorem aw_ack {B b : Nat} {v : Value} {w : World} {e : Ending} {w' : World} (h : AckEnd B b 29 [] v (Sj 5) w [(4, 4)] e w') : ∃ vg v', e = .returned (.tuple #[vg, .int .i64 0]) ∧ w'.ownsRow w.heap.size 38 5 vg 1 (pks [aw 4]) ∧ CameV B b 29 [] v w Sa v' w' ∧ ∀ k, vg.ownBlock = some k → v'.ownBlock ≠ some k := by
  rcases h with ⟨h1, _⟩ | ⟨_, h1, _⟩ | ⟨_, _, vg, v', h1, h2, h3, h4⟩
  · exact absurd h1 (by decide)
  · exact absurd h1 (by decide)
  · exact ⟨vg, v', h1, h2, h3, h4⟩
theorem aw_ack2 {B b : Nat} {v : Value} {w : World} {e : Ending} {w' : World} (h : AckEnd B b 29 [] v Sa w [(5, 5)] e w') : e = .returned (.tuple #[.slice none 0 0, .int .i64 3]) ∧ Below w.heap.size w w' := by
  rcases h with ⟨h1, _⟩ | ⟨_, _, h2⟩ | ⟨_, h1, _⟩
  · exact absurd h1 (by decide)
  · exact h2
  · exact absurd h1 (by decide)
theorem aw_due {w : World} {e : Ending} {w' : World} (h : DueEnd Sa 50 w e w') : e = .returned (.tuple #[.int .u64 50, .bool true]) ∧ Below w.heap.size w w' := by
  obtain ⟨hb, h⟩ := h
  rcases h with ⟨h1, _⟩ | ⟨p, h1, h2⟩
  · exact absurd h1 (by decide)
  · have : p = aw 0 := by
      have e : Sa.op.find? (fun q => behindF Sa.bi Sa.bn q.num) = some (aw 0) := rfl
      rw [e] at h1
      injection h1 with h1
      exact h1.symm
    subst this
    refine ⟨?_, hb⟩
    rw [h2]
    have e : minT Sa.bi Sa.bn (aw 0).time Sa.op = 0 := by decide
    rw [e]
    have e2 : IntKind.u64.wrap (((0 : Nat) : Int) + ((50 : Nat) : Int)) = 50 := by rw [IntKind.wrap_u64]; rfl
    rw [e2]
theorem aw_lost1 {B b : Nat} {v : Value} {w : World} {e : Ending} {w' : World} (h : Told B b 29 [] v Sa w (lostP Sa.bi Sa.bn 40 50) e w') : ∃ vg v', e = .returned vg ∧ w'.ownsRow w.heap.size 38 5 vg 2 (pks [aw 0, aw 1]) ∧ CameV B b 29 [] v w Sb v' w' ∧ ∀ k, vg.ownBlock = some k → v'.ownBlock ≠ some k := h
theorem aw_lost2 {B b : Nat} {v : Value} {w : World} {e : Ending} {w' : World} (h : Told B b 29 [] v Sb w (lostP Sb.bi Sb.bn 80 50) e w') : ∃ vg v', e = .returned vg ∧ w'.ownsRow w.heap.size 38 5 vg 2 (pks [aw 2, aw 3]) ∧ CameV B b 29 [] v w Sc v' w' ∧ ∀ k, vg.ownBlock = some k → v'.ownBlock ≠ some k := h
theorem aw_clear {B b : Nat} {v : Value} {w : World} {e : Ending} {w' : World} (h : Told B b 29 [] v Sc w (fun _ => true) e w') : ∃ vg v', e = .returned vg ∧ w'.ownsRow w.heap.size 38 5 vg 0 (pks []) ∧ CameV B b 29 [] v w Sc v' w' ∧ ∀ k, vg.ownBlock = some k → v'.ownBlock ≠ some k := h

theorem rg_one {w : World} {g : Nat} {T : TypeId} {a c : Nat} (h : blk w g T [.int .u64 (a : Int), .int .u64 (c : Int)]) : RgAt w (some ⟨g, 0, none⟩) [(a, c)] := by
  intro _
  refine ⟨g, 0, rfl, h.lt, ?_⟩
  intro i r hr
  match i, hr with
  | 0, hr =>
    simp at hr
    subst hr
    exact ⟨h.cell rfl, h.cell rfl⟩
  | i + 1, hr => simp at hr

set_option maxRecDepth 100000 in
set_option maxHeartbeats 4000000 in
theorem awake_any (w : World) : Calls Try.prog 9 #[] w fun e w' => e = .returned (.bool true) ∧ Below w.heap.size w w' := by
  have h0 := Owns.start w
  obtain ⟨B, hB⟩ : ∃ B, w.heap.size = B := ⟨_, rfl⟩
  rw [hB] at h0 ⊢
  obtain ⟨w1, hw1⟩ : ∃ w1, w.alloc (.cells #[.slice none 0 0, .int .u64 0, .bool false, .int .u64 0, .bool false] 29) = w1 := ⟨_, rfl⟩
  rw [hw1] at h0
  have hb1 : Below B w w1 := by rw [← hw1, ← hB]; exact (Below.refl _ _).alloc (Nat.le_refl _) _
  have hla := Last_any B 0 false w1 h0.led.lt (h0.led.cell rfl) (h0.led.cell rfl)
  have H0 := Lib.hid h0
  have Hb1 := Lib.hid hb1
  have HLa := Lib.hid hla
  clear h0 hb1 hla
  go_enter Try.func9, Try.ntmps9
  go_wp2_with fail
  refine HLa.out.mono ?_
  rintro e w2 ⟨rfl, hb2⟩
  have h2 := H0.out.next hb2
  have Hb2 := Lib.hid (Hb1.out.trans (hb2.mono H0.out.bw))
  have H2 := Lib.hid h2
  clear hb2 h2
  go_wp2_with fail
  go_loopw [4, 5] (fun e i wr => ∃ j : Nat, ∃ v : Value, j ≤ 5 ∧ i = .int .u64 j ∧ e = .int .i64 0 ∧ Owns B B 29 [] v (Sj j) wr ∧ Below B w wr) (fun _ i _ => 5 - (intOf i).toNat)
  case atStart => exact ⟨0, _, by omega, rfl, rfl, H2.out, Hb2.out⟩
  case round =>
    obtain ⟨j, v, hj, rfl, rfl, hO, hbw⟩ := hrel
    have HO := Lib.hid hO
    have Hbw := Lib.hid hbw
    clear hO hbw
    by_cases hlt : j < 5
    · have hs := Sent_any B B 29 [] v (Sj j) wr j (10 * j) 100 (decide (0 < j)) HO.out (by omega) (by simp only [Sj]; omega) (by simp [Sj]; omega)
      have e := Sj_next j hlt
      unfold aw at e
      rw [e] at hs
      obtain ⟨t, ht⟩ : ∃ t, 10 * j = t := ⟨_, rfl⟩
      obtain ⟨d, hd⟩ : ∃ d, decide (0 < j) = d := ⟨_, rfl⟩
      rw [ht, hd] at hs
      have hti : (10 : Int) * (j : Int) = (t : Int) := by omega
      have hs' := hs.mono (R' := fun e w' => e = .returned (.int .i64 0) ∧ ∃ v', Owns B B 29 [] v' (Sj (j + 1)) w' ∧ Below B w w') (fun e w' ⟨h1, v', h2⟩ => ⟨h1, v', h2.owns HO.out, Hbw.out.trans (h2.below HO.out)⟩)
      have HS := Lib.hid hs'
      clear hs hs' e ht
      go_wp2_with fail
      refine HS.out.mono ?_
      rintro e w3 ⟨rfl, v3, h3, hb3⟩
      have H3 := Lib.hid h3
      have Hb3 := Lib.hid hb3
      clear h3 hb3
      go_wp2_with fail
      go_roundw
      case rel => exact ⟨j + 1, v3, by omega, by go_num, rfl, H3.out, Hb3.out⟩
      case measure => simp [intOf]; omega
    · obtain rfl : j = 5 := by omega
      have hs := Sent_any B B 29 [] v (Sj 5) wr 4 0 0 false HO.out (by omega) (by decide) (by decide)
      rw [Sj_again] at hs
      have hs' := hs.mono (R' := fun e w' => e = .returned (.int .i64 3) ∧ ∃ v', Owns B B 29 [] v' (Sj 5) w' ∧ Below B w w') (fun e w' ⟨h1, v', h2⟩ => ⟨h1, v', h2.owns HO.out, Hbw.out.trans (h2.below HO.out)⟩)
      have HS := Lib.hid hs'
      clear hs hs'
      go_wp2_with fail
      refine HS.out.mono ?_
      rintro e w3 ⟨rfl, v3, h3, hb3⟩
      have hf := Flying_any B B 29 [] v3 (Sj 5) w3 h3 (by decide) (by decide)
      have e : flyF (Sj 5).op = 400 := by decide
      rw [e] at hf
      have H3 := Lib.hid h3
      have Hb3 := Lib.hid hb3
      have HF := Lib.hid hf
      clear h3 hb3 HS HO Hbw hf e
      go_wp2_with fail
      refine HF.out.mono ?_
      rintro e w4 ⟨rfl, hb4⟩
      have Hb4 := Lib.hid (Hb3.out.trans (hb4.mono H3.out.bw))
      have H4 := Lib.hid (H3.out.next hb4)
      clear hb4 HF
      -- acknowledged: 4
      have h5b : Below w4.heap.size w4 (w4.alloc (.cells #[.int .u64 4, .int .u64 4] 66)) := (Below.refl _ _).alloc (Nat.le_refl _) _
      have h5 := H4.out.next h5b
      have hk := Acked_any B B 29 [] v3 (Sj 5) _ (some ⟨w4.heap.size, 0, none⟩) 1 [(4, 4)] h5 (by decide) (by decide) (by decide) (rg_one (blk.new w4 _ _)) (by decide) (by rintro _ a ⟨rfl⟩; have := H4.out.led.lt; exact Nat.ne_of_gt this)
      have hk' := hk.mono (R' := fun e w' => ∃ vg v', e = .returned (.tuple #[vg, .int .i64 0]) ∧ (∃ g cap, vg = .slice (some ⟨g, 0, none⟩) 1 cap) ∧ Owns B B 29 [] v' Sa w' ∧ Apart B v' vg 1 (pks [aw 4]) w' ∧ Below B w w') (fun e w' h => by
        obtain ⟨vg, v', g1, g2, g3, g4⟩ := aw_ack h
        obtain ⟨g, cap, hv, _⟩ := own_view g2 (by decide)
        exact ⟨vg, v', g1, ⟨g, cap, hv⟩, g3.owns h5, ⟨⟨_, g2⟩, g4⟩, (Hb4.out.trans (h5b.mono H4.out.bw)).trans (g3.below h5)⟩)
      have HK := Lib.hid hk'
      clear hk hk' h5 h5b
      go_wp2_with fail
      refine HK.out.mono ?_
      rintro e w5 ⟨vg, v5, rfl, ⟨ga, capa, rfl⟩, h5, hap, hb5⟩
      have H5 := Lib.hid h5
      have Hb5 := Lib.hid hb5
      have Hap := Lib.hid hap
      clear h5 hb5 hap HK
      -- not acknowledged: 5
      have h6b : Below w5.heap.size w5 (w5.alloc (.cells #[.int .u64 5, .int .u64 5] 66)) := (Below.refl _ _).alloc (Nat.le_refl _) _
      have h6 := H5.out.next h6b
      have hk := Acked_any B B 29 [] v5 Sa _ (some ⟨w5.heap.size, 0, none⟩) 1 [(5, 5)] h6 (by decide) (by decide) (by decide) (rg_one (blk.new w5 _ _)) (by decide) (by rintro _ a ⟨rfl⟩; have := H5.out.led.lt; exact Nat.ne_of_gt this)
      have hk' := hk.mono (R' := fun e w' => e = .returned (.tuple #[.slice none 0 0, .int .i64 3]) ∧ Owns B B 29 [] v5 Sa w' ∧ Apart B v5 (.slice (some ⟨ga, 0, none⟩) 1 capa) 1 (pks [aw 4]) w' ∧ Below B w w') (fun e w' h => by
        obtain ⟨g1, g2⟩ := aw_ack2 h
        exact ⟨g1, h6.next g2, (Hap.out.below h6b).below g2, Hb5.out.trans ((h6b.mono H5.out.bw).trans (g2.mono h6.bw))⟩)
      have HK := Lib.hid hk'
      clear hk hk' h6 h6b
      go_wp2_with fail
      refine HK.out.mono ?_
      rintro e w6 ⟨rfl, h6, hap, hb6⟩
      have hdu := (Due_any B B 29 [] v5 Sa w6 50 h6 (by decide) (by decide)).mono (R' := fun e w' => e = .returned (.tuple #[.int .u64 50, .bool true]) ∧ Owns B B 29 [] v5 Sa w' ∧ Apart B v5 (.slice (some ⟨ga, 0, none⟩) 1 capa) 1 (pks [aw 4]) w' ∧ Below B w w') (fun e w' h => by
        obtain ⟨g1, g2⟩ := aw_due h
        exact ⟨g1, h6.next g2, hap.below g2, hb6.trans (g2.mono h6.bw)⟩)
      have HK := Lib.hid hdu
      clear h6 hap hb6 hdu
      go_wp2_with fail
      refine HK.out.mono ?_
      rintro e w7 ⟨rfl, h7, hap, hb7⟩
      -- lost
      have hlo := (Lost_any B B 29 [] v5 Sa w7 40 50 h7 (by decide) (by decide) (by decide)).mono (R' := fun e w' => ∃ vb v', e = .returned vb ∧ (∃ g cap, vb = .slice (some ⟨g, 0, none⟩) 2 cap) ∧ Owns B B 29 [] v' Sb w' ∧ Apart B v' (.slice (some ⟨ga, 0, none⟩) 1 capa) 1 (pks [aw 4]) w' ∧ Apart B v' vb 2 (pks [aw 0, aw 1]) w' ∧ Below B w w') (fun e w' h => by
        obtain ⟨vg, v', g1, g2, g3, g4⟩ := aw_lost1 h
        obtain ⟨g, cap, hv, _⟩ := own_view g2 (by decide)
        exact ⟨vg, v', g1, ⟨g, cap, hv⟩, g3.owns h7, hap.next g3 h7, ⟨⟨_, g2⟩, g4⟩, hb7.trans (g3.below h7)⟩)
      have HK := Lib.hid hlo
      clear h7 hap hb7 hlo
      go_wp2_with fail
      refine HK.out.mono ?_
      rintro e w8 ⟨vb, v8, rfl, ⟨gb, capb, rfl⟩, h8, hap, hap2, hb8⟩
      have hlo := (Lost_any B B 29 [] v8 Sb w8 80 50 h8 (by decide) (by decide) (by decide)).mono (R' := fun e w' => ∃ vc v', e = .returned vc ∧ (∃ g cap, vc = .slice (some ⟨g, 0, none⟩) 2 cap) ∧ Owns B B 29 [] v' Sc w' ∧ Apart B v' (.slice (some ⟨ga, 0, none⟩) 1 capa) 1 (pks [aw 4]) w' ∧ Apart B v' (.slice (some ⟨gb, 0, none⟩) 2 capb) 2 (pks [aw 0, aw 1]) w' ∧ Below B w w') (fun e w' h => by
        obtain ⟨vg, v', g1, g2, g3, g4⟩ := aw_lost2 h
        obtain ⟨g, cap, hv, _⟩ := own_view g2 (by decide)
        exact ⟨vg, v', g1, ⟨g, cap, hv⟩, g3.owns h8, hap.next g3 h8, hap2.next g3 h8, hb8.trans (g3.below h8)⟩)
      have HK := Lib.hid hlo
      clear h8 hap hap2 hb8 hlo
      go_wp2_with fail
      refine HK.out.mono ?_
      rintro e w9 ⟨vc, v9, rfl, ⟨gc, capc, rfl⟩, h9, hap, hap2, hb9⟩
      -- what is left
      have hop := (Open_any B B 29 [] v9 Sc w9 h9 (by decide)).mono (R' := fun e w' => (∃ p cap, e = .returned (.slice p 0 cap)) ∧ Owns B B 29 [] v9 Sc w' ∧ Apart B v9 (.slice (some ⟨ga, 0, none⟩) 1 capa) 1 (pks [aw 4]) w' ∧ Apart B v9 (.slice (some ⟨gb, 0, none⟩) 2 capb) 2 (pks [aw 0, aw 1]) w' ∧ Below B w w') (fun e w' h => by
        obtain ⟨vo, g1, g2, g3⟩ := h
        obtain ⟨p, cap, hv, _⟩ := own_shape g2
        subst hv
        exact ⟨⟨p, cap, g1⟩, h9.next g3, hap.below g3, hap2.below g3, hb9.trans (g3.mono h9.bw)⟩)
      have HK := Lib.hid hop
      clear h9 hap hap2 hb9 hop
      go_wp2_with fail
      refine HK.out.mono ?_
      rintro e w10 ⟨⟨po, capo, rfl⟩, h10, hap, hap2, hb10⟩
      have hla := (Last_any B 4 true w10 h10.led.lt (h10.led.cell rfl) (h10.led.cell rfl)).mono (R' := fun e w' => e = .returned (.tuple #[.int .u64 4, .bool true]) ∧ Owns B B 29 [] v9 Sc w' ∧ Apart B v9 (.slice (some ⟨ga, 0, none⟩) 1 capa) 1 (pks [aw 4]) w' ∧ Apart B v9 (.slice (some ⟨gb, 0, none⟩) 2 capb) 2 (pks [aw 0, aw 1]) w' ∧ Below B w w') (fun e w' ⟨g1, g3⟩ => ⟨g1, h10.next g3, hap.below g3, hap2.below g3, hb10.trans (g3.mono h10.bw)⟩)
      have HK := Lib.hid hla
      clear h10 hap hap2 hb10 hla
      go_wp2_with fail
      refine HK.out.mono ?_
      rintro e w11 ⟨rfl, h11, hap, hap2, hb11⟩
      have hla := (Best_any B 4 true w11 h11.led.lt (h11.led.cell rfl) (h11.led.cell rfl)).mono (R' := fun e w' => e = .returned (.tuple #[.int .u64 4, .bool true]) ∧ Owns B B 29 [] v9 Sc w' ∧ Apart B v9 (.slice (some ⟨ga, 0, none⟩) 1 capa) 1 (pks [aw 4]) w' ∧ Apart B v9 (.slice (some ⟨gb, 0, none⟩) 2 capb) 2 (pks [aw 0, aw 1]) w' ∧ Below B w w') (fun e w' ⟨g1, g3⟩ => ⟨g1, h11.next g3, hap.below g3, hap2.below g3, hb11.trans (g3.mono h11.bw)⟩)
      have HK := Lib.hid hla
      clear h11 hap hap2 hb11 hla
      go_wp2_with fail
      refine HK.out.mono ?_
      rintro e w12 ⟨rfl, h12, hap, hap2, hb12⟩
      have hcl := (Clear_any B B 29 [] v9 Sc w12 h12 (by decide)).mono (R' := fun e w' => (∃ p cap, e = .returned (.slice p 0 cap)) ∧ ∃ v', Apart B v' (.slice (some ⟨ga, 0, none⟩) 1 capa) 1 (pks [aw 4]) w' ∧ Apart B v' (.slice (some ⟨gb, 0, none⟩) 2 capb) 2 (pks [aw 0, aw 1]) w' ∧ Below B w w') (fun e w' h => by
        obtain ⟨vg, v', g1, g2, g3, g4⟩ := aw_clear h
        obtain ⟨p, cap, hv, _⟩ := own_shape g2
        subst hv
        exact ⟨⟨p, cap, g1⟩, v', hap.next g3 h12, hap2.next g3 h12, hb12.trans (g3.below h12)⟩)
      have HK := Lib.hid hcl
      clear h12 hap hap2 hb12 hcl
      go_wp2_with fail
      refine HK.out.mono ?_
      rintro e w13 ⟨⟨pe, cape, rfl⟩, v13, hap, hap2, hb13⟩
      obtain ⟨⟨_, ho1⟩, _⟩ := hap
      obtain ⟨⟨_, ho2⟩, _⟩ := hap2
      obtain ⟨g1, cp1, hv1, _, _, k1, _⟩ := own_view ho1 (by decide)
      obtain ⟨g2, cp2, hv2, _, _, k2, _⟩ := own_view ho2 (by decide)
      injection hv1 with hv1 _ _
      injection hv1 with hv1
      injection hv1 with hv1 _ _
      injection hv2 with hv2 _ _
      injection hv2 with hv2
      injection hv2 with hv2 _ _
      subst hv1
      subst hv2
      have q1 : w13.cell? ⟨ga, 0, none⟩ = some (.int .u64 4) := k1 0 _ rfl
      have q2 : w13.cell? ⟨gb, 5, none⟩ = some (.int .u64 1) := k2 5 _ rfl
      have Hb13 := Lib.hid hb13
      clear hb13 ho1 ho2 k1 k2
      go_wp2_with fail
      go_ret
      exact ⟨rfl, Hb13.out⟩

end Go.Proofs.Ytaoeamkkbopioaa
