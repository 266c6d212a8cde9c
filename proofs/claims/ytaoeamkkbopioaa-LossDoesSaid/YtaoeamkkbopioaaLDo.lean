/- The law LossDoes, walked. -/
import Derived.Test.YtaoeamkkbopioaaRf
import Derived.Deep.DeepCutAuto
import Derived.Deep.LoopGhost
import Derived.Deep.CutBlock
import Derived.Deep.RegionHeld3
import Derived.OpenShut
namespace Go.Proofs.Ytaoeamkkbopioaa
open Go.ChangeShapes Go.WideShapes Go.RowKit
set_option linter.unusedVariables false

/-- Both ledgers, and the act's box. -/
structure J (w0 : World) (B ax : Nat) (L : List Value) (S Sr : Lg) (v vr : Value) (w : World) : Prop where
  p : Owns B B 29 [] v S w
  r : ROwns B (B + 1) vr Sr w
  b : blk w ax 33 L
  n1 : ax ≠ B
  n2 : ax ≠ B + 1
  below : Below B w0 w

theorem J.next {w0 : World} {B ax : Nat} {L : List Value} {S Sr : Lg} {v vr : Value} {w w' : World} (h : J w0 B ax L S Sr v vr w) (hb : Below w.heap.size w w') : J w0 B ax L S Sr v vr w' :=
  ⟨h.p.next hb, h.r.next hb, h.b.below hb h.b.lt, h.n1, h.n2, h.below.trans (hb.mono h.p.bw)⟩
theorem J.drew {w0 : World} {B ax : Nat} {L : List Value} {S Sr : Lg} {v vr : Value} {w : World} (h : J w0 B ax L S Sr v vr w) : J w0 B ax L S Sr v vr w.drew := h.next ((Below.refl _ _).drew)
theorem J.prog {w0 : World} {B ax : Nat} {L : List Value} {S S' Sr : Lg} {v v' vr : Value} {w w' : World} (h : J w0 B ax L S Sr v vr w) (hc : CameV B B 29 [] v w S' v' w') : J w0 B ax L S' Sr v' vr w' := by
  refine ⟨hc.owns h.p, h.r.only hc.2.2.1 ?_ ?_, h.b.only hc.2.2.1 ?_, h.n1, h.n2, h.below.trans (hc.below h.p)⟩
  · rintro (e | e)
    · omega
    · exact own_ne h.p.own h.r.led (by decide) e
  · rintro k hk (e | e)
    · subst e; exact own_ne h.r.own h.p.led (by decide) hk
    · exact own_ne2 h.p.own h.r.own (by decide) k e hk
  · rintro (e | e)
    · exact h.n1 e
    · exact own_ne h.p.own h.b (by decide) e
theorem RCame.below {B b : Nat} {v v' : Value} {S S' : Lg} {w w' : World} (hc : RCame B b v w S' v' w') (h : ROwns B b v S w) : Below B w w' :=
  hc.2.1.below h.bw (by rintro k (rfl | hk); exact h.bb; exact (h.own.lt k hk).1)
theorem J.ref {w0 : World} {B ax : Nat} {L : List Value} {S Sr S' : Lg} {v vr vr' : Value} {w w' : World} (h : J w0 B ax L S Sr v vr w) (hc : RCame B (B + 1) vr w S' vr' w') : J w0 B ax L S S' v vr' w' := by
  have h1 : ∀ k, (k = B + 1 ∨ vr.ownBlock = some k) → k ≠ B := by
    rintro k (e | e) e2
    · omega
    · subst e2; exact own_ne h.r.own h.p.led (by decide) e
  have hbl := hc.below h.r
  refine ⟨⟨h.p.led.only hc.2.1 (fun e => h1 B e rfl), own_only h.p.own hc.2.1 ?_, Nat.le_trans h.p.bw hbl.size, h.p.bb, h.p.ty⟩, hc.1, h.b.only hc.2.1 ?_, h.n1, h.n2, h.below.trans hbl⟩
  · rintro k hk (e | e)
    · subst e; exact own_ne h.p.own h.r.led (by decide) hk
    · exact own_ne2 h.p.own h.r.own (by decide) k hk e
  · rintro (e | e)
    · exact h.n2 e
    · exact own_ne h.r.own h.b (by decide) e
/-- What the program told stays as it is when the reference goes on. -/
theorem told_ref {B b base n : Nat} {vr vr' vg : Value} {Sr S' : Lg} {w w' : World} {xs : List Value} (hg : w.ownsRow base 38 5 vg n xs) (h : ROwns B b vr Sr w) (hc : RCame B b vr w S' vr' w') : w'.ownsRow base 38 5 vg n xs :=
  own_only hg hc.2.1 (by
    rintro k hk (e | e)
    · subst e; exact own_ne hg h.led (by decide) hk
    · exact own_ne2 hg h.own (by decide) k hk e)

theorem AckEnd.code {B b : Nat} {T : TypeId} {rest : List Value} {v : Value} {S : Lg} {w : World} {rs : List (Nat × Nat)} {e : Ending} {w' : World} (h : AckEnd B b T rest v S w rs e w') (ho : Owns B b T rest v S w) :
    ∃ vg v', e = .returned (.tuple #[vg, .int .i64 (ackE S rs)]) ∧ w'.ownsRow w.heap.size 38 5 vg (ackT S rs).length (pks (ackT S rs)) ∧ CameV B b T rest v w (ackS S rs) v' w' := by
  rcases h with ⟨h1, h2, h3⟩ | ⟨h0, h1, h2, h3⟩ | ⟨h0, h1, vg, v', h2, h3, h4, h5⟩
  · have e1 : ackS S rs = S := by unfold ackS; rw [if_pos (.inl h1)]
    have e2 : ackT S rs = [] := by unfold ackT; rw [if_pos (.inl h1)]
    have e3 : ackE S rs = 2 := by unfold ackE; rw [if_pos h1]
    obtain ⟨v', h4⟩ := Came.same ho h3
    rw [e1, e2, e3]
    exact ⟨_, v', h2, World.ownsRow_nil _ _ _ _, h4⟩
  · have e1 : ackS S rs = S := by unfold ackS; rw [if_pos (.inr h1)]
    have e2 : ackT S rs = [] := by unfold ackT; rw [if_pos (.inr h1)]
    have e3 : ackE S rs = 3 := by unfold ackE; rw [if_neg (by rw [h0]; exact Bool.false_ne_true), if_pos h1]
    obtain ⟨v', h4⟩ := Came.same ho h3
    rw [e1, e2, e3]
    exact ⟨_, v', h2, World.ownsRow_nil _ _ _ _, h4⟩
  · have hn : ¬ (rs.any formB = true ∨ rs.any (rangeB S.li S.ln) = true) := by rw [h0, h1]; simp
    have e1 : ackS S rs = { bestF S rs with op := S.op.filter (fun q => !ackP rs q) } := by unfold ackS; rw [if_neg hn]
    have e2 : ackT S rs = S.op.filter (ackP rs) := by unfold ackT; rw [if_neg hn]
    have e3 : ackE S rs = 0 := by unfold ackE; rw [if_neg (by rw [h0]; exact Bool.false_ne_true), if_neg (by rw [h1]; exact Bool.false_ne_true)]
    rw [e1, e2, e3]
    exact ⟨vg, v', h2, h3, h4⟩

theorem dueV_shape (wait : Nat) (m : Option Nat) : ∃ d z, dueV wait m = .tuple #[.int .u64 d, .bool z] := by
  cases m with
  | none => exact ⟨_, _, rfl⟩
  | some m => exact ⟨_, _, rfl⟩

/-- The act's box. -/
def actB (K : Int) (a : Act1) (L : Nat) : List Value := [.int .i64 K, .int .u64 (a.num : Int), .int .u64 (a.time : Int), .int .u64 (a.size : Int), .bool a.asks, .slice a.lp L a.lcap]

/-- What an act leaves behind. -/
def DoesStep (w0 : World) (B ax : Nat) (L : List Value) (wx : World) : Prop := ∃ S v vr, J w0 B ax L S S v vr wx ∧ Inv S


theorem ackT_len {S : Lg} (hI : Inv S) (rs : List (Nat × Nat)) : (ackT S rs).length ≤ 1000 := by
  unfold ackT
  split
  · exact Nat.zero_le _
  · exact Nat.le_trans (List.length_filter_le _ _) hI.len1

theorem boxC {w : World} {ax L : Nat} {K : Int} {a : Act1} (h : blk w ax 33 (actB K a L)) :
    w.cell? ⟨ax, 1, none⟩ = some (.int .u64 (a.num : Int)) ∧ w.cell? ⟨ax, 2, none⟩ = some (.int .u64 (a.time : Int)) ∧ w.cell? ⟨ax, 3, none⟩ = some (.int .u64 (a.size : Int)) ∧ w.cell? ⟨ax, 4, none⟩ = some (.bool a.asks) ∧ w.cell? ⟨ax, 5, none⟩ = some (.slice a.lp L a.lcap) :=
  ⟨h.cell rfl, h.cell rfl, h.cell rfl, h.cell rfl, h.cell rfl⟩

set_option maxRecDepth 100000 in
set_option maxHeartbeats 8000000 in
theorem lossDoes_walk (p : Option Addr) (cap : Nat) (xs : List Act1) (w : World) (hA : ActsAt w p xs) (hl : xs.length ≤ maxLen) :
    Calls Try.prog 7 #[.slice p xs.length cap] w fun e w' => e = .returned (.bool true) ∧ Below w.heap.size w w' := by
  obtain ⟨N, hN⟩ : ∃ N, xs.length = N := ⟨_, rfl⟩
  rw [hN] at hl ⊢
  unfold maxLen at hl
  have HN := Lib.hid hN
  have HA := Lib.hid hA
  clear hN hA
  go_enter Try.func7, Try.ntmps7
  go_wp2_with fail
  refine (awake_any _).mono ?_
  rintro e w0 ⟨rfl, hb0⟩
  have h0 := Owns.start w0
  obtain ⟨w1, hw1⟩ : ∃ w1, w0.alloc (.cells #[.slice none 0 0, .int .u64 0, .bool false, .int .u64 0, .bool false] 29) = w1 := ⟨_, rfl⟩
  have hb1 : Below w0.heap.size w0 w1 := by rw [← hw1]; exact (Below.refl _ _).alloc (Nat.le_refl _) _
  obtain ⟨B, hB⟩ : ∃ B, w0.heap.size = B := ⟨_, rfl⟩
  have hsz1 : w1.heap.size = B + 1 := by rw [← hw1, World.size_alloc, hB]
  rw [hw1, hB] at h0
  rw [hB] at hb1
  have hBl : w.heap.size ≤ B := by rw [← hB]; exact hb0.size
  have H0 := Lib.hid h0
  have Hb0 := Lib.hid hb0
  have Hb1 := Lib.hid hb1
  have Hsz1 := Lib.hid hsz1
  clear h0 hb0 hb1 hsz1
  go_wp2_with fail
  refine (rNew_any _).mono ?_
  rintro e w2 ⟨rfl, hw2⟩
  clear hw1
  rw [Hsz1.out]
  have hb2 : Below w1.heap.size w1 w2 := by rw [hw2]; exact (Below.refl _ _).alloc (Nat.le_refl _) _
  have hrb : ROwns B (B + 1) (.slice none 0 0) S0 w2 := by
    refine ⟨?_, World.ownsRow_nil _ _ _ _, Nat.le_trans H0.out.bw hb2.size, Nat.le_succ B⟩
    have := blk.new w1 63 [.slice none 0 0, .int .i64 (-1), .int .i64 (-1)]
    rw [Hsz1.out] at this
    rw [hw2]
    exact this
  have HO2 := Lib.hid (H0.out.next hb2)
  have HR2 := Lib.hid hrb
  have Hb2 := Lib.hid (Hb1.out.trans (hb2.mono H0.out.bw))
  clear hw2 hb2 hrb hB
  go_wp2_with fail
  go_loopg [5] N (fun gk i wr => ∃ j : Nat, ∃ S : Lg, ∃ v vr : Value, j ≤ N ∧ N - j ≤ gk ∧ i = .int .i64 j ∧ Inv S ∧ Owns B B 29 [] v S wr ∧ ROwns B (B + 1) vr S wr ∧ Below B w0 wr)
  case atStart => exact ⟨0, S0, _, _, by omega, by omega, rfl, Inv.start, HO2.out, HR2.out, Hb2.out⟩
  case round =>
    obtain ⟨j, S, v, vr, hj, hgk, rfl, hI, hO, hR, hbw⟩ := hrel
    have HO := Lib.hid hO
    have HR := Lib.hid hR
    have Hbw := Lib.hid hbw
    have HI := Lib.hid hI
    have hB1 := hR.led.lt
    clear hO hR hbw hI
    by_cases hlt : j < N
    · by_cases h200 : j < 200
      · have hjl : j < xs.length := by rw [HN.out]; exact hlt
        obtain ⟨a, ha⟩ : ∃ a, xs[j] = a := ⟨_, rfl⟩
        have ha2 : xs[j]? = some a := by rw [List.getElem?_eq_getElem hjl, ha]
        obtain ⟨g, o, rfl, hg, hc⟩ := HA.out (by omega)
        have hbB : Below w.heap.size w wr := Hb0.out.trans (Hbw.out.mono hBl)
        have hact := (hc j a ha2).below hg hbB rfl
        have hrw : RgAt w a.lp a.rs := (hc j a ha2).rg
        have hrb : ∀ x, a.lp = some x → a.rs.length ≤ 100 → 0 < a.rs.length → x.block ≠ B := by
          intro x hx h1 h2
          obtain ⟨g2, o2, e2, hg2, _⟩ := (hc j a ha2).rg h2
          rw [hx] at e2
          injection e2 with e2
          subst e2
          exact Nat.ne_of_lt (Nat.lt_of_lt_of_le hg2 hBl)
        have hrb2 : ∀ x, a.lp = some x → a.rs.length ≤ 100 → 0 < a.rs.length → x.block ≠ B + 1 := by
          intro x hx h1 h2
          obtain ⟨g2, o2, e2, hg2, _⟩ := (hc j a ha2).rg h2
          rw [hx] at e2
          injection e2 with e2
          subst e2
          exact Nat.ne_of_lt (Nat.lt_succ_of_lt (Nat.lt_of_lt_of_le hg2 hBl))
        have Hact := Lib.hid hact
        have Hrw := Lib.hid hrw
        have Hrb := Lib.hid hrb
        have Hrb2 := Lib.hid hrb2
        have q0 := hact.c0
        have q1 := hact.c1
        have q2 := hact.c2
        have q3 := hact.c3
        have q4 := hact.c4
        have q5 := hact.c5
        obtain ⟨L, hL⟩ : ∃ L, a.rs.length = L := ⟨_, rfl⟩
        rw [hL] at q5
        have HL := Lib.hid hL
        obtain ⟨K, hK⟩ : ∃ K, a.kind = K := ⟨_, rfl⟩
        rw [hK] at q0
        clear hc ha ha2 hact hrb hrb2 hrw hL hbB hK
        by_cases h100 : 100 < L
        · go_wp2_with fail
          go_ret
          exact ⟨rfl, (Hb0.out.trans (Hbw.out.mono hBl)).alloc (Nat.le_trans hBl HO.out.bw) _⟩
        · have d100 : decide ((100 : Int) < (L : Int)) = false := by rw [decide_eq_false_iff_not]; omega
          obtain ⟨ax, hax⟩ : ∃ ax, wr.heap.size = ax := ⟨_, rfl⟩
          obtain ⟨wa, hwa⟩ : ∃ wa, wr.alloc (.cells #[.int .i64 K, .int .u64 (a.num : Int), .int .u64 (a.time : Int), .int .u64 (a.size : Int), .bool a.asks, .slice a.lp L a.lcap] 33) = wa := ⟨_, rfl⟩
          have hba : Below wr.heap.size wr wa := by rw [← hwa]; exact (Below.refl _ _).alloc (Nat.le_refl _) _
          have hbx : blk wa ax 33 (actB K a L) := by rw [← hwa, ← hax]; show blk _ _ _ [.int .i64 K, .int .u64 (a.num : Int), .int .u64 (a.time : Int), .int .u64 (a.size : Int), .bool a.asks, .slice a.lp L a.lcap]; exact blk.new wr _ _
          have hJ : J w0 B ax (actB K a L) S S v vr wa := ⟨HO.out.next hba, HR.out.next hba, hbx, by omega, by omega, Hbw.out.trans (hba.mono HO.out.bw)⟩
          have HJ := Lib.hid hJ
          have HB0 := Lib.hid (boxC hbx)
          have hax0 := hbx.cell (k := 0) rfl
          have hax5 := hbx.cell (k := 5) rfl
          have haxl := hbx.lt
          have Hba := Lib.hid hba
          have Hwb := Lib.hid ((Hb0.out.trans (Hbw.out.mono hBl)).trans (hba.mono (Nat.le_trans hBl HO.out.bw)))
          clear hba hbx hJ
          go_upto_block 2 with (fail)
          have HL100 := Lib.hid (show L ≤ 100 by omega)
          clear hwa hax hax5 q0 q1 q2 q3 q4 q5 hB1 h100 d100
          go_cut [7, 8, 9, 10] (fun _ _ _ _ wx => DoesStep w0 B ax (actB K a L) wx)
          case first =>
            by_cases k0 : K = 0
            · subst k0
              obtain ⟨c, hc⟩ : ∃ c, (sentF S ⟨a.num, a.time, a.size, a.asks, none, 0, 0⟩).2 = c := ⟨_, rfl⟩
              obtain ⟨S1, hS1⟩ : ∃ S1, (sentF S ⟨a.num, a.time, a.size, a.asks, none, 0, 0⟩).1 = S1 := ⟨_, rfl⟩
              have hI1 : Inv S1 := by rw [← hS1]; exact HI.out.sent _
              have HI1 := Lib.hid hI1
              have Hc := Lib.hid hc
              have HS1 := Lib.hid hS1
              clear hc hS1 hI1
              have hc1 := fun W v (h : J w0 B ax (actB 0 a L) S S v vr W) => (Sent_any B B 29 [] v S W a.num a.time a.size a.asks h.p Hact.out.n1 HI.out.lnb HI.out.len1).mono (R' := fun e w' => e = .returned (.int .i64 c) ∧ ∃ v', J w0 B ax (actB 0 a L) S1 S v' vr w') (fun e w' ⟨h1, v', h2⟩ => ⟨by rw [h1, Hc.out], v', by rw [← HS1.out]; exact h.prog h2⟩)
              have hc2 := fun W v (h : J w0 B ax (actB 0 a L) S1 S v vr W) => (rSent_any B (B + 1) vr S W a.num a.time a.size a.asks h.r HI.out Hact.out.n1).mono (R' := fun e w' => e = .returned (.int .i64 c) ∧ ∃ vr', J w0 B ax (actB 0 a L) S1 S1 v vr' w') (fun e w' ⟨h1, vr', h2⟩ => ⟨by rw [h1, Hc.out], vr', h.ref (by rw [← HS1.out]; exact h2)⟩)
              have HC1 := Lib.hid hc1
              have HC2 := Lib.hid hc2
              clear hc1 hc2
              go_wp2_with fail
              go_region_held3 (fun w' => w'.cell? ⟨ax, 1, none⟩ = some (.int .u64 (a.num : Int)) ∧ w'.cell? ⟨ax, 2, none⟩ = some (.int .u64 (a.time : Int)) ∧ w'.cell? ⟨ax, 3, none⟩ = some (.int .u64 (a.size : Int)) ∧ w'.cell? ⟨ax, 4, none⟩ = some (.bool a.asks) ∧ w'.cell? ⟨ax, 5, none⟩ = some (.slice a.lp L a.lcap)) (first | exact HB0.out | exact bx1 | exact bx2) (first | (go_at_call 10; refine (HC1.out _ v HJ.out.drew).mono ?_; rintro e x1 ⟨rfl, v1, j1⟩; have bx1 := boxC j1.b) | (go_at_call 20; refine (HC2.out _ v1 j1).mono ?_; rintro e x2 ⟨rfl, vr1, j2⟩; have bx2 := boxC j2.b))
              clear bx1 bx2 j1
              have HJ2 := Lib.hid j2
              clear j2
              go_wp2_with fail
              go_meet
              exact ⟨S1, v1, vr1, HJ2.out, HI1.out⟩
            · have e0 : (K == 0) = false := by rw [beq_eq_false_iff_ne]; exact k0
              by_cases k1 : K = 1
              · subst k1
                clear e0 k0
                have hac : ∀ W v, J w0 B ax (actB 1 a L) S S v vr W → Below wa.heap.size wa W → Calls Try.prog 11 #[.pointer (some ⟨B, 0, none⟩), .slice a.lp L a.lcap] W fun e w' => ∃ vg, e = .returned (.tuple #[vg, .int .i64 (ackE S a.rs)]) ∧ ∃ v', J w0 B ax (actB 1 a L) (ackS S a.rs) S v' vr w' ∧ w'.ownsRow W.heap.size 38 5 vg (ackT S a.rs).length (pks (ackT S a.rs)) ∧ Below B W w' := by
                  intro W v h hw
                  have hs := Acked_any B B 29 [] v S W a.lp a.lcap a.rs h.p HI.out.len1 HI.out.bnb HI.out.lnb ((Hact.out.rg.below Hba.out).below hw) (by have := HL100.out; rw [HL.out]; omega) (fun h0 x hx => Hrb.out x hx (by have := HL100.out; rw [HL.out]; omega) h0)
                  rw [HL.out] at hs
                  exact hs.mono fun e w' h2 => by
                    obtain ⟨vg, v', h1, h3, h4⟩ := h2.code h.p
                    exact ⟨vg, h1, v', h.prog h4, h3, h4.below h.p⟩
                have har : ∀ W v, J w0 B ax (actB 1 a L) (ackS S a.rs) S v vr W → RgAt W a.lp a.rs → Calls Try.prog 21 #[.pointer (some ⟨B + 1, 0, none⟩), .slice a.lp L a.lcap] W fun e w' => ∃ vg, e = .returned (.tuple #[vg, .int .i64 (ackE S a.rs)]) ∧ ∃ vr', J w0 B ax (actB 1 a L) (ackS S a.rs) (ackS S a.rs) v vr' w' ∧ w'.ownsRow W.heap.size 54 5 vg (ackT S a.rs).length (pks (ackT S a.rs)) ∧ ∀ base vp n xs, W.ownsRow base 38 5 vp n xs → w'.ownsRow base 38 5 vp n xs := by
                  intro W v h hr
                  have hs := rAcked_any B (B + 1) vr S W a.lp a.lcap a.rs h.r HI.out hr (by have := HL100.out; rw [HL.out]; omega) (fun h0 x hx => Hrb2.out x hx (by have := HL100.out; rw [HL.out]; omega) h0)
                  rw [HL.out] at hs
                  exact hs.mono fun e w' h2 => by
                    obtain ⟨vg, h1, vr', h3, h4, h5⟩ := h2
                    exact ⟨vg, h1, vr', h.ref h4, h3, fun base vp n xs hg => told_ref hg h.r h4⟩
                have hsm := fun W p q b1 b2 h1 h2 => same_any W (ackT S a.rs) p q b1 b2 h1 h2 (ackT_len HI.out a.rs)
                have hI1 := HI.out.ack a.rs
                obtain ⟨c, hc⟩ : ∃ c, ackE S a.rs = c := ⟨_, rfl⟩
                obtain ⟨S1, hS1⟩ : ∃ S1, ackS S a.rs = S1 := ⟨_, rfl⟩
                obtain ⟨X, hX⟩ : ∃ X, ackT S a.rs = X := ⟨_, rfl⟩
                rw [hc, hS1, hX] at hac har
                rw [hX] at hsm
                rw [hS1] at hI1
                have HI1 := Lib.hid hI1
                have HC1 := Lib.hid hac
                have HC2 := Lib.hid har
                have HSm := Lib.hid hsm
                clear hac har hsm hI1 hc hS1 hX
                have b5 := HB0.out.2.2.2.2
                go_wp2_with fail
                refine (HC1.out _ v HJ.out (Below.refl _ _)).mono ?_
                rintro e x1 ⟨vg, rfl, v1, j1, g1, gb1⟩
                have hr1 : RgAt x1 a.lp a.rs := Hrw.out.below (Hwb.out.trans (gb1.mono hBl))
                have HJ1 := Lib.hid j1
                have HG1 := Lib.hid g1
                have HR1 := Lib.hid hr1
                have c5 := j1.b.cell (k := 5) rfl
                clear j1 g1 gb1 hr1 b5
                go_wp2_with fail
                refine (HC2.out _ v1 HJ1.out HR1.out).mono ?_
                rintro e x2 ⟨vh, rfl, vr1, j2, g2, gk⟩
                have hs2 := HSm.out x2 vg vh _ _ (gk _ _ _ _ HG1.out) g2
                have HJ2 := Lib.hid j2
                have HS2 := Lib.hid hs2
                clear j2 g2 gk hs2 c5
                go_wp2_with fail
                refine HS2.out.mono ?_
                rintro e x3 ⟨rfl, b3⟩
                have HJ3 := Lib.hid (HJ2.out.next b3)
                clear b3
                go_wp2_with fail
                go_meet
                exact ⟨S1, v1, vr1, HJ3.out, HI1.out⟩
              · have e1 : (K == 1) = false := by rw [beq_eq_false_iff_ne]; exact k1
                by_cases k2 : K = 2
                · subst k2
                  clear e0 k0 e1 k1
                  have hac : ∀ W v, J w0 B ax (actB 2 a L) S S v vr W → Calls Try.prog 12 #[.pointer (some ⟨B, 0, none⟩), .int .u64 (a.time : Int), .int .u64 (a.num : Int)] W fun e w' => ∃ vg, e = .returned vg ∧ ∃ v', J w0 B ax (actB 2 a L) { S with op := S.op.filter (fun p => !lostP S.bi S.bn a.time a.num p) } S v' vr w' ∧ w'.ownsRow W.heap.size 38 5 vg (S.op.filter (lostP S.bi S.bn a.time a.num)).length (pks (S.op.filter (lostP S.bi S.bn a.time a.num))) := by
                    intro W v h
                    exact (Lost_any B B 29 [] v S W a.time a.num h.p HI.out.len1 HI.out.bnb Hact.out.n2).mono fun e w' ⟨vg, v', h1, h2, h3, _⟩ => ⟨vg, h1, v', h.prog h3, h2⟩
                  have har : ∀ W v, J w0 B ax (actB 2 a L) { S with op := S.op.filter (fun p => !lostP S.bi S.bn a.time a.num p) } S v vr W → Calls Try.prog 23 #[.pointer (some ⟨B + 1, 0, none⟩), .int .u64 (a.time : Int), .int .u64 (a.num : Int)] W fun e w' => ∃ vg, e = .returned vg ∧ ∃ vr', J w0 B ax (actB 2 a L) { S with op := S.op.filter (fun p => !lostP S.bi S.bn a.time a.num p) } { S with op := S.op.filter (fun p => !lostP S.bi S.bn a.time a.num p) } v vr' w' ∧ w'.ownsRow W.heap.size 54 5 vg (S.op.filter (lostP S.bi S.bn a.time a.num)).length (pks (S.op.filter (lostP S.bi S.bn a.time a.num))) ∧ ∀ base vp n xs, W.ownsRow base 38 5 vp n xs → w'.ownsRow base 38 5 vp n xs := by
                    intro W v h
                    exact (rLost_any B (B + 1) vr S W a.time a.num h.r HI.out Hact.out.n2).mono fun e w' ⟨vg, h1, vr', h3, h4, h5⟩ => ⟨vg, h1, vr', h.ref h4, h3, fun base vp n xs hg => told_ref hg h.r h4⟩
                  have hI1 := HI.out.filter (fun p => !lostP S.bi S.bn a.time a.num p)
                  have hlx : (S.op.filter (lostP S.bi S.bn a.time a.num)).length ≤ 1000 := Nat.le_trans (List.length_filter_le _ _) HI.out.len1
                  have hsm := fun W p q b1 b2 h1 h2 => same_any W (S.op.filter (lostP S.bi S.bn a.time a.num)) p q b1 b2 h1 h2 hlx
                  obtain ⟨S1, hS1⟩ : ∃ S1, ({ S with op := S.op.filter (fun p => !lostP S.bi S.bn a.time a.num p) } : Lg) = S1 := ⟨_, rfl⟩
                  obtain ⟨X, hX⟩ : ∃ X, S.op.filter (lostP S.bi S.bn a.time a.num) = X := ⟨_, rfl⟩
                  rw [hS1, hX] at hac har
                  rw [hX] at hsm
                  rw [hS1] at hI1
                  have HI1 := Lib.hid hI1
                  have HC1 := Lib.hid hac
                  have HC2 := Lib.hid har
                  have HSm := Lib.hid hsm
                  clear hac har hsm hI1 hS1 hX hlx
                  go_wp2_with fail
                  go_region_held3 (fun w' => w'.cell? ⟨ax, 1, none⟩ = some (.int .u64 (a.num : Int)) ∧ w'.cell? ⟨ax, 2, none⟩ = some (.int .u64 (a.time : Int)) ∧ w'.cell? ⟨ax, 3, none⟩ = some (.int .u64 (a.size : Int)) ∧ w'.cell? ⟨ax, 4, none⟩ = some (.bool a.asks) ∧ w'.cell? ⟨ax, 5, none⟩ = some (.slice a.lp L a.lcap)) (first | exact HB0.out | exact bx1 | exact bx2 | exact bx3) (first | (go_at_call 12; refine (HC1.out _ v HJ.out.drew).mono ?_; rintro e x1 ⟨vg, rfl, v1, j1, g1⟩; have bx1 := boxC j1.b) | (go_at_call 23; refine (HC2.out _ v1 j1).mono ?_; rintro e x2 ⟨vh, rfl, vr1, j2, g2, gk⟩; have bx2 := boxC j2.b; have hs2 := HSm.out x2 vg vh _ _ (gk _ _ _ _ g1) g2) | (go_at_call 22; refine hs2.mono ?_; rintro e x3 ⟨rfl, b3⟩; have bx3 := boxC (j2.next b3).b))
                  have HJ3 := Lib.hid (j2.next b3)
                  clear bx1 bx2 bx3 j1 j2 g1 g2 gk hs2 b3
                  go_wp2_with fail
                  go_meet
                  exact ⟨S1, v1, vr1, HJ3.out, HI1.out⟩
                · have e2 : (K == 2) = false := by rw [beq_eq_false_iff_ne]; exact k2
                  by_cases k3 : K = 3
                  · subst k3
                    clear e0 k0 e1 k1 e2 k2
                    have hac : ∀ W v, J w0 B ax (actB 3 a L) S S v vr W → Calls Try.prog 13 #[.pointer (some ⟨B, 0, none⟩)] W fun e w' => ∃ vg, e = .returned vg ∧ ∃ v', J w0 B ax (actB 3 a L) { S with op := [] } S v' vr w' ∧ w'.ownsRow W.heap.size 38 5 vg S.op.length (pks S.op) := by
                      intro W v h
                      refine (Clear_any B B 29 [] v S W h.p HI.out.len1).mono fun e w' ⟨vg, v', h1, h2, h3, _⟩ => ⟨vg, h1, v', h.prog ?_, ?_⟩
                      · have e1 : S.op.filter (fun p => !true) = [] := by simp
                        rw [e1] at h3
                        exact h3
                      · have e2 : S.op.filter (fun _ => true) = S.op := by simp
                        rw [e2] at h2
                        exact h2
                    have har : ∀ W v, J w0 B ax (actB 3 a L) { S with op := [] } S v vr W → Calls Try.prog 24 #[.pointer (some ⟨B + 1, 0, none⟩)] W fun e w' => e = .returned vr ∧ ∃ vr', J w0 B ax (actB 3 a L) { S with op := [] } { S with op := [] } v vr' w' ∧ w'.ownsRow B 54 5 vr S.op.length (pks S.op) ∧ ∀ base vp n xs, W.ownsRow base 38 5 vp n xs → w'.ownsRow base 38 5 vp n xs := by
                      intro W v h
                      exact (rClear_any B (B + 1) vr S W h.r).mono fun e w' ⟨h1, h3, h4⟩ => ⟨h1, _, h.ref h4, h3, fun base vp n xs hg => told_ref hg h.r h4⟩
                    have hI1 : Inv { S with op := [] } := by
                      have := HI.out.filter (fun _ => false)
                      have e1 : S.op.filter (fun _ => false) = [] := by simp
                      rw [e1] at this
                      exact this
                    have hsm := fun W p q b1 b2 h1 h2 => same_any W S.op p q b1 b2 h1 h2 HI.out.len1
                    obtain ⟨S1, hS1⟩ : ∃ S1, ({ S with op := [] } : Lg) = S1 := ⟨_, rfl⟩
                    obtain ⟨X, hX⟩ : ∃ X, S.op = X := ⟨_, rfl⟩
                    rw [hS1, hX] at hac har
                    rw [hX] at hsm
                    rw [hS1] at hI1
                    have HI1 := Lib.hid hI1
                    have HC1 := Lib.hid hac
                    have HC2 := Lib.hid har
                    have HSm := Lib.hid hsm
                    clear hac har hsm hI1 hS1 hX
                    go_wp2_with fail
                    refine (HC1.out _ v HJ.out).mono ?_
                    rintro e x1 ⟨vg, rfl, v1, j1, g1⟩
                    have HJ1 := Lib.hid j1
                    have HG1 := Lib.hid g1
                    clear j1 g1
                    go_wp2_with fail
                    refine (HC2.out _ v1 HJ1.out).mono ?_
                    rintro e x2 ⟨rfl, vr1, j2, g2, gk⟩
                    have hs2 := HSm.out x2 vg vr _ _ (gk _ _ _ _ HG1.out) g2
                    have HJ2 := Lib.hid j2
                    have HS2 := Lib.hid hs2
                    clear j2 g2 gk hs2
                    go_wp2_with fail
                    refine HS2.out.mono ?_
                    rintro e x3 ⟨rfl, b3⟩
                    have HJ3 := Lib.hid (HJ2.out.next b3)
                    clear b3
                    go_wp2_with fail
                    go_meet
                    exact ⟨S1, v1, vr1, HJ3.out, HI1.out⟩
                  · have e3 : (K == 3) = false := by rw [beq_eq_false_iff_ne]; exact k3
                    by_cases k4 : K = 4
                    · subst k4
                      clear e0 k0 e1 k1 e2 k2 e3 k3
                      have hac := fun W v (h : J w0 B ax (actB 4 a L) S S v vr W) => (Skip_any B B 29 [] v S W a.num h.p Hact.out.n1 HI.out.lnb).mono (R' := fun e w' => e = .returned (.int .i64 (skipF S a.num).2) ∧ ∃ v', J w0 B ax (actB 4 a L) (skipF S a.num).1 S v' vr w') (fun e w' ⟨h1, v', h2⟩ => ⟨h1, v', h.prog h2⟩)
                      have har := fun W v (h : J w0 B ax (actB 4 a L) (skipF S a.num).1 S v vr W) => (rSkip_any B (B + 1) vr S W a.num h.r HI.out Hact.out.n1).mono (R' := fun e w' => e = .returned (.int .i64 (skipF S a.num).2) ∧ ∃ vr', J w0 B ax (actB 4 a L) (skipF S a.num).1 (skipF S a.num).1 v vr' w') (fun e w' ⟨h1, vr', h2⟩ => ⟨h1, vr', h.ref h2⟩)
                      have hI1 := HI.out.skip a.num
                      obtain ⟨c, hc⟩ : ∃ c, (skipF S a.num).2 = c := ⟨_, rfl⟩
                      obtain ⟨S1, hS1⟩ : ∃ S1, (skipF S a.num).1 = S1 := ⟨_, rfl⟩
                      rw [hc, hS1] at hac har
                      rw [hS1] at hI1
                      have HI1 := Lib.hid hI1
                      have HC1 := Lib.hid hac
                      have HC2 := Lib.hid har
                      clear hac har hI1 hc hS1
                      go_wp2_with fail
                      go_region_held3 (fun w' => w'.cell? ⟨ax, 1, none⟩ = some (.int .u64 (a.num : Int)) ∧ w'.cell? ⟨ax, 2, none⟩ = some (.int .u64 (a.time : Int)) ∧ w'.cell? ⟨ax, 3, none⟩ = some (.int .u64 (a.size : Int)) ∧ w'.cell? ⟨ax, 4, none⟩ = some (.bool a.asks) ∧ w'.cell? ⟨ax, 5, none⟩ = some (.slice a.lp L a.lcap)) (first | exact HB0.out | exact bx1 | exact bx2) (first | (go_at_call 25; refine (HC1.out _ v HJ.out.drew).mono ?_; rintro e x1 ⟨rfl, v1, j1⟩; have bx1 := boxC j1.b) | (go_at_call 26; refine (HC2.out _ v1 j1).mono ?_; rintro e x2 ⟨rfl, vr1, j2⟩; have bx2 := boxC j2.b))
                      clear bx1 bx2 j1
                      have HJ2 := Lib.hid j2
                      clear j2
                      go_wp2_with fail
                      go_meet
                      exact ⟨S1, v1, vr1, HJ2.out, HI1.out⟩
                    · have e4 : (K == 4) = false := by rw [beq_eq_false_iff_ne]; exact k4
                      clear HB0
                      go_wp2_with fail
                      go_meet
                      exact ⟨S, v, vr, HJ.out, HI.out⟩
          case rest =>
            have HX := Lib.hid hcut
            clear hcut
            obtain ⟨S', v', vr', hj', hI'⟩ := HX.out
            have hdu := fun W (h : J w0 B ax (actB K a L) S' S' v' vr' W) => (Due_any B B 29 [] v' S' W a.size h.p hI'.len1 hI'.bnb).mono (R' := fun e w' => e = .returned (dueV a.size (dueM S'.bi S'.bn S'.op)) ∧ J w0 B ax (actB K a L) S' S' v' vr' w') (fun e w' h2 => ⟨h2.one.1, h.next h2.one.2⟩)
            have hru := fun W (h : J w0 B ax (actB K a L) S' S' v' vr' W) => (rDue_any B (B + 1) vr' S' W a.size h.r hI').mono (R' := fun e w' => e = .returned (dueV a.size (dueM S'.bi S'.bn S'.op)) ∧ J w0 B ax (actB K a L) S' S' v' vr' w') (fun e w' ⟨h1, h2⟩ => ⟨h1, h.next h2⟩)
            obtain ⟨d, z, hdz⟩ := dueV_shape a.size (dueM S'.bi S'.bn S'.op)
            rw [hdz] at hdu hru
            have hla := fun W (h : J w0 B ax (actB K a L) S' S' v' vr' W) => (Last_any B S'.ln S'.li W h.p.led.lt (h.p.led.cell rfl) (h.p.led.cell rfl)).mono (R' := fun e w' => e = .returned (.tuple #[.int .u64 (S'.ln : Int), .bool S'.li]) ∧ J w0 B ax (actB K a L) S' S' v' vr' w') (fun e w' ⟨h1, h2⟩ => ⟨h1, h.next h2⟩)
            have hbe := fun W (h : J w0 B ax (actB K a L) S' S' v' vr' W) => (Best_any B S'.bn S'.bi W h.p.led.lt (h.p.led.cell rfl) (h.p.led.cell rfl)).mono (R' := fun e w' => e = .returned (.tuple #[.int .u64 (S'.bn : Int), .bool S'.bi]) ∧ J w0 B ax (actB K a L) S' S' v' vr' w') (fun e w' ⟨h1, h2⟩ => ⟨h1, h.next h2⟩)
            have hop := fun W (h : J w0 B ax (actB K a L) S' S' v' vr' W) => (Open_any B B 29 [] v' S' W h.p hI'.len1).mono (R' := fun e w' => ∃ vo, e = .returned vo ∧ J w0 B ax (actB K a L) S' S' v' vr' w' ∧ w'.ownsRow W.heap.size 38 5 vo S'.op.length (pks S'.op)) (fun e w' ⟨vo, h1, h2, h3⟩ => ⟨vo, h1, h.next h3, h2⟩)
            have hsm := fun W (h : J w0 B ax (actB K a L) S' S' v' vr' W) vo b1 (hg : W.ownsRow b1 38 5 vo S'.op.length (pks S'.op)) => (same_any W S'.op vo vr' b1 B hg h.r.own hI'.len1).mono (R' := fun e w' => e = .returned (.bool true) ∧ J w0 B ax (actB K a L) S' S' v' vr' w') (fun e w' ⟨h1, h2⟩ => ⟨h1, h.next h2⟩)
            have hfl := fun W (h : J w0 B ax (actB K a L) S' S' v' vr' W) => (Flying_any B B 29 [] v' S' W h.p hI'.len1 (fun p hp => (hI'.le p hp).2.2)).mono (R' := fun e w' => e = .returned (.int .u64 (flyF S'.op : Nat)) ∧ J w0 B ax (actB K a L) S' S' v' vr' w') (fun e w' ⟨h1, h2⟩ => ⟨h1, h.next h2⟩)
            have hrf := fun W (h : J w0 B ax (actB K a L) S' S' v' vr' W) => (rFlying_any B (B + 1) vr' S' W h.r hI').mono (R' := fun e w' => e = .returned (.int .u64 (flyF S'.op : Nat)) ∧ J w0 B ax (actB K a L) S' S' v' vr' w') (fun e w' ⟨h1, h2⟩ => ⟨h1, h.next h2⟩)
            have hn1 := fun W (h : J w0 B ax (actB K a L) S' S' v' vr' W) => (number_any W S'.ln S'.li hI'.ln (fun e => (hI'.li e).2.1)).mono (R' := fun e w' => e = .returned (.bool true) ∧ J w0 B ax (actB K a L) S' S' v' vr' w') (fun e w' ⟨h1, h2⟩ => ⟨h1, h.next h2⟩)
            have hn2 := fun W (h : J w0 B ax (actB K a L) S' S' v' vr' W) => (number_any W S'.bn S'.bi (Nat.le_trans hI'.bl hI'.ln) hI'.bi).mono (R' := fun e w' => e = .returned (.bool true) ∧ J w0 B ax (actB K a L) S' S' v' vr' w') (fun e w' ⟨h1, h2⟩ => ⟨h1, h.next h2⟩)
            have hrc := fun W (h : J w0 B ax (actB K a L) S' S' v' vr' W) => And.intro (h.r.led.cell (k := 0) rfl) (And.intro (h.r.led.cell (k := 1) rfl) (h.r.led.cell (k := 2) rfl))
            obtain ⟨fly, hfly⟩ : ∃ x, flyF S'.op = x := ⟨_, rfl⟩
            rw [hfly] at hfl hrf
            obtain ⟨pr, cr, hvr, _⟩ := own_shape hj'.r.own
            obtain ⟨nr, hnr⟩ : ∃ x, S'.op.length = x := ⟨_, rfl⟩
            rw [hnr] at hvr
            subst hvr
            obtain ⟨l1, hl1⟩ : ∃ x, S'.ln = x := ⟨_, rfl⟩
            obtain ⟨l2, hl2⟩ : ∃ x, S'.li = x := ⟨_, rfl⟩
            obtain ⟨l3, hl3⟩ : ∃ x, S'.bn = x := ⟨_, rfl⟩
            obtain ⟨l4, hl4⟩ : ∃ x, S'.bi = x := ⟨_, rfl⟩
            rw [hl1, hl2] at hla hn1
            rw [hl3, hl4] at hbe hn2
            rw [hl1, hl2, hl3, hl4] at hrc
            obtain ⟨sla, hsla⟩ : ∃ x, sg l2 l1 = x := ⟨_, rfl⟩
            obtain ⟨sbe, hsbe⟩ : ∃ x, sg l4 l3 = x := ⟨_, rfl⟩
            rw [hsla] at hn1 hrc
            rw [hsbe] at hn2 hrc
            have HDu := Lib.hid hdu
            have HRu := Lib.hid hru
            have HLa := Lib.hid hla
            have HBe := Lib.hid hbe
            have HOp := Lib.hid hop
            have HSm := Lib.hid hsm
            have HFl := Lib.hid hfl
            have HRf := Lib.hid hrf
            have hn : ∀ (n : Nat) (is : Bool) (x : Int) W, (n = l1 ∧ is = l2 ∧ x = sla ∨ n = l3 ∧ is = l4 ∧ x = sbe) → J w0 B ax (actB K a L) S' S' v' (.slice pr nr cr) W → Calls Try.prog 30 #[.int .u64 (n : Int), .bool is, .int .i64 x] W fun e w' => e = .returned (.bool true) ∧ J w0 B ax (actB K a L) S' S' v' (.slice pr nr cr) w' := by
              rintro n is x W (⟨rfl, rfl, rfl⟩ | ⟨rfl, rfl, rfl⟩) h
              · exact hn1 W h
              · exact hn2 W h
            have HN1 := Lib.hid hn
            have HRc := Lib.hid hrc
            have HJ' := Lib.hid hj'
            have HI' := Lib.hid hI'
            have c3 := hj'.b.cell (k := 3) rfl
            have hBw := hj'.r.led.lt
            clear hdu hru hla hbe hop hsm hfl hrf hn hn1 hn2 hrc hj' hI' hdz hfly hnr hl1 hl2 hl3 hl4 hsla hsbe HX
            go_wp2_with fail
            refine (HDu.out _ HJ'.out).mono ?_
            rintro e y1 ⟨rfl, j1⟩
            have c31 := j1.b.cell (k := 3) rfl
            have HJ1 := Lib.hid j1
            clear j1 c3 hBw
            go_wp2_with fail
            refine (HRu.out _ HJ1.out).mono ?_
            rintro e y2 ⟨rfl, j2⟩
            have HJ2 := Lib.hid j2
            clear j2 c31
            go_wp2_with fail
            refine (HLa.out _ HJ2.out).mono ?_
            rintro e y3 ⟨rfl, j3⟩
            have HJ3 := Lib.hid j3
            clear j3
            go_wp2_with fail
            refine (HBe.out _ HJ3.out).mono ?_
            rintro e y4 ⟨rfl, j4⟩
            have HJ4 := Lib.hid j4
            have K0 := Lib.hid (HRc.out _ j4)
            clear j4
            go_wp2_with fail
            go_region_held3 (fun w' => w'.cell? ⟨B + 1, 0, none⟩ = some (.slice pr nr cr) ∧ w'.cell? ⟨B + 1, 1, none⟩ = some (.int .i64 sla) ∧ w'.cell? ⟨B + 1, 2, none⟩ = some (.int .i64 sbe)) (first | exact K0.out | exact K1.out | exact K2.out | exact K3.out | exact K4.out | exact K5.out) (first
              | (go_at_call 14; refine (HOp.out _ HJ4.out.drew).mono ?_; rintro e z1 ⟨vo, rfl, m1, g1⟩; have K1 := Lib.hid (HRc.out _ m1))
              | (go_at_call 22; refine (HSm.out _ m1 _ _ g1).mono ?_; rintro e z2 ⟨rfl, m2⟩; have K2 := Lib.hid (HRc.out _ m2))
              | (go_at_call 18; refine (HFl.out _ m2).mono ?_; rintro e z3 ⟨rfl, m3⟩; have K3 := Lib.hid (HRc.out _ m3))
              | (go_at_call 29; refine (HRf.out _ m3).mono ?_; rintro e z4 ⟨rfl, m4⟩; have K4 := Lib.hid (HRc.out _ m4))
              | (go_at_call 30; refine (HN1.out _ _ _ _ ?_ ?_).mono ?_; (first | exact .inl ⟨rfl, rfl, rfl⟩ | exact .inr ⟨rfl, rfl, rfl⟩); (first | exact m5 | exact m4); rintro e z5 ⟨rfl, m5⟩; have K5 := Lib.hid (HRc.out _ m5)))
            have HM := Lib.hid m5
            clear m1 m2 m3 m4 g1
            go_wp2_with fail
            go_roundg (N - (j + 1))
            case measure => omega
            case rel => exact ⟨j + 1, S', v', _, by omega, by omega, by go_num, HI'.out, HM.out.p, HM.out.r, HM.out.below⟩
      · go_wp2_with fail
        go_ret
        exact ⟨rfl, Hb0.out.trans (Hbw.out.mono hBl)⟩
    · go_wp2_with fail
      go_ret
      exact ⟨rfl, Hb0.out.trans (Hbw.out.mono hBl)⟩

end Go.Proofs.Ytaoeamkkbopioaa
