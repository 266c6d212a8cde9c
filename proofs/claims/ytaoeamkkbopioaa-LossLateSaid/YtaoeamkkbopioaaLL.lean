/- The law LossLate, walked. -/
import Derived.Test.YtaoeamkkbopioaaLn
import Derived.Deep.DeepCutAuto
import Derived.Deep.LoopGhost
import Derived.Deep.CutBlock
import Derived.OpenShut
namespace Go.Proofs.Ytaoeamkkbopioaa
open Go.ChangeShapes Go.WideShapes Go.RowKit
set_option linter.unusedVariables false

/-- What an act leaves behind. -/
def GenStep (B : Nat) (w : World) (wx : World) : Prop := ∃ S' v', Owns B B 29 [] v' S' wx ∧ Inv S' ∧ Below B w wx

/-- What a split tells, how many, and what it leaves. -/
theorem Told.count {B b : Nat} {T : TypeId} {rest : List Value} {v : Value} {S : Lg} {w : World} {f : Pk → Bool} {e : Ending} {w' : World} (h : Told B b T rest v S w f e w') (ho : Owns B b T rest v S w) (hI : Inv S) :
    ∃ p cap v', e = .returned (.slice p (S.op.filter f).length cap) ∧ Owns B b T rest v' { S with op := S.op.filter (fun p => !f p) } w' ∧ Inv { S with op := S.op.filter (fun p => !f p) } ∧ Below B w w' := by
  obtain ⟨vg, v', h1, h2, h3, _, h4⟩ := h.owns ho
  obtain ⟨p, cap, rfl, _⟩ := own_shape h3
  exact ⟨p, cap, v', h1, h2, hI.filter _, h4⟩

/-- Packets that were told. -/
def Td (tv : Value) (told : List Pk) (w : World) : Prop := ∃ base, w.ownsRow base 38 5 tv told.length (pks told)
theorem Td.shape {tv : Value} {told : List Pk} {w : World} (h : Td tv told w) : ∃ p cap, tv = .slice p told.length cap ∧ ∀ i q, told[i]? = some q → ∃ g, p = some ⟨g, 0, none⟩ ∧ g < w.heap.size ∧ w.cell? ⟨g, i * 5, none⟩ = some (.int .u64 (q.num : Int)) ∧ w.cell? ⟨g, i * 5 + 1, none⟩ = some (.int .u64 (q.time : Int)) ∧
      w.cell? ⟨g, i * 5 + 2, none⟩ = some (.int .u64 (q.size : Int)) ∧ w.cell? ⟨g, i * 5 + 3, none⟩ = some (.bool q.asks) ∧ w.cell? ⟨g, i * 5 + 4, none⟩ = some (.slice q.fa q.fl q.fc) := by
  obtain ⟨base, ho⟩ := h
  obtain ⟨p, cap, rfl, _⟩ := own_shape ho
  refine ⟨p, cap, rfl, fun i q h => ?_⟩
  obtain ⟨g, cap2, hv, _, hg, k0, k1, k2, k3, k4⟩ := pk_cells ho i q h
  injection hv with hv _ _
  exact ⟨g, hv, hg, k0, k1, k2, k3, k4⟩

/-- The four variables that the closure captures. -/
def Boxes (x y now wait bn : Nat) (bi : Bool) (W : World) : Prop :=
  blk W (y + 1) 4 [.bool bi] ∧ blk W y 25 [.int .u64 (bn : Int)] ∧ blk W x 25 [.int .u64 (now : Int)] ∧ blk W (x + 1) 25 [.int .u64 (wait : Int)]
theorem Boxes.below {x y now wait bn : Nat} {bi : Bool} {W W' : World} (h : Boxes x y now wait bn bi W) (hb : Below W.heap.size W W') : Boxes x y now wait bn bi W' :=
  ⟨h.1.below hb h.1.lt, h.2.1.below hb h.2.1.lt, h.2.2.1.below hb h.2.2.1.lt, h.2.2.2.below hb h.2.2.2.lt⟩
theorem Boxes.next {x y now wait bn B : Nat} {bi : Bool} {W W' : World} {v v' : Value} {S S' : Lg} (h : Boxes x y now wait bn bi W) (hc : CameV B B 29 [] v W S' v' W') (ho : Owns B B 29 [] v S W) (hy : B < y) (hx : x + 1 < B) : Boxes x y now wait bn bi W' := by
  have key : ∀ b T L, blk W b T L → b ≠ B → T ≠ 38 → blk W' b T L := by
    intro b T L hb hbB hT
    refine hb.only hc.2.2.1 ?_
    rintro (h1 | h1)
    · exact hbB h1
    · exact own_ne ho.own hb hT h1
  exact ⟨key _ _ _ h.1 (by omega) (by decide), key _ _ _ h.2.1 (by omega) (by decide), key _ _ _ h.2.2.1 (by omega) (by decide), key _ _ _ h.2.2.2 (by omega) (by decide)⟩

set_option maxRecDepth 100000 in
set_option maxHeartbeats 1000000 in
theorem late2_fn (bb ib nb wb : Nat) (q : Pk) (bn now wait : Nat) (bi : Bool) (w : World) (hib : ib < w.heap.size) (hbb : bb < w.heap.size) (hnb : nb < w.heap.size) (hwb : wb < w.heap.size)
    (ci : w.cell? ⟨ib, 0, none⟩ = some (.bool bi)) (cb : w.cell? ⟨bb, 0, none⟩ = some (.int .u64 (bn : Int))) (cn : w.cell? ⟨nb, 0, none⟩ = some (.int .u64 (now : Int))) (cw : w.cell? ⟨wb, 0, none⟩ = some (.int .u64 (wait : Int))) (hbn : bn ≤ 4611686018427387903) (hnow : now < 2 ^ 64) :
    Calls Try.prog 16 (#[pkV q] ++ #[.pointer (some ⟨ib, 0, none⟩), .pointer (some ⟨bb, 0, none⟩), .pointer (some ⟨nb, 0, none⟩), .pointer (some ⟨wb, 0, none⟩)]) w fun e w' => e = .returned (.bool (lostP bi bn now wait q)) ∧ Below w.heap.size w w' := by
  obtain ⟨num, time, size, asks, fa, fl, fc⟩ := q
  have hend : Below w.heap.size w (w.alloc (.cells #[.int .u64 (num : Int), .int .u64 (time : Int), .int .u64 (size : Int), .bool asks, .slice fa fl fc] 38)) := (Below.refl _ _).alloc (Nat.le_refl _) _
  have HE := Lib.hid hend
  clear hend
  unfold lostP pkV
  simp only
  cases bi
  · have e1 : farF false bn num = false := rfl
    have e2 : behindF false bn num = false := rfl
    rw [e1, e2]
    clear e1 e2 hnow
    go_enter Try.func16, Try.ntmps16
    go_wp2_with fail
    go_ret
    exact ⟨rfl, HE.out⟩
  · by_cases h1 : num < bn
    · have e2 : behindF true bn num = true := by simp [behindF, h1]
      by_cases h2 : 3 ≤ bn - num
      · have e1 : farF true bn num = true := by simp [farF, e2, h2]
        have d1 : decide ((3 : Int) ≤ (bn : Int) - (num : Int)) = true := by rw [decide_eq_true_iff]; omega
        rw [e1, Bool.true_or]
        clear e1 e2 hnow
        go_enter Try.func16, Try.ntmps16
        go_wp2_with fail
        go_ret
        exact ⟨rfl, HE.out⟩
      · have e1 : farF true bn num = false := by simp only [farF, e2, h2]; rfl
        have d1 : decide ((3 : Int) ≤ (bn : Int) - (num : Int)) = false := by rw [decide_eq_false_iff_not]; omega
        rw [e1, e2, Bool.false_or, Bool.true_and]
        clear e1 e2
        by_cases h3 : time ≤ now
        · have d2 : decide (time ≤ now) = true := by simpa using h3
          have hwr := u64_sub now time h3 hnow
          obtain ⟨m, hm⟩ : ∃ m, now - time = m := ⟨_, rfl⟩
          rw [hm] at hwr ⊢
          rw [d2, Bool.true_and]
          clear d2 hm hnow
          by_cases h4 : wait ≤ m
          · have d3 : decide (wait ≤ m) = true := by simpa using h4
            rw [d3]
            go_enter Try.func16, Try.ntmps16
            go_wp2_with fail
            go_ret
            exact ⟨rfl, HE.out⟩
          · have d3 : decide (wait ≤ m) = false := by simpa using h4
            rw [d3]
            go_enter Try.func16, Try.ntmps16
            go_wp2_with fail
            go_ret
            exact ⟨rfl, HE.out⟩
        · have d2 : decide (time ≤ now) = false := by simpa using h3
          rw [d2, Bool.false_and]
          clear hnow
          go_enter Try.func16, Try.ntmps16
          go_wp2_with fail
          go_ret
          exact ⟨rfl, HE.out⟩
    · have e2 : behindF true bn num = false := by simp [behindF, h1]
      have e1 : farF true bn num = false := by simp [farF, e2]
      have d1 : decide (num < bn) = false := by simpa using h1
      rw [e1, e2]
      clear e1 e2 hnow
      go_enter Try.func16, Try.ntmps16
      go_wp2_with fail
      go_ret
      exact ⟨rfl, HE.out⟩

set_option maxRecDepth 100000 in
set_option maxHeartbeats 8000000 in
theorem lossLate_walk (p : Option Addr) (cap : Nat) (xs : List Act1) (now wait : Nat) (w : World) (hA : ActsAt w p xs) (hl : xs.length ≤ maxLen) (hnow : now < 2 ^ 64) :
    Calls Try.prog 4 #[.slice p xs.length cap, .int .u64 (now : Int), .int .u64 (wait : Int)] w fun e w' => e = .returned (.bool true) ∧ Below w.heap.size w w' := by
  obtain ⟨N, hN⟩ : ∃ N, xs.length = N := ⟨_, rfl⟩
  rw [hN] at hl ⊢
  unfold maxLen at hl
  have HN := Lib.hid hN
  have HA := Lib.hid hA
  clear hN hA
  go_enter Try.func4, Try.ntmps4
  go_wp2_with fail
  refine (awake_any _).mono ?_
  rintro e w0 ⟨rfl, hb0⟩
  have Hx := Lib.hid hb0
  have h0 := Owns.start w0
  obtain ⟨w1, hw1⟩ : ∃ w1, w0.alloc (.cells #[.slice none 0 0, .int .u64 0, .bool false, .int .u64 0, .bool false] 29) = w1 := ⟨_, rfl⟩
  have hb1 : Below w0.heap.size w0 w1 := by rw [← hw1]; exact (Below.refl _ _).alloc (Nat.le_refl _) _
  obtain ⟨B, hB⟩ : ∃ B, w0.heap.size = B := ⟨_, rfl⟩
  rw [hw1, hB] at h0
  rw [hB] at hb1
  have hBl : w.heap.size ≤ B := by rw [← hB]; exact Nat.le_trans (by simp; omega) hb0.size
  have H0 := Lib.hid h0
  have Hb0 := Lib.hid ((((Below.refl _ w).alloc (Nat.le_refl _) _).alloc (by simp) _).trans (hb0.mono (by simp; omega)))
  have Hb1 := Lib.hid hb1
  clear h0 hb0 hb1
  have hbox : blk w0 w.heap.size 25 [.int .u64 (now : Int)] ∧ blk w0 (w.heap.size + 1) 25 [.int .u64 (wait : Int)] := by
    refine ⟨((blk.new w _ _).alloc _).below Hx.out (by simp; omega), ?_⟩
    have := blk.new (w.alloc (.cells #[.int .u64 (now : Int)] 25)) 25 [.int .u64 (wait : Int)]
    rw [World.size_alloc] at this
    exact this.below Hx.out (by simp)
  have Hbox := Lib.hid hbox
  clear hbox
  go_wp2_with fail
  go_loopg [8] N (fun gk i wr => ∃ j : Nat, ∃ S : Lg, ∃ v : Value, j ≤ N ∧ N - j ≤ gk ∧ i = .int .i64 j ∧ Inv S ∧ Owns B B 29 [] v S wr ∧ Below B w0 wr)
  case atStart => exact ⟨0, S0, _, by omega, by omega, rfl, Inv.start, H0.out, Hb1.out⟩
  case round =>
    obtain ⟨j, S, v, hj, hgk, rfl, hI, hO, hbw⟩ := hrel
    have HO := Lib.hid hO
    have Hbw := Lib.hid hbw
    have HI := Lib.hid hI
    clear hO hbw hI
    by_cases hlt : j < N
    · by_cases h200 : j < 200
      · have hjl : j < xs.length := by rw [HN.out]; exact hlt
        obtain ⟨a, ha⟩ : ∃ a, xs[j] = a := ⟨_, rfl⟩
        have ha2 : xs[j]? = some a := by rw [List.getElem?_eq_getElem hjl, ha]
        obtain ⟨g, o, rfl, hg, hc⟩ := HA.out (by omega)
        have hbB : Below w.heap.size w wr := Hb0.out.trans (Hbw.out.mono hBl)
        have hact := (hc j a ha2).below hg hbB rfl
        have hrb : ∀ x, a.lp = some x → a.rs.length ≤ 100 → 0 < a.rs.length → x.block ≠ B := by
          intro x hx h1 h2
          obtain ⟨g2, o2, e2, hg2, _⟩ := (hc j a ha2).rg h2
          rw [hx] at e2
          injection e2 with e2
          subst e2
          exact Nat.ne_of_lt (Nat.lt_of_lt_of_le hg2 hBl)
        have Hact := Lib.hid hact
        have Hrb := Lib.hid hrb
        have q0 := hact.c0
        have q1 := hact.c1
        have q2 := hact.c2
        have q3 := hact.c3
        have q4 := hact.c4
        have q5 := hact.c5
        obtain ⟨L, hL⟩ : ∃ L, a.rs.length = L := ⟨_, rfl⟩
        rw [hL] at q5
        have HL := Lib.hid hL
        obtain ⟨K, hK⟩ : ∃ K, a.kind = K := ⟨_, rfl⟩
        rw [hK] at q0
        clear hc ha ha2 hact hrb hL hbB hK
        have hba : Below wr.heap.size wr (wr.alloc (.cells #[.int .i64 K, .int .u64 (a.num : Int), .int .u64 (a.time : Int), .int .u64 (a.size : Int), .bool a.asks, .slice a.lp L a.lcap] 33)) := (Below.refl _ _).alloc (Nat.le_refl _) _
        have hOa := HO.out.next hba
        have HOa := Lib.hid hOa
        have Hba := Lib.hid hba
        clear hOa hba
        by_cases h100 : 100 < L
        · go_wp2_with fail
          go_ret
          exact ⟨rfl, (Hb0.out.trans (Hbw.out.mono hBl)).alloc (Nat.le_trans hBl HO.out.bw) _⟩
        · have d100 : decide ((100 : Int) < (L : Int)) = false := by rw [decide_eq_false_iff_not]; omega
          by_cases k0 : K = 0
          · subst k0
            have hs := Sent_any B B 29 [] v S _ a.num a.time a.size false HOa.out Hact.out.n1 HI.out.lnb HI.out.len1
            have hs' := hs.mono (R' := fun e w' => (∃ c, e = .returned (.int .i64 c)) ∧ GenStep B wr w') (fun e w' ⟨h1, h2⟩ => by
              obtain ⟨v', g1, g2⟩ := h2.owns2 HOa.out
              exact ⟨⟨_, h1⟩, _, v', g1, HI.out.sent _, (Hba.out.mono HO.out.bw).trans g2⟩)
            have HS := Lib.hid hs'
            clear hs hs'
            go_wp2_with fail
            refine HS.out.mono ?_
            rintro e w3 ⟨⟨c, rfl⟩, h2⟩
            have H2 := Lib.hid h2
            clear h2
            obtain ⟨S', v', hO', hI', hb⟩ := H2.out
            have HI' := Lib.hid hI'
            have HO' := Lib.hid hO'
            have Hb' := Lib.hid (Hbw.out.trans hb)
            clear hI' hO' hb
            go_wp2_with fail
            go_roundg (N - (j + 1))
            case measure => omega
            case rel => exact ⟨j + 1, S', v', by omega, by omega, by go_num, HI'.out, HO'.out, Hb'.out⟩
          · have e0 : (K == 0) = false := by rw [beq_eq_false_iff_ne]; exact k0
            by_cases k1 : K = 1
            · subst k1
              have hs := Acked_any B B 29 [] v S _ a.lp a.lcap a.rs HOa.out HI.out.len1 HI.out.bnb HI.out.lnb (Hact.out.rg.below Hba.out) (by rw [HL.out]; omega) (fun h0 x hx => Hrb.out x hx (by rw [HL.out]; omega) h0)
              have hs' := hs.mono (R' := fun e w' => (∃ vg c, e = .returned (.tuple #[vg, .int .i64 c])) ∧ GenStep B wr w') (fun e w' h2 => by
                obtain ⟨vg, c, v', h1, g1, _, _, g2⟩ := h2.owns HOa.out
                exact ⟨⟨_, _, h1⟩, _, v', g1, HI.out.ack _, (Hba.out.mono HO.out.bw).trans g2⟩)
              rw [HL.out] at hs'
              have HS := Lib.hid hs'
              clear hs hs' e0 k0
              go_wp2_with fail
              refine HS.out.mono ?_
              rintro e w3 ⟨⟨vg, c, rfl⟩, h2⟩
              have H2 := Lib.hid h2
              clear h2
              obtain ⟨S', v', hO', hI', hb⟩ := H2.out
              have HI' := Lib.hid hI'
              have HO' := Lib.hid hO'
              have Hb' := Lib.hid (Hbw.out.trans hb)
              clear hI' hO' hb
              go_wp2_with fail
              go_roundg (N - (j + 1))
              case measure => omega
              case rel => exact ⟨j + 1, S', v', by omega, by omega, by go_num, HI'.out, HO'.out, Hb'.out⟩
            · have e1 : (K == 1) = false := by rw [beq_eq_false_iff_ne]; exact k1
              have hs : GenStep B wr _ := ⟨S, v, HOa.out, HI.out, Hba.out.mono HO.out.bw⟩
              have HS := Lib.hid hs
              clear hs k0 k1
              have H2 := HS
              clear HS
              obtain ⟨S', v', hO', hI', hb⟩ := H2.out
              have HI' := Lib.hid hI'
              have HO' := Lib.hid hO'
              have Hb' := Lib.hid (Hbw.out.trans hb)
              clear hI' hO' hb
              go_wp2_with fail
              go_roundg (N - (j + 1))
              case measure => omega
              case rel => exact ⟨j + 1, S', v', by omega, by omega, by go_num, HI'.out, HO'.out, Hb'.out⟩
      · have hI2 := HI.out
        have hbe := Best_any B S.bn S.bi wr HO.out.led.lt (HO.out.led.cell rfl) (HO.out.led.cell rfl)
        have hbb : S.bn ≤ 4611686018427387903 := Nat.le_trans hI2.bl hI2.ln
        obtain ⟨f, hf⟩ : ∃ f, lostP S.bi S.bn now wait = f := ⟨_, rfl⟩
        have hla := fun W b2 b3 q (h0 : b3 < W.heap.size) (h1 : b2 < W.heap.size) (hn : w.heap.size < W.heap.size) (hw : w.heap.size + 1 < W.heap.size) c0 c1 c2 c3 => late2_fn b2 b3 w.heap.size (w.heap.size + 1) q S.bn now wait S.bi W h0 h1 hn hw c0 c1 c2 c3 hbb hnow
        rw [hf] at hla
        have hlo := fun v2 S2 W (hbi : S2.bi = S.bi) (hbn : S2.bn = S.bn) (hO : Owns B B 29 [] v2 S2 W) (hI : Inv S2) => Lost_any B B 29 [] v2 S2 W now wait hO hI.len1 hI.bnb hnow
        have hlo2 := fun v2 S2 W (hbi : S2.bi = S.bi) (hbn : S2.bn = S.bn) (hO : Owns B B 29 [] v2 S2 W) (hI : Inv S2) => by
          have := hlo v2 S2 W hbi hbn hO hI
          rw [hbi, hbn, hf] at this
          exact this
        obtain ⟨bn, hbne⟩ : ∃ x, S.bn = x := ⟨_, rfl⟩
        obtain ⟨bi, hbie⟩ : ∃ x, S.bi = x := ⟨_, rfl⟩
        rw [hbne] at hbe hla hbb
        rw [hbie] at hbe hla
        have HBe := Lib.hid hbe
        have HLa := Lib.hid hla
        have HLo := Lib.hid hlo2
        have hboxr := Hbox.out.1.below Hbw.out (by rw [← hB]; exact Hbox.out.1.lt)
        have hboxr2 := Hbox.out.2.below Hbw.out (by rw [← hB]; exact Hbox.out.2.lt)
        have Hboxr := Lib.hid hboxr
        have Hboxr2 := Lib.hid hboxr2
        have hbl := HO.out.led.lt
        have hwB : w.heap.size + 1 < B := by rw [← hB]; exact Hbox.out.2.lt
        clear hI2 hbe hla hlo hlo2 hbne hbie hf hboxr hboxr2
        go_wp2_with fail
        refine HBe.out.mono ?_
        rintro e w3 ⟨rfl, hb3⟩
        have hO3 := HO.out.next hb3
        have hbx1 := Hboxr.out.below hb3 Hboxr.out.lt
        have hbx2 := Hboxr2.out.below hb3 Hboxr2.out.lt
        have hw3 : Below B w0 w3 := Hbw.out.trans (hb3.mono HO.out.bw)
        have n0 := hbx1.cell (k := 0) rfl
        have n1 := hbx2.cell (k := 0) rfl
        have l0 := hbx1.lt
        have l1 := hbx2.lt
        obtain ⟨Wb, hWb⟩ : ∃ W, (w3.alloc (.cells #[.int .u64 (bn : Int)] 25)).alloc (.cells #[.bool bi] 4) = W := ⟨_, rfl⟩
        have hba : Below w3.heap.size w3 Wb := by rw [← hWb]; exact ((Below.refl _ _).alloc (Nat.le_refl _) _).alloc (by simp) _
        have hB1 : blk Wb w3.heap.size 25 [.int .u64 (bn : Int)] := by rw [← hWb]; exact (blk.new w3 _ _).alloc _
        have hB2 : blk Wb (w3.heap.size + 1) 4 [.bool bi] := by
          rw [← hWb]
          have := blk.new (w3.alloc (.cells #[.int .u64 (bn : Int)] 25)) 4 [.bool bi]
          rw [World.size_alloc] at this
          exact this
        have hO4 := hO3.next hba
        have hbx : Boxes w.heap.size w3.heap.size now wait bn bi Wb := ⟨hB2, hB1, hbx1.below hba hbx1.lt, hbx2.below hba hbx2.lt⟩
        have hcall : ∀ W q, Boxes w.heap.size w3.heap.size now wait bn bi W → Calls Try.prog 16 (#[pkV q] ++ #[.pointer (some ⟨w3.heap.size + 1, 0, none⟩), .pointer (some ⟨w3.heap.size, 0, none⟩), .pointer (some ⟨w.heap.size, 0, none⟩), .pointer (some ⟨w.heap.size + 1, 0, none⟩)]) W fun e w' => e = .returned (.bool (f q)) ∧ Below W.heap.size W w' :=
          fun W q h => HLa.out W _ _ q h.1.lt h.2.1.lt h.2.2.1.lt h.2.2.2.lt (h.1.cell rfl) (h.2.1.cell rfl) (h.2.2.1.cell rfl) (h.2.2.2.cell rfl)
        have hl1 := (HLo.out v S _ rfl rfl hO4 HI.out).mono (R' := fun e w' => ∃ vg v', e = .returned vg ∧ Owns B B 29 [] v' { S with op := S.op.filter (fun p => !f p) } w' ∧ Td vg (S.op.filter f) w' ∧ Boxes w.heap.size w3.heap.size now wait bn bi w' ∧ Below B w0 w') (fun e w' h => by
          obtain ⟨vg, v', h1, h2, h3, h4⟩ := h
          refine ⟨vg, v', h1, h3.owns hO4, ⟨_, h2⟩, hbx.next h3 hO4 (by have := HO.out.led.lt; have := hb3.size; omega) hwB, (hw3.trans (hba.mono hO3.bw)).trans (h3.below hO4)⟩)
        have HCall := Lib.hid hcall
        have HL1 := Lib.hid hl1
        have eg : ∀ args w, (callFunc 16 args).run Try.prog w = .ok (.enter 16 args) w := enters_of Try.func16 (by kernel_rfl) rfl
        have m0 := hbx.2.2.1.cell (k := 0) rfl
        have m1 := hbx.2.2.2.cell (k := 0) rfl
        clear hcall hl1 hB1 hB2 hba hO4 hbx hO3 hbx1 hbx2 hw3 hb3
        go_wp2_with fail
        refine HL1.out.mono ?_
        rintro e w5 ⟨vg, v5, rfl, hO5, htd, hbx5, hb5⟩
        obtain ⟨pt, ct, rfl, hcells⟩ := htd.shape
        obtain ⟨n, hn⟩ : ∃ n, (S.op.filter f).length = n := ⟨_, rfl⟩
        have hnl : n ≤ 500 := by rw [← hn]; exact Nat.le_trans (List.length_filter_le _ _) HI.out.len
        rw [hn]
        have HO5 := Lib.hid hO5
        have Hbx5 := Lib.hid hbx5
        have Hcells := Lib.hid hcells
        have Hn := Lib.hid hn
        have Hb5 := Lib.hid hb5
        clear hO5 hbx5 hcells hn hb5 htd HL1 n0 n1 l0 l1 hWb
        go_wp2_with fail
        go_loopw [63] (fun i wz => ∃ k : Nat, k ≤ n ∧ i = .int .i64 k ∧ Below w5.heap.size w5 wz) (fun i _ => n - (intOf i).toNat)
        case atStart => exact ⟨0, by omega, rfl, Below.refl _ _⟩
        case round =>
          obtain ⟨k, hk, rfl, hbz⟩ := hrel
          by_cases hlt2 : k < n
          · have hkl : k < (S.op.filter f).length := by rw [Hn.out]; exact hlt2
            obtain ⟨q, hq⟩ : ∃ q, (S.op.filter f)[k] = q := ⟨_, rfl⟩
            have hq2 : (S.op.filter f)[k]? = some q := by rw [List.getElem?_eq_getElem hkl, hq]
            have hfq : f q = true := (List.mem_filter.1 (List.mem_of_getElem? hq2)).2
            obtain ⟨g1, rfl, hg1, z0, z1, z2, z3, z4⟩ := Hcells.out k q hq2
            have e0 := (hbz.cell (p := ⟨g1, k * 5, none⟩) hg1).trans z0
            have e1 := (hbz.cell (p := ⟨g1, k * 5 + 1, none⟩) hg1).trans z1
            have e2 := (hbz.cell (p := ⟨g1, k * 5 + 2, none⟩) hg1).trans z2
            have e3 := (hbz.cell (p := ⟨g1, k * 5 + 3, none⟩) hg1).trans z3
            have e4 := (hbz.cell (p := ⟨g1, k * 5 + 4, none⟩) hg1).trans z4
            have hbn := hbz.alloc hbz.size (.cells #[.int .u64 (q.num : Int), .int .u64 (q.time : Int), .int .u64 (q.size : Int), .bool q.asks, .slice q.fa q.fl q.fc] 38)
            have hcl := HCall.out _ q (Hbx5.out.below hbn)
            rw [hfq] at hcl
            unfold pkV at hcl
            have HC := Lib.hid hcl
            have Hbn := Lib.hid hbn
            clear hcl hbn hbz hq hq2 hfq z0 z1 z2 z3 z4
            go_wp2_with fail
            refine HC.out.mono ?_
            rintro e w6 ⟨rfl, hb6⟩
            have Hb6 := Lib.hid (Hbn.out.trans (hb6.mono Hbn.out.size))
            clear hb6
            go_wp2_with fail
            go_roundw
            case rel => exact ⟨k + 1, by omega, by go_num, Hb6.out⟩
            case measure => simp [intOf]; omega
          · obtain ⟨w6, rfl⟩ : ∃ w6, w6 = wr := ⟨_, rfl⟩
            have hS'len : (S.op.filter (fun p => !f p)).length ≤ 500 := Nat.le_trans (List.length_filter_le _ _) HI.out.len
            have hO6 := HO5.out.next hbz
            have hbx6 := Hbx5.out.below hbz
            have hb6 := Hb5.out.trans (hbz.mono HO5.out.bw)
            have hop := (Open_any B B 29 [] v5 _ w6 hO6 (by simp only; omega)).mono (R' := fun e w' => ∃ vo, e = .returned vo ∧ Owns B B 29 [] v5 { S with op := S.op.filter (fun p => !f p) } w' ∧ Td vo (S.op.filter (fun p => !f p)) w' ∧ Boxes w.heap.size w3.heap.size now wait bn bi w' ∧ Below B w0 w') (fun e w' h => by
              obtain ⟨vo, h1, h2, h3⟩ := h
              exact ⟨vo, h1, hO6.next h3, ⟨_, h2⟩, hbx6.below h3, hb6.trans (h3.mono hO6.bw)⟩)
            have HOp := Lib.hid hop
            clear hop hO6 hbx6 hb6 hbz
            go_wp2_with fail
            refine HOp.out.mono ?_
            rintro e w7 ⟨vo, rfl, hO7, htd, hbx7, hb7⟩
            obtain ⟨pt2, ct2, rfl, hcells2⟩ := htd.shape
            obtain ⟨m, hm⟩ : ∃ m, (S.op.filter (fun p => !f p)).length = m := ⟨_, rfl⟩
            rw [hm] at hS'len ⊢
            have HO7 := Lib.hid hO7
            have Hbx7 := Lib.hid hbx7
            have Hcells2 := Lib.hid hcells2
            have Hm := Lib.hid hm
            have Hb7 := Lib.hid hb7
            clear hO7 hbx7 hcells2 hm hb7 htd HOp
            go_wp2_with fail
            go_loopw [74] (fun i wz => ∃ k : Nat, k ≤ m ∧ i = .int .i64 k ∧ Below w7.heap.size w7 wz) (fun i _ => m - (intOf i).toNat)
            case atStart => exact ⟨0, by omega, rfl, Below.refl _ _⟩
            case round =>
              obtain ⟨k, hk, rfl, hbz⟩ := hrel
              by_cases hlt3 : k < m
              · have hkl : k < (S.op.filter (fun p => !f p)).length := by rw [Hm.out]; exact hlt3
                obtain ⟨q, hq⟩ : ∃ q, (S.op.filter (fun p => !f p))[k] = q := ⟨_, rfl⟩
                have hq2 : (S.op.filter (fun p => !f p))[k]? = some q := by rw [List.getElem?_eq_getElem hkl, hq]
                have hfq : f q = false := by simpa using (List.mem_filter.1 (List.mem_of_getElem? hq2)).2
                obtain ⟨g1, rfl, hg1, z0, z1, z2, z3, z4⟩ := Hcells2.out k q hq2
                have e0 := (hbz.cell (p := ⟨g1, k * 5, none⟩) hg1).trans z0
                have e1 := (hbz.cell (p := ⟨g1, k * 5 + 1, none⟩) hg1).trans z1
                have e2 := (hbz.cell (p := ⟨g1, k * 5 + 2, none⟩) hg1).trans z2
                have e3 := (hbz.cell (p := ⟨g1, k * 5 + 3, none⟩) hg1).trans z3
                have e4 := (hbz.cell (p := ⟨g1, k * 5 + 4, none⟩) hg1).trans z4
                have hbn := hbz.alloc hbz.size (.cells #[.int .u64 (q.num : Int), .int .u64 (q.time : Int), .int .u64 (q.size : Int), .bool q.asks, .slice q.fa q.fl q.fc] 38)
                have hcl := HCall.out _ q (Hbx7.out.below hbn)
                rw [hfq] at hcl
                unfold pkV at hcl
                have HC := Lib.hid hcl
                have Hbn := Lib.hid hbn
                clear hcl hbn hbz hq hq2 hfq z0 z1 z2 z3 z4
                go_wp2_with fail
                refine HC.out.mono ?_
                rintro e w8 ⟨rfl, hb8⟩
                have Hb8 := Lib.hid (Hbn.out.trans (hb8.mono Hbn.out.size))
                clear hb8
                go_wp2_with fail
                go_roundw
                case rel => exact ⟨k + 1, by omega, by go_num, Hb8.out⟩
                case measure => simp [intOf]; omega
              · have hO8 := HO7.out.next hbz
                have hb8 := Hb7.out.trans (hbz.mono HO7.out.bw)
                have hbx8 := Hbx7.out.below hbz
                have n0 := hbx8.2.2.1.cell (k := 0) rfl
                have n1 := hbx8.2.2.2.cell (k := 0) rfl
                have l0 := hbx8.2.2.1.lt
                have l1 := hbx8.2.2.2.lt
                have hl2 := (HLo.out v5 { S with op := S.op.filter (fun p => !f p) } _ rfl rfl hO8 (HI.out.filter _)).mono (R' := fun e w' => (∃ p cap, e = .returned (.slice p 0 cap)) ∧ Below B w0 w') (fun e w' h => by
                  obtain ⟨p2, cap2, v', h1, h2, h3, h4⟩ := h.count hO8 (HI.out.filter _)
                  have hz : ((S.op.filter (fun p => !f p)).filter f).length = 0 := by
                    rw [List.length_eq_zero_iff, List.filter_eq_nil_iff]
                    intro x hx
                    have := (List.mem_filter.1 hx).2
                    simpa using this
                  rw [hz] at h1
                  exact ⟨⟨p2, cap2, h1⟩, hb8.trans h4⟩)
                have HL2 := Lib.hid hl2
                clear hl2 hO8 hb8 hbx8 hbz
                go_wp2_with fail
                refine HL2.out.mono ?_
                rintro e w9 ⟨⟨p9, c9, rfl⟩, hb9⟩
                have Hb9 := Lib.hid (Hb0.out.trans (hb9.mono hBl))
                clear hb9
                go_wp2_with fail
                go_ret
                exact ⟨rfl, Hb9.out⟩
    · have hI2 := HI.out
      have hbe := Best_any B S.bn S.bi wr HO.out.led.lt (HO.out.led.cell rfl) (HO.out.led.cell rfl)
      have hbb : S.bn ≤ 4611686018427387903 := Nat.le_trans hI2.bl hI2.ln
      obtain ⟨f, hf⟩ : ∃ f, lostP S.bi S.bn now wait = f := ⟨_, rfl⟩
      have hla := fun W b2 b3 q (h0 : b3 < W.heap.size) (h1 : b2 < W.heap.size) (hn : w.heap.size < W.heap.size) (hw : w.heap.size + 1 < W.heap.size) c0 c1 c2 c3 => late2_fn b2 b3 w.heap.size (w.heap.size + 1) q S.bn now wait S.bi W h0 h1 hn hw c0 c1 c2 c3 hbb hnow
      rw [hf] at hla
      have hlo := fun v2 S2 W (hbi : S2.bi = S.bi) (hbn : S2.bn = S.bn) (hO : Owns B B 29 [] v2 S2 W) (hI : Inv S2) => Lost_any B B 29 [] v2 S2 W now wait hO hI.len1 hI.bnb hnow
      have hlo2 := fun v2 S2 W (hbi : S2.bi = S.bi) (hbn : S2.bn = S.bn) (hO : Owns B B 29 [] v2 S2 W) (hI : Inv S2) => by
        have := hlo v2 S2 W hbi hbn hO hI
        rw [hbi, hbn, hf] at this
        exact this
      obtain ⟨bn, hbne⟩ : ∃ x, S.bn = x := ⟨_, rfl⟩
      obtain ⟨bi, hbie⟩ : ∃ x, S.bi = x := ⟨_, rfl⟩
      rw [hbne] at hbe hla hbb
      rw [hbie] at hbe hla
      have HBe := Lib.hid hbe
      have HLa := Lib.hid hla
      have HLo := Lib.hid hlo2
      have hboxr := Hbox.out.1.below Hbw.out (by rw [← hB]; exact Hbox.out.1.lt)
      have hboxr2 := Hbox.out.2.below Hbw.out (by rw [← hB]; exact Hbox.out.2.lt)
      have Hboxr := Lib.hid hboxr
      have Hboxr2 := Lib.hid hboxr2
      have hbl := HO.out.led.lt
      have hwB : w.heap.size + 1 < B := by rw [← hB]; exact Hbox.out.2.lt
      clear hI2 hbe hla hlo hlo2 hbne hbie hf hboxr hboxr2
      go_wp2_with fail
      refine HBe.out.mono ?_
      rintro e w3 ⟨rfl, hb3⟩
      have hO3 := HO.out.next hb3
      have hbx1 := Hboxr.out.below hb3 Hboxr.out.lt
      have hbx2 := Hboxr2.out.below hb3 Hboxr2.out.lt
      have hw3 : Below B w0 w3 := Hbw.out.trans (hb3.mono HO.out.bw)
      have n0 := hbx1.cell (k := 0) rfl
      have n1 := hbx2.cell (k := 0) rfl
      have l0 := hbx1.lt
      have l1 := hbx2.lt
      obtain ⟨Wb, hWb⟩ : ∃ W, (w3.alloc (.cells #[.int .u64 (bn : Int)] 25)).alloc (.cells #[.bool bi] 4) = W := ⟨_, rfl⟩
      have hba : Below w3.heap.size w3 Wb := by rw [← hWb]; exact ((Below.refl _ _).alloc (Nat.le_refl _) _).alloc (by simp) _
      have hB1 : blk Wb w3.heap.size 25 [.int .u64 (bn : Int)] := by rw [← hWb]; exact (blk.new w3 _ _).alloc _
      have hB2 : blk Wb (w3.heap.size + 1) 4 [.bool bi] := by
        rw [← hWb]
        have := blk.new (w3.alloc (.cells #[.int .u64 (bn : Int)] 25)) 4 [.bool bi]
        rw [World.size_alloc] at this
        exact this
      have hO4 := hO3.next hba
      have hbx : Boxes w.heap.size w3.heap.size now wait bn bi Wb := ⟨hB2, hB1, hbx1.below hba hbx1.lt, hbx2.below hba hbx2.lt⟩
      have hcall : ∀ W q, Boxes w.heap.size w3.heap.size now wait bn bi W → Calls Try.prog 16 (#[pkV q] ++ #[.pointer (some ⟨w3.heap.size + 1, 0, none⟩), .pointer (some ⟨w3.heap.size, 0, none⟩), .pointer (some ⟨w.heap.size, 0, none⟩), .pointer (some ⟨w.heap.size + 1, 0, none⟩)]) W fun e w' => e = .returned (.bool (f q)) ∧ Below W.heap.size W w' :=
        fun W q h => HLa.out W _ _ q h.1.lt h.2.1.lt h.2.2.1.lt h.2.2.2.lt (h.1.cell rfl) (h.2.1.cell rfl) (h.2.2.1.cell rfl) (h.2.2.2.cell rfl)
      have hl1 := (HLo.out v S _ rfl rfl hO4 HI.out).mono (R' := fun e w' => ∃ vg v', e = .returned vg ∧ Owns B B 29 [] v' { S with op := S.op.filter (fun p => !f p) } w' ∧ Td vg (S.op.filter f) w' ∧ Boxes w.heap.size w3.heap.size now wait bn bi w' ∧ Below B w0 w') (fun e w' h => by
        obtain ⟨vg, v', h1, h2, h3, h4⟩ := h
        refine ⟨vg, v', h1, h3.owns hO4, ⟨_, h2⟩, hbx.next h3 hO4 (by have := HO.out.led.lt; have := hb3.size; omega) hwB, (hw3.trans (hba.mono hO3.bw)).trans (h3.below hO4)⟩)
      have HCall := Lib.hid hcall
      have HL1 := Lib.hid hl1
      have eg : ∀ args w, (callFunc 16 args).run Try.prog w = .ok (.enter 16 args) w := enters_of Try.func16 (by kernel_rfl) rfl
      have m0 := hbx.2.2.1.cell (k := 0) rfl
      have m1 := hbx.2.2.2.cell (k := 0) rfl
      clear hcall hl1 hB1 hB2 hba hO4 hbx hO3 hbx1 hbx2 hw3 hb3
      go_wp2_with fail
      refine HL1.out.mono ?_
      rintro e w5 ⟨vg, v5, rfl, hO5, htd, hbx5, hb5⟩
      obtain ⟨pt, ct, rfl, hcells⟩ := htd.shape
      obtain ⟨n, hn⟩ : ∃ n, (S.op.filter f).length = n := ⟨_, rfl⟩
      have hnl : n ≤ 500 := by rw [← hn]; exact Nat.le_trans (List.length_filter_le _ _) HI.out.len
      rw [hn]
      have HO5 := Lib.hid hO5
      have Hbx5 := Lib.hid hbx5
      have Hcells := Lib.hid hcells
      have Hn := Lib.hid hn
      have Hb5 := Lib.hid hb5
      clear hO5 hbx5 hcells hn hb5 htd HL1 n0 n1 l0 l1 hWb
      go_wp2_with fail
      go_loopw [63] (fun i wz => ∃ k : Nat, k ≤ n ∧ i = .int .i64 k ∧ Below w5.heap.size w5 wz) (fun i _ => n - (intOf i).toNat)
      case atStart => exact ⟨0, by omega, rfl, Below.refl _ _⟩
      case round =>
        obtain ⟨k, hk, rfl, hbz⟩ := hrel
        by_cases hlt2 : k < n
        · have hkl : k < (S.op.filter f).length := by rw [Hn.out]; exact hlt2
          obtain ⟨q, hq⟩ : ∃ q, (S.op.filter f)[k] = q := ⟨_, rfl⟩
          have hq2 : (S.op.filter f)[k]? = some q := by rw [List.getElem?_eq_getElem hkl, hq]
          have hfq : f q = true := (List.mem_filter.1 (List.mem_of_getElem? hq2)).2
          obtain ⟨g1, rfl, hg1, z0, z1, z2, z3, z4⟩ := Hcells.out k q hq2
          have e0 := (hbz.cell (p := ⟨g1, k * 5, none⟩) hg1).trans z0
          have e1 := (hbz.cell (p := ⟨g1, k * 5 + 1, none⟩) hg1).trans z1
          have e2 := (hbz.cell (p := ⟨g1, k * 5 + 2, none⟩) hg1).trans z2
          have e3 := (hbz.cell (p := ⟨g1, k * 5 + 3, none⟩) hg1).trans z3
          have e4 := (hbz.cell (p := ⟨g1, k * 5 + 4, none⟩) hg1).trans z4
          have hbn := hbz.alloc hbz.size (.cells #[.int .u64 (q.num : Int), .int .u64 (q.time : Int), .int .u64 (q.size : Int), .bool q.asks, .slice q.fa q.fl q.fc] 38)
          have hcl := HCall.out _ q (Hbx5.out.below hbn)
          rw [hfq] at hcl
          unfold pkV at hcl
          have HC := Lib.hid hcl
          have Hbn := Lib.hid hbn
          clear hcl hbn hbz hq hq2 hfq z0 z1 z2 z3 z4
          go_wp2_with fail
          refine HC.out.mono ?_
          rintro e w6 ⟨rfl, hb6⟩
          have Hb6 := Lib.hid (Hbn.out.trans (hb6.mono Hbn.out.size))
          clear hb6
          go_wp2_with fail
          go_roundw
          case rel => exact ⟨k + 1, by omega, by go_num, Hb6.out⟩
          case measure => simp [intOf]; omega
        · obtain ⟨w6, rfl⟩ : ∃ w6, w6 = wr := ⟨_, rfl⟩
          have hS'len : (S.op.filter (fun p => !f p)).length ≤ 500 := Nat.le_trans (List.length_filter_le _ _) HI.out.len
          have hO6 := HO5.out.next hbz
          have hbx6 := Hbx5.out.below hbz
          have hb6 := Hb5.out.trans (hbz.mono HO5.out.bw)
          have hop := (Open_any B B 29 [] v5 _ w6 hO6 (by simp only; omega)).mono (R' := fun e w' => ∃ vo, e = .returned vo ∧ Owns B B 29 [] v5 { S with op := S.op.filter (fun p => !f p) } w' ∧ Td vo (S.op.filter (fun p => !f p)) w' ∧ Boxes w.heap.size w3.heap.size now wait bn bi w' ∧ Below B w0 w') (fun e w' h => by
            obtain ⟨vo, h1, h2, h3⟩ := h
            exact ⟨vo, h1, hO6.next h3, ⟨_, h2⟩, hbx6.below h3, hb6.trans (h3.mono hO6.bw)⟩)
          have HOp := Lib.hid hop
          clear hop hO6 hbx6 hb6 hbz
          go_wp2_with fail
          refine HOp.out.mono ?_
          rintro e w7 ⟨vo, rfl, hO7, htd, hbx7, hb7⟩
          obtain ⟨pt2, ct2, rfl, hcells2⟩ := htd.shape
          obtain ⟨m, hm⟩ : ∃ m, (S.op.filter (fun p => !f p)).length = m := ⟨_, rfl⟩
          rw [hm] at hS'len ⊢
          have HO7 := Lib.hid hO7
          have Hbx7 := Lib.hid hbx7
          have Hcells2 := Lib.hid hcells2
          have Hm := Lib.hid hm
          have Hb7 := Lib.hid hb7
          clear hO7 hbx7 hcells2 hm hb7 htd HOp
          go_wp2_with fail
          go_loopw [74] (fun i wz => ∃ k : Nat, k ≤ m ∧ i = .int .i64 k ∧ Below w7.heap.size w7 wz) (fun i _ => m - (intOf i).toNat)
          case atStart => exact ⟨0, by omega, rfl, Below.refl _ _⟩
          case round =>
            obtain ⟨k, hk, rfl, hbz⟩ := hrel
            by_cases hlt3 : k < m
            · have hkl : k < (S.op.filter (fun p => !f p)).length := by rw [Hm.out]; exact hlt3
              obtain ⟨q, hq⟩ : ∃ q, (S.op.filter (fun p => !f p))[k] = q := ⟨_, rfl⟩
              have hq2 : (S.op.filter (fun p => !f p))[k]? = some q := by rw [List.getElem?_eq_getElem hkl, hq]
              have hfq : f q = false := by simpa using (List.mem_filter.1 (List.mem_of_getElem? hq2)).2
              obtain ⟨g1, rfl, hg1, z0, z1, z2, z3, z4⟩ := Hcells2.out k q hq2
              have e0 := (hbz.cell (p := ⟨g1, k * 5, none⟩) hg1).trans z0
              have e1 := (hbz.cell (p := ⟨g1, k * 5 + 1, none⟩) hg1).trans z1
              have e2 := (hbz.cell (p := ⟨g1, k * 5 + 2, none⟩) hg1).trans z2
              have e3 := (hbz.cell (p := ⟨g1, k * 5 + 3, none⟩) hg1).trans z3
              have e4 := (hbz.cell (p := ⟨g1, k * 5 + 4, none⟩) hg1).trans z4
              have hbn := hbz.alloc hbz.size (.cells #[.int .u64 (q.num : Int), .int .u64 (q.time : Int), .int .u64 (q.size : Int), .bool q.asks, .slice q.fa q.fl q.fc] 38)
              have hcl := HCall.out _ q (Hbx7.out.below hbn)
              rw [hfq] at hcl
              unfold pkV at hcl
              have HC := Lib.hid hcl
              have Hbn := Lib.hid hbn
              clear hcl hbn hbz hq hq2 hfq z0 z1 z2 z3 z4
              go_wp2_with fail
              refine HC.out.mono ?_
              rintro e w8 ⟨rfl, hb8⟩
              have Hb8 := Lib.hid (Hbn.out.trans (hb8.mono Hbn.out.size))
              clear hb8
              go_wp2_with fail
              go_roundw
              case rel => exact ⟨k + 1, by omega, by go_num, Hb8.out⟩
              case measure => simp [intOf]; omega
            · have hO8 := HO7.out.next hbz
              have hb8 := Hb7.out.trans (hbz.mono HO7.out.bw)
              have hbx8 := Hbx7.out.below hbz
              have n0 := hbx8.2.2.1.cell (k := 0) rfl
              have n1 := hbx8.2.2.2.cell (k := 0) rfl
              have l0 := hbx8.2.2.1.lt
              have l1 := hbx8.2.2.2.lt
              have hl2 := (HLo.out v5 { S with op := S.op.filter (fun p => !f p) } _ rfl rfl hO8 (HI.out.filter _)).mono (R' := fun e w' => (∃ p cap, e = .returned (.slice p 0 cap)) ∧ Below B w0 w') (fun e w' h => by
                obtain ⟨p2, cap2, v', h1, h2, h3, h4⟩ := h.count hO8 (HI.out.filter _)
                have hz : ((S.op.filter (fun p => !f p)).filter f).length = 0 := by
                  rw [List.length_eq_zero_iff, List.filter_eq_nil_iff]
                  intro x hx
                  have := (List.mem_filter.1 hx).2
                  simpa using this
                rw [hz] at h1
                exact ⟨⟨p2, cap2, h1⟩, hb8.trans h4⟩)
              have HL2 := Lib.hid hl2
              clear hl2 hO8 hb8 hbx8 hbz
              go_wp2_with fail
              refine HL2.out.mono ?_
              rintro e w9 ⟨⟨p9, c9, rfl⟩, hb9⟩
              have Hb9 := Lib.hid (Hb0.out.trans (hb9.mono hBl))
              clear hb9
              go_wp2_with fail
              go_ret
              exact ⟨rfl, Hb9.out⟩

/-- The same, of any integers that fit. -/
theorem lossLate_walk2 (p : Option Addr) (cap : Nat) (xs : List Act1) (x y : Int) (w : World) (hA : ActsAt w p xs) (hl : xs.length ≤ maxLen) (hx : (Lit.int .u64 x).wf = true) (hy : (Lit.int .u64 y).wf = true) :
    Calls Try.prog 4 #[.slice p xs.length cap, .int .u64 x, .int .u64 y] w fun e w' => e = .returned (.bool true) ∧ Below w.heap.size w w' := by
  obtain ⟨n, rfl, hn⟩ := nat_of_u64 hx
  obtain ⟨m, rfl, _⟩ := nat_of_u64 hy
  exact lossLate_walk p cap xs n m w hA hl hn

end Go.Proofs.Ytaoeamkkbopioaa
