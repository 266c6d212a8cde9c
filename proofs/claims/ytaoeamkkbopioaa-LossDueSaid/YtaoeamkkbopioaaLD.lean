/- The law LossDue, walked. -/
import Derived.Test.YtaoeamkkbopioaaLn
import Derived.Deep.DeepCutAuto
import Derived.Deep.LoopGhost
import Derived.Deep.CutBlock
import Derived.OpenShut
namespace Go.Proofs.Ytaoeamkkbopioaa
open Go.ChangeShapes Go.WideShapes Go.RowKit
set_option linter.unusedVariables false

/-- What an act leaves behind. -/
def GenStep (B : Nat) (w : World) (wx : World) : Prop := ∃ S' v', Owns B B 29 [] v' S' wx ∧ Inv S' ∧ Below B w wx

/-- What a split tells, how many, and what it leaves. -/
theorem Told.count {B b : Nat} {T : TypeId} {rest : List Value} {v : Value} {S : Lg} {w : World} {f : Pk → Bool} {e : Ending} {w' : World} (h : Told B b T rest v S w f e w') (ho : Owns B b T rest v S w) (hI : Inv S) :
    ∃ p cap v', e = .returned (.slice p (S.op.filter f).length cap) ∧ Owns B b T rest v' { S with op := S.op.filter (fun p => !f p) } w' ∧ Inv { S with op := S.op.filter (fun p => !f p) } ∧ Below B w w' := by
  obtain ⟨vg, v', h1, h2, h3, _, h4⟩ := h.owns ho
  obtain ⟨p, cap, rfl, _⟩ := own_shape h3
  exact ⟨p, cap, v', h1, h2, hI.filter _, h4⟩

theorem far_left {S : Lg} {p : Pk} (ht : p.time ≤ 1099511627776) (h : (!lostP S.bi S.bn 0 1125899906842624 p) = true) : farF S.bi S.bn p.num = false := by
  unfold lostP at h
  cases hf : farF S.bi S.bn p.num with
  | false => rfl
  | true => rw [hf] at h; simp at h

theorem none_behind {S : Lg} {now wait : Nat} (h : S.op.any (fun q => behindF S.bi S.bn q.num) = false) : (S.op.filter (lostP S.bi S.bn now wait)).length = 0 := by
  rw [List.any_eq_false] at h
  rw [List.length_eq_zero_iff, List.filter_eq_nil_iff]
  intro p hp
  have hb : behindF S.bi S.bn p.num = false := by simpa using h p hp
  unfold lostP farF
  rw [hb]
  simp

theorem minT_le (bi : Bool) (bn : Nat) : ∀ (l : List Pk) (a : Nat), minT bi bn a l ≤ a ∧ ∀ q ∈ l, behindF bi bn q.num = true → minT bi bn a l ≤ q.time
  | [], a => ⟨Nat.le_refl _, fun q hq => by simp at hq⟩
  | p :: l, a => by
    have e : minT bi bn a (p :: l) = minT bi bn (if behindF bi bn p.num then min a p.time else a) l := rfl
    rw [e]
    obtain ⟨h1, h2⟩ := minT_le bi bn l (if behindF bi bn p.num then min a p.time else a)
    refine ⟨Nat.le_trans h1 (by split <;> omega), fun q hq hb => ?_⟩
    rcases List.mem_cons.1 hq with rfl | hq
    · rw [if_pos hb] at h1 ⊢
      omega
    · exact h2 q hq hb

theorem minT_has (bi : Bool) (bn : Nat) : ∀ (l : List Pk) (a : Nat), minT bi bn a l = a ∨ ∃ q ∈ l, behindF bi bn q.num = true ∧ minT bi bn a l = q.time
  | [], a => .inl rfl
  | p :: l, a => by
    have e : minT bi bn a (p :: l) = minT bi bn (if behindF bi bn p.num then min a p.time else a) l := rfl
    rw [e]
    rcases minT_has bi bn l (if behindF bi bn p.num then min a p.time else a) with h | ⟨q, hq, hb, h⟩
    · rw [h]
      cases hb : behindF bi bn p.num with
      | false => exact .inl rfl
      | true =>
        rw [if_pos rfl]
        rcases Nat.le_total a p.time with h1 | h1
        · exact .inl (Nat.min_eq_left h1)
        · exact .inr ⟨p, by simp, hb, Nat.min_eq_right h1⟩
    · exact .inr ⟨q, by simp [hq], hb, h⟩

theorem min_facts {S : Lg} {q : Pk} {fst : Nat} (hI : Inv S) (hq : S.op.find? (fun q => behindF S.bi S.bn q.num) = some q) (hf : minT S.bi S.bn q.time S.op = fst) :
    fst ≤ 1099511627776 ∧ (∀ p ∈ S.op, behindF S.bi S.bn p.num = true → fst ≤ p.time) ∧ ∃ p ∈ S.op, behindF S.bi S.bn p.num = true ∧ p.time = fst := by
  have hb := List.find?_some hq
  have hm := List.mem_of_find?_eq_some hq
  obtain ⟨h1, h2⟩ := minT_le S.bi S.bn S.op q.time
  rw [hf] at h1 h2
  refine ⟨Nat.le_trans h1 (hI.le q hm).2.1, h2, ?_⟩
  rcases minT_has S.bi S.bn S.op q.time with h | ⟨p, hp, hbp, h⟩
  · rw [hf] at h
    exact ⟨q, hm, hb, h.symm⟩
  · rw [hf] at h
    exact ⟨p, hp, hbp, h.symm⟩

theorem some_due {S : Lg} {fst wt due : Nat} (hI : Inv S) (h : ∃ p ∈ S.op, behindF S.bi S.bn p.num = true ∧ p.time = fst) (hd : fst + wt = due) : 0 < (S.op.filter (lostP S.bi S.bn due wt)).length := by
  obtain ⟨p, hp, hb, ht⟩ := h
  apply List.length_pos_of_mem (a := p)
  rw [List.mem_filter]
  refine ⟨hp, ?_⟩
  unfold lostP
  have d1 : decide (p.time ≤ due) = true := by rw [decide_eq_true_iff]; omega
  have d2 : decide (wt ≤ due - p.time) = true := by rw [decide_eq_true_iff]; omega
  rw [hb, d1, d2]
  simp

theorem none_due {S : Lg} {fst wt d : Nat} (hf : ∀ p ∈ S.op, farF S.bi S.bn p.num = false) (hm : ∀ p ∈ S.op, behindF S.bi S.bn p.num = true → fst ≤ p.time) (hd : d < fst + wt) :
    (S.op.filter (lostP S.bi S.bn d wt)).length = 0 ∧ ({ S with op := S.op.filter (fun p => !lostP S.bi S.bn d wt p) } : Lg) = S := by
  have key : ∀ p ∈ S.op, lostP S.bi S.bn d wt p = false := by
    intro p hp
    unfold lostP
    rw [hf p hp, Bool.false_or]
    cases hb : behindF S.bi S.bn p.num with
    | false => rfl
    | true =>
      have := hm p hp hb
      by_cases h1 : p.time ≤ d
      · have d2 : decide (wt ≤ d - p.time) = false := by rw [decide_eq_false_iff_not]; omega
        rw [d2, Bool.and_false]
      · have d1 : decide (p.time ≤ d) = false := by rw [decide_eq_false_iff_not]; exact h1
        rw [d1]
        rfl
  constructor
  · rw [List.length_eq_zero_iff, List.filter_eq_nil_iff]
    intro p hp
    rw [key p hp]
    exact Bool.false_ne_true
  · have : S.op.filter (fun p => !lostP S.bi S.bn d wt p) = S.op := by
      rw [List.filter_eq_self]
      intro p hp
      rw [key p hp]
      rfl
    rw [this]

set_option maxRecDepth 100000 in
set_option maxHeartbeats 8000000 in
theorem lossDue_walk (p : Option Addr) (cap : Nat) (xs : List Act1) (wait : Nat) (w : World) (hA : ActsAt w p xs) (hl : xs.length ≤ maxLen) (hwait : wait < 2 ^ 64) :
    Calls Try.prog 5 #[.slice p xs.length cap, .int .u64 (wait : Int)] w fun e w' => e = .returned (.bool true) ∧ Below w.heap.size w w' := by
  obtain ⟨wt, hwt⟩ : ∃ x, wait % 1099511627776 = x := ⟨_, rfl⟩
  have hwtb : wt < 1099511627776 := by rw [← hwt]; exact Nat.mod_lt _ (by decide)
  have hwti : (wait : Int) % 1099511627776 = (wt : Int) := by rw [← hwt]; omega
  clear hwt
  obtain ⟨N, hN⟩ : ∃ N, xs.length = N := ⟨_, rfl⟩
  rw [hN] at hl ⊢
  unfold maxLen at hl
  have HN := Lib.hid hN
  have HA := Lib.hid hA
  clear hN hA
  go_enter Try.func5, Try.ntmps5
  go_wp2_with fail
  refine (awake_any _).mono ?_
  rintro e w0 ⟨rfl, hb0⟩
  have h0 := Owns.start w0
  obtain ⟨w1, hw1⟩ : ∃ w1, w0.alloc (.cells #[.slice none 0 0, .int .u64 0, .bool false, .int .u64 0, .bool false] 29) = w1 := ⟨_, rfl⟩
  have hb1 : Below w0.heap.size w0 w1 := by rw [← hw1]; exact (Below.refl _ _).alloc (Nat.le_refl _) _
  obtain ⟨B, hB⟩ : ∃ B, w0.heap.size = B := ⟨_, rfl⟩
  rw [hw1, hB] at h0
  rw [hB] at hb1
  have hBl : w.heap.size ≤ B := by rw [← hB]; exact hb0.size
  have H0 := Lib.hid h0
  have Hb0 := Lib.hid hb0
  have Hb1 := Lib.hid hb1
  clear h0 hb0 hb1
  go_wp2_with fail
  rw [hwti]
  clear hwti
  go_loopg [6] N (fun gk i wr => ∃ j : Nat, ∃ S : Lg, ∃ v : Value, j ≤ N ∧ N - j ≤ gk ∧ i = .int .i64 j ∧ Inv S ∧ Owns B B 29 [] v S wr ∧ Below B w0 wr)
  case atStart => exact ⟨0, S0, _, by omega, by omega, rfl, Inv.start, H0.out, Hb1.out⟩
  case round =>
    obtain ⟨j, S, v, hj, hgk, rfl, hI, hO, hbw⟩ := hrel
    have HO := Lib.hid hO
    have Hbw := Lib.hid hbw
    have HI := Lib.hid hI
    clear hO hbw hI
    by_cases hlt : j < N
    · by_cases h200 : j < 200
      · have hjl : j < xs.length := by rw [HN.out]; exact hlt
        obtain ⟨a, ha⟩ : ∃ a, xs[j] = a := ⟨_, rfl⟩
        have ha2 : xs[j]? = some a := by rw [List.getElem?_eq_getElem hjl, ha]
        obtain ⟨g, o, rfl, hg, hc⟩ := HA.out (by omega)
        have hbB : Below w.heap.size w wr := Hb0.out.trans (Hbw.out.mono hBl)
        have hact := (hc j a ha2).below hg hbB rfl
        have hrb : ∀ x, a.lp = some x → a.rs.length ≤ 100 → 0 < a.rs.length → x.block ≠ B := by
          intro x hx h1 h2
          obtain ⟨g2, o2, e2, hg2, _⟩ := (hc j a ha2).rg h2
          rw [hx] at e2
          injection e2 with e2
          subst e2
          exact Nat.ne_of_lt (Nat.lt_of_lt_of_le hg2 hBl)
        have Hact := Lib.hid hact
        have Hrb := Lib.hid hrb
        have q0 := hact.c0
        have q1 := hact.c1
        have q2 := hact.c2
        have q3 := hact.c3
        have q4 := hact.c4
        have q5 := hact.c5
        obtain ⟨L, hL⟩ : ∃ L, a.rs.length = L := ⟨_, rfl⟩
        rw [hL] at q5
        have HL := Lib.hid hL
        obtain ⟨K, hK⟩ : ∃ K, a.kind = K := ⟨_, rfl⟩
        rw [hK] at q0
        clear hc ha ha2 hact hrb hL hbB hK
        have hba : Below wr.heap.size wr (wr.alloc (.cells #[.int .i64 K, .int .u64 (a.num : Int), .int .u64 (a.time : Int), .int .u64 (a.size : Int), .bool a.asks, .slice a.lp L a.lcap] 33)) := (Below.refl _ _).alloc (Nat.le_refl _) _
        have hOa := HO.out.next hba
        have HOa := Lib.hid hOa
        have Hba := Lib.hid hba
        clear hOa hba
        by_cases h100 : 100 < L
        · go_wp2_with fail
          go_ret
          exact ⟨rfl, (Hb0.out.trans (Hbw.out.mono hBl)).alloc (Nat.le_trans hBl HO.out.bw) _⟩
        · have d100 : decide ((100 : Int) < (L : Int)) = false := by rw [decide_eq_false_iff_not]; omega
          by_cases k0 : K = 0
          · subst k0
            have hs := Sent_any B B 29 [] v S _ a.num a.time a.size false HOa.out Hact.out.n1 HI.out.lnb HI.out.len1
            have hs' := hs.mono (R' := fun e w' => (∃ c, e = .returned (.int .i64 c)) ∧ GenStep B wr w') (fun e w' ⟨h1, h2⟩ => by
              obtain ⟨v', g1, g2⟩ := h2.owns2 HOa.out
              exact ⟨⟨_, h1⟩, _, v', g1, HI.out.sent _, (Hba.out.mono HO.out.bw).trans g2⟩)
            have HS := Lib.hid hs'
            clear hs hs'
            go_wp2_with fail
            refine HS.out.mono ?_
            rintro e w3 ⟨⟨c, rfl⟩, h2⟩
            have H2 := Lib.hid h2
            clear h2
            obtain ⟨S', v', hO', hI', hb⟩ := H2.out
            have HI' := Lib.hid hI'
            have HO' := Lib.hid hO'
            have Hb' := Lib.hid (Hbw.out.trans hb)
            clear hI' hO' hb
            go_wp2_with fail
            go_roundg (N - (j + 1))
            case measure => omega
            case rel => exact ⟨j + 1, S', v', by omega, by omega, by go_num, HI'.out, HO'.out, Hb'.out⟩
          · have e0 : (K == 0) = false := by rw [beq_eq_false_iff_ne]; exact k0
            by_cases k1 : K = 1
            · subst k1
              have hs := Acked_any B B 29 [] v S _ a.lp a.lcap a.rs HOa.out HI.out.len1 HI.out.bnb HI.out.lnb (Hact.out.rg.below Hba.out) (by rw [HL.out]; omega) (fun h0 x hx => Hrb.out x hx (by rw [HL.out]; omega) h0)
              have hs' := hs.mono (R' := fun e w' => (∃ vg c, e = .returned (.tuple #[vg, .int .i64 c])) ∧ GenStep B wr w') (fun e w' h2 => by
                obtain ⟨vg, c, v', h1, g1, _, _, g2⟩ := h2.owns HOa.out
                exact ⟨⟨_, _, h1⟩, _, v', g1, HI.out.ack _, (Hba.out.mono HO.out.bw).trans g2⟩)
              rw [HL.out] at hs'
              have HS := Lib.hid hs'
              clear hs hs' e0 k0
              go_wp2_with fail
              refine HS.out.mono ?_
              rintro e w3 ⟨⟨vg, c, rfl⟩, h2⟩
              have H2 := Lib.hid h2
              clear h2
              obtain ⟨S', v', hO', hI', hb⟩ := H2.out
              have HI' := Lib.hid hI'
              have HO' := Lib.hid hO'
              have Hb' := Lib.hid (Hbw.out.trans hb)
              clear hI' hO' hb
              go_wp2_with fail
              go_roundg (N - (j + 1))
              case measure => omega
              case rel => exact ⟨j + 1, S', v', by omega, by omega, by go_num, HI'.out, HO'.out, Hb'.out⟩
            · have e1 : (K == 1) = false := by rw [beq_eq_false_iff_ne]; exact k1
              have hs : GenStep B wr _ := ⟨S, v, HOa.out, HI.out, Hba.out.mono HO.out.bw⟩
              have HS := Lib.hid hs
              clear hs k0 k1
              have H2 := HS
              clear HS
              obtain ⟨S', v', hO', hI', hb⟩ := H2.out
              have HI' := Lib.hid hI'
              have HO' := Lib.hid hO'
              have Hb' := Lib.hid (Hbw.out.trans hb)
              clear hI' hO' hb
              go_wp2_with fail
              go_roundg (N - (j + 1))
              case measure => omega
              case rel => exact ⟨j + 1, S', v', by omega, by omega, by go_num, HI'.out, HO'.out, Hb'.out⟩
      · have hI2 := HI.out
        obtain ⟨f1, hf1⟩ : ∃ f, lostP S.bi S.bn 0 1125899906842624 = f := ⟨_, rfl⟩
        have ho1 := Lost_any B B 29 [] v S wr 0 1125899906842624 HO.out hI2.len1 hI2.bnb (by decide)
        rw [hf1] at ho1
        have ho2 := ho1.mono (R' := fun e w' => (∃ p cap n, e = .returned (.slice p n cap)) ∧ ∃ v1, Owns B B 29 [] v1 { S with op := S.op.filter (fun p => !f1 p) } w' ∧ Inv { S with op := S.op.filter (fun p => !f1 p) } ∧ Below B w0 w') (fun e w' h => by
          obtain ⟨p, cap, v', h1, h2, h3, h4⟩ := h.count HO.out hI2
          exact ⟨⟨p, cap, _, h1⟩, v', h2, h3, Hbw.out.trans h4⟩)
        have HT := Lib.hid ho2
        have Hf1 := Lib.hid hf1
        clear ho1 ho2 hI2 hf1
        go_wp2_with fail
        refine HT.out.mono ?_
        rintro e w3 ⟨⟨p3, c3, n3, rfl⟩, v1, hO1, hI1, hb1⟩
        obtain ⟨S1, hS1⟩ : ∃ S1, ({ S with op := S.op.filter (fun p => !f1 p) } : Lg) = S1 := ⟨_, rfl⟩
        have hS1f : ∀ p ∈ S1.op, farF S1.bi S1.bn p.num = false := by
          rw [← hS1, ← Hf1.out]
          intro p hp
          exact far_left (HI.out.le p (List.mem_filter.1 hp).1).2.1 (List.mem_filter.1 hp).2
        rw [hS1] at hO1 hI1
        have HS1f := Lib.hid hS1f
        have HO1 := Lib.hid hO1
        have HI1 := Lib.hid hI1
        have Hb1' := Lib.hid hb1
        have hdu := Due_any B B 29 [] v1 S1 w3 wt hO1 hI1.len1 hI1.bnb
        have HD := Lib.hid hdu
        clear hS1f hO1 hI1 hb1 hdu hS1 HT
        go_wp2_with fail
        refine HD.out.mono ?_
        rintro e w4 ⟨hb4, hd⟩
        have hO4 := HO1.out.next hb4
        have hb4w : Below B w0 w4 := Hb1'.out.trans (hb4.mono HO1.out.bw)
        have HO4 := Lib.hid hO4
        have Hb4 := Lib.hid hb4w
        clear hb4 hO4 hb4w HD
        rcases hd with ⟨hno, rfl⟩ | ⟨q, hq, rfl⟩
        · -- none is behind
          have hlo := (Lost_any B B 29 [] v1 S1 w4 1125899906842624 wt HO4.out HI1.out.len1 HI1.out.bnb (by decide)).mono (R' := fun e w' => (∃ p cap, e = .returned (.slice p 0 cap)) ∧ Below B w0 w') (fun e w' h => by
            obtain ⟨p, cap, v', h1, h2, h3, h4⟩ := h.count HO4.out HI1.out
            rw [none_behind hno] at h1
            exact ⟨⟨p, cap, h1⟩, Hb4.out.trans h4⟩)
          have HL2 := Lib.hid hlo
          clear hlo hno
          go_wp2_with fail
          refine HL2.out.mono ?_
          rintro e w5 ⟨⟨p5, c5, rfl⟩, hb5⟩
          have Hb5 := Lib.hid (Hb0.out.trans (hb5.mono hBl))
          clear hb5
          go_wp2_with fail
          go_ret
          exact ⟨rfl, Hb5.out⟩
        · obtain ⟨fst, hfst⟩ : ∃ x, minT S1.bi S1.bn q.time S1.op = x := ⟨_, rfl⟩
          obtain ⟨hm1, hm2, hm3⟩ := min_facts HI1.out hq hfst
          have hwr : IntKind.u64.wrap ((fst : Int) + (wt : Int)) = ((fst + wt : Nat) : Int) := by rw [IntKind.wrap_u64]; omega
          rw [hfst, hwr]
          obtain ⟨due, hdue⟩ : ∃ x, fst + wt = x := ⟨_, rfl⟩
          rw [hdue]
          have hdb : due < 2 ^ 64 := by omega
          have hlo := fun W (hO : Owns B B 29 [] v1 S1 W) (hb : Below B w0 W) => (Lost_any B B 29 [] v1 S1 W due wt hO HI1.out.len1 HI1.out.bnb hdb).mono (R' := fun e w' => (∃ p n cap, 0 < n ∧ e = .returned (.slice p n cap)) ∧ Below B w0 w') (fun e w' h => by
            obtain ⟨p, cap, v', h1, h2, h3, h4⟩ := h.count hO HI1.out
            exact ⟨⟨p, _, cap, some_due HI1.out hm3 hdue, h1⟩, hb.trans h4⟩)
          by_cases hg : 0 < fst
          · have hg1 : 0 < due := by omega
            have hg2 : wt < due := by omega
            obtain ⟨d1, hd1⟩ : ∃ x, due - 1 = x := ⟨_, rfl⟩
            have hd1i : (due : Int) - 1 = (d1 : Int) := by omega
            have hd1b : d1 < 4398046511104 := by omega
            have hlo1 := (Lost_any B B 29 [] v1 S1 w4 d1 wt HO4.out HI1.out.len1 HI1.out.bnb (by omega)).mono (R' := fun e w' => (∃ p cap, e = .returned (.slice p 0 cap)) ∧ ∃ v2, Owns B B 29 [] v2 S1 w' ∧ Below B w0 w') (fun e w' h => by
              obtain ⟨p, cap, v', h1, h2, h3, h4⟩ := h.count HO4.out HI1.out
              obtain ⟨z1, z2⟩ := none_due HS1f.out hm2 (show d1 < fst + wt by omega)
              rw [z1] at h1
              rw [z2] at h2
              exact ⟨⟨p, cap, h1⟩, v', h2, Hb4.out.trans h4⟩)
            have HL1 := Lib.hid hlo1
            have hlo2 := fun W v2 (hO : Owns B B 29 [] v2 S1 W) (hb : Below B w0 W) => (Lost_any B B 29 [] v2 S1 W due wt hO HI1.out.len1 HI1.out.bnb hdb).mono (R' := fun e w' => (∃ p n cap, 0 < n ∧ e = .returned (.slice p n cap)) ∧ Below B w0 w') (fun e w' h => by
              obtain ⟨p, cap, v', h1, h2, h3, h4⟩ := h.count hO HI1.out
              exact ⟨⟨p, _, cap, some_due HI1.out hm3 hdue, h1⟩, hb.trans h4⟩)
            have HL2 := Lib.hid hlo2
            have d1f : decide ((0 : Int) < (due : Int)) = true := by rw [decide_eq_true_iff]; omega
            have d2f : decide ((wt : Int) < (due : Int)) = true := by rw [decide_eq_true_iff]; omega
            clear hlo hlo1 hlo2 hm1 hm2 hm3 hwr hdue hd1 hdb hfst hq
            go_wp2_with fail
            refine HL1.out.mono ?_
            rintro e w5 ⟨⟨p5, c5, rfl⟩, v2, hO5, hb5⟩
            have HL3 := Lib.hid (HL2.out w5 v2 hO5 hb5)
            clear hO5 hb5
            go_wp2_with fail
            refine HL3.out.mono ?_
            rintro e w6 ⟨⟨p6, n6, c6, hn6, rfl⟩, hb6⟩
            have Hb6 := Lib.hid (Hb0.out.trans (hb6.mono hBl))
            have d6 : decide ((0 : Int) < (n6 : Int)) = true := by rw [decide_eq_true_iff]; omega
            clear hb6
            go_wp2_with fail
            go_ret
            exact ⟨rfl, Hb6.out⟩
          · have hf0 : fst = 0 := by omega
            have hdw : due = wt := by omega
            have HL3 := Lib.hid (hlo w4 HO4.out Hb4.out)
            clear hlo hm1 hm2 hm3 hwr hdb hfst hq hdue
            subst hdw
            have d2f : decide ((due : Int) < (due : Int)) = false := by rw [decide_eq_false_iff_not]; omega
            rcases Nat.eq_zero_or_pos due with hd0 | hd0
            · subst hd0
              go_wp2_with fail
              refine HL3.out.mono ?_
              rintro e w6 ⟨⟨p6, n6, c6, hn6, rfl⟩, hb6⟩
              have Hb6 := Lib.hid (Hb0.out.trans (hb6.mono hBl))
              have d6 : decide ((0 : Int) < (n6 : Int)) = true := by rw [decide_eq_true_iff]; omega
              clear hb6
              go_wp2_with fail
              go_ret
              exact ⟨rfl, Hb6.out⟩
            · have d0f : decide ((0 : Int) < (due : Int)) = true := by rw [decide_eq_true_iff]; omega
              go_wp2_with fail
              refine HL3.out.mono ?_
              rintro e w6 ⟨⟨p6, n6, c6, hn6, rfl⟩, hb6⟩
              have Hb6 := Lib.hid (Hb0.out.trans (hb6.mono hBl))
              have d6 : decide ((0 : Int) < (n6 : Int)) = true := by rw [decide_eq_true_iff]; omega
              clear hb6
              go_wp2_with fail
              go_ret
              exact ⟨rfl, Hb6.out⟩
    · have hI2 := HI.out
      obtain ⟨f1, hf1⟩ : ∃ f, lostP S.bi S.bn 0 1125899906842624 = f := ⟨_, rfl⟩
      have ho1 := Lost_any B B 29 [] v S wr 0 1125899906842624 HO.out hI2.len1 hI2.bnb (by decide)
      rw [hf1] at ho1
      have ho2 := ho1.mono (R' := fun e w' => (∃ p cap n, e = .returned (.slice p n cap)) ∧ ∃ v1, Owns B B 29 [] v1 { S with op := S.op.filter (fun p => !f1 p) } w' ∧ Inv { S with op := S.op.filter (fun p => !f1 p) } ∧ Below B w0 w') (fun e w' h => by
        obtain ⟨p, cap, v', h1, h2, h3, h4⟩ := h.count HO.out hI2
        exact ⟨⟨p, cap, _, h1⟩, v', h2, h3, Hbw.out.trans h4⟩)
      have HT := Lib.hid ho2
      have Hf1 := Lib.hid hf1
      clear ho1 ho2 hI2 hf1
      go_wp2_with fail
      refine HT.out.mono ?_
      rintro e w3 ⟨⟨p3, c3, n3, rfl⟩, v1, hO1, hI1, hb1⟩
      obtain ⟨S1, hS1⟩ : ∃ S1, ({ S with op := S.op.filter (fun p => !f1 p) } : Lg) = S1 := ⟨_, rfl⟩
      have hS1f : ∀ p ∈ S1.op, farF S1.bi S1.bn p.num = false := by
        rw [← hS1, ← Hf1.out]
        intro p hp
        exact far_left (HI.out.le p (List.mem_filter.1 hp).1).2.1 (List.mem_filter.1 hp).2
      rw [hS1] at hO1 hI1
      have HS1f := Lib.hid hS1f
      have HO1 := Lib.hid hO1
      have HI1 := Lib.hid hI1
      have Hb1' := Lib.hid hb1
      have hdu := Due_any B B 29 [] v1 S1 w3 wt hO1 hI1.len1 hI1.bnb
      have HD := Lib.hid hdu
      clear hS1f hO1 hI1 hb1 hdu hS1 HT
      go_wp2_with fail
      refine HD.out.mono ?_
      rintro e w4 ⟨hb4, hd⟩
      have hO4 := HO1.out.next hb4
      have hb4w : Below B w0 w4 := Hb1'.out.trans (hb4.mono HO1.out.bw)
      have HO4 := Lib.hid hO4
      have Hb4 := Lib.hid hb4w
      clear hb4 hO4 hb4w HD
      rcases hd with ⟨hno, rfl⟩ | ⟨q, hq, rfl⟩
      · -- none is behind
        have hlo := (Lost_any B B 29 [] v1 S1 w4 1125899906842624 wt HO4.out HI1.out.len1 HI1.out.bnb (by decide)).mono (R' := fun e w' => (∃ p cap, e = .returned (.slice p 0 cap)) ∧ Below B w0 w') (fun e w' h => by
          obtain ⟨p, cap, v', h1, h2, h3, h4⟩ := h.count HO4.out HI1.out
          rw [none_behind hno] at h1
          exact ⟨⟨p, cap, h1⟩, Hb4.out.trans h4⟩)
        have HL2 := Lib.hid hlo
        clear hlo hno
        go_wp2_with fail
        refine HL2.out.mono ?_
        rintro e w5 ⟨⟨p5, c5, rfl⟩, hb5⟩
        have Hb5 := Lib.hid (Hb0.out.trans (hb5.mono hBl))
        clear hb5
        go_wp2_with fail
        go_ret
        exact ⟨rfl, Hb5.out⟩
      · obtain ⟨fst, hfst⟩ : ∃ x, minT S1.bi S1.bn q.time S1.op = x := ⟨_, rfl⟩
        obtain ⟨hm1, hm2, hm3⟩ := min_facts HI1.out hq hfst
        have hwr : IntKind.u64.wrap ((fst : Int) + (wt : Int)) = ((fst + wt : Nat) : Int) := by rw [IntKind.wrap_u64]; omega
        rw [hfst, hwr]
        obtain ⟨due, hdue⟩ : ∃ x, fst + wt = x := ⟨_, rfl⟩
        rw [hdue]
        have hdb : due < 2 ^ 64 := by omega
        have hlo := fun W (hO : Owns B B 29 [] v1 S1 W) (hb : Below B w0 W) => (Lost_any B B 29 [] v1 S1 W due wt hO HI1.out.len1 HI1.out.bnb hdb).mono (R' := fun e w' => (∃ p n cap, 0 < n ∧ e = .returned (.slice p n cap)) ∧ Below B w0 w') (fun e w' h => by
          obtain ⟨p, cap, v', h1, h2, h3, h4⟩ := h.count hO HI1.out
          exact ⟨⟨p, _, cap, some_due HI1.out hm3 hdue, h1⟩, hb.trans h4⟩)
        by_cases hg : 0 < fst
        · have hg1 : 0 < due := by omega
          have hg2 : wt < due := by omega
          obtain ⟨d1, hd1⟩ : ∃ x, due - 1 = x := ⟨_, rfl⟩
          have hd1i : (due : Int) - 1 = (d1 : Int) := by omega
          have hd1b : d1 < 4398046511104 := by omega
          have hlo1 := (Lost_any B B 29 [] v1 S1 w4 d1 wt HO4.out HI1.out.len1 HI1.out.bnb (by omega)).mono (R' := fun e w' => (∃ p cap, e = .returned (.slice p 0 cap)) ∧ ∃ v2, Owns B B 29 [] v2 S1 w' ∧ Below B w0 w') (fun e w' h => by
            obtain ⟨p, cap, v', h1, h2, h3, h4⟩ := h.count HO4.out HI1.out
            obtain ⟨z1, z2⟩ := none_due HS1f.out hm2 (show d1 < fst + wt by omega)
            rw [z1] at h1
            rw [z2] at h2
            exact ⟨⟨p, cap, h1⟩, v', h2, Hb4.out.trans h4⟩)
          have HL1 := Lib.hid hlo1
          have hlo2 := fun W v2 (hO : Owns B B 29 [] v2 S1 W) (hb : Below B w0 W) => (Lost_any B B 29 [] v2 S1 W due wt hO HI1.out.len1 HI1.out.bnb hdb).mono (R' := fun e w' => (∃ p n cap, 0 < n ∧ e = .returned (.slice p n cap)) ∧ Below B w0 w') (fun e w' h => by
            obtain ⟨p, cap, v', h1, h2, h3, h4⟩ := h.count hO HI1.out
            exact ⟨⟨p, _, cap, some_due HI1.out hm3 hdue, h1⟩, hb.trans h4⟩)
          have HL2 := Lib.hid hlo2
          have d1f : decide ((0 : Int) < (due : Int)) = true := by rw [decide_eq_true_iff]; omega
          have d2f : decide ((wt : Int) < (due : Int)) = true := by rw [decide_eq_true_iff]; omega
          clear hlo hlo1 hlo2 hm1 hm2 hm3 hwr hdue hd1 hdb hfst hq
          go_wp2_with fail
          refine HL1.out.mono ?_
          rintro e w5 ⟨⟨p5, c5, rfl⟩, v2, hO5, hb5⟩
          have HL3 := Lib.hid (HL2.out w5 v2 hO5 hb5)
          clear hO5 hb5
          go_wp2_with fail
          refine HL3.out.mono ?_
          rintro e w6 ⟨⟨p6, n6, c6, hn6, rfl⟩, hb6⟩
          have Hb6 := Lib.hid (Hb0.out.trans (hb6.mono hBl))
          have d6 : decide ((0 : Int) < (n6 : Int)) = true := by rw [decide_eq_true_iff]; omega
          clear hb6
          go_wp2_with fail
          go_ret
          exact ⟨rfl, Hb6.out⟩
        · have hf0 : fst = 0 := by omega
          have hdw : due = wt := by omega
          have HL3 := Lib.hid (hlo w4 HO4.out Hb4.out)
          clear hlo hm1 hm2 hm3 hwr hdb hfst hq hdue
          subst hdw
          have d2f : decide ((due : Int) < (due : Int)) = false := by rw [decide_eq_false_iff_not]; omega
          rcases Nat.eq_zero_or_pos due with hd0 | hd0
          · subst hd0
            go_wp2_with fail
            refine HL3.out.mono ?_
            rintro e w6 ⟨⟨p6, n6, c6, hn6, rfl⟩, hb6⟩
            have Hb6 := Lib.hid (Hb0.out.trans (hb6.mono hBl))
            have d6 : decide ((0 : Int) < (n6 : Int)) = true := by rw [decide_eq_true_iff]; omega
            clear hb6
            go_wp2_with fail
            go_ret
            exact ⟨rfl, Hb6.out⟩
          · have d0f : decide ((0 : Int) < (due : Int)) = true := by rw [decide_eq_true_iff]; omega
            go_wp2_with fail
            refine HL3.out.mono ?_
            rintro e w6 ⟨⟨p6, n6, c6, hn6, rfl⟩, hb6⟩
            have Hb6 := Lib.hid (Hb0.out.trans (hb6.mono hBl))
            have d6 : decide ((0 : Int) < (n6 : Int)) = true := by rw [decide_eq_true_iff]; omega
            clear hb6
            go_wp2_with fail
            go_ret
            exact ⟨rfl, Hb6.out⟩

/-- The same, of any integer that fits. -/
theorem lossDue_walk2 (p : Option Addr) (cap : Nat) (xs : List Act1) (x : Int) (w : World) (hA : ActsAt w p xs) (hl : xs.length ≤ maxLen) (hx : (Lit.int .u64 x).wf = true) :
    Calls Try.prog 5 #[.slice p xs.length cap, .int .u64 x] w fun e w' => e = .returned (.bool true) ∧ Below w.heap.size w w' := by
  obtain ⟨n, rfl, hn⟩ := nat_of_u64 hx
  exact lossDue_walk p cap xs n w hA hl hn

end Go.Proofs.Ytaoeamkkbopioaa
