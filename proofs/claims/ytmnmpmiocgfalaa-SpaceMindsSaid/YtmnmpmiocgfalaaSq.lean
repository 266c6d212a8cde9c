/- space: the walk of SpaceMinds. -/
import Derived.Test.YtmnmpmiocgfalaaSp
namespace Go.Proofs.Ytmnmpmiocgfalaa
open Go.ChangeShapes Go.WideShapes Go.RowKit
set_option linter.unusedVariables false
set_option linter.unusedSimpArgs false

/-- What stands while packets are laid down. -/
def MindW (w : World) (b : Nat) (X : List Bool) (j : Nat) (y : World) : Prop := ∃ v u s, MindL X j s ∧ SpIs b b v u s y ∧ Below w.heap.size w y
theorem MindW.next {w : World} {b : Nat} {X : List Bool} {j : Nat} {y z : World} (h : MindW w b X j y) (hb : Below y.heap.size y z) : MindW w b X j z := by
  obtain ⟨v, u, s, h1, h2, h3⟩ := h
  exact ⟨v, u, s, h1, h2.next hb, h3.trans (hb.mono h3.size)⟩
theorem MindW.sent {w : World} {b : Nat} {X : List Bool} {j P : Nat} {x : Bool} {y : World} (hwb : w.heap.size ≤ b) (h : MindW w b X j y) (hx : X[j]? = some x) (hj : j < 100) (hp : blk y P 43 (kindF x).vals) :
    Calls Try.prog 16 #[.pointer (some ⟨b, 0, none⟩), .int .u64 (j : Int), .int .u64 10, .slice (some ⟨P, 0, none⟩) 1 1] y fun e z => e = .returned (.tuple #[.int .u64 (j : Int), .int .i64 0]) ∧ MindW w b X (j + 1) z := by
  obtain ⟨v, u, s, h1, h2, h3⟩ := h
  refine (minds_sent h2 h1 hx hj hp).mono ?_
  rintro e z ⟨rfl, v', s', h4, h5⟩
  exact ⟨rfl, v', u, s', h4, h5.is, h3.trans ((h5.below h2).mono hwb)⟩
theorem MindW.fly {w : World} {b : Nat} {X : List Bool} {j : Nat} {y : World} (h : MindW w b X j y) :
    Calls Try.prog 18 #[.pointer (some ⟨b, 0, none⟩)] y fun e z => e = .returned (.int .u64 (10 * (cntB X j : Int))) ∧ MindW w b X j z := by
  have hh := h
  obtain ⟨v, u, s, h1, h2, h3⟩ := h
  refine (minds_fly h2 h1).mono ?_
  rintro e z ⟨rfl, h4⟩
  exact ⟨rfl, hh.next h4⟩
theorem MindW.num {w : World} {b : Nat} {X : List Bool} {j : Nat} {y : World} (h : MindW w b X j y) :
    Calls Try.prog 19 #[.pointer (some ⟨b, 0, none⟩)] y fun e z => e = .returned (.int .u64 (j : Int)) ∧ y = z := by
  obtain ⟨v, u, s, h1, h2, h3⟩ := h
  have := Num_any h2
  rw [h1.next] at this
  exact this
theorem MindW.sent2 {w : World} {b : Nat} {X : List Bool} {j : Nat} {x : Bool} {y : World} (hwb : w.heap.size ≤ b) (h : MindW w b X j y) (hx : X[j]? = some x) (hj : j < 100) (C : Array Value) (hC : C = (kindF x).vals.toArray) :
    Calls Try.prog 16 #[.pointer (some ⟨b, 0, none⟩), .int .u64 (j : Int), .int .u64 10, .slice (some ⟨y.heap.size + 1, 0, none⟩) 1 1] ((y.alloc (.cells C 43)).alloc (.cells C 43)) fun e z => e = .returned (.tuple #[.int .u64 (j : Int), .int .i64 0]) ∧ MindW w b X (j + 1) z := by
  subst hC
  refine MindW.sent hwb ((h.next ((Below.refl _ _).alloc (Nat.le_refl _) _)).next ((Below.refl _ _).alloc (Nat.le_refl _) _)) hx hj ?_
  have := blk.new (y.alloc (.cells (kindF x).vals.toArray 43)) 43 (kindF x).vals
  simpa using this
/-- Take, at the end. -/
theorem MindW.take {w : World} {b : Nat} {X : List Bool} {j g q : Nat} {y : World} (hwb : w.heap.size ≤ b) (h : MindW w b X j y) (hj : j = q + 1) (hg : blk (y.alloc (.cells #[.int .u64 0, .int .u64 (q : Int)] 47)) g 47 [.int .u64 0, .int .u64 (q : Int)]) (hgy : y.heap.size ≤ g) :
    Calls Try.prog 17 #[.pointer (some ⟨b, 0, none⟩), .agg #[.int .u64 2, .int .u64 0, .int .u64 0, .int .u64 0, .bool false, .string ⟨#[]⟩, .string ⟨#[]⟩, .slice (some ⟨g, 0, none⟩) 1 1], .int .u64 500] (y.alloc (.cells #[.int .u64 0, .int .u64 (q : Int)] 47)) fun e z =>
      ∃ pg cg t is, ∃ l : List Pk, l.length = cntB X j ∧ (∀ p ∈ l, p.asks = true ∧ p.num < j ∧ X[p.num]? = some true) ∧ e = .returned (.tuple #[.slice pg (cntB X j) cg, .int .u64 t, .bool is, .int .i64 0]) ∧ (∃ B, z.ownsRow B 57 5 (.slice pg (cntB X j) cg) (cntB X j) (pks l)) ∧
        Below w.heap.size w z ∧ ∃ v u s, s.L.op = [] ∧ SpIs b b v u s z := by
  obtain ⟨v, u, s, h1, h2, h3⟩ := h
  have hb1 : Below y.heap.size y (y.alloc (.cells #[.int .u64 0, .int .u64 (q : Int)] 47)) := (Below.refl _ _).alloc (Nat.le_refl _) _
  have hr : RgAt (y.alloc (.cells #[.int .u64 0, .int .u64 (q : Int)] 47)) (some ⟨g, 0, none⟩) [(0, q)] := by
    intro _
    refine ⟨g, 0, rfl, hg.lt, fun i r hr => ?_⟩
    have hi : i = 0 := by
      have := (List.getElem?_eq_some_iff.1 hr).1
      simp at this
      omega
    subst hi
    simp at hr
    subst hr
    exact ⟨hg.cell rfl, hg.cell rfl⟩
  obtain ⟨e1, e2, e3⟩ := h1.ack (by omega)
  rw [show j - 1 = q by omega] at e1 e2 e3
  refine (Take_sp b b v u s _ ⟨2, 0, 0, 0, false, ⟨#[]⟩, ⟨#[]⟩, some ⟨g, 0, none⟩, [(0, q)], 1⟩ 500 (h2.next hb1) hr (show 1 ≤ 1000 by decide) ?_ (by decide)).mono ?_
  · intro _ a ha
    injection ha with ha
    subst ha
    rintro (e | e | e)
    · have := h2.lt
      have e : g = b := e
      omega
    · exact absurd (Nat.lt_of_lt_of_le (h2.led.own.lt _ e).2 hgy) (Nat.lt_irrefl _)
    · exact absurd (Nat.lt_of_lt_of_le (h2.set.lt _ e).2 hgy) (Nat.lt_irrefl _)
  · rintro e z (⟨h0, -⟩ | ⟨-, h0, -⟩ | ⟨-, -, pg, cg, v', h6, h7, h8, -⟩)
    · exact absurd (.inl rfl) h0
    · exact absurd e1 h0
    · rw [e2] at h6 h7
      rw [h1.many] at h6 h7
      exact ⟨pg, cg, _, _, s.L.op, h1.many, fun p hp => (h1.all p hp).2, h6, ⟨_, h7⟩, (h3.trans (hb1.mono h3.size)).trans ((h8.below (h2.next hb1)).mono hwb), v', u, _, e3, h8.is⟩

set_option maxRecDepth 100000 in
set_option maxHeartbeats 8000000 in
theorem minds_walk (p : Option Addr) (cap : Nat) (X : List Bool) (w : World) (hX : BoolsAt w p X) (hl : X.length ≤ maxLen) :
    Calls Try.prog 5 #[.slice p X.length cap] w fun e w' => e = .returned (.bool true) ∧ Below w.heap.size w w' := by
  unfold maxLen at hl
  have HX := Lib.hid hX
  obtain ⟨N, hN⟩ : ∃ N, X.length = N := ⟨_, rfl⟩
  rw [hN] at hl ⊢
  have HN := Lib.hid hN
  clear hX hN
  go_enter Try.func5, Try.ntmps5
  go_wp2_with fail
  refine (awake_ok w).mono ?_
  rintro e w1 ⟨rfl, hb1⟩
  have HB1 := Lib.hid hb1
  have M0 : Hid (MindW w w1.heap.size X 0 (w1.alloc (.cells #[.slice none 0 0, .int .u64 0, .bool false, .int .u64 0, .bool false, .int .u64 0, .slice none 0 0, .int .u64 0, .bool false] 34))) := Lib.hid ⟨_, _, _, MindL.start X, SpIs.start w1, hb1.alloc hb1.size _⟩
  obtain ⟨b, hb⟩ : ∃ b, w1.heap.size = b := ⟨_, rfl⟩
  have hwb : w.heap.size ≤ b := by rw [← hb]; exact hb1.size
  rw [hb] at M0
  clear hb1
  go_wp2_with fail
  clear hb
  go_loopw [4, 5, 6, 7, 8, 36] (fun many i _ _ _ _ wr => ∃ j : Nat, j ≤ N ∧ j ≤ 100 ∧ i = .int .i64 j ∧ many = .int .i64 (cntB X j : Int) ∧ MindW w b X j wr) (fun _ i _ _ _ _ _ => 100 - (intOf i).toNat)
  case atStart => exact ⟨0, by omega, by omega, rfl, rfl, M0.out⟩
  case round =>
    obtain ⟨j, hj, hj1, rfl, rfl, hM⟩ := hrel
    have hcl := cntB_le X j
    obtain ⟨m, hm⟩ : ∃ m, cntB X j = m := ⟨_, rfl⟩
    by_cases hlt : j < N ∧ j < 100
    · obtain ⟨hlt, hlt2⟩ := hlt
      have hjl : j < X.length := by rw [HN.out]; exact hlt
      obtain ⟨x, hx⟩ : ∃ x, X[j]? = some x := ⟨_, List.getElem?_eq_getElem hjl⟩
      obtain ⟨g, o, rfl, hg, hc⟩ := HX.out (by omega)
      have hbw : Below w.heap.size w wr := by obtain ⟨_, _, _, _, _, h⟩ := hM; exact h
      have c0 := (hbw.cell (p := ⟨g, o + j, none⟩) hg).trans (hc j x hx)
      have hgl : g < wr.heap.size := Nat.lt_of_lt_of_le hg hbw.size
      have hcs := cntB_succ hx
      rw [hm] at hcs hcl ⊢
      have Hx := Lib.hid hx
      have HM := Lib.hid hM
      have HCS := Lib.hid hcs
      clear hc hx hjl hbw hM hcs hm
      cases x
      · go_wp2_with fail
        refine (HM.out.sent2 hwb Hx.out hlt2 _ rfl).mono ?_
        rintro e w2 ⟨rfl, h2⟩
        have HF := h2.fly
        rw [show cntB X (j + 1) = m from HCS.out] at HF
        have HF := Lib.hid HF
        clear h2 HM
        go_wp2_with fail
        refine HF.out.mono ?_
        rintro e w3 ⟨rfl, h3⟩
        have H3 := Lib.hid h3
        clear h3 HF
        go_wp2_with fail
        go_roundw
        case rel => exact ⟨j + 1, by omega, by omega, by go_num, by rw [show cntB X (j + 1) = m from HCS.out], H3.out⟩
        case measure => simp [intOf]; omega
      · go_wp2_with fail
        refine (HM.out.sent2 hwb Hx.out hlt2 _ rfl).mono ?_
        rintro e w2 ⟨rfl, h2⟩
        have HF := h2.fly
        rw [show cntB X (j + 1) = m + 1 from HCS.out, show ((m + 1 : Nat) : Int) = (m : Int) + 1 by omega] at HF
        have HF := Lib.hid HF
        clear h2 HM
        go_wp2_with fail
        refine HF.out.mono ?_
        rintro e w3 ⟨rfl, h3⟩
        have H3 := Lib.hid h3
        clear h3 HF
        go_wp2_with fail
        go_roundw
        case rel => exact ⟨j + 1, by omega, by omega, by go_num, by rw [show cntB X (j + 1) = m + 1 from HCS.out]; go_num, H3.out⟩
        case measure => simp [intOf]; omega
    · have hend : ¬ (j : Int) < (N : Int) ∨ ((j : Int) < (N : Int) ∧ ¬ (j : Int) < 100) := by omega
      have hm0 : j = 0 → m = 0 := by omega
      rw [hm] at hcl ⊢
      have HMM := Lib.hid hm
      have HM0 := Lib.hid hm0
      have HMW := Lib.hid hM
      have hNm := HMW.out.num
      have HNM := Lib.hid hNm
      clear hM hm hm0 hlt hNm
      rcases hend with hend | ⟨hend, hend2⟩
      all_goals
        go_wp2_with fail
        refine HNM.out.mono ?_
        rintro e w2 ⟨rfl, h2⟩
        subst h2
        cases j with
        | zero =>
          obtain rfl : m = 0 := HM0.out rfl
          go_wp2_with fail
          go_ret
          exact ⟨rfl, by obtain ⟨_, _, _, _, _, h⟩ := HMW.out; exact h⟩
        | succ q =>
          have HTK := Lib.hid (HMW.out.take (g := wr.heap.size) hwb rfl (blk.new wr 47 [.int .u64 0, .int .u64 (q : Int)]) (Nat.le_refl _))
          rw [show cntB X (q + 1) = m from HMM.out] at HTK
          go_wp2_with fail
          refine HTK.out.mono ?_
          rintro e w3 ⟨pg, cg, t, is, l, hll, hal, rfl, ⟨B2, ho⟩, hb3, v, u, s, hop, hsp⟩
          have HFl := Flying_any b b _ _ v s.L w3 hsp.led hsp.inv.len1 (fun q hq => (hsp.inv.le q hq).2.2)
          rw [show flyF s.L.op = 0 by rw [hop]; rfl] at HFl
          have HFL := Lib.hid HFl
          have HLL := Lib.hid hll
          have HAL := Lib.hid hal
          have HO := Lib.hid ho
          have HB3 := Lib.hid hb3
          clear HFl hll hal ho hb3 hop hsp HTK HNM HMW HMM HM0
          go_wp2_with fail
          refine HFL.out.mono ?_
          rintro e w4 ⟨rfl, hb4⟩
          have HO4 := Lib.hid (own_below HO.out hb4)
          have HB4 := Lib.hid (HB3.out.trans (hb4.mono HB3.out.size))
          clear hb4 HFL HO HB3
          go_wp2_with fail
          go_loopw [15, 91] (fun _ i y => ∃ k : Nat, k ≤ m ∧ i = .int .i64 k ∧ Below w4.heap.size w4 y) (fun _ i _ => m - (intOf i).toNat)
          case atStart => exact ⟨0, by omega, rfl, Below.refl _ _⟩
          case round =>
            obtain ⟨k, hk, rfl, hbk⟩ := hrel
            by_cases hkl : k < m
            · obtain ⟨pk, hpk⟩ : ∃ pk, l[k]? = some pk := ⟨_, List.getElem?_eq_getElem (by rw [HLL.out]; exact hkl)⟩
              obtain ⟨gp, cap1, hpe, -, hgp, c0, c1, c2, c3, c4⟩ := pk_cells (own_below HO4.out hbk) k pk hpk
              injection hpe with hpe hpe2 hpe3
              obtain ⟨a1, a2, a3⟩ := HAL.out pk (List.mem_of_getElem? hpk)
              obtain ⟨g, o, rfl, hg, hc⟩ := HX.out (by rw [HN.out]; omega)
              have d0 := ((HB4.out.trans (hbk.mono HB4.out.size)).cell (p := ⟨g, o + pk.num, none⟩) hg).trans (hc _ _ a3)
              have hnl : pk.num < N := by rw [← HN.out]; exact (List.getElem?_eq_some_iff.1 a3).1
              have hgy : g < wr.heap.size := by have := HB4.out.size; have := hbk.size; omega
              have HBK := Lib.hid (hbk.alloc hbk.size (.cells #[.int .u64 (pk.num : Int), .int .u64 (pk.time : Int), .int .u64 (pk.size : Int), .bool pk.asks, .slice pk.fa pk.fl pk.fc] 57))
              rw [a1] at c3 HBK
              subst hpe
              clear hpk hpe2 hpe3 a1 a3 hc hbk
              go_wp2_with fail
              go_roundw
              case rel => exact ⟨k + 1, by omega, by go_num, HBK.out⟩
              case measure => simp [intOf]; omega
            · obtain rfl : k = m := by omega
              have HBK := Lib.hid (HB4.out.trans (hbk.mono HB4.out.size))
              clear hbk
              go_wp2_with fail
              go_ret
              exact ⟨rfl, HBK.out⟩

end Go.Proofs.Ytmnmpmiocgfalaa
