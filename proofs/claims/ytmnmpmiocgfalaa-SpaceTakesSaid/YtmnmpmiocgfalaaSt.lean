/- space: the walk of SpaceTakes. -/
import Derived.Test.YtmnmpmiocgfalaaSs
namespace Go.Proofs.Ytmnmpmiocgfalaa
open Go.ChangeShapes Go.WideShapes Go.RowKit
set_option linter.unusedVariables false
set_option linter.unusedSimpArgs false

theorem TakW.start {w w1 : World} (X : List Bool) (hb : Below w.heap.size w w1) (z : Array Value) (hz : z = #[.slice none 0 0, .int .u64 0, .bool false, .int .u64 0, .bool false, .int .u64 0, .slice none 0 0, .int .u64 0, .bool false]) :
    TakW w w1.heap.size (w1.heap.size + 1) (w1.heap.size + 2) X 0 (((w1.alloc (.cells z 34)).alloc (.cells z 34)).alloc (.cells #[.int .u64 1, .int .u64 0, .int .u64 0, .int .u64 0, .bool false, .string ⟨#[]⟩, .string ⟨#[]⟩, .slice none 0 0] 43)) := by
  subst hz
  have h1 := SpIs.start w1
  have b1 : Below w.heap.size w _ := hb.alloc hb.size (.cells #[.slice none 0 0, .int .u64 0, .bool false, .int .u64 0, .bool false, .int .u64 0, .slice none 0 0, .int .u64 0, .bool false] 34)
  generalize hw2 : w1.alloc (.cells #[.slice none 0 0, .int .u64 0, .bool false, .int .u64 0, .bool false, .int .u64 0, .slice none 0 0, .int .u64 0, .bool false] 34) = w2 at *
  have s2 : w2.heap.size = w1.heap.size + 1 := by rw [← hw2]; simp
  have h2 := SpIs.start w2
  have b2 : Below w.heap.size w _ := b1.alloc b1.size (.cells #[.slice none 0 0, .int .u64 0, .bool false, .int .u64 0, .bool false, .int .u64 0, .slice none 0 0, .int .u64 0, .bool false] 34)
  have h1b := h1.next ((Below.refl w2.heap.size w2).alloc (Nat.le_refl _) (.cells #[.slice none 0 0, .int .u64 0, .bool false, .int .u64 0, .bool false, .int .u64 0, .slice none 0 0, .int .u64 0, .bool false] 34))
  generalize hw3 : w2.alloc (.cells #[.slice none 0 0, .int .u64 0, .bool false, .int .u64 0, .bool false, .int .u64 0, .slice none 0 0, .int .u64 0, .bool false] 34) = w3 at *
  have s3 : w3.heap.size = w1.heap.size + 2 := by rw [← hw3]; simp; omega
  have hn := (Below.refl w3.heap.size w3).alloc (Nat.le_refl _) (.cells #[.int .u64 1, .int .u64 0, .int .u64 0, .int .u64 0, .bool false, .string ⟨#[]⟩, .string ⟨#[]⟩, .slice none 0 0] 43)
  rw [s2] at h2
  have hp := blk.new w3 43 pingF.vals
  rw [s3] at hp
  exact ⟨_, _, _, _, AllL.start, ArrL.start X, h1b.next hn, h2.next hn, by omega, hp, b2.alloc b2.size _, hb.size, by have := hb.size; omega⟩

set_option maxRecDepth 100000 in
set_option maxHeartbeats 8000000 in
theorem takes_walk (p : Option Addr) (cap : Nat) (X : List Bool) (w : World) (hX : BoolsAt w p X) (hl : X.length ≤ maxLen) :
    Calls Try.prog 4 #[.slice p X.length cap] w fun e w' => e = .returned (.bool true) ∧ Below w.heap.size w w' := by
  unfold maxLen at hl
  have HX := Lib.hid hX
  obtain ⟨N, hN⟩ : ∃ N, X.length = N := ⟨_, rfl⟩
  rw [hN] at hl ⊢
  have HN := Lib.hid hN
  clear hX hN
  go_enter Try.func4, Try.ntmps4
  go_wp2_with fail
  refine (awake_ok w).mono ?_
  rintro e w1 ⟨rfl, hb1⟩
  have M0 := Lib.hid (TakW.start X hb1 _ rfl)
  obtain ⟨a, ha⟩ : ∃ a, w1.heap.size = a := ⟨_, rfl⟩
  rw [ha] at M0
  clear hb1
  go_wp2_with fail
  clear ha
  go_loopw [6, 7, 8, 9, 36] (fun many i _ _ _ wr => ∃ j : Nat, j ≤ N ∧ j ≤ 100 ∧ i = .int .i64 j ∧ many = .int .i64 (cntB X j : Int) ∧ TakW w a (a + 1) (a + 2) X j wr) (fun _ i _ _ _ _ => 100 - (intOf i).toNat)
  case atStart => exact ⟨0, by omega, by omega, rfl, rfl, M0.out⟩
  case round =>
    obtain ⟨j, hj, hj1, rfl, rfl, hM⟩ := hrel
    have hcl := cntB_le X j
    obtain ⟨m, hm⟩ : ∃ m, cntB X j = m := ⟨_, rfl⟩
    by_cases hlt : j < N ∧ j < 100
    · obtain ⟨hlt, hlt2⟩ := hlt
      have hjl : j < X.length := by rw [HN.out]; exact hlt
      obtain ⟨x, hx⟩ : ∃ x, X[j]? = some x := ⟨_, List.getElem?_eq_getElem hjl⟩
      obtain ⟨g, o, rfl, hg, hc⟩ := HX.out (by omega)
      have hcj := hc j x hx
      have hcs := cntB_succ hx
      rw [hm] at hcs hcl ⊢
      have Hx := Lib.hid hx
      have HCS := Lib.hid hcs
      have HS := Lib.hid (hM.sent hlt2)
      have HCJ := Lib.hid hcj
      clear hc hx hjl hM hcs hm hcj
      cases x
      · go_wp2_with fail
        refine HS.out.mono ?_
        rintro e w2 ⟨rfl, h2⟩
        have c0 := (h2.bel.cell (p := ⟨g, o + j, none⟩) hg).trans HCJ.out
        have hgl : g < w2.heap.size := Nat.lt_of_lt_of_le hg h2.bel.size
        have H2 := Lib.hid h2
        clear h2 HS
        go_wp2_with fail
        go_roundw
        case rel => exact ⟨j + 1, by omega, by omega, by go_num, by rw [show cntB X (j + 1) = m from HCS.out], H2.out.skip Hx.out⟩
        case measure => simp [intOf]; omega
      · go_wp2_with fail
        refine HS.out.mono ?_
        rintro e w2 ⟨rfl, h2⟩
        have c0 := (h2.bel.cell (p := ⟨g, o + j, none⟩) hg).trans HCJ.out
        have hgl : g < w2.heap.size := Nat.lt_of_lt_of_le hg h2.bel.size
        have HG := Lib.hid (h2.got Hx.out hlt2)
        clear h2 HS
        go_wp2_with fail
        refine HG.out.mono ?_
        rintro e w3 ⟨rfl, h3⟩
        have HMu := Lib.hid h3.must
        clear h3 HG c0 hgl
        go_wp2_with fail
        refine HMu.out.mono ?_
        rintro e w4 ⟨rfl, h4⟩
        have H4 := Lib.hid h4
        clear h4 HMu
        go_wp2_with fail
        go_roundw
        case rel => exact ⟨j + 1, by omega, by omega, by go_num, by rw [show cntB X (j + 1) = m + 1 from HCS.out]; go_num, H4.out⟩
        case measure => simp [intOf]; omega
    · have hend : ¬ (j : Int) < (N : Int) ∨ ((j : Int) < (N : Int) ∧ ¬ (j : Int) < 100) := by omega
      have HA := hM.ack (by rw [HN.out]; exact hj)
      rw [hm] at hcl HA ⊢
      have HMM := Lib.hid hm
      have HA := Lib.hid HA
      clear hM hm hlt
      rcases hend with hend | ⟨hend, hend2⟩
      all_goals
        go_wp2_with fail
        refine HA.out.mono ?_
        rintro e w2 (⟨h0, rfl, hb2⟩ | ⟨t, q, n, c, L, v, sa, rfl, hP, hT⟩)
        · obtain rfl : m = 0 := h0
          have HB2 := Lib.hid (hb2.alloc hb2.size (.cells #[.int .u64 0, .int .u64 0, .int .u64 0, .int .u64 0, .bool false, .string ⟨#[]⟩, .string ⟨#[]⟩, .slice none 0 0] 43))
          clear hb2 HA
          go_wp2_with fail
          go_ret
          exact ⟨rfl, HB2.out⟩
        · unfold ackFV
          obtain ⟨p1, p2, p3, p4, p5, p6, p7, p8⟩ := hP
          obtain ⟨l, hl⟩ : ∃ l, ackT sa.L L = l := ⟨_, rfl⟩
          have HK1 := Lib.hid (blk.new w2 43 [.int .u64 2, .int .u64 (t : Int), .int .u64 0, .int .u64 0, .bool false, .string ⟨#[]⟩, .string ⟨#[]⟩, .slice q n c])
          have HTK := Lib.hid ((hT.next ((Below.refl w2.heap.size w2).alloc (Nat.le_refl _) (.cells #[.int .u64 2, .int .u64 (t : Int), .int .u64 0, .int .u64 0, .bool false, .string ⟨#[]⟩, .string ⟨#[]⟩, .slice q n c] 43))).take (t := t) p1 p2 p3 HK1.out)
          unfold ackFV at HTK
          rw [hl] at HTK p4 p5 p8
          obtain ⟨nl, hnl⟩ : ∃ nl, l.length = nl := ⟨_, rfl⟩
          rw [hnl] at HTK p5 p8
          have HL := Lib.hid hl
          have HNL := Lib.hid hnl
          have HP4 := Lib.hid p4
          have HP5 := Lib.hid p5
          have HP := Lib.hid (And.intro p1 (And.intro p6 p7))
          clear hT p1 p3 p4 p5 p6 p7 hl hnl HA HK1
          go_wp2_with fail
          refine HTK.out.mono ?_
          rintro e w3 ⟨pg, cg, qt, is, rfl, ⟨B3, ho⟩, hF, hb3, v', sa', hsa, hT3⟩
          have f7 := hF.cell (k := 7) rfl
          have f0 := hF.cell (k := 0) rfl
          have f1 := hF.cell (k := 1) rfl
          have f2 := hF.cell (k := 2) rfl
          have f3 := hF.cell (k := 3) rfl
          have f4 := hF.cell (k := 4) rfl
          have f5 := hF.cell (k := 5) rfl
          have f6 := hF.cell (k := 6) rfl
          have hFl := hF.lt
          have HO := Lib.hid ho
          have HF := Lib.hid hF
          have HB3 := Lib.hid hb3
          have HSA := Lib.hid hsa
          have HT3 := Lib.hid hT3
          have hcnt : ¬ (n : Int) < 32 ∨ ((n : Int) < 32 ∧ nl = m) := by
            by_cases h : n < 32
            · exact .inr ⟨by omega, (HP5.out h).trans HMM.out⟩
            · exact .inl (by omega)
          clear ho hF hb3 hsa hT3 HTK
          rcases hcnt with hc32 | ⟨hc32, hnm⟩
          all_goals
            try subst hnm
            go_wp2_with fail
            clear f0 f1 f2 f3 f4 f5 f6 f7
            go_loopw [17, 99] (fun _ i y => ∃ k : Nat, k ≤ nl ∧ i = .int .i64 k ∧ Below w3.heap.size w3 y) (fun _ i _ => nl - (intOf i).toNat)
            case atStart => exact ⟨0, by omega, rfl, Below.refl _ _⟩
            case round =>
              obtain ⟨k, hk, rfl, hbk⟩ := hrel
              by_cases hkl : k < nl
              · obtain ⟨pk, hpk⟩ : ∃ pk, l[k]? = some pk := ⟨_, List.getElem?_eq_getElem (by rw [HNL.out]; exact hkl)⟩
                obtain ⟨gp, cap1, hpe, -, hgp, c0, c1, c2, c3, c4⟩ := pk_cells (own_below HO.out hbk) k pk hpk
                injection hpe with hpe hpe2 hpe3
                obtain ⟨a2, a3⟩ := HP4.out pk (List.mem_of_getElem? hpk)
                obtain ⟨g, o, rfl, hg, hc⟩ := HX.out (by rw [HN.out]; omega)
                have d0 := ((HB3.out.trans (hbk.mono HB3.out.size)).cell (p := ⟨g, o + pk.num, none⟩) hg).trans (hc _ _ a3)
                have hnl : pk.num < N := by rw [← HN.out]; exact (List.getElem?_eq_some_iff.1 a3).1
                have hgy : g < wr.heap.size := by have := HB3.out.size; have := hbk.size; omega
                have HBK := Lib.hid (hbk.alloc hbk.size (.cells #[.int .u64 (pk.num : Int), .int .u64 (pk.time : Int), .int .u64 (pk.size : Int), .bool pk.asks, .slice pk.fa pk.fl pk.fc] 57))
                subst hpe
                clear hpk hpe2 hpe3 a3 hc hbk
                go_wp2_with fail
                go_roundw
                case rel => exact ⟨k + 1, by omega, by go_num, HBK.out⟩
                case measure => simp [intOf]; omega
              · obtain rfl : k = nl := by omega
                have hF := HF.out.below hbk HF.out.lt
                have f0 := hF.cell (k := 0) rfl
                have f1 := hF.cell (k := 1) rfl
                have f2 := hF.cell (k := 2) rfl
                have f3 := hF.cell (k := 3) rfl
                have f4 := hF.cell (k := 4) rfl
                have f5 := hF.cell (k := 5) rfl
                have f6 := hF.cell (k := 6) rfl
                have f7 := hF.cell (k := 7) rfl
                have hFl2 := hF.lt
                have hTK := (HT3.out.next hbk).take (t := t) HP.out.1 p2 (by rw [HSA.out, ← HP.out.2.1]) hF
                unfold ackFV at hTK
                rw [HSA.out, HP.out.2.2] at hTK
                have HTK := Lib.hid hTK
                clear hTK hF hbk
                go_wp2_with fail
                refine HTK.out.mono ?_
                rintro e w5 ⟨pg5, cg5, qt5, is5, rfl, -, -, hb5, -⟩
                have HB5 := Lib.hid hb5
                clear hb5 HTK
                go_wp2_with fail
                go_ret
                exact ⟨rfl, HB5.out⟩

end Go.Proofs.Ytmnmpmiocgfalaa
