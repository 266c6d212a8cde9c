/- space: the law SpaceDoes, walked. Printed by tools/mkVp.py. -/
import Derived.Test.YtmnmpmiocgfalaaVo
import Derived.Deep.DeepCutAuto
import Derived.Deep.LoopGhost
import Derived.Deep.CutBlock
import Derived.Deep.RegionHeld3
import Derived.BigGuard
namespace Go.Proofs.Ytmnmpmiocgfalaa
open Go.ChangeShapes Go.WideShapes Go.RowKit
set_option linter.unusedVariables false
set_option linter.unusedSimpArgs false

theorem LW.start {w1 w2 w3 : World} {bl b : Nat} (h2 : w2 = w1.alloc (.cells #[.slice none 0 0, .int .u64 0, .bool false, .int .u64 0, .bool false, .int .u64 0, .slice none 0 0, .int .u64 0, .bool false] 34)) (h3 : RsIs w1.heap.size b bl (.slice none 0 0) (.slice none 0 0) Sp0 w3) (h4 : Below w2.heap.size w2 w3) : LW w1 w1.heap.size b bl w3 := by
  subst h2
  have hs := SpIs.start w1
  refine ⟨Sp0, [], .slice none 0 0, .slice none 0 0, .slice none 0 0, .slice none 0 0, hs.next h4, h3, ?_, ?_, ?_, Nat.le_refl _, rfl, rfl⟩
  · intro x hx
    cases hx
  · intro k hk
    cases hk
  · exact ((Below.refl _ _).alloc (Nat.le_refl _) _).trans (h4.mono (by simp))
theorem Frm.came.next {w w' : World} {f : Frm} (h : f.came w) (hb : Below w.heap.size w w') : f.came w' := ⟨h.n0, h.n1, h.n2, h.n3, h.d, h.m, h.l, h.rg.below hb⟩
theorem Act1.came.next {w w' : World} {a : Act1} (h : a.came w) (hb : Below w.heap.size w w') : a.came w' := ⟨h.n1, h.n2, h.n3, h.frs.below hb, fun f hf => (h.all f hf).next hb, h.len, fun h0 g o e => Nat.lt_of_lt_of_le (h.old h0 g o e) hb.size⟩
theorem ActsAt.below {w w' : World} {p : Option Addr} {xs : List Act1} (h : ActsAt w p xs) (hb : Below w.heap.size w w') : ActsAt w' p xs := by
  intro h0
  obtain ⟨g, o, e, hg, hc⟩ := h h0
  exact ⟨g, o, e, Nat.lt_of_lt_of_le hg hb.size, fun i a ha => ⟨(hc i a ha).1.next hb, fun j v hv => (hb.cell (p := ⟨g, o + i * 5 + j, none⟩) hg).trans ((hc i a ha).2 j v hv)⟩⟩
/-- The act's box. -/
theorem boxC {w : World} {X L : Nat} {K : Int} {a : Act1} (h : blk w X 38 a.vals) (hL : a.fs.length = L) (hK : a.kind = K) :
    w.cell? ⟨X, 0, none⟩ = some (.int .i64 K) ∧ w.cell? ⟨X, 1, none⟩ = some (.int .u64 (a.num : Int)) ∧ w.cell? ⟨X, 2, none⟩ = some (.int .u64 (a.now : Int)) ∧ w.cell? ⟨X, 3, none⟩ = some (.int .u64 (a.size : Int)) ∧ w.cell? ⟨X, 4, none⟩ = some (.slice a.fp L a.fcap) := by
  subst hL
  subst hK
  exact ⟨h.cell rfl, h.cell rfl, h.cell rfl, h.cell rfl, h.cell rfl⟩

set_option maxRecDepth 100000 in
set_option maxHeartbeats 16000000 in
theorem does_walk (p : Option Addr) (cap : Nat) (xs : List Act1) (w : World) (hX : ActsAt w p xs) (hl : xs.length ≤ maxLen) :
    Calls Try.prog 8 #[.slice p xs.length cap] w fun e w' => e = .returned (.bool true) ∧ Below w.heap.size w w' := by
  unfold maxLen at hl
  have HX := Lib.hid hX
  obtain ⟨N, hN⟩ : ∃ N, xs.length = N := ⟨_, rfl⟩
  rw [hN] at hl ⊢
  have HN := Lib.hid hN
  clear hX hN
  go_enter Try.func8, Try.ntmps8
  go_wp2_with fail
  refine (awake_ok w).mono ?_
  rintro e w1 ⟨rfl, hb1⟩
  obtain ⟨w2, hw2⟩ : ∃ w2, w1.alloc (.cells #[.slice none 0 0, .int .u64 0, .bool false, .int .u64 0, .bool false, .int .u64 0, .slice none 0 0, .int .u64 0, .bool false] 34) = w2 := ⟨_, rfl⟩
  have hs2 : w1.heap.size ≤ w2.heap.size := by rw [← hw2]; simp
  have HNEW := Lib.hid (rNew15 w2 w1.heap.size hs2)
  have Hb1 := Lib.hid hb1
  have Hw2 := Lib.hid hw2.symm
  clear hb1 hs2
  go_wp2_with fail
  refine HNEW.out.mono ?_
  rintro e w3 ⟨rfl, hrs, hb3⟩
  have M0 := Lib.hid (LW.start Hw2.out hrs hb3)
  clear hw2 hrs hb3 HNEW Hw2
  obtain ⟨b, hb⟩ : ∃ b, w2.heap.size + 1 = b := ⟨_, rfl⟩
  obtain ⟨bl, hbl⟩ : ∃ bl, w2.heap.size = bl := ⟨_, rfl⟩
  obtain ⟨B, hB⟩ : ∃ B, w1.heap.size = B := ⟨_, rfl⟩
  rw [hb, hbl, hB] at M0
  rw [hb, hB]
  have HX1 := Lib.hid (HX.out.below Hb1.out)
  clear hb hbl hB HX
  go_wp2_with fail
  go_loopw [5] (fun i wr => ∃ j : Nat, j ≤ N ∧ j ≤ 100 ∧ i = .int .i64 j ∧ LW w1 B b bl wr) (fun i _ => 100 - (intOf i).toNat)
  case atStart => exact ⟨0, by omega, by omega, rfl, M0.out⟩
  case round =>
    obtain ⟨j, hj, hj1, rfl, hM⟩ := hrel
    have hbel := hM.old
    by_cases hlt : j < N ∧ j < 100
    · obtain ⟨hlt, hlt2⟩ := hlt
      have hjl : j < xs.length := by rw [HN.out]; exact hlt
      obtain ⟨a, ha⟩ : ∃ a, xs[j]? = some a := ⟨_, List.getElem?_eq_getElem hjl⟩
      obtain ⟨g, o, rfl, hg, hc⟩ := HX1.out (by omega)
      obtain ⟨hcame, hcc⟩ := hc j a ha
      have cell := fun k v hv => (hbel.cell (p := ⟨g, o + j * 5 + k, none⟩) hg).trans (hcc k v hv)
      have c0 := cell 0 _ rfl
      have c1 := cell 1 _ rfl
      have c2 := cell 2 _ rfl
      have c3 := cell 3 _ rfl
      have c4 := cell 4 _ rfl
      rw [Nat.add_zero] at c0
      have hgl : g < wr.heap.size := Nat.lt_of_lt_of_le hg hbel.size
      have HL := fun y hy => Lib.hid (large_any a y w1 hy hcame)
      obtain ⟨big, hbig⟩ : ∃ big, largeF a = big := ⟨_, rfl⟩
      rw [hbig] at HL
      unfold Act1.v at HL
      have HBIG := Lib.hid hbig
      have HCAME := Lib.hid hcame
      obtain ⟨L, hL⟩ : ∃ L, a.fs.length = L := ⟨_, rfl⟩
      obtain ⟨K, hK⟩ : ∃ K, a.kind = K := ⟨_, rfl⟩
      rw [hL] at c4 HL
      rw [hK] at c0 HL
      have HLL := Lib.hid hL
      have HK := Lib.hid hK
      have hbx := blk.new wr 38 a.vals
      have HBX : Hid (blk (wr.alloc (.cells #[.int .i64 K, .int .u64 (a.num : Int), .int .u64 (a.now : Int), .int .u64 (a.size : Int), .slice a.fp L a.fcap] 38)) wr.heap.size 38 a.vals) := Lib.hid (by rw [← hL, ← hK]; exact hbx)
      have HM := Lib.hid hM
      have HB := Lib.hid (hbel.alloc hbel.size (.cells #[.int .i64 K, .int .u64 (a.num : Int), .int .u64 (a.now : Int), .int .u64 (a.size : Int), .slice a.fp L a.fcap] 38))
      clear hc ha hjl hcame hcc cell hbig hL hK hbx hM hbel
      go_wp2_with fail
      refine (HL _ HB.out).out.mono ?_
      rintro e w4 ⟨rfl, hb4⟩
      have HB4 := Lib.hid (HB.out.trans (hb4.mono HB.out.size))
      have hX4 := HBX.out.below hb4 HBX.out.lt
      obtain ⟨X, hXe⟩ : ∃ X, wr.heap.size = X := ⟨_, rfl⟩
      have HD : Hid (DW w1 B b bl wr.heap.size a.vals w4) := Lib.hid (HM.out.dw (((Below.refl wr.heap.size wr).alloc (Nat.le_refl _) (.cells #[.int .i64 K, .int .u64 (a.num : Int), .int .u64 (a.now : Int), .int .u64 (a.size : Int), .slice a.fp L a.fcap] 38)).trans (hb4.mono (by simp))) hX4)
      rw [hXe] at HD
      cases big
      · obtain ⟨hfl, hfit⟩ := large_fit HBIG.out HCAME.out
        have HFL := Lib.hid hfl
        have HFIT := Lib.hid hfit
        have HBC := Lib.hid (fun W (h : DW w1 B b bl X a.vals W) => boxC h.x HLL.out HK.out)
        have HXL := Lib.hid (fun W (h : DW w1 B b bl X a.vals W) => h.x.lt)
        have hbc := HBC.out _ HD.out
        have x0 := hbc.1
        have hxl := HXL.out _ HD.out
        clear hb4 hfit hfl HM HB hX4 HL c0 c1 c2 c3 c4 hbc HBX
        go_upto_block 2 with (fail)
        have hbc := HBC.out _ HD.out
        obtain ⟨-, x1, x2, x3, x4⟩ := hbc
        clear x0
        go_cut [7, 8, 9, 10, 11, 12, 13, 14, 15, 16, 17, 18, 19, 20, 21, 22] (fun _ _ _ _ _ _ _ _ _ _ _ _ _ _ _ _ wx => DW w1 B b bl X a.vals wx)
        case first =>
          by_cases k0 : K = 0
          · as_aux_lemma =>
              subst k0
              have HS := HD.out.sent HCAME.out HFIT.out HFL.out
              rw [HLL.out] at HS
              have HS := Lib.hid HS
              go_wp2_with fail
              refine HS.out.mono ?_
              rintro e w5 ⟨n, c, rfl, h5⟩
              have H5 := Lib.hid h5
              have HR := h5.sent HCAME.out HFIT.out HFL.out
              rw [HLL.out] at HR
              have HR := Lib.hid HR
              obtain ⟨-, y1, y2, y3, y4⟩ := boxC h5.x HLL.out HK.out
              have hxl5 := h5.x.lt
              clear h5 HS x1 x2 x3 x4 hxl
              go_wp2_with fail
              refine HR.out.mono ?_
              rintro e w6 ⟨rfl, h6⟩
              have H6 := Lib.hid h6
              clear h6 HR
              go_wp2_with fail
              go_meet
              exact H6.out
          · have e0 : (K == 0) = false := by rw [beq_eq_false_iff_ne]; exact k0
            clear k0
            by_cases k1 : K = 1
            · as_aux_lemma =>
                subst k1
                have HS := fun W (h : DW w1 B b bl X a.vals W) => h.got HCAME.out HFIT.out HFL.out
                have HR := fun c W (h : MW w1 B b bl X a.vals (FGot a c) W) => h.got HCAME.out HFIT.out HFL.out
                rw [HLL.out] at HS HR
                have HS := Lib.hid HS
                have HR := Lib.hid HR
                have HX0 := Lib.hid (And.intro x1 (And.intro x2 (And.intro x3 x4)))
                clear x1 x2 x3 x4
                go_wp2_with fail
                go_region_held3 (fun w' => w'.cell? ⟨X, 1, none⟩ = some (.int .u64 (a.num : Int)) ∧ w'.cell? ⟨X, 2, none⟩ = some (.int .u64 (a.now : Int)) ∧ w'.cell? ⟨X, 3, none⟩ = some (.int .u64 (a.size : Int)) ∧ w'.cell? ⟨X, 4, none⟩ = some (.slice a.fp L a.fcap)) (first | exact HX0.out | exact HX5.out | exact HX6.out)
                  (first
                    | (go_at_call 11; refine (HS.out _ (HD.out.next (Below.refl _ _).drew)).mono ?_; rintro e w5 ⟨c, rfl, h5⟩; (have HX5 := Lib.hid (boxC h5.x HLL.out HK.out).2); (have H5 := Lib.hid h5); clear h5)
                    | (go_at_call 25; refine (HR.out _ _ H5.out).mono ?_; rintro e w6 ⟨rfl, h6⟩; (have HX6 := Lib.hid (boxC h6.x HLL.out HK.out).2); (have H6 := Lib.hid h6); clear h6))
                clear HX0 HX5 HX6 HS HR
                go_wp2_with fail
                go_meet
                exact H6.out
            · have e1 : (K == 1) = false := by rw [beq_eq_false_iff_ne]; exact k1
              clear k1
              by_cases k2 : K = 2
              · as_aux_lemma =>
                  subst k2
                  have HA := Lib.hid (HD.out.ack HCAME.out)
                  go_wp2_with fail
                  refine HA.out.mono ?_
                  rintro e w5 ⟨k, t, q, n, c, is, rfl, h5⟩
                  obtain ⟨w6, hw6⟩ : ∃ w6, w5.alloc (.cells #[.int .u64 (k : Int), .int .u64 (t : Int), .int .u64 0, .int .u64 0, .bool false, .string ⟨#[]⟩, .string ⟨#[]⟩, .slice q n c] 43) = w6 := ⟨_, rfl⟩
                  obtain ⟨F1, hF1⟩ : ∃ F1, w5.heap.size = F1 := ⟨_, rfl⟩
                  have hb6 : Below w5.heap.size w5 w6 := by rw [← hw6]; exact (Below.refl _ _).alloc (Nat.le_refl _) _
                  have hk6 : blk w6 F1 43 [.int .u64 (k : Int), .int .u64 (t : Int), .int .u64 0, .int .u64 0, .bool false, .string ⟨#[]⟩, .string ⟨#[]⟩, .slice q n c] := by rw [← hw6, ← hF1]; exact blk.new w5 _ _
                  have h6 := h5.next hb6 (FAck.next hb6)
                  have HR := Lib.hid (h6.ack HCAME.out)
                  have HK6 := Lib.hid hk6
                  obtain ⟨-, y1, y2, y3, y4⟩ := boxC h6.x HLL.out HK.out
                  have hxl6 := h6.x.lt
                  clear h5 h6 hb6 hk6 HA x1 x2 x3 x4 hxl
                  go_wp2_with fail
                  refine HR.out.mono ?_
                  rintro e w7 ⟨q2, c2, rfl, h7, hs7, hkeep⟩
                  have hk7 := hkeep F1 _ HK6.out
                  obtain ⟨w8, hw8⟩ : ∃ w8, w7.alloc (.cells #[.int .u64 (k : Int), .int .u64 (t : Int), .int .u64 0, .int .u64 0, .bool false, .string ⟨#[]⟩, .string ⟨#[]⟩, .slice q2 n c2] 43) = w8 := ⟨_, rfl⟩
                  obtain ⟨F2, hF2⟩ : ∃ F2, w7.heap.size = F2 := ⟨_, rfl⟩
                  have hb8 : Below w7.heap.size w7 w8 := by rw [← hw8]; exact (Below.refl _ _).alloc (Nat.le_refl _) _
                  have hk8 : blk w8 F2 43 [.int .u64 (k : Int), .int .u64 (t : Int), .int .u64 0, .int .u64 0, .bool false, .string ⟨#[]⟩, .string ⟨#[]⟩, .slice q2 n c2] := by rw [← hw8, ← hF2]; exact blk.new w7 _ _
                  have hj8 := hk7.below hb8 hk7.lt
                  have H8 := Lib.hid (h7.next hb8)
                  have HSm := Lib.hid ((hs7.next hb8).same k t c c2)
                  have k0 := hj8.cell (k := 0) rfl
                  have k1 := hj8.cell (k := 1) rfl
                  have k2 := hj8.cell (k := 2) rfl
                  have k3 := hj8.cell (k := 3) rfl
                  have k4 := hj8.cell (k := 4) rfl
                  have k5 := hj8.cell (k := 5) rfl
                  have k6 := hj8.cell (k := 6) rfl
                  have k7 := hj8.cell (k := 7) rfl
                  have m0 := hk8.cell (k := 0) rfl
                  have m1 := hk8.cell (k := 1) rfl
                  have m2 := hk8.cell (k := 2) rfl
                  have m3 := hk8.cell (k := 3) rfl
                  have m4 := hk8.cell (k := 4) rfl
                  have m5 := hk8.cell (k := 5) rfl
                  have m6 := hk8.cell (k := 6) rfl
                  have m7 := hk8.cell (k := 7) rfl
                  have hl1 := hj8.lt
                  have hl2 := hk8.lt
                  clear h7 hs7 hkeep hk7 hb8 hk8 hj8 HR HK6 y1 y2 y3 y4 hxl6 hw6 hF1
                  cases is
                  all_goals
                    go_wp2_with fail
                    refine HSm.out.mono ?_
                    rintro e w9 ⟨rfl, hb9⟩
                    have H9 := Lib.hid (H8.out.next hb9)
                    clear hb9 HSm
                    go_wp2_with fail
                    go_meet
                    exact H9.out
              · have e2 : (K == 2) = false := by rw [beq_eq_false_iff_ne]; exact k2
                clear k2
                by_cases k3 : K = 3
                · as_aux_lemma =>
                    subst k3
                    by_cases hL0 : L = 0
                    · subst hL0
                      clear x1 x2 x3
                      go_wp2_with fail
                      go_meet
                      exact HD.out
                    have hL1 : (0 : Int) < (L : Int) := by omega
                    have hL2 : 0 < L := by omega
                    obtain ⟨f, hf⟩ : ∃ f, a.fs[0]? = some f := ⟨_, List.getElem?_eq_getElem (by rw [HLL.out]; exact hL2)⟩
                    have hmem := List.mem_of_getElem? hf
                    have hfc := HCAME.out.all f hmem
                    have hfl := (HFIT.out f hmem).l
                    obtain ⟨g2, o2, hfp, hg2, -⟩ := HCAME.out.frs.cells hf
                    have hfm : ∀ W, DW w1 B b bl X a.vals W → cells8 W g2 o2 f ∧ g2 < W.heap.size := fun W h => h.frm HCAME.out hf hfp
                    have hmm : ∀ F W, MW w1 B b bl X a.vals F W → cells8 W g2 o2 f ∧ g2 < W.heap.size := fun F W h => h.frm HCAME.out hf hfp
                    have hTk := fun W (h : DW w1 B b bl X a.vals W) => h.take HCAME.out hfc hfl
                    have hRk := fun pg n cg t is c W (h : MW w1 B b bl X a.vals (FTake B a.now f.kind f.rs pg n cg t is c) W) => h.take HCAME.out hfc hfl
                    rw [hfp] at x4
                    clear hf hmem hfc hfl
                    obtain ⟨fk, fa, fb, fc, fin, data, more, lp, rs, lc⟩ := f
                    unfold frmV at hTk hRk
                    unfold cells8 at hfm hmm
                    simp only at hTk hRk hfm hmm
                    obtain ⟨M, hM⟩ : ∃ M, rs.length = M := ⟨_, rfl⟩
                    rw [hM] at hTk hRk hfm hmm
                    have hSD : ∀ W, DW w1 B b bl X a.vals W → (W.cell? ⟨X, 2, none⟩ = some (.int .u64 (a.now : Int)) ∧ W.cell? ⟨X, 4, none⟩ = some (.slice (some ⟨g2, o2, none⟩) L a.fcap)) ∧ (W.cell? ⟨g2, o2, none⟩ = some (.int .u64 (fk : Int)) ∧ W.cell? ⟨g2, o2 + 1, none⟩ = some (.int .u64 (fa : Int)) ∧ W.cell? ⟨g2, o2 + 2, none⟩ = some (.int .u64 (fb : Int)) ∧ W.cell? ⟨g2, o2 + 3, none⟩ = some (.int .u64 (fc : Int)) ∧ W.cell? ⟨g2, o2 + 4, none⟩ = some (.bool fin) ∧ W.cell? ⟨g2, o2 + 5, none⟩ = some (.string data) ∧ W.cell? ⟨g2, o2 + 6, none⟩ = some (.string more) ∧ W.cell? ⟨g2, o2 + 7, none⟩ = some (.slice lp M lc)) := fun W h => ⟨⟨(boxC h.x HLL.out HK.out).2.2.1, by rw [← hfp]; exact (boxC h.x HLL.out HK.out).2.2.2.2⟩, (hfm W h).1⟩
                    have hSM : ∀ F W, MW w1 B b bl X a.vals F W → (W.cell? ⟨X, 2, none⟩ = some (.int .u64 (a.now : Int)) ∧ W.cell? ⟨X, 4, none⟩ = some (.slice (some ⟨g2, o2, none⟩) L a.fcap)) ∧ (W.cell? ⟨g2, o2, none⟩ = some (.int .u64 (fk : Int)) ∧ W.cell? ⟨g2, o2 + 1, none⟩ = some (.int .u64 (fa : Int)) ∧ W.cell? ⟨g2, o2 + 2, none⟩ = some (.int .u64 (fb : Int)) ∧ W.cell? ⟨g2, o2 + 3, none⟩ = some (.int .u64 (fc : Int)) ∧ W.cell? ⟨g2, o2 + 4, none⟩ = some (.bool fin) ∧ W.cell? ⟨g2, o2 + 5, none⟩ = some (.string data) ∧ W.cell? ⟨g2, o2 + 6, none⟩ = some (.string more) ∧ W.cell? ⟨g2, o2 + 7, none⟩ = some (.slice lp M lc)) := fun F W h => ⟨⟨(boxC h.x HLL.out HK.out).2.2.1, by rw [← hfp]; exact (boxC h.x HLL.out HK.out).2.2.2.2⟩, (hmm F W h).1⟩
                    have HSD := Lib.hid hSD
                    have HSM := Lib.hid hSM
                    have HTK := Lib.hid hTk
                    have HRK := Lib.hid hRk
                    have HS0 := Lib.hid (hSD _ HD.out)
                    have hg4 := (hfm _ HD.out).2
                    clear hSD hSM hTk hRk hfm hmm hM hfp x1 x2 x3
                    go_upto_region 27 with fail
                    clear x4
                    go_region_held3 (fun w' => (w'.cell? ⟨X, 2, none⟩ = some (.int .u64 (a.now : Int)) ∧ w'.cell? ⟨X, 4, none⟩ = some (.slice (some ⟨g2, o2, none⟩) L a.fcap)) ∧ (w'.cell? ⟨g2, o2, none⟩ = some (.int .u64 (fk : Int)) ∧ w'.cell? ⟨g2, o2 + 1, none⟩ = some (.int .u64 (fa : Int)) ∧ w'.cell? ⟨g2, o2 + 2, none⟩ = some (.int .u64 (fb : Int)) ∧ w'.cell? ⟨g2, o2 + 3, none⟩ = some (.int .u64 (fc : Int)) ∧ w'.cell? ⟨g2, o2 + 4, none⟩ = some (.bool fin) ∧ w'.cell? ⟨g2, o2 + 5, none⟩ = some (.string data) ∧ w'.cell? ⟨g2, o2 + 6, none⟩ = some (.string more) ∧ w'.cell? ⟨g2, o2 + 7, none⟩ = some (.slice lp M lc))) (first | exact HS0.out | exact HS5.out)
                      (first | (go_at_call 17; refine (HTK.out _ (HD.out.next (Below.refl _ _).drew)).mono ?_; rintro e w5 ⟨pg, n, cg, t, is, c, rfl, h5⟩; (have HS5 := Lib.hid (HSM.out _ _ h5)); (have H5 := Lib.hid h5); clear h5))
                    go_wp2_with fail
                    go_region_held3 (fun w' => (w'.cell? ⟨X, 2, none⟩ = some (.int .u64 (a.now : Int)) ∧ w'.cell? ⟨X, 4, none⟩ = some (.slice (some ⟨g2, o2, none⟩) L a.fcap)) ∧ (w'.cell? ⟨g2, o2, none⟩ = some (.int .u64 (fk : Int)) ∧ w'.cell? ⟨g2, o2 + 1, none⟩ = some (.int .u64 (fa : Int)) ∧ w'.cell? ⟨g2, o2 + 2, none⟩ = some (.int .u64 (fb : Int)) ∧ w'.cell? ⟨g2, o2 + 3, none⟩ = some (.int .u64 (fc : Int)) ∧ w'.cell? ⟨g2, o2 + 4, none⟩ = some (.bool fin) ∧ w'.cell? ⟨g2, o2 + 5, none⟩ = some (.string data) ∧ w'.cell? ⟨g2, o2 + 6, none⟩ = some (.string more) ∧ w'.cell? ⟨g2, o2 + 7, none⟩ = some (.slice lp M lc))) (first | exact HS5.out | exact HS6.out)
                      (first | (go_at_call 28; refine (HRK.out _ _ _ _ _ _ _ (H5.out.next (Below.refl _ _).drew (FTake.next (Below.refl _ _).drew))).mono ?_; rintro e w6 ⟨pq, cq, rfl, h6, hsame⟩; (have HS6 := Lib.hid (HSD.out _ h6)); (have H6 := Lib.hid h6); (have HSAME := Lib.hid hsame); clear h6 hsame))
                    clear HS0 HS5 HS6 HTK HRK HSD HSM
                    cases is
                    all_goals
                      go_wp2_with fail
                      refine HSAME.out.mono ?_
                      rintro e w7 ⟨rfl, hb7⟩
                      have H7 := Lib.hid (H6.out.next hb7)
                      clear hb7 HSAME
                      go_wp2_with fail
                      go_meet
                      exact H7.out
                · have e3 : (K == 3) = false := by rw [beq_eq_false_iff_ne]; exact k3
                  clear k3
                  by_cases k4 : K = 4
                  · as_aux_lemma =>
                      subst k4
                      have hSD : ∀ W, DW w1 B b bl X a.vals W → W.cell? ⟨X, 2, none⟩ = some (.int .u64 (a.now : Int)) ∧ W.cell? ⟨X, 3, none⟩ = some (.int .u64 (a.size : Int)) ∧ W.cell? ⟨b, 1, none⟩ = some (.pointer (some ⟨bl, 0, none⟩)) := fun W h => ⟨(boxC h.x HLL.out HK.out).2.2.1, (boxC h.x HLL.out HK.out).2.2.2.1, h.lp⟩
                      have hSM : ∀ F W, MW w1 B b bl X a.vals F W → W.cell? ⟨X, 2, none⟩ = some (.int .u64 (a.now : Int)) ∧ W.cell? ⟨X, 3, none⟩ = some (.int .u64 (a.size : Int)) ∧ W.cell? ⟨b, 1, none⟩ = some (.pointer (some ⟨bl, 0, none⟩)) := fun F W h => ⟨(boxC h.x HLL.out HK.out).2.2.1, (boxC h.x HLL.out HK.out).2.2.2.1, h.lp⟩
                      have HLO := Lib.hid (fun W (h : DW w1 B b bl X a.vals W) => h.lost HCAME.out)
                      have HRO := Lib.hid (fun vg W (h : MW w1 B b bl X a.vals (FLost B a.now a.size vg) W) => h.lost HCAME.out)
                      have HSD := Lib.hid hSD
                      have HSM := Lib.hid hSM
                      have HS0 := Lib.hid (hSD _ HD.out)
                      clear hSD hSM x1 x2 x3 x4
                      go_wp2_with fail
                      go_region_held3 (fun w' => w'.cell? ⟨X, 2, none⟩ = some (.int .u64 (a.now : Int)) ∧ w'.cell? ⟨X, 3, none⟩ = some (.int .u64 (a.size : Int)) ∧ w'.cell? ⟨b, 1, none⟩ = some (.pointer (some ⟨bl, 0, none⟩))) (first | exact HS0.out | exact HS5.out | exact HS6.out | exact HS7.out)
                        (first
                          | (go_at_call 20; refine (HLO.out _ (HD.out.next (Below.refl _ _).drew)).mono ?_; rintro e w5 ⟨vg, rfl, h5⟩; (have HS5 := Lib.hid (HSM.out _ _ h5)); (have H5 := Lib.hid h5); clear h5)
                          | (go_at_call 30; refine (HRO.out _ _ H5.out).mono ?_; rintro e w6 ⟨vq, rfl, h6, hsame⟩; (have HS6 := Lib.hid (HSD.out _ h6)); (have H6 := Lib.hid h6); (have HSAME := Lib.hid hsame); clear h6 hsame)
                          | (go_at_call 29; refine HSAME.out.mono ?_; rintro e w7 ⟨rfl, hb7⟩; (have H7 := Lib.hid (H6.out.next hb7)); (have HS7 := Lib.hid (HSD.out _ H7.out)); clear hb7))
                      clear HS0 HS5 HS6 HS7 HLO HRO HSD HSM HSAME
                      go_wp2_with fail
                      go_meet
                      exact H7.out
                  · have e4 : (K == 4) = false := by rw [beq_eq_false_iff_ne]; exact k4
                    clear k4
                    clear x1 x2 x3 x4
                    go_wp2_with fail
                    go_meet
                    exact HD.out
        case rest =>
          as_aux_lemma =>
            have HX9 := Lib.hid hcut
            clear hcut HBC HXL HD hxl HK HBIG x1 x2 x3 x4
            obtain ⟨J, la, lb, d, z, nx, lg, ac, mu, cm, fl, hJ, hT⟩ := HX9.out.tail
            have HT := Lib.hid hT
            have HJ := Lib.hid hJ
            have HC := Lib.hid hT.cells
            obtain ⟨-, c1, -, -, -, c3⟩ := hT.cells _ hJ
            obtain ⟨hl1, hl2, hl3, hl4⟩ := hT.lts _ hJ
            clear hT hJ HX9
            go_wp2_with fail
            refine (HT.out.last _ HJ.out).mono ?_
            rintro e y1 ⟨rfl, j1⟩
            have HJ1 := Lib.hid j1
            clear j1 c1 c3 hl1 hl2 hl3 hl4
            go_wp2_with fail
            refine (HT.out.rlast _ HJ1.out).mono ?_
            rintro e y2 ⟨rfl, j2⟩
            have HJ2 := Lib.hid j2
            obtain ⟨-, c1, -, -, -, c3⟩ := HC.out _ j2
            obtain ⟨hl1, hl2, hl3, hl4⟩ := HT.out.lts _ j2
            clear j2
            go_wp2_with fail
            refine (HT.out.due _ HJ2.out).mono ?_
            rintro e y3 ⟨rfl, j3⟩
            have HJ3 := Lib.hid j3
            have K0 := Lib.hid (HC.out _ j3)
            obtain ⟨gl1, gl2, gl3, gl4⟩ := HT.out.lts _ j3
            clear j3 c1 c3 hl1 hl2 hl3 hl4
            go_wp2_with fail
            go_region_held3 (fun w' => w'.cell? ⟨b, 0, none⟩ = some (.int .u64 (nx : Int)) ∧ w'.cell? ⟨b, 1, none⟩ = some (.pointer (some ⟨bl, 0, none⟩)) ∧ w'.cell? ⟨b, 4, none⟩ = some (.bool mu) ∧ w'.cell? ⟨bl, 2, none⟩ = some (.int .i64 ac) ∧ w'.cell? ⟨X, 1, none⟩ = some (.int .u64 (a.num : Int)) ∧ w'.cell? ⟨X, 3, none⟩ = some (.int .u64 (a.size : Int))) (first | exact K0.out | exact K1.out)
              (first
                | (go_at_call 34; refine (HT.out.rdue _ (HT.out.drewJ _ HJ3.out)).mono ?_; rintro e z1 ⟨rfl, m1⟩; have K1 := Lib.hid (HC.out _ m1)))
            have HM1 := Lib.hid m1
            obtain ⟨ql1, ql2, ql3, ql4⟩ := HT.out.lts _ m1
            clear m1 gl1 gl2 gl3 gl4
            go_wp2_with fail
            simp only [List.append_eq, List.cons_append, List.nil_append]
            go_region_held3 (fun w' => w'.cell? ⟨b, 0, none⟩ = some (.int .u64 (nx : Int)) ∧ w'.cell? ⟨b, 1, none⟩ = some (.pointer (some ⟨bl, 0, none⟩)) ∧ w'.cell? ⟨b, 4, none⟩ = some (.bool mu) ∧ w'.cell? ⟨bl, 2, none⟩ = some (.int .i64 ac) ∧ w'.cell? ⟨X, 1, none⟩ = some (.int .u64 (a.num : Int)) ∧ w'.cell? ⟨X, 3, none⟩ = some (.int .u64 (a.size : Int))) (first | exact K1.out | exact K2.out | exact K3.out | exact K4.out | exact K5.out | exact K6.out | exact K7.out | exact K8.out | exact K9.out | exact K10.out)
              (first
                | (go_at_call 19; refine (HT.out.numb _ (HT.out.drewJ _ HM1.out)).mono ?_; rintro e z2 ⟨rfl, m2⟩; have K2 := Lib.hid (HC.out _ m2))
                | (go_at_call 13; refine (HT.out.largest _ m2).mono ?_; rintro e z3 ⟨rfl, m3⟩; have K3 := Lib.hid (HC.out _ m3))
                | (go_at_call 35; refine (HT.out.rlargest _ m3).mono ?_; rintro e z4 ⟨rfl, m4⟩; have K4 := Lib.hid (HC.out _ m4))
                | (go_at_call 36; refine (HT.out.acked _ m4).mono ?_; rintro e z5 ⟨rfl, m5⟩; have K5 := Lib.hid (HC.out _ m5))
                | (go_at_call 15; refine (HT.out.must _ m5).mono ?_; rintro e z6 ⟨rfl, m6⟩; have K6 := Lib.hid (HC.out _ m6))
                | (go_at_call 21; refine (HT.out.came _ m6).mono ?_; rintro e z7 ⟨rfl, m7⟩; have K7 := Lib.hid (HC.out _ m7))
                | (go_at_call 37; refine (HT.out.covers _ m7).mono ?_; rintro e z8 ⟨rfl, m8⟩; have K8 := Lib.hid (HC.out _ m8))
                | (go_at_call 18; refine (HT.out.flying _ m8).mono ?_; rintro e z9 ⟨rfl, m9⟩; have K9 := Lib.hid (HC.out _ m9))
                | (go_at_call 38; refine (HT.out.rflying _ m9).mono ?_; rintro e z10 ⟨rfl, m10⟩; have K10 := Lib.hid (HC.out _ m10)))
            have HM := Lib.hid (HT.out.lw _ m10)
            clear m2 m3 m4 m5 m6 m7 m8 m9 m10
            go_wp2_with fail
            go_roundw
            case rel => exact ⟨j + 1, by omega, by omega, by go_num, HM.out⟩
            case measure => simp [intOf]; omega
      · clear hb4 HD hX4
        go_wp2_with fail
        go_ret
        exact ⟨rfl, Hb1.out.trans (HB4.out.mono Hb1.out.size)⟩
    · have hend : ¬ (j : Int) < (N : Int) ∨ ((j : Int) < (N : Int) ∧ ¬ (j : Int) < 100) := by omega
      have HB := Lib.hid hbel
      clear hlt hM hbel
      rcases hend with hend | ⟨hend, hend2⟩
      all_goals
        go_wp2_with fail
        go_ret
        exact ⟨rfl, Hb1.out.trans (HB.out.mono Hb1.out.size)⟩

end Go.Proofs.Ytmnmpmiocgfalaa
