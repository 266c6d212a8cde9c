/- space: the reference's Ask, out of the contract of its Asks; the walk of SpaceMust. Printed by tools/mkTd.py. -/
import Derived.Test.YtmnmpmiocgfalaaSv
import Derived.Deep.CutBlock
import Derived.Deep.DeepCutAuto
namespace Go.Proofs.Ytmnmpmiocgfalaa
open Go.ChangeShapes Go.WideShapes Go.RowKit
set_option linter.unusedVariables false
set_option linter.unusedSimpArgs false

set_option maxRecDepth 100000 in
set_option maxHeartbeats 2000000 in
theorem ask15 (HASK : ∀ (f : Frm) (y : World), f.fit → RgAt y f.lp f.rs → Calls Try.prog 59 #[frmV f] y fun e z => e = .returned (.bool (asksF f)) ∧ Below y.heap.size y z) (p : Option Addr) (cap : Nat) (fs : List Frm) (w : World) (hf : FrsAt w p fs) (hfit : ∀ f ∈ fs, f.fit) (hrg : ∀ f ∈ fs, RgAt w f.lp f.rs) (hl : fs.length ≤ 1000) :
    Calls Try.prog 22 #[.slice p fs.length cap] w fun e w' => e = .returned (.bool (fs.any asksF)) ∧ Below w.heap.size w w' := by
  obtain ⟨N, hN⟩ : ∃ N, fs.length = N := ⟨_, rfl⟩
  obtain ⟨R, hR⟩ : ∃ R, fs.any asksF = R := ⟨_, rfl⟩
  rw [hN] at hl ⊢
  rw [hR]
  have HN := Lib.hid hN
  have HR := Lib.hid hR
  have HF := Lib.hid hf
  have HA := Lib.hid HASK
  have HFIT := Lib.hid hfit
  have HRG := Lib.hid hrg
  clear hN hR hf HASK hfit hrg
  go_enter Try.func22, Try.ntmps22
  go_wp2_with fail
  go_loopw [3] (fun i wr => ∃ j : Nat, j ≤ N ∧ i = .int .i64 j ∧ (fs.take j).any asksF = false ∧ Below w.heap.size w wr) (fun i _ => N - (intOf i).toNat)
  case atStart => exact ⟨0, by omega, rfl, rfl, Below.refl _ _⟩
  case round =>
    obtain ⟨j, hj, rfl, hno, hbw⟩ := hrel
    by_cases hlt : j < N
    · have hjl : j < fs.length := by rw [HN.out]; exact hlt
      obtain ⟨f, hq⟩ : ∃ f, fs[j]? = some f := ⟨_, List.getElem?_eq_getElem hjl⟩
      have hmem := List.mem_of_getElem? hq
      obtain ⟨gb, o, rfl, hg, hc⟩ := (HF.out.below hbw) (by omega)
      have c0 := hc j f hq 0 _ rfl
      have c1 := hc j f hq 1 _ rfl
      have c2 := hc j f hq 2 _ rfl
      have c3 := hc j f hq 3 _ rfl
      have c4 := hc j f hq 4 _ rfl
      have c5 := hc j f hq 5 _ rfl
      have c6 := hc j f hq 6 _ rfl
      have c7 := hc j f hq 7 _ rfl
      rw [Nat.add_zero] at c0
      have hcall := HA.out f wr (HFIT.out f hmem) ((HRG.out f hmem).below hbw)
      unfold frmV at hcall
      obtain ⟨x, hx⟩ : ∃ x, asksF f = x := ⟨_, rfl⟩
      rw [hx] at hcall
      have htk : (fs.take (j + 1)).any asksF = x := by rw [List.take_add_one, hq, List.any_append, hno]; simp [hx]
      have hany : x = true → R = true := fun h => by rw [← HR.out, List.any_eq_true]; exact ⟨f, hmem, by rw [hx, h]⟩
      have HC := Lib.hid hcall
      have HTK := Lib.hid htk
      have HANY := Lib.hid hany
      have HB := Lib.hid hbw
      clear hcall htk hany hbw hc hq hmem hx hno hjl
      cases x
      · go_wp2_with fail
        refine HC.out.mono ?_
        rintro e w2 ⟨rfl, hb2⟩
        have HB2 := Lib.hid (HB.out.trans (hb2.mono HB.out.size))
        clear hb2
        go_wp2_with fail
        go_roundw
        case rel => exact ⟨j + 1, by omega, by go_num, HTK.out, HB2.out⟩
        case measure => simp [intOf]; omega
      · obtain rfl := HANY.out rfl
        go_wp2_with fail
        refine HC.out.mono ?_
        rintro e w2 ⟨rfl, hb2⟩
        have HB2 := Lib.hid (HB.out.trans (hb2.mono HB.out.size))
        clear hb2
        go_wp2_with fail
        go_ret
        exact ⟨rfl, HB2.out⟩
    · obtain rfl : j = N := by omega
      rw [List.take_of_length_le (by rw [HN.out]; exact Nat.le_refl _), HR.out] at hno
      subst hno
      have HB := Lib.hid hbw
      clear hbw
      go_wp2_with fail
      go_ret
      exact ⟨rfl, HB.out⟩

/-- A space that must so. -/
def MstW (w : World) (b : Nat) (mu : Bool) (y : World) : Prop := ∃ v u s, SpIs b b v u s y ∧ s.fine ∧ s.must = mu ∧ Below w.heap.size w y ∧ w.heap.size ≤ b
theorem MstW.bel {w y : World} {b : Nat} {mu : Bool} (h : MstW w b mu y) : Below w.heap.size w y := by obtain ⟨_, _, _, _, _, _, h, _⟩ := h; exact h
theorem MstW.next {w y z : World} {b : Nat} {mu : Bool} (h : MstW w b mu y) (hb : Below y.heap.size y z) : MstW w b mu z := by
  obtain ⟨v, u, s, h1, h2, h3, h4, h5⟩ := h
  exact ⟨v, u, s, h1.next hb, h2, h3, h4.trans (hb.mono h4.size), h5⟩
theorem MstW.must {w y : World} {b : Nat} {mu : Bool} (h : MstW w b mu y) : Calls Try.prog 15 #[.pointer (some ⟨b, 0, none⟩)] y fun e z => e = .returned (.bool mu) ∧ y = z := by
  obtain ⟨v, u, s, h1, h2, h3, h4, h5⟩ := h
  have := Must_any h1
  rw [h3] at this
  exact this
theorem must_sent (s : Sp) (now size : Nat) (asks : Bool) (fa : Option Addr) (fl fc : Nat) : (sentSp s now size asks fa fl fc).1.must = s.must := by
  unfold sentSp
  simp only
  repeat' split
  all_goals rfl
theorem MstW.sent {w y : World} {b : Nat} {mu : Bool} {a : Act1} (h : MstW w b mu y) (hc : a.came w) (hfit : ∀ f ∈ a.fs, f.fit) (hl : a.fs.length ≤ 10) :
    Calls Try.prog 16 #[.pointer (some ⟨b, 0, none⟩), .int .u64 (a.now : Int), .int .u64 (a.size : Int), .slice a.fp a.fs.length a.fcap] y fun e z => ∃ r, e = .returned r ∧ MstW w b mu z := by
  obtain ⟨v, u, s, h1, h2, h3, h4, h5⟩ := h
  refine (Sent_sp b b v u s y a.now a.size a.fp a.fcap a.fs h1 h2 (hc.frs.below h4) hfit (by omega)).mono ?_
  rintro e z ⟨fa, fc, v', rfl, h7, -⟩
  exact ⟨_, rfl, v', u, _, h7.is, (fine_sent h2 _ _ _ _ _ _).1, by rw [must_sent, h3], h4.trans ((h7.below h1).mono h5), h5⟩
theorem MstW.got {w y : World} {b X : Nat} {mu : Bool} {a : Act1} (h : MstW w b mu y) (hX : blk y X 38 a.vals) (hc : a.came w) (hfit : ∀ f ∈ a.fs, f.fit) (hl : a.fs.length ≤ 10) :
    Calls Try.prog 11 #[.pointer (some ⟨b, 0, none⟩), .int .u64 (a.num : Int), .int .u64 (a.now : Int), .slice a.fp a.fs.length a.fcap] y fun e z =>
      ∃ err : Int, e = .returned (.int .i64 err) ∧ blk z X 38 a.vals ∧ ((err = 0 ∧ MstW w b (mu || a.fs.any asksF) z) ∨ (err ≠ 0 ∧ MstW w b mu z)) := by
  obtain ⟨v, u, s, h1, h2, h3, h4, h5⟩ := h
  refine (Got_sp b b v u s y a.num a.now a.fp a.fcap a.fs h1 (hc.frs.below h4) (came_off (B := 0) h1 h5 hc.old) hfit (by omega) hc.n1 hc.n2).mono ?_
  rintro e z ⟨h6, u', h7⟩
  have hb := h4.trans ((h7.below h1).mono h5)
  refine ⟨_, h6, hX.only h7.on (by
    rintro (e | e | e)
    · exact blk_ne h1.led.led hX (by decide) e
    · exact own_ne h1.led.own hX (by decide) e
    · exact own_ne h1.set hX (by decide) e), ?_⟩
  unfold gotSp at h7 ⊢
  split at h7
  · rename_i hC
    rw [if_pos hC]
    exact .inr ⟨show (22 : Int) ≠ 0 by decide, v, u', _, h7.is, h2, h3, hb, h5⟩
  · rename_i hC
    rw [if_neg hC]
    split at h7
    · rename_i hE
      rw [if_pos hE]
      exact .inl ⟨rfl, v, u', _, h7.is, h2, by show (s.must || _) = _; rw [h3], hb, h5⟩
    · rename_i hE
      rw [if_neg hE]
      exact .inr ⟨by show ((addE s.R a.num a.num : Nat) : Int) ≠ 0; omega, v, u', _, h7.is, h2, h3, hb, h5⟩
theorem MstW.ack {w y : World} {b : Nat} {mu : Bool} {a : Act1} (h : MstW w b mu y) (hc : a.came w) :
    Calls Try.prog 12 #[.pointer (some ⟨b, 0, none⟩), .int .u64 (a.now : Int)] y fun e z => ∃ k t q n c is, e = .returned (.tuple #[.agg #[.int .u64 k, .int .u64 t, .int .u64 0, .int .u64 0, .bool false, .string ⟨#[]⟩, .string ⟨#[]⟩, .slice q n c], .bool is]) ∧ MstW w b (mu && !is) z := by
  obtain ⟨v, u, s, h1, h2, h3, h4, h5⟩ := h
  refine (Ack_sp b b v u s y a.now h1 hc.n2).mono ?_
  rintro e z (⟨h6, h7, h8⟩ | ⟨h6, p, c, h7, h8, h9⟩)
  · exact ⟨_, _, _, _, _, false, h7, v, u, s, h1.next h8, h2, by rw [h3]; simp, h4.trans (h8.mono h4.size), h5⟩
  · exact ⟨_, _, _, _, _, true, h7, v, u, _, h9.is, h2, by simp, h4.trans ((h9.below h1).mono h5), h5⟩
theorem MstW.lost {w y : World} {b : Nat} {mu : Bool} {a : Act1} (h : MstW w b mu y) (hc : a.came w) :
    Calls Try.prog 20 #[.pointer (some ⟨b, 0, none⟩), .int .u64 (a.now : Int), .int .u64 (a.size : Int)] y fun e z => ∃ r, e = .returned r ∧ MstW w b mu z := by
  obtain ⟨v, u, s, h1, h2, h3, h4, h5⟩ := h
  refine (Lost_any b b _ _ v s.L y a.now a.size h1.led h1.inv.len1 h1.inv.bnb hc.n2).mono ?_
  rintro e z ⟨vg, v', h6, h7, h8, h9⟩
  have ht := h1.came h8 (h1.inv.filter _)
  exact ⟨vg, h6, v', u, _, ht.is, h2, h3, h4.trans ((ht.below h1).mono h5), h5⟩
theorem MstW.start {w w1 : World} (hb : Below w.heap.size w w1) (z : Array Value) (hz : z = #[.slice none 0 0, .int .u64 0, .bool false, .int .u64 0, .bool false, .int .u64 0, .slice none 0 0, .int .u64 0, .bool false]) : MstW w w1.heap.size false (w1.alloc (.cells z 34)) := by
  subst hz
  exact ⟨_, _, _, SpIs.start w1, rfl, rfl, hb.alloc hb.size _, hb.size⟩

set_option maxRecDepth 100000 in
set_option maxHeartbeats 16000000 in
theorem must_walk (HASK : ∀ (f : Frm) (y : World), f.fit → RgAt y f.lp f.rs → Calls Try.prog 59 #[frmV f] y fun e z => e = .returned (.bool (asksF f)) ∧ Below y.heap.size y z) (p : Option Addr) (cap : Nat) (xs : List Act1) (w : World) (hX : ActsAt w p xs) (hl : xs.length ≤ maxLen) :
    Calls Try.prog 7 #[.slice p xs.length cap] w fun e w' => e = .returned (.bool true) ∧ Below w.heap.size w w' := by
  unfold maxLen at hl
  have HASKS := Lib.hid HASK
  clear HASK
  have HX := Lib.hid hX
  obtain ⟨N, hN⟩ : ∃ N, xs.length = N := ⟨_, rfl⟩
  rw [hN] at hl ⊢
  have HN := Lib.hid hN
  clear hX hN
  go_enter Try.func7, Try.ntmps7
  go_wp2_with fail
  refine (awake_ok w).mono ?_
  rintro e w1 ⟨rfl, hb1⟩
  have M0 := Lib.hid (MstW.start hb1 _ rfl)
  obtain ⟨b, hb⟩ : ∃ b, w1.heap.size = b := ⟨_, rfl⟩
  have hwb : w.heap.size ≤ b := by rw [← hb]; exact hb1.size
  rw [hb] at M0
  clear hb1
  go_wp2_with fail
  clear hb
  go_loopw [4, 5, 6, 7, 8] (fun mv i _ _ _ wr => ∃ (j : Nat) (mu : Bool), j ≤ N ∧ j ≤ 100 ∧ i = .int .i64 j ∧ mv = .bool mu ∧ MstW w b mu wr) (fun _ i _ _ _ _ => 100 - (intOf i).toNat)
  case atStart => exact ⟨0, false, by omega, by omega, rfl, rfl, M0.out⟩
  case round =>
    obtain ⟨j, mu, hj, hj1, rfl, rfl, hM⟩ := hrel
    have hbel := hM.bel
    by_cases hlt : j < N ∧ j < 100
    · obtain ⟨hlt, hlt2⟩ := hlt
      have hjl : j < xs.length := by rw [HN.out]; exact hlt
      obtain ⟨a, ha⟩ : ∃ a, xs[j]? = some a := ⟨_, List.getElem?_eq_getElem hjl⟩
      obtain ⟨g, o, rfl, hg, hc⟩ := HX.out (by omega)
      obtain ⟨hcame, hcc⟩ := hc j a ha
      have cell := fun k v hv => (hbel.cell (p := ⟨g, o + j * 5 + k, none⟩) hg).trans (hcc k v hv)
      have c0 := cell 0 _ rfl
      have c1 := cell 1 _ rfl
      have c2 := cell 2 _ rfl
      have c3 := cell 3 _ rfl
      have c4 := cell 4 _ rfl
      rw [Nat.add_zero] at c0
      have hgl : g < wr.heap.size := Nat.lt_of_lt_of_le hg hbel.size
      have HL := fun y hy => Lib.hid (large_any a y w hy hcame)
      obtain ⟨big, hbig⟩ : ∃ big, largeF a = big := ⟨_, rfl⟩
      rw [hbig] at HL
      unfold Act1.v at HL
      have HBIG := Lib.hid hbig
      have HCAME := Lib.hid hcame
      obtain ⟨L, hL⟩ : ∃ L, a.fs.length = L := ⟨_, rfl⟩
      obtain ⟨K, hK⟩ : ∃ K, a.kind = K := ⟨_, rfl⟩
      rw [hL] at c4 HL
      rw [hK] at c0 HL
      have HLL := Lib.hid hL
      have HK := Lib.hid hK
      have hbx := blk.new wr 38 a.vals
      have HBX : Hid (blk (wr.alloc (.cells #[.int .i64 K, .int .u64 (a.num : Int), .int .u64 (a.now : Int), .int .u64 (a.size : Int), .slice a.fp L a.fcap] 38)) wr.heap.size 38 a.vals) := Lib.hid (by rw [← hL, ← hK]; exact hbx)
      have HM := Lib.hid hM
      have HB := Lib.hid (hbel.alloc hbel.size (.cells #[.int .i64 K, .int .u64 (a.num : Int), .int .u64 (a.now : Int), .int .u64 (a.size : Int), .slice a.fp L a.fcap] 38))
      clear hc ha hjl hcame hcc cell hbig hL hK hbx hM hbel
      go_wp2_with fail
      refine (HL _ HB.out).out.mono ?_
      rintro e w2 ⟨rfl, hb2⟩
      have HB2 := Lib.hid (HB.out.trans (hb2.mono HB.out.size))
      have hX2 := HBX.out.below hb2 HBX.out.lt
      obtain ⟨X, hXe⟩ : ∃ X, wr.heap.size = X := ⟨_, rfl⟩
      have HM2 : Hid (MstW w b mu w2) := Lib.hid (HM.out.next (((Below.refl wr.heap.size wr).alloc (Nat.le_refl _) (.cells #[.int .i64 K, .int .u64 (a.num : Int), .int .u64 (a.now : Int), .int .u64 (a.size : Int), .slice a.fp L a.fcap] 38)).trans (hb2.mono (by simp))))
      rw [hXe] at hX2
      cases big
      · obtain ⟨hfl, hfit⟩ := large_fit HBIG.out HCAME.out
        rw [HLL.out] at hfl
        have HFIT := Lib.hid hfit
        have x0 : w2.cell? ⟨X, 0, none⟩ = some (.int .i64 K) := by rw [← HK.out]; exact hX2.cell (k := 0) rfl
        have x1 : w2.cell? ⟨X, 1, none⟩ = some (.int .u64 (a.num : Int)) := hX2.cell (k := 1) rfl
        have x2 : w2.cell? ⟨X, 2, none⟩ = some (.int .u64 (a.now : Int)) := hX2.cell (k := 2) rfl
        have x3 : w2.cell? ⟨X, 3, none⟩ = some (.int .u64 (a.size : Int)) := hX2.cell (k := 3) rfl
        have x4 : w2.cell? ⟨X, 4, none⟩ = some (.slice a.fp L a.fcap) := by rw [← HLL.out]; exact hX2.cell (k := 4) rfl
        have hxl := hX2.lt
        have HX2 := Lib.hid hX2
        clear hb2 hfit HM HB hX2 HL c0 c1 c2 c3 c4
        go_upto_block 2 with (fail)
        go_cut [4, 7, 8] (fun mv _ _ wx => ∃ mu : Bool, mv = .bool mu ∧ MstW w b mu wx)
        case first =>
          by_cases k0 : K = 0
          · subst k0
            have HS := HM2.out.sent HCAME.out HFIT.out (by rw [HLL.out]; exact hfl)
            rw [HLL.out] at HS
            have HS := Lib.hid HS
            go_wp2_with fail
            refine HS.out.mono ?_
            rintro e w4 ⟨r, rfl, h4⟩
            have H4 := Lib.hid h4
            clear HS h4
            go_wp2_with fail
            go_meet
            exact ⟨_, rfl, H4.out⟩
          · have e0 : (K == 0) = false := by rw [beq_eq_false_iff_ne]; exact k0
            clear k0
            by_cases k1 : K = 1
            · subst k1
              have HG := HM2.out.got HX2.out HCAME.out HFIT.out (by rw [HLL.out]; exact hfl)
              rw [HLL.out] at HG
              have HG := Lib.hid HG
              go_wp2_with fail
              refine HG.out.mono ?_
              rintro e w4 ⟨err, rfl, hx4, (⟨rfl, h4⟩ | ⟨herr, h4⟩)⟩
              · have hAsk := ask15 HASKS.out a.fp a.fcap a.fs w4 (HCAME.out.frs.below h4.bel) HFIT.out (fun f hf => (HCAME.out.all f hf).rg.below h4.bel) (by rw [HLL.out]; omega)
                rw [HLL.out] at hAsk
                have y4 : w4.cell? ⟨X, 4, none⟩ = some (.slice a.fp L a.fcap) := by rw [← HLL.out]; exact hx4.cell (k := 4) rfl
                have hxl4 := hx4.lt
                have HAK := Lib.hid hAsk
                have H4 := Lib.hid h4
                clear hAsk h4 hx4 HG
                cases mu
                · go_wp2_with fail
                  refine HAK.out.mono ?_
                  rintro e w5 ⟨rfl, hb5⟩
                  have H5 := Lib.hid (H4.out.next hb5)
                  clear hb5 HAK H4
                  go_wp2_with fail
                  go_meet
                  exact ⟨_, rfl, by have := H5.out; rwa [Bool.false_or] at this⟩
                · go_wp2_with fail
                  go_meet
                  exact ⟨_, rfl, by have := H4.out; rwa [Bool.true_or] at this⟩
              · have e1 : (err == 0) = false := by rw [beq_eq_false_iff_ne]; exact herr
                have H4 := Lib.hid h4
                clear herr h4 HG hx4
                go_wp2_with fail
                go_meet
                exact ⟨_, rfl, H4.out⟩
            · have e1 : (K == 1) = false := by rw [beq_eq_false_iff_ne]; exact k1
              clear k1
              by_cases k2 : K = 2
              · subst k2
                have HA := Lib.hid (HM2.out.ack HCAME.out)
                go_wp2_with fail
                refine HA.out.mono ?_
                rintro e w4 ⟨k, t, q, n, c, is, rfl, h4⟩
                have H4 := Lib.hid (h4.next ((Below.refl _ _).alloc (Nat.le_refl _) (.cells #[.int .u64 k, .int .u64 t, .int .u64 0, .int .u64 0, .bool false, .string ⟨#[]⟩, .string ⟨#[]⟩, .slice q n c] 43)))
                clear h4 HA
                cases is
                · go_wp2_with fail
                  go_meet
                  exact ⟨_, rfl, by have := H4.out; simpa using this⟩
                · go_wp2_with fail
                  go_meet
                  exact ⟨_, rfl, by have := H4.out; simpa using this⟩
              · have e2 : (K == 2) = false := by rw [beq_eq_false_iff_ne]; exact k2
                clear k2
                by_cases k4 : K = 4
                · subst k4
                  have HLo := Lib.hid (HM2.out.lost HCAME.out)
                  go_wp2_with fail
                  refine HLo.out.mono ?_
                  rintro e w4 ⟨r, rfl, h4⟩
                  have H4 := Lib.hid h4
                  clear h4 HLo
                  go_wp2_with fail
                  go_meet
                  exact ⟨_, rfl, H4.out⟩
                · have e4 : (K == 4) = false := by rw [beq_eq_false_iff_ne]; exact k4
                  clear k4
                  go_wp2_with fail
                  go_meet
                  exact ⟨_, rfl, HM2.out⟩
        case rest =>
          obtain ⟨mu2, rfl, h9⟩ := hcut
          have HMu := Lib.hid h9.must
          have H9 := Lib.hid h9
          clear h9 x0 x1 x2 x3 x4 HM2 hxl
          go_wp2_with fail
          refine HMu.out.mono ?_
          rintro e w5 ⟨rfl, h5⟩
          subst h5
          go_wp2_with fail
          go_roundw
          case rel => exact ⟨j + 1, mu2, by omega, by omega, by go_num, rfl, H9.out⟩
          case measure => simp [intOf]; omega
      · clear hb2 HM2 hX2
        go_wp2_with fail
        go_ret
        exact ⟨rfl, HB2.out⟩
    · have hend : ¬ (j : Int) < (N : Int) ∨ ((j : Int) < (N : Int) ∧ ¬ (j : Int) < 100) := by omega
      have HB := Lib.hid hbel
      clear hlt hM hbel
      rcases hend with hend | ⟨hend, hend2⟩
      all_goals
        go_wp2_with fail
        go_ret
        exact ⟨rfl, HB.out⟩

end Go.Proofs.Ytmnmpmiocgfalaa
