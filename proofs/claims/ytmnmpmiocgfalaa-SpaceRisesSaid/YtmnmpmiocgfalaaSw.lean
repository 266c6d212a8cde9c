/- space: the walk of SpaceRises. Printed by tools/mkSw.py. -/
import Derived.Test.YtmnmpmiocgfalaaSv
import Derived.Deep.RegionHeld3
import Derived.Deep.CutBlock
import Derived.Deep.DeepCutAuto
namespace Go.Proofs.Ytmnmpmiocgfalaa
open Go.ChangeShapes Go.WideShapes Go.RowKit
set_option linter.unusedVariables false
set_option linter.unusedSimpArgs false

section
variable {P : Program} {ops : Array Oper} {Q : Exit → Act → World → Prop} {md : Region.Mode} {S : World → Prop}
/-- Take number i first; its slot is given, so that the state stays written out. -/
theorem wpAnyH_takeD {i : Nat} {oi : Oper} {v : Value} {fuel : Nat} {listed : Array Bool} {a : Act} {w : World} (d : Option Nat) (hi : ops[i]? = some oi) (hd : oi.dst = d)
    (hs : Region.noSelect ops = true) (hf : Region.free md ops listed i = true) (hr : (Region.ready md ops listed).contains i = true)
    (hQ : ∀ c a w, Q (.panic c) (a.put oi.dst v) w → Q (.panic c) a w) (hy : YieldsIf P ops S oi v a) (hS : S w)
    (h : wpAnyH P md ops Q S fuel (listed.setIfInBounds i true) (a.put d v) w) : wpAnyH P md ops Q S (fuel + 1) listed a w := by
  subst hd
  exact wpAnyH_take hi hs hf hr hQ hy hS h
end

/-- A new space and a new map. -/
def RisW (w : World) (b mb n : Nat) (y : World) : Prop := ∃ v u s M, SpIs b b v u s y ∧ s.fine ∧ BMap y mb n M ∧ (∀ x, x < 2 ^ 64 → M x = coversR s.R x x) ∧ Below w.heap.size w y ∧ w.heap.size ≤ b ∧ w.heap.size ≤ mb
theorem RisW.bel {w y : World} {b mb n : Nat} (h : RisW w b mb n y) : Below w.heap.size w y := by obtain ⟨_, _, _, _, _, _, _, _, h, _⟩ := h; exact h
theorem RisW.start {w w1 : World} (hb : Below w.heap.size w w1) (z : Array Value) (hz : z = #[.slice none 0 0, .int .u64 0, .bool false, .int .u64 0, .bool false, .int .u64 0, .slice none 0 0, .int .u64 0, .bool false]) :
    RisW w w1.heap.size (w1.heap.size + 1) 0 ((w1.alloc (.cells z 34)).alloc (.map #[] 0)) := by
  subst hz
  have h1 := SpIs.start w1
  have b1 : Below w.heap.size w _ := hb.alloc hb.size (.cells #[.slice none 0 0, .int .u64 0, .bool false, .int .u64 0, .bool false, .int .u64 0, .slice none 0 0, .int .u64 0, .bool false] 34)
  generalize hw2 : w1.alloc (.cells #[.slice none 0 0, .int .u64 0, .bool false, .int .u64 0, .bool false, .int .u64 0, .slice none 0 0, .int .u64 0, .bool false] 34) = w2 at *
  have s2 : w2.heap.size = w1.heap.size + 1 := by rw [← hw2]; simp
  have hm := BMap.made w2
  rw [s2] at hm
  exact ⟨_, _, _, _, h1.next ((Below.refl _ _).alloc (Nat.le_refl _) _), rfl, hm, fun x _ => by simp [coversR, Sp0], b1.alloc b1.size _, hb.size, by have := hb.size; omega⟩
/-- .. with an act in its box; the next number was so many, unless a packet was sent. -/
def RisM (w : World) (b mb X n : Nat) (a : Act1) (was : Nat) (y : World) : Prop := ∃ v u s M, RisS w b mb X n a v u s M y ∧ (a.kind ≠ 0 → s.next = was) ∧ was ≤ 4611686018427387904
theorem RisM.next {w y z : World} {b mb X n : Nat} {a : Act1} {was : Nat} (h : RisM w b mb X n a was y) (hb : Below y.heap.size y z) : RisM w b mb X n a was z := by
  obtain ⟨v, u, s, M, h1, h2⟩ := h
  exact ⟨v, u, s, M, h1.next hb, h2⟩
theorem RisM.bel {w y : World} {b mb X n : Nat} {a : Act1} {was : Nat} (h : RisM w b mb X n a was y) : Below w.heap.size w y := by obtain ⟨_, _, _, _, h, _⟩ := h; exact h.bel
theorem RisM.mono {w y : World} {b mb X n : Nat} {a : Act1} {was : Nat} (h : RisM w b mb X n a was y) : RisM w b mb X (n + 1) a was y := by
  obtain ⟨v, u, s, M, h1, h2⟩ := h
  obtain ⟨D, d1, d2⟩ := h1.map
  exact ⟨v, u, s, M, ⟨h1.sp, h1.fine, ⟨D, d1.mono (by omega), d2⟩, h1.cov, h1.box, h1.bel, h1.la⟩, h2⟩
/-- The looks behind an act. -/
structure RisA (w : World) (b mb X n : Nat) (a : Act1) (v u : Value) (s : Sp) (M : Nat → Bool) (y : World) : Prop where
  ris : RisS w b mb X n a v u s M y
theorem RisA.cells {w y : World} {b mb X n : Nat} {a : Act1} {v u : Value} {s : Sp} {M : Nat → Bool} {K : Int} {m : Bool} (h : RisA w b mb X n a v u s M y) (hk : a.kind = K) (hn : a.num < 2 ^ 64) (hm : M a.num = m) :
    (y.cell? ⟨X, 0, none⟩ = some (.int .i64 K) ∧ y.cell? ⟨X, 1, none⟩ = some (.int .u64 (a.num : Int))) ∧ (Instr.lookup 35 (.map (some mb)) (.int .u64 (a.num : Int)) false).run Try.prog y = .ok (.bool m) y ∧ RisA w b mb X n a v u s M y := by
  refine ⟨⟨by rw [← hk]; exact h.ris.box.cell (k := 0) rfl, h.ris.box.cell (k := 1) rfl⟩, ?_, h⟩
  rw [← hm]
  exact h.ris.map.look hn
theorem RisA.next {w y z : World} {b mb X n : Nat} {a : Act1} {v u : Value} {s : Sp} {M : Nat → Bool} (h : RisA w b mb X n a v u s M y) (hb : Below y.heap.size y z) : RisA w b mb X n a v u s M z := ⟨h.ris.next hb⟩

theorem RisS.sent {w y : World} {b mb X n : Nat} {a : Act1} {v u : Value} {s : Sp} {M : Nat → Bool} {was : Nat} (h : RisS w b mb X n a v u s M y) (hnx : s.next = was) (hc : a.came w) (hfit : ∀ f ∈ a.fs, f.fit) (hl : a.fs.length ≤ 10) :
    Calls Try.prog 16 #[.pointer (some ⟨b, 0, none⟩), .int .u64 (a.now : Int), .int .u64 (a.size : Int), .slice a.fp a.fs.length a.fcap] y fun e z =>
      ∃ (num : Nat) (err : Int) (v' : Value) (s' : Sp), e = .returned (.tuple #[.int .u64 (num : Int), .int .i64 err]) ∧ RisS w b mb X n a v' u s' M z ∧ ((err = 0 ∧ num = was ∧ s'.next = was + 1) ∨ (err ≠ 0 ∧ s'.next = was)) := by
  refine (Sent_sp b b v u s y a.now a.size a.fp a.fcap a.fs h.sp h.fine (hc.frs.below h.bel) hfit (by omega)).mono ?_
  rintro e z ⟨fa, fc, v', h1, h2, -⟩
  obtain ⟨f1, f2, f3⟩ := fine_sent h.fine a.now a.size (a.fs.any asksF) fa a.fs.length fc
  refine ⟨_, _, v', _, h1, h.to h2 f1 (fun x hx => by rw [f2]; exact h.cov x hx), ?_⟩
  rw [hnx] at f3
  exact f3
theorem RisS.got {w y : World} {b mb X n : Nat} {a : Act1} {v u : Value} {s : Sp} {M : Nat → Bool} (h : RisS w b mb X n a v u s M y) (hc : a.came w) (hfit : ∀ f ∈ a.fs, f.fit) (hl : a.fs.length ≤ 10) (hn : n < 1000000) :
    Calls Try.prog 11 #[.pointer (some ⟨b, 0, none⟩), .int .u64 (a.num : Int), .int .u64 (a.now : Int), .slice a.fp a.fs.length a.fcap] y fun e z =>
      ∃ (err : Int) (mv c : Bool), e = .returned (.int .i64 err) ∧ mv = (err == 22) ∧ c = (mv || (err == 0)) ∧ blk z X 38 a.vals ∧ (Instr.lookup 35 (.map (some mb)) (.int .u64 (a.num : Int)) false).run Try.prog z = .ok (.bool mv) z ∧
        ∃ z' u' s' M', (Instr.mapUpdate 35 (.map (some mb)) (.int .u64 (a.num : Int)) (.bool c)).run Try.prog z = .ok () z' ∧ RisS w b mb X (n + 1) a v u' s' M' z' ∧ s'.next = s.next := by
  refine (Got_sp b b v u s y a.num a.now a.fp a.fcap a.fs h.sp (hc.frs.below h.bel) (came_off (B := 0) h.sp h.la.1 hc.old) hfit (by omega) hc.n1 hc.n2).mono ?_
  rintro e z ⟨h1, u', h2⟩
  have hlk := (h.map.only h2.on h.off).look hc.n1
  have hbx := h.box.only h2.on (by
    rintro (e | e | e)
    · exact blk_ne h.sp.led.led h.box (by decide) e
    · exact own_ne h.sp.led.own h.box (by decide) e
    · exact own_ne h.sp.set h.box (by decide) e)
  rw [h.cov _ hc.n1] at hlk
  unfold gotSp at h1 h2
  cases hC : coversR s.R a.num a.num
  · rw [hC, if_neg (by simp)] at h1 h2
    rw [hC] at hlk
    by_cases hE : addE s.R a.num a.num = 0
    · rw [if_pos hE] at h1 h2
      obtain ⟨z', p1, p2⟩ := h.put h2 h.fine hc.n1 true hn (fun k hk => by
        show _ = coversR (addR s.R a.num a.num) k k
        rw [covers_add h.sp.ok h.sp.len _ hE, h.cov k hk])
      exact ⟨0, false, true, h1, rfl, rfl, hbx, hlk, z', u', _, _, p1, p2, rfl⟩
    · rw [if_neg hE] at h1 h2
      have h4 := addE_le s.R a.num a.num
      obtain ⟨z', p1, p2⟩ := h.put h2 h.fine hc.n1 false hn (fun k hk => by
        by_cases e : k = a.num
        · rw [if_pos e, e, hC]
        · rw [if_neg e, h.cov k hk])
      refine ⟨_, false, false, h1, ?_, ?_, hbx, hlk, z', u', _, _, p1, p2, rfl⟩
      · symm; rw [beq_eq_false_iff_ne]; omega
      · symm; rw [Bool.false_or, beq_eq_false_iff_ne]; omega
  · rw [hC, if_pos rfl] at h1 h2
    rw [hC] at hlk
    obtain ⟨z', p1, p2⟩ := h.put h2 h.fine hc.n1 true hn (fun k hk => by
      by_cases e : k = a.num
      · rw [if_pos e, e, hC]
      · rw [if_neg e, h.cov k hk])
    exact ⟨22, true, true, h1, rfl, rfl, hbx, hlk, z', u', _, _, p1, p2, rfl⟩
theorem RisS.lost {w y : World} {b mb X n : Nat} {a : Act1} {v u : Value} {s : Sp} {M : Nat → Bool} (h : RisS w b mb X n a v u s M y) (hnow : a.now < 2 ^ 64) :
    Calls Try.prog 20 #[.pointer (some ⟨b, 0, none⟩), .int .u64 (a.now : Int), .int .u64 (a.size : Int)] y fun e z => ∃ vg v' s', e = .returned vg ∧ RisS w b mb X n a v' u s' M z ∧ s'.next = s.next := by
  refine (Lost_any b b _ _ v s.L y a.now a.size h.sp.led h.sp.inv.len1 h.sp.inv.bnb hnow).mono ?_
  rintro e z ⟨vg, v', h1, h2, h3, h4⟩
  exact ⟨vg, v', _, h1, h.to (h.sp.came h3 (h.sp.inv.filter _)) h.fine h.cov, rfl⟩

set_option maxRecDepth 100000 in
set_option maxHeartbeats 16000000 in
theorem rises_walk (p : Option Addr) (cap : Nat) (xs : List Act1) (w : World) (hX : ActsAt w p xs) (hl : xs.length ≤ maxLen) :
    Calls Try.prog 6 #[.slice p xs.length cap] w fun e w' => e = .returned (.bool true) ∧ Below w.heap.size w w' := by
  unfold maxLen at hl
  have hmm := @run_makeMap Try.prog
  have HX := Lib.hid hX
  obtain ⟨N, hN⟩ : ∃ N, xs.length = N := ⟨_, rfl⟩
  rw [hN] at hl ⊢
  have HN := Lib.hid hN
  clear hX hN
  go_enter Try.func6, Try.ntmps6
  go_wp2_with fail
  refine (awake_ok w).mono ?_
  rintro e w1 ⟨rfl, hb1⟩
  have M0 := Lib.hid (RisW.start hb1 _ rfl)
  obtain ⟨b, hb⟩ : ∃ b, w1.heap.size = b := ⟨_, rfl⟩
  have hwb : w.heap.size ≤ b := by rw [← hb]; exact hb1.size
  rw [hb] at M0
  clear hb1
  go_wp2_with fail
  clear hb hmm
  go_loopw [5, 6, 7, 8, 9, 10] (fun i _ _ _ _ _ wr => ∃ j : Nat, j ≤ N ∧ j ≤ 100 ∧ i = .int .i64 j ∧ RisW w b (b + 1) j wr) (fun i _ _ _ _ _ _ => 100 - (intOf i).toNat)
  case atStart => exact ⟨0, by omega, by omega, rfl, M0.out⟩
  case round =>
    obtain ⟨j, hj, hj1, rfl, hM⟩ := hrel
    have hbel := hM.bel
    by_cases hlt : j < N ∧ j < 100
    · obtain ⟨hlt, hlt2⟩ := hlt
      have hjl : j < xs.length := by rw [HN.out]; exact hlt
      obtain ⟨a, ha⟩ : ∃ a, xs[j]? = some a := ⟨_, List.getElem?_eq_getElem hjl⟩
      obtain ⟨g, o, rfl, hg, hc⟩ := HX.out (by omega)
      obtain ⟨hcame, hcc⟩ := hc j a ha
      have cell := fun k v hv => (hbel.cell (p := ⟨g, o + j * 5 + k, none⟩) hg).trans (hcc k v hv)
      have c0 := cell 0 _ rfl
      have c1 := cell 1 _ rfl
      have c2 := cell 2 _ rfl
      have c3 := cell 3 _ rfl
      have c4 := cell 4 _ rfl
      rw [Nat.add_zero] at c0
      have hgl : g < wr.heap.size := Nat.lt_of_lt_of_le hg hbel.size
      have HL := fun y hy => Lib.hid (large_any a y w hy hcame)
      obtain ⟨big, hbig⟩ : ∃ big, largeF a = big := ⟨_, rfl⟩
      rw [hbig] at HL
      unfold Act1.v at HL
      have HBIG := Lib.hid hbig
      have HCAME := Lib.hid hcame
      obtain ⟨L, hL⟩ : ∃ L, a.fs.length = L := ⟨_, rfl⟩
      obtain ⟨K, hK⟩ : ∃ K, a.kind = K := ⟨_, rfl⟩
      rw [hL] at c4 HL
      rw [hK] at c0 HL
      have HLL := Lib.hid hL
      have HK := Lib.hid hK
      have hbx := blk.new wr 38 a.vals
      have HBX : Hid (blk (wr.alloc (.cells #[.int .i64 K, .int .u64 (a.num : Int), .int .u64 (a.now : Int), .int .u64 (a.size : Int), .slice a.fp L a.fcap] 38)) wr.heap.size 38 a.vals) := Lib.hid (by rw [← hL, ← hK]; exact hbx)
      have HM := Lib.hid hM
      have HB := Lib.hid (hbel.alloc hbel.size (.cells #[.int .i64 K, .int .u64 (a.num : Int), .int .u64 (a.now : Int), .int .u64 (a.size : Int), .slice a.fp L a.fcap] 38))
      clear hc ha hjl hcame hcc cell hbig hL hK hbx hM hbel
      go_wp2_with fail
      refine (HL _ HB.out).out.mono ?_
      rintro e w2 ⟨rfl, hb2⟩
      have HB2 := Lib.hid (HB.out.trans (hb2.mono HB.out.size))
      have hX2 := HBX.out.below hb2 HBX.out.lt
      obtain ⟨X, hXe⟩ : ∃ X, wr.heap.size = X := ⟨_, rfl⟩
      have HM2 : Hid (∃ was, RisM w b (b + 1) X j a was w2 ∧ ∃ v u s M, RisS w b (b + 1) X j a v u s M w2 ∧ s.next = was) := Lib.hid (by
        obtain ⟨v, u, s, M, h1, h2, h3, h4, h5, h6, h7⟩ := HM.out
        have hbb := ((Below.refl wr.heap.size wr).alloc (Nat.le_refl _) (.cells #[.int .i64 K, .int .u64 (a.num : Int), .int .u64 (a.now : Int), .int .u64 (a.size : Int), .slice a.fp L a.fcap] 38)).trans (hb2.mono (by simp))
        have hR : RisS w b (b + 1) X j a v u s M w2 := ⟨h1.next hbb, h2, h3.below hbb, h4, by rw [← hXe]; exact hX2, HB2.out, h6, h7⟩
        exact ⟨s.next, ⟨v, u, s, M, hR, fun _ => rfl, h2.le h1.inv⟩, v, u, s, M, hR, rfl⟩)
      rw [hXe] at hX2
      cases big
      · obtain ⟨hfl, hfit⟩ := large_fit HBIG.out HCAME.out
        rw [HLL.out] at hfl
        have HFIT := Lib.hid hfit
        obtain ⟨was, HMa, v, u, s, M, HS, hnx⟩ := HM2.out
        have x0 : w2.cell? ⟨X, 0, none⟩ = some (.int .i64 K) := by rw [← HK.out]; exact hX2.cell (k := 0) rfl
        have x1 : w2.cell? ⟨X, 1, none⟩ = some (.int .u64 (a.num : Int)) := hX2.cell (k := 1) rfl
        have x2 : w2.cell? ⟨X, 2, none⟩ = some (.int .u64 (a.now : Int)) := hX2.cell (k := 2) rfl
        have x3 : w2.cell? ⟨X, 3, none⟩ = some (.int .u64 (a.size : Int)) := hX2.cell (k := 3) rfl
        have x4 : w2.cell? ⟨X, 4, none⟩ = some (.slice a.fp L a.fcap) := by rw [← HLL.out]; exact hX2.cell (k := 4) rfl
        have hxl := hX2.lt
        have HSS := Lib.hid HS
        have HMA := Lib.hid HMa
        have HNX := Lib.hid hnx
        have hNum := Num_any HS.sp
        rw [hnx] at hNum
        have HNUM := Lib.hid hNum
        clear hb2 HM2 HMa HS hnx hfit HM HB hX2 hNum HL
        go_wp2_with fail
        refine HNUM.out.mono ?_
        rintro e w3 ⟨rfl, hw3⟩
        subst hw3
        clear HNUM c0 c1 c2 c3 c4
        have hwas : was ≤ 4611686018427387904 := by obtain ⟨_, _, _, _, _, _, h⟩ := HMA.out; exact h
        have hwr : IntKind.u64.wrap ((was : Int) + 1) = ((was + 1 : Nat) : Int) := by rw [IntKind.wrap_u64]; omega
        have HWAS := Lib.hid hwas
        clear hwas
        go_upto_block 2 with (fail)
        go_cut [8, 9, 10] (fun _ _ _ wx => RisM w b (b + 1) X (j + 1) a was wx)
        case first =>
          by_cases k0 : K = 0
          · subst k0
            have HS := HSS.out.sent HNX.out HCAME.out HFIT.out (by rw [HLL.out]; exact hfl)
            rw [HLL.out] at HS
            have HS := Lib.hid HS
            go_wp2_with fail
            refine HS.out.mono ?_
            rintro e w4 ⟨num, err, v', s', rfl, hR4, hres⟩
            have hNm := Num_any hR4.sp
            have HR4 : Hid (s'.next = was ∨ s'.next = was + 1 → RisM w b (b + 1) X (j + 1) a was w4) := Lib.hid (fun _ => RisM.mono ⟨_, _, _, _, hR4, fun e => absurd HK.out e, HWAS.out⟩)
            clear HS hR4
            rcases hres with ⟨rfl, rfl, hn4⟩ | ⟨herr, hn4⟩
            · rw [hn4] at hNm
              have HNM := Lib.hid hNm
              have H4 := Lib.hid (HR4.out (.inr hn4))
              clear hNm hn4 HR4
              go_wp2_with fail
              refine HNM.out.mono ?_
              rintro e w5 ⟨rfl, hw5⟩
              subst hw5
              go_wp2_with fail
              go_meet
              exact H4.out
            · rw [hn4] at hNm
              have HNM := Lib.hid hNm
              have H4 := Lib.hid (HR4.out (.inl hn4))
              have e1 : (err == 0) = false := by rw [beq_eq_false_iff_ne]; exact herr
              have e2 : (err != 0) = true := by rw [bne_iff_ne]; exact herr
              clear hNm hn4 HR4 herr
              go_wp2_with fail
              refine HNM.out.mono ?_
              rintro e w5 ⟨rfl, hw5⟩
              subst hw5
              go_wp2_with fail
              go_meet
              exact H4.out
          · have e0 : (K == 0) = false := by rw [beq_eq_false_iff_ne]; exact k0
            have HK0 := Lib.hid k0
            clear k0
            by_cases k1 : K = 1
            · subst k1
              have HG := HSS.out.got HCAME.out HFIT.out (by rw [HLL.out]; exact hfl) (by omega)
              rw [HLL.out] at HG
              have HG := Lib.hid HG
              go_wp2_with fail
              refine HG.out.mono ?_
              rintro e w4 ⟨err, mv, c, rfl, hmv, hcv, hbx4, hlk, w5, u5, s5, M5, hup, hR5, hn5⟩
              have y1 : w4.cell? ⟨X, 1, none⟩ = some (.int .u64 (a.num : Int)) := hbx4.cell (k := 1) rfl
              have hxl4 := hbx4.lt
              have H5 := Lib.hid (show RisM w b (b + 1) X (j + 1) a was w5 from ⟨_, _, _, _, hR5, fun _ => hn5.trans HNX.out, HWAS.out⟩)
              obtain ⟨q0, hq0⟩ : ∃ q, (err == 0) = q := ⟨_, rfl⟩
              rw [hq0] at hcv
              have hmv2 := hmv.symm
              have hcv2 := hcv.symm
              clear hbx4 HG hR5 hn5 hmv hcv
              cases mv
              · rw [Bool.false_or] at hcv2
                subst hcv2
                go_wp2_with fail
                go_meet
                exact H5.out
              · rw [Bool.true_or] at hcv2
                subst hcv2
                clear hq0
                go_wp2_with fail
                go_meet
                exact H5.out
            · have e1 : (K == 1) = false := by rw [beq_eq_false_iff_ne]; exact k1
              clear k1
              by_cases k4 : K = 4
              · subst k4
                have HLo := Lib.hid (HSS.out.lost HCAME.out.n2)
                go_wp2_with fail
                refine HLo.out.mono ?_
                rintro e w4 ⟨vg, v', s', rfl, hR4, hn4⟩
                have H4 := Lib.hid (show RisM w b (b + 1) X (j + 1) a was w4 from RisM.mono ⟨_, _, _, _, hR4, fun _ => hn4.trans HNX.out, HWAS.out⟩)
                clear hR4 hn4 HLo
                go_wp2_with fail
                go_meet
                exact H4.out
              · have e4 : (K == 4) = false := by rw [beq_eq_false_iff_ne]; exact k4
                clear k4
                go_wp2_with fail
                go_meet
                exact HMA.out.mono
        case rest =>
          obtain ⟨v9, u9, s9, M9, hR9, hn9, hw9⟩ := hcut
          obtain ⟨mv, hmv⟩ : ∃ mv, M9 a.num = mv := ⟨_, rfl⟩
          have HCm : Hid (∀ y, RisA w b (b + 1) X (j + 1) a v9 u9 s9 M9 y → Calls Try.prog 21 #[.pointer (some ⟨b, 0, none⟩), .int .u64 (a.num : Int)] y fun e z => e = .returned (.bool mv) ∧ Below y.heap.size y z) := Lib.hid (fun y hy => by
            have := Came_any a.num hy.ris.sp
            rw [← hR9.cov _ HCAME.out.n1, hmv] at this
            exact this)
          have HA9 := Lib.hid (RisA.cells (K := K) ⟨hR9.next ((Below.refl _ _).drew)⟩ HK.out HCAME.out.n1 hmv)
          have HN9 : Hid (¬ K = 0 → ∀ y, RisA w b (b + 1) X (j + 1) a v9 u9 s9 M9 y → Calls Try.prog 19 #[.pointer (some ⟨b, 0, none⟩)] y fun e z => e = .returned (.int .u64 (was : Int)) ∧ y = z) := Lib.hid (fun hk y hy => by
            have := Num_any hy.ris.sp
            rw [hn9 (by rw [HK.out]; exact hk)] at this
            exact this)
          have HFIN : Hid (∀ y, RisA w b (b + 1) X (j + 1) a v9 u9 s9 M9 y → RisW w b (b + 1) (j + 1) y) := Lib.hid (fun y hy => ⟨_, _, _, _, hy.ris.sp, hy.ris.fine, hy.ris.map, hy.ris.cov, hy.ris.bel, hy.ris.la.1, hy.ris.la.2⟩)
          have HMV := Lib.hid hmv
          clear hR9 hn9 hw9 hmv x0 x1 x2 x3 x4 HSS HMA HNX hxl hwr HWAS
          by_cases k0 : K = 0
          · subst k0
            clear HN9
            go_wp2_with fail
            refine wp_region_held_drew (S := (fun w' => (w'.cell? ⟨X, 0, none⟩ = some (.int .i64 0) ∧ w'.cell? ⟨X, 1, none⟩ = some (.int .u64 (a.num : Int))) ∧ (Instr.lookup 35 (.map (some (b + 1))) (.int .u64 (a.num : Int)) false).run Try.prog w' = .ok (.bool mv) w' ∧ RisA w b (b + 1) X (j + 1) a v9 u9 s9 M9 w')) (by as_aux_lemma => kernel_rfl) (HA9.out) (fun hHeld => ?_)
            refine wpAnyH_takeD (i := 0) (v := ?_) (some 102) rfl rfl (by as_aux_lemma => kernel_rfl) (by as_aux_lemma => kernel_rfl) (by as_aux_lemma => kernel_rfl) (fun _ _ _ h => h) (Or.inl ⟨by as_aux_lemma => kernel_rfl, ?_⟩) (by assumption) ?_
            rotate_left
            · (intro w hSw; (try dsimp only at hSw); go_simp); all_goals with_reducible rfl
            try simp only [Act.put, List.setIfInBounds_toArray, List.set_cons_zero, List.set_cons_succ]
            refine wpAnyH_takeD (i := 1) (v := ?_) (some 103) rfl rfl (by as_aux_lemma => kernel_rfl) (by as_aux_lemma => kernel_rfl) (by as_aux_lemma => kernel_rfl) (fun _ _ _ h => h) (Or.inl ⟨by as_aux_lemma => kernel_rfl, ?_⟩) (by assumption) ?_
            rotate_left
            · (intro w hSw; (try dsimp only at hSw); go_simp); all_goals with_reducible rfl
            try simp only [Act.put, List.setIfInBounds_toArray, List.set_cons_zero, List.set_cons_succ]
            refine wpAnyH_takeD (i := 2) (v := ?_) (some 104) rfl rfl (by as_aux_lemma => kernel_rfl) (by as_aux_lemma => kernel_rfl) (by as_aux_lemma => kernel_rfl) (fun _ _ _ h => h) (Or.inl ⟨by as_aux_lemma => kernel_rfl, ?_⟩) (by assumption) ?_
            rotate_left
            · (intro w hSw; (try dsimp only at hSw); go_simp); all_goals with_reducible rfl
            try simp only [Act.put, List.setIfInBounds_toArray, List.set_cons_zero, List.set_cons_succ]
            refine wpAnyH_takeD (i := 3) (v := ?_) (some 105) rfl rfl (by as_aux_lemma => kernel_rfl) (by as_aux_lemma => kernel_rfl) (by as_aux_lemma => kernel_rfl) (fun _ _ _ h => h) (Or.inl ⟨by as_aux_lemma => kernel_rfl, ?_⟩) (by assumption) ?_
            rotate_left
            · (intro w hSw; (try dsimp only at hSw); go_simp); all_goals with_reducible rfl
            try simp only [Act.put, List.setIfInBounds_toArray, List.set_cons_zero, List.set_cons_succ]
            refine wpAnyH_takeD (i := 4) (v := undef) (some 106) rfl rfl (by as_aux_lemma => kernel_rfl) (by as_aux_lemma => kernel_rfl) (by as_aux_lemma => kernel_rfl) (fun _ _ _ h => h) (Or.inr ⟨by as_aux_lemma => kernel_rfl, rfl⟩) (by assumption) ?_
            try simp only [Act.put, List.setIfInBounds_toArray, List.set_cons_zero, List.set_cons_succ]
            refine wpAnyH_takeD (i := 5) (v := undef) (some 107) rfl rfl (by as_aux_lemma => kernel_rfl) (by as_aux_lemma => kernel_rfl) (by as_aux_lemma => kernel_rfl) (fun _ _ _ h => h) (Or.inr ⟨by as_aux_lemma => kernel_rfl, rfl⟩) (by assumption) ?_
            try simp only [Act.put, List.setIfInBounds_toArray, List.set_cons_zero, List.set_cons_succ]
            refine wpAnyH_takeD (i := 6) (v := undef) (some 108) rfl rfl (by as_aux_lemma => kernel_rfl) (by as_aux_lemma => kernel_rfl) (by as_aux_lemma => kernel_rfl) (fun _ _ _ h => h) (Or.inr ⟨by as_aux_lemma => kernel_rfl, rfl⟩) (by assumption) ?_
            try simp only [Act.put, List.setIfInBounds_toArray, List.set_cons_zero, List.set_cons_succ]
            refine wpAnyH_takeD (i := 7) (v := ?_) (some 109) rfl rfl (by as_aux_lemma => kernel_rfl) (by as_aux_lemma => kernel_rfl) (by as_aux_lemma => kernel_rfl) (fun _ _ _ h => h) (Or.inl ⟨by as_aux_lemma => kernel_rfl, ?_⟩) (by assumption) ?_
            rotate_left
            · (intro w hSw; (try dsimp only at hSw); go_simp); all_goals with_reducible rfl
            try simp only [Act.put, List.setIfInBounds_toArray, List.set_cons_zero, List.set_cons_succ]
            refine wpAnyH_takeD (i := 8) (v := ?_) (some 110) rfl rfl (by as_aux_lemma => kernel_rfl) (by as_aux_lemma => kernel_rfl) (by as_aux_lemma => kernel_rfl) (fun _ _ _ h => h) (Or.inl ⟨by as_aux_lemma => kernel_rfl, ?_⟩) (by assumption) ?_
            rotate_left
            · (intro w hSw; (try dsimp only at hSw); go_simp); all_goals with_reducible rfl
            try simp only [Act.put, List.setIfInBounds_toArray, List.set_cons_zero, List.set_cons_succ]
            refine wpAnyH_takeD (i := 9) (v := ?_) (some 111) rfl rfl (by as_aux_lemma => kernel_rfl) (by as_aux_lemma => kernel_rfl) (by as_aux_lemma => kernel_rfl) (fun _ _ _ h => h) (Or.inl ⟨by as_aux_lemma => kernel_rfl, ?_⟩) (by assumption) ?_
            rotate_left
            · (intro w hSw; (try dsimp only at hSw); go_simp); all_goals with_reducible rfl
            try simp only [Act.put, List.setIfInBounds_toArray, List.set_cons_zero, List.set_cons_succ]
            refine wpAnyH_takeD (i := 10) (v := ?_) (some 112) rfl rfl (by as_aux_lemma => kernel_rfl) (by as_aux_lemma => kernel_rfl) (by as_aux_lemma => kernel_rfl) (fun _ _ _ h => h) (Or.inl ⟨by as_aux_lemma => kernel_rfl, ?_⟩) (by assumption) ?_
            rotate_left
            · (intro w hSw; (try dsimp only at hSw); go_simp); all_goals with_reducible rfl
            try simp only [Act.put, List.setIfInBounds_toArray, List.set_cons_zero, List.set_cons_succ]
            refine wpAnyH_takeD (i := 12) (v := ?_) (some 114) rfl rfl (by as_aux_lemma => kernel_rfl) (by as_aux_lemma => kernel_rfl) (by as_aux_lemma => kernel_rfl) (fun _ _ _ h => h) (Or.inl ⟨by as_aux_lemma => kernel_rfl, ?_⟩) (by assumption) ?_
            rotate_left
            · (intro w hSw; (try dsimp only at hSw); go_simp); all_goals with_reducible rfl
            try simp only [Act.put, List.setIfInBounds_toArray, List.set_cons_zero, List.set_cons_succ]
            refine wpAnyH_takeD (i := 13) (v := ?_) (some 115) rfl rfl (by as_aux_lemma => kernel_rfl) (by as_aux_lemma => kernel_rfl) (by as_aux_lemma => kernel_rfl) (fun _ _ _ h => h) (Or.inl ⟨by as_aux_lemma => kernel_rfl, ?_⟩) (by assumption) ?_
            rotate_left
            · (intro w hSw; (try dsimp only at hSw); go_simp); all_goals with_reducible rfl
            try simp only [Act.put, List.setIfInBounds_toArray, List.set_cons_zero, List.set_cons_succ]
            refine wpAnyH_takeD (i := 14) (v := ?_) (some 116) rfl rfl (by as_aux_lemma => kernel_rfl) (by as_aux_lemma => kernel_rfl) (by as_aux_lemma => kernel_rfl) (fun _ _ _ h => h) (Or.inl ⟨by as_aux_lemma => kernel_rfl, ?_⟩) (by assumption) ?_
            rotate_left
            · (intro w hSw; (try dsimp only at hSw); go_simp); all_goals with_reducible rfl
            try simp only [Act.put, List.setIfInBounds_toArray, List.set_cons_zero, List.set_cons_succ]
            refine wpAnyH_takeD (i := 15) (v := ?_) (some 117) rfl rfl (by as_aux_lemma => kernel_rfl) (by as_aux_lemma => kernel_rfl) (by as_aux_lemma => kernel_rfl) (fun _ _ _ h => h) (Or.inl ⟨by as_aux_lemma => kernel_rfl, ?_⟩) (by assumption) ?_
            rotate_left
            · (intro w hSw; (try dsimp only at hSw); go_simp); all_goals with_reducible rfl
            try simp only [Act.put, List.setIfInBounds_toArray, List.set_cons_zero, List.set_cons_succ]
            refine wpAnyH_ready (rs := [11]) (by as_aux_lemma => kernel_rfl) (by simp) ?_
            refine AllReadyH.cons rfl (fun K hK => ?_) AllReadyH.nil
            go_simp
            go_wp2_with (go_at_call 21; refine (HCm.out _ hHeld.2.2).mono ?_; rintro e y1 ⟨rfl, b1⟩)
            refine hK.out _ _ ((hHeld.2.2.next b1).cells HK.out HCAME.out.n1 HMV.out) (fun hHeld => ?_)
            clear hK K
            refine wpAnyH_takeD (i := 16) (v := ?_) (some 118) rfl rfl (by as_aux_lemma => kernel_rfl) (by as_aux_lemma => kernel_rfl) (by as_aux_lemma => kernel_rfl) (fun _ _ _ h => h) (Or.inl ⟨by as_aux_lemma => kernel_rfl, ?_⟩) (by assumption) ?_
            rotate_left
            · (intro w hSw; (try dsimp only at hSw); go_simp); all_goals with_reducible rfl
            try simp only [Act.put, List.setIfInBounds_toArray, List.set_cons_zero, List.set_cons_succ]
            refine wpAnyH_takeD (i := 17) (v := ?_) (some 119) rfl rfl (by as_aux_lemma => kernel_rfl) (by as_aux_lemma => kernel_rfl) (by as_aux_lemma => kernel_rfl) (fun _ _ _ h => h) (Or.inl ⟨by as_aux_lemma => kernel_rfl, ?_⟩) (by assumption) ?_
            rotate_left
            · (intro w hSw; (try dsimp only at hSw); go_simp); all_goals with_reducible rfl
            try simp only [Act.put, List.setIfInBounds_toArray, List.set_cons_zero, List.set_cons_succ]
            refine wpAnyH_done (by as_aux_lemma => kernel_rfl) ?_ _
            go_wp2_with fail
            go_roundw
            case rel => exact ⟨j + 1, by omega, by omega, by go_num, HFIN.out _ hHeld.2.2⟩
            case measure => simp [intOf]; omega
          · have HNM := Lib.hid (HN9.out k0)
            have e0 : (K == 0) = false := by rw [beq_eq_false_iff_ne]; exact k0
            have e1 : (K != 0) = true := by rw [bne_iff_ne]; exact k0
            clear k0 HN9
            go_wp2_with fail
            refine wp_region_held_drew (S := (fun w' => (w'.cell? ⟨X, 0, none⟩ = some (.int .i64 K) ∧ w'.cell? ⟨X, 1, none⟩ = some (.int .u64 (a.num : Int))) ∧ (Instr.lookup 35 (.map (some (b + 1))) (.int .u64 (a.num : Int)) false).run Try.prog w' = .ok (.bool mv) w' ∧ RisA w b (b + 1) X (j + 1) a v9 u9 s9 M9 w')) (by as_aux_lemma => kernel_rfl) (HA9.out) (fun hHeld => ?_)
            refine wpAnyH_takeD (i := 0) (v := ?_) (some 102) rfl rfl (by as_aux_lemma => kernel_rfl) (by as_aux_lemma => kernel_rfl) (by as_aux_lemma => kernel_rfl) (fun _ _ _ h => h) (Or.inl ⟨by as_aux_lemma => kernel_rfl, ?_⟩) (by assumption) ?_
            rotate_left
            · (intro w hSw; (try dsimp only at hSw); go_simp); all_goals with_reducible rfl
            try simp only [Act.put, List.setIfInBounds_toArray, List.set_cons_zero, List.set_cons_succ]
            refine wpAnyH_takeD (i := 1) (v := ?_) (some 103) rfl rfl (by as_aux_lemma => kernel_rfl) (by as_aux_lemma => kernel_rfl) (by as_aux_lemma => kernel_rfl) (fun _ _ _ h => h) (Or.inl ⟨by as_aux_lemma => kernel_rfl, ?_⟩) (by assumption) ?_
            rotate_left
            · (intro w hSw; (try dsimp only at hSw); go_simp); all_goals with_reducible rfl
            try simp only [Act.put, List.setIfInBounds_toArray, List.set_cons_zero, List.set_cons_succ]
            refine wpAnyH_takeD (i := 2) (v := ?_) (some 104) rfl rfl (by as_aux_lemma => kernel_rfl) (by as_aux_lemma => kernel_rfl) (by as_aux_lemma => kernel_rfl) (fun _ _ _ h => h) (Or.inl ⟨by as_aux_lemma => kernel_rfl, ?_⟩) (by assumption) ?_
            rotate_left
            · (intro w hSw; (try dsimp only at hSw); go_simp); all_goals with_reducible rfl
            try simp only [Act.put, List.setIfInBounds_toArray, List.set_cons_zero, List.set_cons_succ]
            refine wpAnyH_takeD (i := 3) (v := ?_) (some 105) rfl rfl (by as_aux_lemma => kernel_rfl) (by as_aux_lemma => kernel_rfl) (by as_aux_lemma => kernel_rfl) (fun _ _ _ h => h) (Or.inl ⟨by as_aux_lemma => kernel_rfl, ?_⟩) (by assumption) ?_
            rotate_left
            · (intro w hSw; (try dsimp only at hSw); go_simp); all_goals with_reducible rfl
            try simp only [Act.put, List.setIfInBounds_toArray, List.set_cons_zero, List.set_cons_succ]
            refine wpAnyH_takeD (i := 5) (v := ?_) (some 107) rfl rfl (by as_aux_lemma => kernel_rfl) (by as_aux_lemma => kernel_rfl) (by as_aux_lemma => kernel_rfl) (fun _ _ _ h => h) (Or.inl ⟨by as_aux_lemma => kernel_rfl, ?_⟩) (by assumption) ?_
            rotate_left
            · (intro w hSw; (try dsimp only at hSw); go_simp); all_goals with_reducible rfl
            try simp only [Act.put, List.setIfInBounds_toArray, List.set_cons_zero, List.set_cons_succ]
            refine wpAnyH_ready (rs := [4]) (by as_aux_lemma => kernel_rfl) (by simp) ?_
            refine AllReadyH.cons rfl (fun K hK => ?_) AllReadyH.nil
            go_simp
            go_wp2_with (go_at_call 19; refine (HNM.out _ hHeld.2.2).mono ?_; rintro e y0 ⟨rfl, b0⟩)
            refine hK.out _ _ (b0 ▸ hHeld) (fun hHeld => ?_)
            clear hK K
            refine wpAnyH_takeD (i := 6) (v := ?_) (some 108) rfl rfl (by as_aux_lemma => kernel_rfl) (by as_aux_lemma => kernel_rfl) (by as_aux_lemma => kernel_rfl) (fun _ _ _ h => h) (Or.inl ⟨by as_aux_lemma => kernel_rfl, ?_⟩) (by assumption) ?_
            rotate_left
            · (intro w hSw; (try dsimp only at hSw); go_simp); all_goals with_reducible rfl
            try simp only [Act.put, List.setIfInBounds_toArray, List.set_cons_zero, List.set_cons_succ]
            refine wpAnyH_takeD (i := 7) (v := ?_) (some 109) rfl rfl (by as_aux_lemma => kernel_rfl) (by as_aux_lemma => kernel_rfl) (by as_aux_lemma => kernel_rfl) (fun _ _ _ h => h) (Or.inl ⟨by as_aux_lemma => kernel_rfl, ?_⟩) (by assumption) ?_
            rotate_left
            · (intro w hSw; (try dsimp only at hSw); go_simp); all_goals with_reducible rfl
            try simp only [Act.put, List.setIfInBounds_toArray, List.set_cons_zero, List.set_cons_succ]
            refine wpAnyH_takeD (i := 8) (v := ?_) (some 110) rfl rfl (by as_aux_lemma => kernel_rfl) (by as_aux_lemma => kernel_rfl) (by as_aux_lemma => kernel_rfl) (fun _ _ _ h => h) (Or.inl ⟨by as_aux_lemma => kernel_rfl, ?_⟩) (by assumption) ?_
            rotate_left
            · (intro w hSw; (try dsimp only at hSw); go_simp); all_goals with_reducible rfl
            try simp only [Act.put, List.setIfInBounds_toArray, List.set_cons_zero, List.set_cons_succ]
            refine wpAnyH_takeD (i := 9) (v := ?_) (some 111) rfl rfl (by as_aux_lemma => kernel_rfl) (by as_aux_lemma => kernel_rfl) (by as_aux_lemma => kernel_rfl) (fun _ _ _ h => h) (Or.inl ⟨by as_aux_lemma => kernel_rfl, ?_⟩) (by assumption) ?_
            rotate_left
            · (intro w hSw; (try dsimp only at hSw); go_simp); all_goals with_reducible rfl
            try simp only [Act.put, List.setIfInBounds_toArray, List.set_cons_zero, List.set_cons_succ]
            refine wpAnyH_takeD (i := 10) (v := ?_) (some 112) rfl rfl (by as_aux_lemma => kernel_rfl) (by as_aux_lemma => kernel_rfl) (by as_aux_lemma => kernel_rfl) (fun _ _ _ h => h) (Or.inl ⟨by as_aux_lemma => kernel_rfl, ?_⟩) (by assumption) ?_
            rotate_left
            · (intro w hSw; (try dsimp only at hSw); go_simp); all_goals with_reducible rfl
            try simp only [Act.put, List.setIfInBounds_toArray, List.set_cons_zero, List.set_cons_succ]
            refine wpAnyH_takeD (i := 12) (v := ?_) (some 114) rfl rfl (by as_aux_lemma => kernel_rfl) (by as_aux_lemma => kernel_rfl) (by as_aux_lemma => kernel_rfl) (fun _ _ _ h => h) (Or.inl ⟨by as_aux_lemma => kernel_rfl, ?_⟩) (by assumption) ?_
            rotate_left
            · (intro w hSw; (try dsimp only at hSw); go_simp); all_goals with_reducible rfl
            try simp only [Act.put, List.setIfInBounds_toArray, List.set_cons_zero, List.set_cons_succ]
            refine wpAnyH_takeD (i := 13) (v := ?_) (some 115) rfl rfl (by as_aux_lemma => kernel_rfl) (by as_aux_lemma => kernel_rfl) (by as_aux_lemma => kernel_rfl) (fun _ _ _ h => h) (Or.inl ⟨by as_aux_lemma => kernel_rfl, ?_⟩) (by assumption) ?_
            rotate_left
            · (intro w hSw; (try dsimp only at hSw); go_simp); all_goals with_reducible rfl
            try simp only [Act.put, List.setIfInBounds_toArray, List.set_cons_zero, List.set_cons_succ]
            refine wpAnyH_takeD (i := 14) (v := ?_) (some 116) rfl rfl (by as_aux_lemma => kernel_rfl) (by as_aux_lemma => kernel_rfl) (by as_aux_lemma => kernel_rfl) (fun _ _ _ h => h) (Or.inl ⟨by as_aux_lemma => kernel_rfl, ?_⟩) (by assumption) ?_
            rotate_left
            · (intro w hSw; (try dsimp only at hSw); go_simp); all_goals with_reducible rfl
            try simp only [Act.put, List.setIfInBounds_toArray, List.set_cons_zero, List.set_cons_succ]
            refine wpAnyH_takeD (i := 15) (v := ?_) (some 117) rfl rfl (by as_aux_lemma => kernel_rfl) (by as_aux_lemma => kernel_rfl) (by as_aux_lemma => kernel_rfl) (fun _ _ _ h => h) (Or.inl ⟨by as_aux_lemma => kernel_rfl, ?_⟩) (by assumption) ?_
            rotate_left
            · (intro w hSw; (try dsimp only at hSw); go_simp); all_goals with_reducible rfl
            try simp only [Act.put, List.setIfInBounds_toArray, List.set_cons_zero, List.set_cons_succ]
            refine wpAnyH_ready (rs := [11]) (by as_aux_lemma => kernel_rfl) (by simp) ?_
            refine AllReadyH.cons rfl (fun K hK => ?_) AllReadyH.nil
            go_simp
            go_wp2_with (go_at_call 21; refine (HCm.out _ hHeld.2.2).mono ?_; rintro e y1 ⟨rfl, b1⟩)
            refine hK.out _ _ ((hHeld.2.2.next b1).cells HK.out HCAME.out.n1 HMV.out) (fun hHeld => ?_)
            clear hK K
            refine wpAnyH_takeD (i := 16) (v := ?_) (some 118) rfl rfl (by as_aux_lemma => kernel_rfl) (by as_aux_lemma => kernel_rfl) (by as_aux_lemma => kernel_rfl) (fun _ _ _ h => h) (Or.inl ⟨by as_aux_lemma => kernel_rfl, ?_⟩) (by assumption) ?_
            rotate_left
            · (intro w hSw; (try dsimp only at hSw); go_simp); all_goals with_reducible rfl
            try simp only [Act.put, List.setIfInBounds_toArray, List.set_cons_zero, List.set_cons_succ]
            refine wpAnyH_takeD (i := 17) (v := ?_) (some 119) rfl rfl (by as_aux_lemma => kernel_rfl) (by as_aux_lemma => kernel_rfl) (by as_aux_lemma => kernel_rfl) (fun _ _ _ h => h) (Or.inl ⟨by as_aux_lemma => kernel_rfl, ?_⟩) (by assumption) ?_
            rotate_left
            · (intro w hSw; (try dsimp only at hSw); go_simp); all_goals with_reducible rfl
            try simp only [Act.put, List.setIfInBounds_toArray, List.set_cons_zero, List.set_cons_succ]
            refine wpAnyH_done (by as_aux_lemma => kernel_rfl) ?_ _
            go_wp2_with fail
            go_roundw
            case rel => exact ⟨j + 1, by omega, by omega, by go_num, HFIN.out _ hHeld.2.2⟩
            case measure => simp [intOf]; omega
      · clear hb2 HM2 hX2
        go_wp2_with fail
        go_ret
        exact ⟨rfl, HB2.out⟩
    · have hend : ¬ (j : Int) < (N : Int) ∨ ((j : Int) < (N : Int) ∧ ¬ (j : Int) < 100) := by omega
      have HB := Lib.hid hbel
      clear hlt hM hbel
      rcases hend with hend | ⟨hend, hend2⟩
      all_goals
        go_wp2_with fail
        go_ret
        exact ⟨rfl, HB.out⟩

end Go.Proofs.Ytmnmpmiocgfalaa
