/- fields: the walk of FieldsBack. Printed by wip/tools/mkGr.py. -/
import Derived.Test.YtkggjcfiomddeaaGq
import Derived.Deep.RegionHeld
import Derived.Deep.DeepCutAuto
import Derived.Deep.LoopGhost
import Derived.Deep.CutBlock
namespace Go.Proofs.Ytkggjcfiomddeaa
open Go.ChangeShapes Go.WideShapes Go.RowKit
set_option linter.unusedVariables false
set_option linter.unusedSimpArgs false

set_option maxRecDepth 100000 in
set_option maxHeartbeats 16000000 in
theorem back_walk (a0 : Int) (a1 : Option Addr) (cap1 : Nat) (X : List In1) (w : World) (w0 : (Lit.int .i64 a0).wf = true) (hX : InLl w a1 X) :
    Calls Try.prog 5 #[.int .i64 a0, .slice a1 X.length cap1] w fun e w' => e = .returned (.bool true) ∧ Below w.heap.size w w' := by
  have hb0 := bounds_i64 w0
  have HAW := Lib.hid (fun w => awake_any w)
  have HNW := Lib.hid (fun w => NewWriter_any a0 (IntWalk.i64_in _ (by omega)) w)
  have HNR := Lib.hid (fun w => NewReader_any a0 (IntWalk.i64_in _ (by omega)) w)
  have hok0 : (⟨[], mostF a0, 0⟩ : Tbl).Ok := ⟨mostF_le a0, Nat.zero_le _, Nat.le_refl _⟩
  obtain ⟨S0, hS0⟩ : ∃ S0, (⟨[], mostF a0, 0⟩ : Tbl) = S0 := ⟨_, rfl⟩
  have hS0l : S0.l = [] := by rw [← hS0]
  rw [hS0] at hok0
  have HS0 := Lib.hid hS0
  have HS0l := Lib.hid hS0l
  have HOK := Lib.hid hok0
  have HX := Lib.hid hX
  obtain ⟨N, hN⟩ : ∃ N, X.length = N := ⟨_, rfl⟩
  have HN := Lib.hid hN
  have hNb := hX.2.2
  unfold maxLen at hNb
  rw [hN] at hNb ⊢
  obtain ⟨iS, hSi, hSz, hS1, hS2⟩ := info_parts Try.infoS
  obtain ⟨iL, hLi, hLz, hL1, hL2⟩ := info_parts Try.infoL
  clear w0 hX hok0 hN hS0 hS0l hb0
  go_enter Try.func5, Try.ntmps5
  go_wp2_with fail
  refine (HAW.out _).mono ?_
  rintro e x0 ⟨rfl, b0⟩
  have B0 := Lib.hid b0
  clear b0
  go_wp2_with fail
  refine (HNW.out _).mono ?_
  rintro e x1 ⟨bw, rfl, hbw, hk1, b1⟩
  have s0 := B0.out.size
  have W1 := Lib.hid (tab_new (B := w.heap.size) hk1)
  have B1 := Lib.hid (B0.out.trans (b1.mono B0.out.size))
  have lw := hk1.lt
  clear hk1 b1
  go_wp2_with fail
  refine (HNR.out _).mono ?_
  rintro e x2 ⟨bx, rfl, hbx, hk2, b2⟩
  have s1 := B1.out.size
  have W2 := Lib.hid (And.intro (W1.out.below b2) (tab_new (B := w.heap.size) hk2))
  have B2 := Lib.hid (B1.out.trans (b2.mono B1.out.size))
  have lx := hk2.lt
  clear hk2 b2
  go_wp2_with fail
  refine (HNR.out _).mono ?_
  rintro e x3 ⟨bl, rfl, hbl, hk3, b3⟩
  have s2 := B2.out.size
  have K0 : Hid (KTab w x3 bw bx bl (.slice none 0 0) (.slice none 0 0) (.slice none 0 0) S0 S0 S0) := Lib.hid (by
    rw [← HS0.out]
    exact ⟨W2.out.1.below b3, W2.out.2.below b3, tab_new hk3, by omega, by omega, by omega, by omega, by omega, by omega, fun k hk => by simp [Value.ownBlock] at hk, fun k hk => by simp [Value.ownBlock] at hk, fun k hk => by simp [Value.ownBlock] at hk, B2.out.trans (b3.mono B2.out.size)⟩)
  have s3 := K0.out.bel.size
  clear hk3 b3
  obtain ⟨xa, hxa⟩ : ∃ xa, ((x3.alloc (.cells #[] 9)).alloc (.cells #[] 9)).alloc (.cells #[] 30) = xa := ⟨_, rfl⟩
  have K1 : Hid (KTab w xa bw bx bl (.slice none 0 0) (.slice none 0 0) (.slice none 0 0) S0 S0 S0) := Lib.hid (by
    rw [← hxa]
    exact K0.out.next ((((Below.refl _ _).alloc (Nat.le_refl _) _).alloc (by simp) _).alloc (by simp; omega) _))
  have R1 : Hid (RRow w.heap.size xa (.slice (some ⟨x3.heap.size, 0, none⟩) 0 0) (.slice (some ⟨x3.heap.size + 1, 0, none⟩) 0 0) (.slice (some ⟨x3.heap.size + 1 + 1, 0, none⟩) 0 0) [] [] []) := Lib.hid (by
    rw [← hxa]
    have e1 : (x3.alloc (.cells #[] 9)).heap.size = x3.heap.size + 1 := by simp
    have e2 : ((x3.alloc (.cells #[] 9)).alloc (.cells #[] 9)).heap.size = x3.heap.size + 1 + 1 := by simp
    have o1 := World.ownsRow_made (e := 9) (size := 1) (base := w.heap.size) x3 #[] 0 (by omega) (by decide) rfl
    have o2 := World.ownsRow_made (e := 9) (size := 1) (base := w.heap.size) (x3.alloc (.cells #[] 9)) #[] 0 (by omega) (by decide) rfl
    have o3 := World.ownsRow_made (e := 30) (size := 1) (base := w.heap.size) ((x3.alloc (.cells #[] 9)).alloc (.cells #[] 9)) #[] 0 (by omega) (by decide) rfl
    rw [e1] at o2
    rw [e2] at o3
    exact ⟨(o1.alloc _).alloc _, o2.alloc _, o3, fun k hk e => by simp only [Value.ownBlock, Option.some.injEq] at hk e; omega⟩)
  clear K0 W1 W2 B0 B1 B2
  go_wp2_with (rw [hxa])
  clear hxa
  go_loopw [8, 9, 10, 11] (fun s8 s9 s10 iv wr => ∃ (i : Nat) (S : Tbl) (vw vx vl : Value) (H : List Ent), i ≤ N ∧ i ≤ 20 ∧ iv = .int .i64 i ∧ KTab w wr bw bx bl vw vx vl S S S0 ∧ RRow w.heap.size wr s8 s9 s10 (H.map (·.told)) (H.map (·.sec)) (H.map (·.x)) ∧ Hist w S0 S H ∧ H.length ≤ i ∧ S.Ok) (fun _ _ _ iv _ => N - (intOf iv).toNat)
  case atStart => exact ⟨0, S0, _, _, _, [], by omega, by omega, rfl, K1.out, R1.out, Hist.start w S0, Nat.le_refl _, HOK.out⟩
  case round =>
    obtain ⟨i, S, vw, vx, vl, H, hiN, hi20, rfl, hK, hR, hH, hHl, hS⟩ := hrel
    have KA := Lib.hid hK
    have RA := Lib.hid hR
    have HH := Lib.hid hH
    have HHl := Lib.hid hHl
    have HS := Lib.hid hS
    have hbel := hK.bel
    clear hK hR hH hHl hS
    by_cases hgo : i < N ∧ i < 20
    case neg =>
      have hgo2 : (i < N ∧ decide ((i : Int) < (N : Int)) = true ∧ decide ((i : Int) < 20) = false) ∨ (¬ i < N ∧ decide ((i : Int) < (N : Int)) = false) := by
        by_cases h1 : i < N
        · exact .inl ⟨h1, by rw [decide_eq_true_iff]; omega, by rw [decide_eq_false_iff_not]; omega⟩
        · exact .inr ⟨h1, by rw [decide_eq_false_iff_not]; omega⟩
      clear hgo hbel
      obtain ⟨f, hf0, hf1, hf2⟩ := HH.out.f
      have Hf := Lib.hid hf2
      obtain ⟨M, hM⟩ : ∃ M, H.length = M := ⟨_, rfl⟩
      have HM := Lib.hid hM
      rw [hM] at hf1
      have hM20 : M ≤ 20 := by have := HHl.out; omega
      obtain ⟨p8, c8, rfl, _⟩ := own_shape RA.out.o8
      obtain ⟨p9, c9, rfl, _⟩ := own_shape RA.out.o9
      obtain ⟨p10, c10, rfl, _⟩ := own_shape RA.out.o10
      have hRA := RA.out
      rw [List.length_map, List.length_map, List.length_map, hM] at hRA ⊢
      have RA := Lib.hid hRA
      have Hf0 := Lib.hid hf0
      have Hf1 := Lib.hid hf1
      clear hf0 hf1 hf2 hM hRA
      rcases hgo2 with ⟨h1, d1, d2⟩ | ⟨h1, d1⟩
      all_goals
        go_wp2_with fail
        obtain ⟨wo, rfl⟩ : ∃ wo : World, wo = wr := ⟨_, rfl⟩
        go_loopw [119] (fun v119 wr => ∃ (k : Nat) (vl' : Value), k ≤ M ∧ v119 = .int .i64 k ∧ KTab w wr bw bx bl vw vx vl' S S (f k) ∧ RRow w.heap.size wr (.slice p8 M c8) (.slice p9 M c9) (.slice p10 M c10) (H.map (·.told)) (H.map (·.sec)) (H.map (·.x))) (fun v119 _ => M - (intOf v119).toNat)
        case atStart => exact ⟨0, vl, by omega, rfl, by rw [Hf0.out]; exact KA.out, RA.out⟩
        case round =>
          obtain ⟨k, vl2, hk, rfl, hK, hR⟩ := hrel
          have KA2 := Lib.hid hK
          have RA2 := Lib.hid hR
          clear hK hR
          by_cases hkM : k < M
          · obtain ⟨⟨told, sec, ⟨zp, zc, ZL⟩⟩, he0⟩ : ∃ e0, H[k]? = some e0 := ⟨_, List.getElem?_eq_getElem (by rw [HM.out]; exact hkM)⟩
            obtain ⟨hfo, hft⟩ := Hf.out k _ he0
            obtain ⟨g8, c8', hv8, -, -, hc8, -⟩ := own_view RA2.out.o8 (by rw [List.length_map, HM.out]; omega)
            have k8 := hc8 k _ (strsB_at _ k told (by rw [List.getElem?_map, he0]; rfl))
            injection hv8 with hv81 hv82 hv83
            subst hv81
            have htd := Told_any w.heap.size bl vl2 (f k) told wr KA2.out.tl hfo KA2.out.bel.size KA2.out.hl (by have := (HH.out.sz _ (List.mem_of_getElem? he0)).1; simp only at this; omega)
            simp only at hft
            rw [hft] at htd
            have HTD := Lib.hid htd
            clear htd hft hfo he0 hc8 hv82 hv83
            go_wp2_with fail
            refine HTD.out.mono ?_
            rintro e y2 ⟨rfl, hto⟩
            have R2 := Lib.hid (RA2.out.tab KA2.out.tl (by decide) (by decide) hto)
            obtain ⟨vl3, hK3⟩ := KA2.out.late hto
            have K3' := Lib.hid hK3
            clear hto hK3
            go_wp2_with fail
            go_roundw
            case rel => exact ⟨k + 1, vl3, by omega, by go_num, K3'.out, R2.out⟩
            case measure => simp [intOf]; omega
          · obtain rfl : k = M := by omega
            have KB2 : Hid (KTab w wr bw bx bl vw vx vl2 S S S) := Lib.hid (by have := KA2.out; rw [Hf1.out] at this; exact this)
            clear KA2
            go_wp2_with fail
            obtain ⟨wp, rfl⟩ : ∃ wp : World, wp = wr := ⟨_, rfl⟩
            go_loopw [132] (fun v132 wr => ∃ (j : Nat), j ≤ k ∧ v132 = .int .i64 j ∧ KTab w wr bw bx bl vw vx vl2 S S S ∧ RRow w.heap.size wr (.slice p8 k c8) (.slice p9 k c9) (.slice p10 k c10) (H.map (·.told)) (H.map (·.sec)) (H.map (·.x))) (fun v132 _ => k - (intOf v132).toNat)
            case atStart => exact ⟨0, by omega, rfl, KB2.out, RA2.out⟩
            case round =>
              obtain ⟨j, hj, rfl, hK, hR⟩ := hrel
              have KC2 := Lib.hid hK
              have RC2 := Lib.hid hR
              clear hK hR
              by_cases hjM : j < k
              · obtain ⟨⟨told, sec, ⟨zp, zc, ZL⟩⟩, he0⟩ : ∃ e0, H[j]? = some e0 := ⟨_, List.getElem?_eq_getElem (by rw [HM.out]; exact hjM)⟩
                have hmem := List.mem_of_getElem? he0
                obtain ⟨hz1, hz2, hz3⟩ := HH.out.sz _ hmem
                have hrd := (HH.out.sec _ hmem).read
                simp only at hz2 hz3 hrd
                obtain ⟨NL, hNL⟩ : ∃ n, ZL.length = n := ⟨_, rfl⟩
                have hlen : ZL.length ≤ 10000 := by
                  obtain ⟨l, m, -, -, -, -, -, h6⟩ := HH.out.sec _ hmem
                  simp only at h6
                  omega
                obtain ⟨g9, c9', hv9, -, -, hc9, -⟩ := own_view RC2.out.o9 (by rw [List.length_map, HM.out]; omega)
                have k9 := hc9 j _ (strsB_at _ j sec (by rw [List.getElem?_map, he0]; rfl))
                injection hv9 with hv91 hv92 hv93
                subst hv91
                obtain ⟨g10, c10', hv10, -, hg10, hc10, -⟩ := own_view RC2.out.o10 (by rw [List.length_map, HM.out]; omega)
                have k10 := hc10 j _ (lls_at _ j ⟨zp, zc, ZL⟩ (by rw [List.getElem?_map, he0]; rfl))
                injection hv10 with hv101 hv102 hv103
                subst hv101
                simp only at k10
                rw [hNL] at k10
                have hok := HS.out
                have hrr := Read_any w.heap.size bl vl2 S sec wr KC2.out.tl (by omega) (by have h1 := hok.2.1; have h2 := hok.2.2; omega)
                rw [hrd] at hrr
                have HRR := Lib.hid hrr
                have HIN := Lib.hid hz3
                have HNL := Lib.hid hNL
                have HC10 : Hid (∀ W, Below wr.heap.size wr W → W.cell? ⟨g10, j, none⟩ = some (.slice zp NL zc)) := Lib.hid (fun W hb => (hb.cell (p := ⟨g10, j, none⟩) hg10).trans k10)
                have HOW : Hid (∀ W p c, FV W p ZL → Calls Try.prog 15 #[.slice p NL c] W fun e w' => ∃ p' c', e = .returned (.slice p' NL c') ∧ FV w' p' ZL ∧ Below W.heap.size W w') := Lib.hid (fun W p c h => by
                  have := own_any ZL p c W h hlen
                  rw [HNL.out] at this
                  refine this.mono ?_
                  rintro e w' ⟨v, rfl, ho, hb⟩
                  obtain ⟨p', c', rfl, _⟩ := own_shape ho
                  exact ⟨p', c', by rw [HNL.out], OwnR.fv ho, hb⟩)
                have HSAME : Hid (∀ W p q c d, FV W p ZL → FV W q ZL → Calls Try.prog 14 #[.slice p NL c, .slice q NL d] W fun e w' => e = .returned (.bool true) ∧ Below W.heap.size W w') := Lib.hid (fun W p q c d h1 h2 => by
                  have := RSame_any ZL ZL p q c d W h1 h2 hlen hlen
                  rw [HNL.out, show sameF ZL ZL = true from decide_eq_true rfl] at this
                  exact this)
                clear hrr hz1 hz2 hz3 hNL k10 hc9 hc10 hv92 hv93 hv102 hv103 he0 hmem hrd hok
                go_wp2_with fail
                refine HRR.out.mono ?_
                rintro e y2 ⟨b2, v21, rfl, ho21⟩
                have KC := Lib.hid (KC2.out.next b2)
                have RC := Lib.hid (RC2.out.next b2)
                have HY2 := Lib.hid b2
                obtain ⟨p21, c21, rfl, _⟩ := own_shape ho21
                have HF21 := Lib.hid (show FV y2 p21 ZL from OwnFl.fv ho21)
                rw [show (ZL, (0 : Int)).1.length = NL from HNL.out]
                have HCELL3 : Hid (∀ W, Below y2.heap.size y2 W → W.cell? ⟨g10, j, none⟩ = some (.slice zp NL zc) ∧ Below w.heap.size w W) := Lib.hid (fun W hb => ⟨HC10.out W (HY2.out.trans (hb.mono HY2.out.size)), KC.out.bel.trans (hb.mono KC.out.bel.size)⟩)
                clear b2 ho21 k9
                go_wp2_with fail
                refine wp_region_held_drew (S := (fun w' => w'.cell? ⟨g10, j, none⟩ = some (.slice zp NL zc) ∧ Below w.heap.size w w')) (by kernel_rfl) (HCELL3.out _ ((Below.refl _ _).drew)) (fun hHeld => ?_)
                refine wpAnyH_takeD (i := 0) (v := ?_) (some 144) rfl rfl (by kernel_rfl) (by kernel_rfl) (by kernel_rfl) (fun _ _ _ h => h) (Or.inl ⟨by kernel_rfl, ?_⟩) (by assumption) ?_
                rotate_left
                · (intro w hSw; (try dsimp only at hSw); go_simp); all_goals with_reducible rfl
                try simp only [Act.put, List.setIfInBounds_toArray, List.set_cons_zero, List.set_cons_succ]
                refine wpAnyH_takeD (i := 1) (v := ?_) (some 145) rfl rfl (by kernel_rfl) (by kernel_rfl) (by kernel_rfl) (fun _ _ _ h => h) (Or.inl ⟨by kernel_rfl, ?_⟩) (by assumption) ?_
                rotate_left
                · (intro w hSw; (try dsimp only at hSw); go_simp); all_goals with_reducible rfl
                try simp only [Act.put, List.setIfInBounds_toArray, List.set_cons_zero, List.set_cons_succ]
                refine wpAnyH_takeD (i := 2) (v := ?_) (some 146) rfl rfl (by kernel_rfl) (by kernel_rfl) (by kernel_rfl) (fun _ _ _ h => h) (Or.inl ⟨by kernel_rfl, ?_⟩) (by assumption) ?_
                rotate_left
                · (intro w hSw; (try dsimp only at hSw); go_simp); all_goals with_reducible rfl
                try simp only [Act.put, List.setIfInBounds_toArray, List.set_cons_zero, List.set_cons_succ]
                refine wpAnyH_takeD (i := 3) (v := ?_) (some 147) rfl rfl (by kernel_rfl) (by kernel_rfl) (by kernel_rfl) (fun _ _ _ h => h) (Or.inl ⟨by kernel_rfl, ?_⟩) (by assumption) ?_
                rotate_left
                · (intro w hSw; (try dsimp only at hSw); go_simp); all_goals with_reducible rfl
                try simp only [Act.put, List.setIfInBounds_toArray, List.set_cons_zero, List.set_cons_succ]
                refine wpAnyH_takeD (i := 5) (v := ?_) (some 149) rfl rfl (by kernel_rfl) (by kernel_rfl) (by kernel_rfl) (fun _ _ _ h => h) (Or.inl ⟨by kernel_rfl, ?_⟩) (by assumption) ?_
                rotate_left
                · (intro w hSw; (try dsimp only at hSw); go_simp); all_goals with_reducible rfl
                try simp only [Act.put, List.setIfInBounds_toArray, List.set_cons_zero, List.set_cons_succ]
                refine wpAnyH_takeD (i := 6) (v := ?_) (some 150) rfl rfl (by kernel_rfl) (by kernel_rfl) (by kernel_rfl) (fun _ _ _ h => h) (Or.inl ⟨by kernel_rfl, ?_⟩) (by assumption) ?_
                rotate_left
                · (intro w hSw; (try dsimp only at hSw); go_simp); all_goals with_reducible rfl
                try simp only [Act.put, List.setIfInBounds_toArray, List.set_cons_zero, List.set_cons_succ]
                refine wpAnyH_takeD (i := 7) (v := ?_) (some 151) rfl rfl (by kernel_rfl) (by kernel_rfl) (by kernel_rfl) (fun _ _ _ h => h) (Or.inl ⟨by kernel_rfl, ?_⟩) (by assumption) ?_
                rotate_left
                · (intro w hSw; (try dsimp only at hSw); go_simp); all_goals with_reducible rfl
                try simp only [Act.put, List.setIfInBounds_toArray, List.set_cons_zero, List.set_cons_succ]
                refine wpAnyH_takeD (i := 8) (v := ?_) (some 152) rfl rfl (by kernel_rfl) (by kernel_rfl) (by kernel_rfl) (fun _ _ _ h => h) (Or.inl ⟨by kernel_rfl, ?_⟩) (by assumption) ?_
                rotate_left
                · (intro w hSw; (try dsimp only at hSw); go_simp); all_goals with_reducible rfl
                try simp only [Act.put, List.setIfInBounds_toArray, List.set_cons_zero, List.set_cons_succ]
                refine wpAnyH_ready (rs := [4]) (by kernel_rfl) (by simp) ?_
                refine AllReadyH.cons rfl (fun K hK => ?_) AllReadyH.nil
                go_simp
                go_wp2_with (go_at_call 15; refine (HOW.out _ p21 c21 (FV.below HF21.out ((Below.refl _ _).drew))).mono ?_; rintro e z1 ⟨q1, e1, rfl, hf1, b1⟩; have Z1 := Lib.hid (Below.trans ((Below.refl y2.heap.size y2).drew) b1); clear b1)
                refine hK.out _ _ (HCELL3.out _ Z1.out) (fun hHeld => ?_)
                clear hK K
                refine wpAnyH_ready (rs := [9]) (by kernel_rfl) (by simp) ?_
                refine AllReadyH.cons rfl (fun K hK => ?_) AllReadyH.nil
                go_simp
                go_wp2_with (go_at_call 15; refine (HOW.out _ zp zc (HIN.out.below (KC.out.bel.trans (Z1.out.mono KC.out.bel.size))).1).mono ?_; rintro e z2 ⟨q2, e2, rfl, hf2, b2⟩; have Z2 := Lib.hid (Z1.out.trans (b2.mono Z1.out.size)); have hf1 := FV.below hf1 b2; clear b2)
                refine hK.out _ _ (HCELL3.out _ Z2.out) (fun hHeld => ?_)
                clear hK K
                refine wpAnyH_ready (rs := [10]) (by kernel_rfl) (by simp) ?_
                refine AllReadyH.cons rfl (fun K hK => ?_) AllReadyH.nil
                go_simp
                go_wp2_with (go_at_call 14; refine (HSAME.out _ q1 q2 e1 e2 hf1 hf2).mono ?_; rintro e z3 ⟨rfl, b3⟩; have Z3 := Lib.hid (Z2.out.trans (b3.mono Z2.out.size)); clear b3)
                refine hK.out _ _ (HCELL3.out _ Z3.out) (fun hHeld => ?_)
                clear hK K
                refine wpAnyH_takeD (i := 11) (v := ?_) (some 155) rfl rfl (by kernel_rfl) (by kernel_rfl) (by kernel_rfl) (fun _ _ _ h => h) (Or.inl ⟨by kernel_rfl, ?_⟩) (by assumption) ?_
                rotate_left
                · (intro w hSw; (try dsimp only at hSw); go_simp); all_goals with_reducible rfl
                try simp only [Act.put, List.setIfInBounds_toArray, List.set_cons_zero, List.set_cons_succ]
                refine wpAnyH_takeD (i := 12) (v := ?_) (some 156) rfl rfl (by kernel_rfl) (by kernel_rfl) (by kernel_rfl) (fun _ _ _ h => h) (Or.inl ⟨by kernel_rfl, ?_⟩) (by assumption) ?_
                rotate_left
                · (intro w hSw; (try dsimp only at hSw); go_simp); all_goals with_reducible rfl
                try simp only [Act.put, List.setIfInBounds_toArray, List.set_cons_zero, List.set_cons_succ]
                refine wpAnyH_done (by kernel_rfl) ?_ _
                have KD := Lib.hid (KC.out.next Z3.out)
                have RD := Lib.hid (RC.out.next Z3.out)
                clear hf1 hf2 Z1 Z2 Z3 hHeld
                go_wp2_with fail
                go_roundw
                case rel => exact ⟨j + 1, by omega, by go_num, KD.out, RD.out⟩
                case measure => simp [intOf]; omega
              · obtain rfl : j = k := by omega
                go_wp2_with fail
                go_ret
                exact ⟨rfl, KC2.out.bel⟩
    case pos =>
      obtain ⟨hlt, h20⟩ := hgo
      have d1 : decide ((i : Int) < (N : Int)) = true := by rw [decide_eq_true_iff]; omega
      have d2 : decide ((i : Int) < 20) = true := by rw [decide_eq_true_iff]; omega
      have hiX : i < X.length := by rw [HN.out]; exact hlt
      obtain ⟨x, hx⟩ : ∃ x, X[i]? = some x := ⟨_, List.getElem?_eq_getElem hiX⟩
      have hIn := HX.out.2.1 x (List.mem_of_getElem? hx)
      obtain ⟨g, o, rfl, hg, hc⟩ := HX.out.1 (by omega)
      have hcw := hc i x hx
      have k0 := (hbel.cell (p := ⟨g, o + i, none⟩) hg).trans hcw
      obtain ⟨p, cap, L⟩ := x
      simp only at hIn hcw k0
      have hLG := large_any L p cap wr (hIn.below hbel)
      obtain ⟨NL, hNL⟩ : ∃ n, L.length = n := ⟨_, rfl⟩
      rw [hNL] at hcw k0 hLG
      have HLG := Lib.hid hLG
      have HIN := Lib.hid hIn
      have HNL := Lib.hid hNL
      have HCELL : Hid (∀ y, Below w.heap.size w y → y.cell? ⟨g, o + i, none⟩ = some (.slice p NL cap) ∧ Below w.heap.size w y) := Lib.hid (fun y hb => ⟨(hb.cell (p := ⟨g, o + i, none⟩) hg).trans hcw, hb⟩)
      clear hLG hIn hNL hc hcw hx hiX hbel hg
      go_wp2_with fail
      refine HLG.out.mono ?_
      rintro e y1 ⟨big, rfl, hsm, b1⟩
      have K1 := Lib.hid (KA.out.next b1)
      have R1 := Lib.hid (RA.out.next b1)
      have k1 := (HCELL.out _ K1.out.bel).1
      clear b1 k0
      cases big
      case true =>
        go_wp2_with fail
        go_ret
        exact ⟨rfl, K1.out.bel⟩
      case false =>
        have HSM := Lib.hid (hsm rfl)
        clear hsm
        have hlen : L.length ≤ 10000 := by have := HSM.out.1; omega
        have hw1 := write_in (cap := cap) K1.out.tw HS.out K1.out.hw K1.out.bel HIN.out hlen
        rw [HNL.out] at hw1
        by_cases hW : WOk L
        case neg =>
          obtain ⟨E, hE, hE2⟩ := write_bad (S := S) hW
          rw [hE] at hw1
          have HW1 := Lib.hid hw1
          clear hw1 hE hW
          rcases hE2 with rfl | rfl
          all_goals
            go_wp2_with fail
            refine HW1.out.mono ?_
            rintro e y2 ⟨rfl, hto⟩
            have R2 := Lib.hid (R1.out.tab K1.out.tw (by decide) (by decide) hto)
            obtain ⟨vw2, hK2⟩ := K1.out.write hto
            have K2 := Lib.hid hK2
            clear hto hK2
            go_wp2_with fail
            go_roundw
            case rel => exact ⟨i + 1, S, vw2, vx, vl, H, by omega, by omega, by go_num, K2.out, R2.out, HH.out, by have := HHl.out; omega, HS.out⟩
            case measure => simp [intOf]; omega
        case pos =>
          obtain ⟨f1, f2, f3, f4⟩ := wrote_facts HS.out hW HSM.out p cap
          have hz := sizes HS.out hW HSM.out
          rw [write_ok hW] at hw1
          generalize foldW S L = st at *
          obtain ⟨S1, told, m⟩ := st
          simp only at hw1 f1 f2 f3 f4 hz
          generalize secF S1.l m L = sec at *
          have HW1 := Lib.hid hw1
          have hcl := f1.2.1
          have hcl2 := f1.2.2
          have htd := fun W (hW : TblIs W w.heap.size bx 77 vx S) (hB : w.heap.size ≤ W.heap.size) (hb : w.heap.size ≤ bx) => Told_any w.heap.size bx vx S told W hW HS.out hB hb (by omega)
          rw [f3] at htd
          have hrd := fun W v (hW : TblIs W w.heap.size bx 77 v S1) => Read_any w.heap.size bx v S1 sec W hW (by omega) (by omega)
          rw [f4.read] at hrd
          have hrl := fun W v (hW : TblIs W w.heap.size bl 77 v S0) => Read_any w.heap.size bl v S0 sec W hW (by omega) (by rw [HS0l.out]; decide)
          rw [HS0l.out] at hrl
          obtain ⟨RL, RE, hRE⟩ : ∃ RL RE, readF [] sec = (RL, RE) := ⟨_, _, rfl⟩
          have hre := f4.wait
          simp only at hre
          rw [hRE] at hrl hre
          simp only at hre
          have HHist := Lib.hid (HH.out.snoc HS.out (e := ⟨told, sec, ⟨p, cap, L⟩⟩) f3 f2 f4 ⟨hz.1, hz.2, HIN.out⟩)
          have HTD := Lib.hid htd
          have HRD := Lib.hid hrd
          have HRL := Lib.hid hrl
          have HF := Lib.hid f1
          have HOW : Hid (∀ W p c, FV W p L → Calls Try.prog 15 #[.slice p NL c] W fun e w' => ∃ p' c', e = .returned (.slice p' NL c') ∧ FV w' p' L ∧ Below W.heap.size W w') := Lib.hid (fun W p c h => by
            have := own_any L p c W h hlen
            rw [HNL.out] at this
            refine this.mono ?_
            rintro e w' ⟨v, rfl, ho, hb⟩
            obtain ⟨p', c', rfl, _⟩ := own_shape ho
            exact ⟨p', c', by rw [HNL.out], OwnR.fv ho, hb⟩)
          have HSAME : Hid (∀ W p q c d, FV W p L → FV W q L → Calls Try.prog 14 #[.slice p NL c, .slice q NL d] W fun e w' => e = .returned (.bool true) ∧ Below W.heap.size W w') := Lib.hid (fun W p q c d h1 h2 => by
            have := RSame_any L L p q c d W h1 h2 hlen hlen
            rw [HNL.out, show sameF L L = true from decide_eq_true rfl] at this
            exact this)
          clear hw1 htd hrd hrl f1 f2 f3 f4 hz hcl hcl2 hRE hW
          go_wp2_with fail
          refine HW1.out.mono ?_
          rintro e y2 ⟨rfl, hto⟩
          have R2 := Lib.hid (R1.out.tab K1.out.tw (by decide) (by decide) hto)
          obtain ⟨vw2, hK2⟩ := K1.out.write hto
          have K2 := Lib.hid hK2
          clear hto hK2 k1
          go_wp2_with fail
          refine (HTD.out _ K2.out.tx K2.out.bel.size K2.out.hx).mono ?_
          rintro e y3 ⟨rfl, hto⟩
          have R3' := Lib.hid (R2.out.tab K2.out.tx (by decide) (by decide) hto)
          obtain ⟨vx2, hK3⟩ := K2.out.tell hto
          have K3' := Lib.hid hK3
          clear hto hK3
          go_wp2_with fail
          refine (HRD.out _ _ K3'.out.tx).mono ?_
          rintro e y6 ⟨b6, v15, rfl, ho15⟩
          have KB := Lib.hid (K3'.out.next b6)
          have RB := Lib.hid (R3'.out.next b6)
          obtain ⟨p15, c15, rfl, _⟩ := own_shape ho15
          have HF15 := Lib.hid (show FV y6 p15 L from OwnFl.fv ho15)
          rw [show (L, (0 : Int)).1.length = NL from HNL.out]
          clear b6 ho15
          go_wp2_with fail
          refine wp_region_held_drew (S := (fun w' => w'.cell? ⟨g, o + i, none⟩ = some (.slice p NL cap) ∧ Below w.heap.size w w')) (by kernel_rfl) (HCELL.out _ (KB.out.next ((Below.refl _ _).drew)).bel) (fun hHeld => ?_)
          refine wpAnyH_takeD (i := 0) (v := ?_) (some 77) rfl rfl (by kernel_rfl) (by kernel_rfl) (by kernel_rfl) (fun _ _ _ h => h) (Or.inl ⟨by kernel_rfl, ?_⟩) (by assumption) ?_
          rotate_left
          · (intro w hSw; (try dsimp only at hSw); go_simp); all_goals with_reducible rfl
          try simp only [Act.put, List.setIfInBounds_toArray, List.set_cons_zero, List.set_cons_succ]
          refine wpAnyH_takeD (i := 1) (v := ?_) (some 78) rfl rfl (by kernel_rfl) (by kernel_rfl) (by kernel_rfl) (fun _ _ _ h => h) (Or.inl ⟨by kernel_rfl, ?_⟩) (by assumption) ?_
          rotate_left
          · (intro w hSw; (try dsimp only at hSw); go_simp); all_goals with_reducible rfl
          try simp only [Act.put, List.setIfInBounds_toArray, List.set_cons_zero, List.set_cons_succ]
          refine wpAnyH_takeD (i := 2) (v := ?_) (some 79) rfl rfl (by kernel_rfl) (by kernel_rfl) (by kernel_rfl) (fun _ _ _ h => h) (Or.inl ⟨by kernel_rfl, ?_⟩) (by assumption) ?_
          rotate_left
          · (intro w hSw; (try dsimp only at hSw); go_simp); all_goals with_reducible rfl
          try simp only [Act.put, List.setIfInBounds_toArray, List.set_cons_zero, List.set_cons_succ]
          refine wpAnyH_takeD (i := 3) (v := ?_) (some 80) rfl rfl (by kernel_rfl) (by kernel_rfl) (by kernel_rfl) (fun _ _ _ h => h) (Or.inl ⟨by kernel_rfl, ?_⟩) (by assumption) ?_
          rotate_left
          · (intro w hSw; (try dsimp only at hSw); go_simp); all_goals with_reducible rfl
          try simp only [Act.put, List.setIfInBounds_toArray, List.set_cons_zero, List.set_cons_succ]
          refine wpAnyH_takeD (i := 5) (v := ?_) (some 82) rfl rfl (by kernel_rfl) (by kernel_rfl) (by kernel_rfl) (fun _ _ _ h => h) (Or.inl ⟨by kernel_rfl, ?_⟩) (by assumption) ?_
          rotate_left
          · (intro w hSw; (try dsimp only at hSw); go_simp); all_goals with_reducible rfl
          try simp only [Act.put, List.setIfInBounds_toArray, List.set_cons_zero, List.set_cons_succ]
          refine wpAnyH_takeD (i := 6) (v := ?_) (some 83) rfl rfl (by kernel_rfl) (by kernel_rfl) (by kernel_rfl) (fun _ _ _ h => h) (Or.inl ⟨by kernel_rfl, ?_⟩) (by assumption) ?_
          rotate_left
          · (intro w hSw; (try dsimp only at hSw); go_simp); all_goals with_reducible rfl
          try simp only [Act.put, List.setIfInBounds_toArray, List.set_cons_zero, List.set_cons_succ]
          refine wpAnyH_takeD (i := 7) (v := ?_) (some 84) rfl rfl (by kernel_rfl) (by kernel_rfl) (by kernel_rfl) (fun _ _ _ h => h) (Or.inl ⟨by kernel_rfl, ?_⟩) (by assumption) ?_
          rotate_left
          · (intro w hSw; (try dsimp only at hSw); go_simp); all_goals with_reducible rfl
          try simp only [Act.put, List.setIfInBounds_toArray, List.set_cons_zero, List.set_cons_succ]
          refine wpAnyH_takeD (i := 8) (v := ?_) (some 85) rfl rfl (by kernel_rfl) (by kernel_rfl) (by kernel_rfl) (fun _ _ _ h => h) (Or.inl ⟨by kernel_rfl, ?_⟩) (by assumption) ?_
          rotate_left
          · (intro w hSw; (try dsimp only at hSw); go_simp); all_goals with_reducible rfl
          try simp only [Act.put, List.setIfInBounds_toArray, List.set_cons_zero, List.set_cons_succ]
          refine wpAnyH_ready (rs := [4]) (by kernel_rfl) (by simp) ?_
          refine AllReadyH.cons rfl (fun K hK => ?_) AllReadyH.nil
          go_simp
          go_wp2_with (go_at_call 15; refine (HOW.out _ p15 c15 (FV.below HF15.out ((Below.refl _ _).drew))).mono ?_; rintro e z1 ⟨q1, e1, rfl, hf1, b1⟩; have Z1 := Lib.hid (Below.trans ((Below.refl y6.heap.size y6).drew) b1); clear b1)
          refine hK.out _ _ (HCELL.out _ (KB.out.next Z1.out).bel) (fun hHeld => ?_)
          clear hK K
          refine wpAnyH_ready (rs := [9]) (by kernel_rfl) (by simp) ?_
          refine AllReadyH.cons rfl (fun K hK => ?_) AllReadyH.nil
          go_simp
          go_wp2_with (go_at_call 15; refine (HOW.out _ p cap (HIN.out.below (KB.out.bel.trans (Z1.out.mono KB.out.bel.size))).1).mono ?_; rintro e z2 ⟨q2, e2, rfl, hf2, b2⟩; have Z2 := Lib.hid (Z1.out.trans (b2.mono Z1.out.size)); have hf1 := FV.below hf1 b2; clear b2)
          refine hK.out _ _ (HCELL.out _ (KB.out.next Z2.out).bel) (fun hHeld => ?_)
          clear hK K
          refine wpAnyH_ready (rs := [10]) (by kernel_rfl) (by simp) ?_
          refine AllReadyH.cons rfl (fun K hK => ?_) AllReadyH.nil
          go_simp
          go_wp2_with (go_at_call 14; refine (HSAME.out _ q1 q2 e1 e2 hf1 hf2).mono ?_; rintro e z3 ⟨rfl, b3⟩; have Z3 := Lib.hid (Z2.out.trans (b3.mono Z2.out.size)); clear b3)
          refine hK.out _ _ (HCELL.out _ (KB.out.next Z3.out).bel) (fun hHeld => ?_)
          clear hK K
          refine wpAnyH_takeD (i := 11) (v := ?_) (some 88) rfl rfl (by kernel_rfl) (by kernel_rfl) (by kernel_rfl) (fun _ _ _ h => h) (Or.inl ⟨by kernel_rfl, ?_⟩) (by assumption) ?_
          rotate_left
          · (intro w hSw; (try dsimp only at hSw); go_simp); all_goals with_reducible rfl
          try simp only [Act.put, List.setIfInBounds_toArray, List.set_cons_zero, List.set_cons_succ]
          refine wpAnyH_takeD (i := 12) (v := ?_) (some 89) rfl rfl (by kernel_rfl) (by kernel_rfl) (by kernel_rfl) (fun _ _ _ h => h) (Or.inl ⟨by kernel_rfl, ?_⟩) (by assumption) ?_
          rotate_left
          · (intro w hSw; (try dsimp only at hSw); go_simp); all_goals with_reducible rfl
          try simp only [Act.put, List.setIfInBounds_toArray, List.set_cons_zero, List.set_cons_succ]
          refine wpAnyH_done (by kernel_rfl) ?_ _
          have KC := Lib.hid (KB.out.next Z3.out)
          have RC := Lib.hid (RB.out.next Z3.out)
          clear hf1 hf2 Z1 Z2 Z3 hHeld
          go_wp2_with fail
          refine (HRL.out _ _ KC.out.tl).mono ?_
          rintro e y8 ⟨b8, v17, rfl, _⟩
          have KD := Lib.hid (KC.out.next b8)
          have RD := Lib.hid (RC.out.next b8)
          clear b8
          go_upto_region 20 with (fail)
          go_cut [101] (fun s101 wx => s101 = .bool false ∧ wx = y8)
          case first =>
            rcases hre with rfl | rfl
            all_goals
              go_wp2_with fail
              go_meet
              exact ⟨rfl, rfl⟩
          case rest =>
            obtain ⟨rfl, rfl⟩ := hcut
            have KK0 := Lib.hid (KD.out.next ((Below.refl _ _).drew))
            have RR0 := Lib.hid (RD.out.next ((Below.refl _ _).drew))
            have hmap : (H.map (·.told)).length + 1 ≤ 1000000 ∧ (H.map (·.sec)).length + 1 ≤ 1000000 ∧ (H.map (·.x)).length + 1 ≤ 1000000 := by have := HHl.out; simp only [List.length_map]; omega
            have HLn := Lib.hid hmap
            clear hmap
            go_wp2_with fail
            clear hre K1 R1 HSM HW1 HTD HRD HRL HOW HSAME R2 K2 R3' K3' KB RB HF15 hHeld KC RC KD RD
            refine wp_region_held_drew (S := (fun w' => w'.cell? ⟨g, o + i, none⟩ = some (.slice p NL cap) ∧ Below w.heap.size w w')) (by kernel_rfl) (HCELL.out _ KK0.out.bel) (fun hHeld => ?_)
            generalize World.drew wc = y9 at KK0 RR0 hHeld ⊢
            refine wpAnyH_takeD (i := 0) (v := ?_) (some 102) rfl rfl (by kernel_rfl) (by kernel_rfl) (by kernel_rfl) (fun _ _ _ h => h) (Or.inl ⟨by kernel_rfl, ?_⟩) (by assumption) ?_
            rotate_left
            · (intro w hSw; (try dsimp only at hSw); go_simp); all_goals with_reducible rfl
            try simp only [Act.put, List.setIfInBounds_toArray, List.set_cons_zero, List.set_cons_succ]
            refine wpAnyH_takeD (i := 1) (v := ?_) (some 103) rfl rfl (by kernel_rfl) (by kernel_rfl) (by kernel_rfl) (fun _ _ _ h => h) (Or.inl ⟨by kernel_rfl, ?_⟩) (by assumption) ?_
            rotate_left
            · (intro w hSw; (try dsimp only at hSw); go_simp); all_goals with_reducible rfl
            try simp only [Act.put, List.setIfInBounds_toArray, List.set_cons_zero, List.set_cons_succ]
            refine wpAnyH_takeD (i := 4) (v := ?_) (some 106) rfl rfl (by kernel_rfl) (by kernel_rfl) (by kernel_rfl) (fun _ _ _ h => h) (Or.inl ⟨by kernel_rfl, ?_⟩) (by assumption) ?_
            rotate_left
            · (intro w hSw; (try dsimp only at hSw); go_simp); all_goals with_reducible rfl
            try simp only [Act.put, List.setIfInBounds_toArray, List.set_cons_zero, List.set_cons_succ]
            refine wpAnyH_takeD (i := 5) (v := ?_) (some 107) rfl rfl (by kernel_rfl) (by kernel_rfl) (by kernel_rfl) (fun _ _ _ h => h) (Or.inl ⟨by kernel_rfl, ?_⟩) (by assumption) ?_
            rotate_left
            · (intro w hSw; (try dsimp only at hSw); go_simp); all_goals with_reducible rfl
            try simp only [Act.put, List.setIfInBounds_toArray, List.set_cons_zero, List.set_cons_succ]
            refine wpAnyH_takeD (i := 8) (v := ?_) (some 110) rfl rfl (by kernel_rfl) (by kernel_rfl) (by kernel_rfl) (fun _ _ _ h => h) (Or.inl ⟨by kernel_rfl, ?_⟩) (by assumption) ?_
            rotate_left
            · (intro w hSw; (try dsimp only at hSw); go_simp); all_goals with_reducible rfl
            try simp only [Act.put, List.setIfInBounds_toArray, List.set_cons_zero, List.set_cons_succ]
            refine wpAnyH_takeD (i := 9) (v := ?_) (some 111) rfl rfl (by kernel_rfl) (by kernel_rfl) (by kernel_rfl) (fun _ _ _ h => h) (Or.inl ⟨by kernel_rfl, ?_⟩) (by assumption) ?_
            rotate_left
            · (intro w hSw; (try dsimp only at hSw); go_simp); all_goals with_reducible rfl
            try simp only [Act.put, List.setIfInBounds_toArray, List.set_cons_zero, List.set_cons_succ]
            refine wpAnyH_takeD (i := 10) (v := ?_) (some 112) rfl rfl (by kernel_rfl) (by kernel_rfl) (by kernel_rfl) (fun _ _ _ h => h) (Or.inl ⟨by kernel_rfl, ?_⟩) (by assumption) ?_
            rotate_left
            · (intro w hSw; (try dsimp only at hSw); go_simp); all_goals with_reducible rfl
            try simp only [Act.put, List.setIfInBounds_toArray, List.set_cons_zero, List.set_cons_succ]
            refine wpAnyH_takeD (i := 11) (v := ?_) (some 113) rfl rfl (by kernel_rfl) (by kernel_rfl) (by kernel_rfl) (fun _ _ _ h => h) (Or.inl ⟨by kernel_rfl, ?_⟩) (by assumption) ?_
            rotate_left
            · (intro w hSw; (try dsimp only at hSw); go_simp); all_goals with_reducible rfl
            try simp only [Act.put, List.setIfInBounds_toArray, List.set_cons_zero, List.set_cons_succ]
            refine wpAnyH_takeD (i := 12) (v := ?_) (some 114) rfl rfl (by kernel_rfl) (by kernel_rfl) (by kernel_rfl) (fun _ _ _ h => h) (Or.inl ⟨by kernel_rfl, ?_⟩) (by assumption) ?_
            rotate_left
            · (intro w hSw; (try dsimp only at hSw); go_simp); all_goals with_reducible rfl
            try simp only [Act.put, List.setIfInBounds_toArray, List.set_cons_zero, List.set_cons_succ]
            refine wpAnyH_ready (rs := [2, 6, 13]) (by kernel_rfl) (by simp) ?_
            refine (AllReadyH.cons rfl (fun K hK => ?_) (AllReadyH.cons rfl (fun K hK => ?_) (AllReadyH.cons rfl (fun K hK => ?_) AllReadyH.nil)))
            · go_simp
              have KK1 := Lib.hid (KK0.out.next ((Below.refl _ _).alloc (Nat.le_refl _) (.cells #[.string told] 9)))
              have RR1 := Lib.hid (RR0.out.next ((Below.refl _ _).alloc (Nat.le_refl _) (.cells #[.string told] 9)))
              have X1_1 := Lib.hid (Box.new RR0.out 9 (.string told))
              refine hK.out _ _ (HCELL.out _ KK1.out.bel) (fun hNew => ?_)
              clear hHeld hK K
              have hHeld := hNew
              clear hNew
              try simp only [Act.put, List.setIfInBounds_toArray, List.set_cons_zero, List.set_cons_succ]
              generalize World.alloc y9 (.cells #[.string told] 9) = y91 at KK1 RR1 X1_1 hHeld ⊢
              clear KK0 RR0
              refine wpAnyH_ready (rs := [3, 6, 13]) (by kernel_rfl) (by simp) ?_
              refine (AllReadyH.cons rfl (fun K hK => ?_) (AllReadyH.cons rfl (fun K hK => ?_) (AllReadyH.cons rfl (fun K hK => ?_) AllReadyH.nil)))
              · refine step_append_src y91 rfl (.tmp 102) (.tmp 104) 47 rfl w.heap.size 9 iS _ 1 16 Try.underlying47 hSi hSz hS1 hS2 rfl (by decide) u8 _ (strsB (H.map (·.told))) RR1.out.o8 (some ⟨_, 0, none⟩) 1 1 [.string told] rfl (fun _ => ⟨_, rfl, X1_1.out.src⟩) (fun h => by cases h) (by intro u hu; simp at hu; subst hu; rfl) (by first | exact HLn.out.1 | exact HLn.out.2.1 | exact HLn.out.2.2) (by decide) KK1.out.bel.size (by simp [Act.eval]) (by simp [Act.eval]) ?_
                intro u1_2 y914 ho hon hat _
                have KK2 := Lib.hid (KK1.out.row RR1.out.o8 (by decide) (by decide) (by decide) hon)
                have RR2 := Lib.hid (RR1.out.app8 told ho hon hat)
                clear ho hon hat
                refine hK.out _ _ (HCELL.out _ KK2.out.bel) (fun hNew => ?_)
                clear hHeld hK K
                have hHeld := hNew
                clear hNew
                try simp only [Act.put, List.setIfInBounds_toArray, List.set_cons_zero, List.set_cons_succ]
                clear KK1 RR1 X1_1
                refine wpAnyH_ready (rs := [6, 13]) (by kernel_rfl) (by simp) ?_
                refine (AllReadyH.cons rfl (fun K hK => ?_) (AllReadyH.cons rfl (fun K hK => ?_) AllReadyH.nil))
                · go_simp
                  have KK3 := Lib.hid (KK2.out.next ((Below.refl _ _).alloc (Nat.le_refl _) (.cells #[.string sec] 9)))
                  have RR3 := Lib.hid (RR2.out.next ((Below.refl _ _).alloc (Nat.le_refl _) (.cells #[.string sec] 9)))
                  have X2_3 := Lib.hid (Box.new RR2.out 9 (.string sec))
                  refine hK.out _ _ (HCELL.out _ KK3.out.bel) (fun hNew => ?_)
                  clear hHeld hK K
                  have hHeld := hNew
                  clear hNew
                  try simp only [Act.put, List.setIfInBounds_toArray, List.set_cons_zero, List.set_cons_succ]
                  generalize World.alloc y914 (.cells #[.string sec] 9) = y9142 at KK3 RR3 X2_3 hHeld ⊢
                  clear KK2 RR2
                  refine wpAnyH_ready (rs := [7, 13]) (by kernel_rfl) (by simp) ?_
                  refine (AllReadyH.cons rfl (fun K hK => ?_) (AllReadyH.cons rfl (fun K hK => ?_) AllReadyH.nil))
                  · refine step_append_src y9142 rfl (.tmp 106) (.tmp 108) 47 rfl w.heap.size 9 iS _ 1 16 Try.underlying47 hSi hSz hS1 hS2 rfl (by decide) u9 _ (strsB (H.map (·.sec))) RR3.out.o9 (some ⟨_, 0, none⟩) 1 1 [.string sec] rfl (fun _ => ⟨_, rfl, X2_3.out.src⟩) (fun h => by cases h) (by intro u hu; simp at hu; subst hu; rfl) (by first | exact HLn.out.1 | exact HLn.out.2.1 | exact HLn.out.2.2) (by decide) KK3.out.bel.size (by simp [Act.eval]) (by simp [Act.eval]) ?_
                    intro u2_4 y91425 ho hon hat _
                    have KK4 := Lib.hid (KK3.out.row RR3.out.o9 (by decide) (by decide) (by decide) hon)
                    have RR4 := Lib.hid (RR3.out.app9 sec ho hon hat)
                    clear ho hon hat
                    refine hK.out _ _ (HCELL.out _ KK4.out.bel) (fun hNew => ?_)
                    clear hHeld hK K
                    have hHeld := hNew
                    clear hNew
                    try simp only [Act.put, List.setIfInBounds_toArray, List.set_cons_zero, List.set_cons_succ]
                    clear KK3 RR3 X2_3
                    refine wpAnyH_ready (rs := [13]) (by kernel_rfl) (by simp) ?_
                    refine (AllReadyH.cons rfl (fun K hK => ?_) AllReadyH.nil)
                    · go_simp
                      have KK5 := Lib.hid (KK4.out.next ((Below.refl _ _).alloc (Nat.le_refl _) (.cells #[.slice p NL cap] 30)))
                      have RR5 := Lib.hid (RR4.out.next ((Below.refl _ _).alloc (Nat.le_refl _) (.cells #[.slice p NL cap] 30)))
                      have X3_5 := Lib.hid (Box.new RR4.out 30 (.slice p NL cap))
                      refine hK.out _ _ (HCELL.out _ KK5.out.bel) (fun hNew => ?_)
                      clear hHeld hK K
                      have hHeld := hNew
                      clear hNew
                      try simp only [Act.put, List.setIfInBounds_toArray, List.set_cons_zero, List.set_cons_succ]
                      generalize World.alloc y91425 (.cells #[.slice p NL cap] 30) = y914253 at KK5 RR5 X3_5 hHeld ⊢
                      clear KK4 RR4
                      refine wpAnyH_ready (rs := [14]) (by kernel_rfl) (by simp) ?_
                      refine (AllReadyH.cons rfl (fun K hK => ?_) AllReadyH.nil)
                      · refine step_append_src y914253 rfl (.tmp 110) (.tmp 115) 34 rfl w.heap.size 30 iL _ 1 24 Try.underlying34 hLi hLz hL1 hL2 rfl (by decide) u10 _ (lls (H.map (·.x))) RR5.out.o10 (some ⟨_, 0, none⟩) 1 1 [.slice p NL cap] rfl (fun _ => ⟨_, rfl, X3_5.out.src⟩) (fun h => by cases h) (by intro u hu; simp at hu; subst hu; rfl) (by first | exact HLn.out.1 | exact HLn.out.2.1 | exact HLn.out.2.2) (by decide) KK5.out.bel.size (by simp [Act.eval]) (by simp [Act.eval]) ?_
                        intro u3_6 y9142536 ho hon hat _
                        have KK6 := Lib.hid (KK5.out.row RR5.out.o10 (by decide) (by decide) (by decide) hon)
                        have RR6 := Lib.hid (RR5.out.app10 ⟨p, cap, L⟩ (by rw [show (⟨p, cap, L⟩ : In1).L.length = NL from HNL.out]; exact ho) hon)
                        clear ho hon hat
                        refine hK.out _ _ (HCELL.out _ KK6.out.bel) (fun hNew => ?_)
                        clear hHeld hK K
                        have hHeld := hNew
                        clear hNew
                        try simp only [Act.put, List.setIfInBounds_toArray, List.set_cons_zero, List.set_cons_succ]
                        clear KK5 RR5 X3_5
                        refine wpAnyH_takeD (i := 15) (v := ?_) (some 8) rfl rfl (by kernel_rfl) (by kernel_rfl) (by kernel_rfl) (fun _ _ _ h => h) (Or.inl ⟨by kernel_rfl, ?_⟩) (by assumption) ?_
                        rotate_left
                        · (intro w hSw; (try dsimp only at hSw); go_simp); all_goals with_reducible rfl
                        try simp only [Act.put, List.setIfInBounds_toArray, List.set_cons_zero, List.set_cons_succ]
                        refine wpAnyH_takeD (i := 16) (v := ?_) (some 9) rfl rfl (by kernel_rfl) (by kernel_rfl) (by kernel_rfl) (fun _ _ _ h => h) (Or.inl ⟨by kernel_rfl, ?_⟩) (by assumption) ?_
                        rotate_left
                        · (intro w hSw; (try dsimp only at hSw); go_simp); all_goals with_reducible rfl
                        try simp only [Act.put, List.setIfInBounds_toArray, List.set_cons_zero, List.set_cons_succ]
                        refine wpAnyH_takeD (i := 17) (v := ?_) (some 10) rfl rfl (by kernel_rfl) (by kernel_rfl) (by kernel_rfl) (fun _ _ _ h => h) (Or.inl ⟨by kernel_rfl, ?_⟩) (by assumption) ?_
                        rotate_left
                        · (intro w hSw; (try dsimp only at hSw); go_simp); all_goals with_reducible rfl
                        try simp only [Act.put, List.setIfInBounds_toArray, List.set_cons_zero, List.set_cons_succ]
                        refine wpAnyH_done (by kernel_rfl) ?_ _
                        go_wp2_with fail
                        go_roundw
                        case rel => exact ⟨i + 1, S1, vw2, vx2, vl, H ++ [⟨told, sec, ⟨p, cap, L⟩⟩], by omega, by omega, by go_num, KK6.out, by rw [List.map_append, List.map_append, List.map_append]; exact RR6.out, HHist.out, by have := HHl.out; simp; omega, HF.out⟩
                        case measure => simp [intOf]; omega
                  · go_simp
                    have KK4 := Lib.hid (KK3.out.next ((Below.refl _ _).alloc (Nat.le_refl _) (.cells #[.slice p NL cap] 30)))
                    have RR4 := Lib.hid (RR3.out.next ((Below.refl _ _).alloc (Nat.le_refl _) (.cells #[.slice p NL cap] 30)))
                    have X2_4 := Lib.hid (X2_3.out.alloc (.cells #[.slice p NL cap] 30))
                    have X3_4 := Lib.hid (Box.new RR3.out 30 (.slice p NL cap))
                    refine hK.out _ _ (HCELL.out _ KK4.out.bel) (fun hNew => ?_)
                    clear hHeld hK K
                    have hHeld := hNew
                    clear hNew
                    try simp only [Act.put, List.setIfInBounds_toArray, List.set_cons_zero, List.set_cons_succ]
                    generalize World.alloc y9142 (.cells #[.slice p NL cap] 30) = y91423 at KK4 RR4 X2_4 X3_4 hHeld ⊢
                    clear KK3 RR3 X2_3
                    refine wpAnyH_ready (rs := [7]) (by kernel_rfl) (by simp) ?_
                    refine (AllReadyH.cons rfl (fun K hK => ?_) AllReadyH.nil)
                    · refine step_append_src y91423 rfl (.tmp 106) (.tmp 108) 47 rfl w.heap.size 9 iS _ 1 16 Try.underlying47 hSi hSz hS1 hS2 rfl (by decide) u9 _ (strsB (H.map (·.sec))) RR4.out.o9 (some ⟨_, 0, none⟩) 1 1 [.string sec] rfl (fun _ => ⟨_, rfl, X2_4.out.src⟩) (fun h => by cases h) (by intro u hu; simp at hu; subst hu; rfl) (by first | exact HLn.out.1 | exact HLn.out.2.1 | exact HLn.out.2.2) (by decide) KK4.out.bel.size (by simp [Act.eval]) (by simp [Act.eval]) ?_
                      intro u2_5 y914235 ho hon hat _
                      have KK5 := Lib.hid (KK4.out.row RR4.out.o9 (by decide) (by decide) (by decide) hon)
                      have RR5 := Lib.hid (RR4.out.app9 sec ho hon hat)
                      have X3_5 := Lib.hid (X3_4.out.app9 hon hat)
                      clear ho hon hat
                      refine hK.out _ _ (HCELL.out _ KK5.out.bel) (fun hNew => ?_)
                      clear hHeld hK K
                      have hHeld := hNew
                      clear hNew
                      try simp only [Act.put, List.setIfInBounds_toArray, List.set_cons_zero, List.set_cons_succ]
                      clear KK4 RR4 X2_4 X3_4
                      refine wpAnyH_ready (rs := [14]) (by kernel_rfl) (by simp) ?_
                      refine (AllReadyH.cons rfl (fun K hK => ?_) AllReadyH.nil)
                      · refine step_append_src y914235 rfl (.tmp 110) (.tmp 115) 34 rfl w.heap.size 30 iL _ 1 24 Try.underlying34 hLi hLz hL1 hL2 rfl (by decide) u10 _ (lls (H.map (·.x))) RR5.out.o10 (some ⟨_, 0, none⟩) 1 1 [.slice p NL cap] rfl (fun _ => ⟨_, rfl, X3_5.out.src⟩) (fun h => by cases h) (by intro u hu; simp at hu; subst hu; rfl) (by first | exact HLn.out.1 | exact HLn.out.2.1 | exact HLn.out.2.2) (by decide) KK5.out.bel.size (by simp [Act.eval]) (by simp [Act.eval]) ?_
                        intro u3_6 y9142356 ho hon hat _
                        have KK6 := Lib.hid (KK5.out.row RR5.out.o10 (by decide) (by decide) (by decide) hon)
                        have RR6 := Lib.hid (RR5.out.app10 ⟨p, cap, L⟩ (by rw [show (⟨p, cap, L⟩ : In1).L.length = NL from HNL.out]; exact ho) hon)
                        clear ho hon hat
                        refine hK.out _ _ (HCELL.out _ KK6.out.bel) (fun hNew => ?_)
                        clear hHeld hK K
                        have hHeld := hNew
                        clear hNew
                        try simp only [Act.put, List.setIfInBounds_toArray, List.set_cons_zero, List.set_cons_succ]
                        clear KK5 RR5 X3_5
                        refine wpAnyH_takeD (i := 15) (v := ?_) (some 8) rfl rfl (by kernel_rfl) (by kernel_rfl) (by kernel_rfl) (fun _ _ _ h => h) (Or.inl ⟨by kernel_rfl, ?_⟩) (by assumption) ?_
                        rotate_left
                        · (intro w hSw; (try dsimp only at hSw); go_simp); all_goals with_reducible rfl
                        try simp only [Act.put, List.setIfInBounds_toArray, List.set_cons_zero, List.set_cons_succ]
                        refine wpAnyH_takeD (i := 16) (v := ?_) (some 9) rfl rfl (by kernel_rfl) (by kernel_rfl) (by kernel_rfl) (fun _ _ _ h => h) (Or.inl ⟨by kernel_rfl, ?_⟩) (by assumption) ?_
                        rotate_left
                        · (intro w hSw; (try dsimp only at hSw); go_simp); all_goals with_reducible rfl
                        try simp only [Act.put, List.setIfInBounds_toArray, List.set_cons_zero, List.set_cons_succ]
                        refine wpAnyH_takeD (i := 17) (v := ?_) (some 10) rfl rfl (by kernel_rfl) (by kernel_rfl) (by kernel_rfl) (fun _ _ _ h => h) (Or.inl ⟨by kernel_rfl, ?_⟩) (by assumption) ?_
                        rotate_left
                        · (intro w hSw; (try dsimp only at hSw); go_simp); all_goals with_reducible rfl
                        try simp only [Act.put, List.setIfInBounds_toArray, List.set_cons_zero, List.set_cons_succ]
                        refine wpAnyH_done (by kernel_rfl) ?_ _
                        go_wp2_with fail
                        go_roundw
                        case rel => exact ⟨i + 1, S1, vw2, vx2, vl, H ++ [⟨told, sec, ⟨p, cap, L⟩⟩], by omega, by omega, by go_num, KK6.out, by rw [List.map_append, List.map_append, List.map_append]; exact RR6.out, HHist.out, by have := HHl.out; simp; omega, HF.out⟩
                        case measure => simp [intOf]; omega
                · go_simp
                  have KK3 := Lib.hid (KK2.out.next ((Below.refl _ _).alloc (Nat.le_refl _) (.cells #[.slice p NL cap] 30)))
                  have RR3 := Lib.hid (RR2.out.next ((Below.refl _ _).alloc (Nat.le_refl _) (.cells #[.slice p NL cap] 30)))
                  have X3_3 := Lib.hid (Box.new RR2.out 30 (.slice p NL cap))
                  refine hK.out _ _ (HCELL.out _ KK3.out.bel) (fun hNew => ?_)
                  clear hHeld hK K
                  have hHeld := hNew
                  clear hNew
                  try simp only [Act.put, List.setIfInBounds_toArray, List.set_cons_zero, List.set_cons_succ]
                  generalize World.alloc y914 (.cells #[.slice p NL cap] 30) = y9143 at KK3 RR3 X3_3 hHeld ⊢
                  clear KK2 RR2
                  refine wpAnyH_ready (rs := [6]) (by kernel_rfl) (by simp) ?_
                  refine (AllReadyH.cons rfl (fun K hK => ?_) AllReadyH.nil)
                  · go_simp
                    have KK4 := Lib.hid (KK3.out.next ((Below.refl _ _).alloc (Nat.le_refl _) (.cells #[.string sec] 9)))
                    have RR4 := Lib.hid (RR3.out.next ((Below.refl _ _).alloc (Nat.le_refl _) (.cells #[.string sec] 9)))
                    have X3_4 := Lib.hid (X3_3.out.alloc (.cells #[.string sec] 9))
                    have X2_4 := Lib.hid (Box.new RR3.out 9 (.string sec))
                    refine hK.out _ _ (HCELL.out _ KK4.out.bel) (fun hNew => ?_)
                    clear hHeld hK K
                    have hHeld := hNew
                    clear hNew
                    try simp only [Act.put, List.setIfInBounds_toArray, List.set_cons_zero, List.set_cons_succ]
                    generalize World.alloc y9143 (.cells #[.string sec] 9) = y91432 at KK4 RR4 X2_4 X3_4 hHeld ⊢
                    clear KK3 RR3 X3_3
                    refine wpAnyH_ready (rs := [7]) (by kernel_rfl) (by simp) ?_
                    refine (AllReadyH.cons rfl (fun K hK => ?_) AllReadyH.nil)
                    · refine step_append_src y91432 rfl (.tmp 106) (.tmp 108) 47 rfl w.heap.size 9 iS _ 1 16 Try.underlying47 hSi hSz hS1 hS2 rfl (by decide) u9 _ (strsB (H.map (·.sec))) RR4.out.o9 (some ⟨_, 0, none⟩) 1 1 [.string sec] rfl (fun _ => ⟨_, rfl, X2_4.out.src⟩) (fun h => by cases h) (by intro u hu; simp at hu; subst hu; rfl) (by first | exact HLn.out.1 | exact HLn.out.2.1 | exact HLn.out.2.2) (by decide) KK4.out.bel.size (by simp [Act.eval]) (by simp [Act.eval]) ?_
                      intro u2_5 y914325 ho hon hat _
                      have KK5 := Lib.hid (KK4.out.row RR4.out.o9 (by decide) (by decide) (by decide) hon)
                      have RR5 := Lib.hid (RR4.out.app9 sec ho hon hat)
                      have X3_5 := Lib.hid (X3_4.out.app9 hon hat)
                      clear ho hon hat
                      refine hK.out _ _ (HCELL.out _ KK5.out.bel) (fun hNew => ?_)
                      clear hHeld hK K
                      have hHeld := hNew
                      clear hNew
                      try simp only [Act.put, List.setIfInBounds_toArray, List.set_cons_zero, List.set_cons_succ]
                      clear KK4 RR4 X2_4 X3_4
                      refine wpAnyH_ready (rs := [14]) (by kernel_rfl) (by simp) ?_
                      refine (AllReadyH.cons rfl (fun K hK => ?_) AllReadyH.nil)
                      · refine step_append_src y914325 rfl (.tmp 110) (.tmp 115) 34 rfl w.heap.size 30 iL _ 1 24 Try.underlying34 hLi hLz hL1 hL2 rfl (by decide) u10 _ (lls (H.map (·.x))) RR5.out.o10 (some ⟨_, 0, none⟩) 1 1 [.slice p NL cap] rfl (fun _ => ⟨_, rfl, X3_5.out.src⟩) (fun h => by cases h) (by intro u hu; simp at hu; subst hu; rfl) (by first | exact HLn.out.1 | exact HLn.out.2.1 | exact HLn.out.2.2) (by decide) KK5.out.bel.size (by simp [Act.eval]) (by simp [Act.eval]) ?_
                        intro u3_6 y9143256 ho hon hat _
                        have KK6 := Lib.hid (KK5.out.row RR5.out.o10 (by decide) (by decide) (by decide) hon)
                        have RR6 := Lib.hid (RR5.out.app10 ⟨p, cap, L⟩ (by rw [show (⟨p, cap, L⟩ : In1).L.length = NL from HNL.out]; exact ho) hon)
                        clear ho hon hat
                        refine hK.out _ _ (HCELL.out _ KK6.out.bel) (fun hNew => ?_)
                        clear hHeld hK K
                        have hHeld := hNew
                        clear hNew
                        try simp only [Act.put, List.setIfInBounds_toArray, List.set_cons_zero, List.set_cons_succ]
                        clear KK5 RR5 X3_5
                        refine wpAnyH_takeD (i := 15) (v := ?_) (some 8) rfl rfl (by kernel_rfl) (by kernel_rfl) (by kernel_rfl) (fun _ _ _ h => h) (Or.inl ⟨by kernel_rfl, ?_⟩) (by assumption) ?_
                        rotate_left
                        · (intro w hSw; (try dsimp only at hSw); go_simp); all_goals with_reducible rfl
                        try simp only [Act.put, List.setIfInBounds_toArray, List.set_cons_zero, List.set_cons_succ]
                        refine wpAnyH_takeD (i := 16) (v := ?_) (some 9) rfl rfl (by kernel_rfl) (by kernel_rfl) (by kernel_rfl) (fun _ _ _ h => h) (Or.inl ⟨by kernel_rfl, ?_⟩) (by assumption) ?_
                        rotate_left
                        · (intro w hSw; (try dsimp only at hSw); go_simp); all_goals with_reducible rfl
                        try simp only [Act.put, List.setIfInBounds_toArray, List.set_cons_zero, List.set_cons_succ]
                        refine wpAnyH_takeD (i := 17) (v := ?_) (some 10) rfl rfl (by kernel_rfl) (by kernel_rfl) (by kernel_rfl) (fun _ _ _ h => h) (Or.inl ⟨by kernel_rfl, ?_⟩) (by assumption) ?_
                        rotate_left
                        · (intro w hSw; (try dsimp only at hSw); go_simp); all_goals with_reducible rfl
                        try simp only [Act.put, List.setIfInBounds_toArray, List.set_cons_zero, List.set_cons_succ]
                        refine wpAnyH_done (by kernel_rfl) ?_ _
                        go_wp2_with fail
                        go_roundw
                        case rel => exact ⟨i + 1, S1, vw2, vx2, vl, H ++ [⟨told, sec, ⟨p, cap, L⟩⟩], by omega, by omega, by go_num, KK6.out, by rw [List.map_append, List.map_append, List.map_append]; exact RR6.out, HHist.out, by have := HHl.out; simp; omega, HF.out⟩
                        case measure => simp [intOf]; omega
              · go_simp
                have KK2 := Lib.hid (KK1.out.next ((Below.refl _ _).alloc (Nat.le_refl _) (.cells #[.string sec] 9)))
                have RR2 := Lib.hid (RR1.out.next ((Below.refl _ _).alloc (Nat.le_refl _) (.cells #[.string sec] 9)))
                have X1_2 := Lib.hid (X1_1.out.alloc (.cells #[.string sec] 9))
                have X2_2 := Lib.hid (Box.new RR1.out 9 (.string sec))
                refine hK.out _ _ (HCELL.out _ KK2.out.bel) (fun hNew => ?_)
                clear hHeld hK K
                have hHeld := hNew
                clear hNew
                try simp only [Act.put, List.setIfInBounds_toArray, List.set_cons_zero, List.set_cons_succ]
                generalize World.alloc y91 (.cells #[.string sec] 9) = y912 at KK2 RR2 X1_2 X2_2 hHeld ⊢
                clear KK1 RR1 X1_1
                refine wpAnyH_ready (rs := [3, 13]) (by kernel_rfl) (by simp) ?_
                refine (AllReadyH.cons rfl (fun K hK => ?_) (AllReadyH.cons rfl (fun K hK => ?_) AllReadyH.nil))
                · refine step_append_src y912 rfl (.tmp 102) (.tmp 104) 47 rfl w.heap.size 9 iS _ 1 16 Try.underlying47 hSi hSz hS1 hS2 rfl (by decide) u8 _ (strsB (H.map (·.told))) RR2.out.o8 (some ⟨_, 0, none⟩) 1 1 [.string told] rfl (fun _ => ⟨_, rfl, X1_2.out.src⟩) (fun h => by cases h) (by intro u hu; simp at hu; subst hu; rfl) (by first | exact HLn.out.1 | exact HLn.out.2.1 | exact HLn.out.2.2) (by decide) KK2.out.bel.size (by simp [Act.eval]) (by simp [Act.eval]) ?_
                  intro u1_3 y9124 ho hon hat _
                  have KK3 := Lib.hid (KK2.out.row RR2.out.o8 (by decide) (by decide) (by decide) hon)
                  have RR3 := Lib.hid (RR2.out.app8 told ho hon hat)
                  have X2_3 := Lib.hid (X2_2.out.app8 hon hat)
                  clear ho hon hat
                  refine hK.out _ _ (HCELL.out _ KK3.out.bel) (fun hNew => ?_)
                  clear hHeld hK K
                  have hHeld := hNew
                  clear hNew
                  try simp only [Act.put, List.setIfInBounds_toArray, List.set_cons_zero, List.set_cons_succ]
                  clear KK2 RR2 X1_2 X2_2
                  refine wpAnyH_ready (rs := [7, 13]) (by kernel_rfl) (by simp) ?_
                  refine (AllReadyH.cons rfl (fun K hK => ?_) (AllReadyH.cons rfl (fun K hK => ?_) AllReadyH.nil))
                  · refine step_append_src y9124 rfl (.tmp 106) (.tmp 108) 47 rfl w.heap.size 9 iS _ 1 16 Try.underlying47 hSi hSz hS1 hS2 rfl (by decide) u9 _ (strsB (H.map (·.sec))) RR3.out.o9 (some ⟨_, 0, none⟩) 1 1 [.string sec] rfl (fun _ => ⟨_, rfl, X2_3.out.src⟩) (fun h => by cases h) (by intro u hu; simp at hu; subst hu; rfl) (by first | exact HLn.out.1 | exact HLn.out.2.1 | exact HLn.out.2.2) (by decide) KK3.out.bel.size (by simp [Act.eval]) (by simp [Act.eval]) ?_
                    intro u2_4 y91245 ho hon hat _
                    have KK4 := Lib.hid (KK3.out.row RR3.out.o9 (by decide) (by decide) (by decide) hon)
                    have RR4 := Lib.hid (RR3.out.app9 sec ho hon hat)
                    clear ho hon hat
                    refine hK.out _ _ (HCELL.out _ KK4.out.bel) (fun hNew => ?_)
                    clear hHeld hK K
                    have hHeld := hNew
                    clear hNew
                    try simp only [Act.put, List.setIfInBounds_toArray, List.set_cons_zero, List.set_cons_succ]
                    clear KK3 RR3 X2_3
                    refine wpAnyH_ready (rs := [13]) (by kernel_rfl) (by simp) ?_
                    refine (AllReadyH.cons rfl (fun K hK => ?_) AllReadyH.nil)
                    · go_simp
                      have KK5 := Lib.hid (KK4.out.next ((Below.refl _ _).alloc (Nat.le_refl _) (.cells #[.slice p NL cap] 30)))
                      have RR5 := Lib.hid (RR4.out.next ((Below.refl _ _).alloc (Nat.le_refl _) (.cells #[.slice p NL cap] 30)))
                      have X3_5 := Lib.hid (Box.new RR4.out 30 (.slice p NL cap))
                      refine hK.out _ _ (HCELL.out _ KK5.out.bel) (fun hNew => ?_)
                      clear hHeld hK K
                      have hHeld := hNew
                      clear hNew
                      try simp only [Act.put, List.setIfInBounds_toArray, List.set_cons_zero, List.set_cons_succ]
                      generalize World.alloc y91245 (.cells #[.slice p NL cap] 30) = y912453 at KK5 RR5 X3_5 hHeld ⊢
                      clear KK4 RR4
                      refine wpAnyH_ready (rs := [14]) (by kernel_rfl) (by simp) ?_
                      refine (AllReadyH.cons rfl (fun K hK => ?_) AllReadyH.nil)
                      · refine step_append_src y912453 rfl (.tmp 110) (.tmp 115) 34 rfl w.heap.size 30 iL _ 1 24 Try.underlying34 hLi hLz hL1 hL2 rfl (by decide) u10 _ (lls (H.map (·.x))) RR5.out.o10 (some ⟨_, 0, none⟩) 1 1 [.slice p NL cap] rfl (fun _ => ⟨_, rfl, X3_5.out.src⟩) (fun h => by cases h) (by intro u hu; simp at hu; subst hu; rfl) (by first | exact HLn.out.1 | exact HLn.out.2.1 | exact HLn.out.2.2) (by decide) KK5.out.bel.size (by simp [Act.eval]) (by simp [Act.eval]) ?_
                        intro u3_6 y9124536 ho hon hat _
                        have KK6 := Lib.hid (KK5.out.row RR5.out.o10 (by decide) (by decide) (by decide) hon)
                        have RR6 := Lib.hid (RR5.out.app10 ⟨p, cap, L⟩ (by rw [show (⟨p, cap, L⟩ : In1).L.length = NL from HNL.out]; exact ho) hon)
                        clear ho hon hat
                        refine hK.out _ _ (HCELL.out _ KK6.out.bel) (fun hNew => ?_)
                        clear hHeld hK K
                        have hHeld := hNew
                        clear hNew
                        try simp only [Act.put, List.setIfInBounds_toArray, List.set_cons_zero, List.set_cons_succ]
                        clear KK5 RR5 X3_5
                        refine wpAnyH_takeD (i := 15) (v := ?_) (some 8) rfl rfl (by kernel_rfl) (by kernel_rfl) (by kernel_rfl) (fun _ _ _ h => h) (Or.inl ⟨by kernel_rfl, ?_⟩) (by assumption) ?_
                        rotate_left
                        · (intro w hSw; (try dsimp only at hSw); go_simp); all_goals with_reducible rfl
                        try simp only [Act.put, List.setIfInBounds_toArray, List.set_cons_zero, List.set_cons_succ]
                        refine wpAnyH_takeD (i := 16) (v := ?_) (some 9) rfl rfl (by kernel_rfl) (by kernel_rfl) (by kernel_rfl) (fun _ _ _ h => h) (Or.inl ⟨by kernel_rfl, ?_⟩) (by assumption) ?_
                        rotate_left
                        · (intro w hSw; (try dsimp only at hSw); go_simp); all_goals with_reducible rfl
                        try simp only [Act.put, List.setIfInBounds_toArray, List.set_cons_zero, List.set_cons_succ]
                        refine wpAnyH_takeD (i := 17) (v := ?_) (some 10) rfl rfl (by kernel_rfl) (by kernel_rfl) (by kernel_rfl) (fun _ _ _ h => h) (Or.inl ⟨by kernel_rfl, ?_⟩) (by assumption) ?_
                        rotate_left
                        · (intro w hSw; (try dsimp only at hSw); go_simp); all_goals with_reducible rfl
                        try simp only [Act.put, List.setIfInBounds_toArray, List.set_cons_zero, List.set_cons_succ]
                        refine wpAnyH_done (by kernel_rfl) ?_ _
                        go_wp2_with fail
                        go_roundw
                        case rel => exact ⟨i + 1, S1, vw2, vx2, vl, H ++ [⟨told, sec, ⟨p, cap, L⟩⟩], by omega, by omega, by go_num, KK6.out, by rw [List.map_append, List.map_append, List.map_append]; exact RR6.out, HHist.out, by have := HHl.out; simp; omega, HF.out⟩
                        case measure => simp [intOf]; omega
                  · go_simp
                    have KK4 := Lib.hid (KK3.out.next ((Below.refl _ _).alloc (Nat.le_refl _) (.cells #[.slice p NL cap] 30)))
                    have RR4 := Lib.hid (RR3.out.next ((Below.refl _ _).alloc (Nat.le_refl _) (.cells #[.slice p NL cap] 30)))
                    have X2_4 := Lib.hid (X2_3.out.alloc (.cells #[.slice p NL cap] 30))
                    have X3_4 := Lib.hid (Box.new RR3.out 30 (.slice p NL cap))
                    refine hK.out _ _ (HCELL.out _ KK4.out.bel) (fun hNew => ?_)
                    clear hHeld hK K
                    have hHeld := hNew
                    clear hNew
                    try simp only [Act.put, List.setIfInBounds_toArray, List.set_cons_zero, List.set_cons_succ]
                    generalize World.alloc y9124 (.cells #[.slice p NL cap] 30) = y91243 at KK4 RR4 X2_4 X3_4 hHeld ⊢
                    clear KK3 RR3 X2_3
                    refine wpAnyH_ready (rs := [7]) (by kernel_rfl) (by simp) ?_
                    refine (AllReadyH.cons rfl (fun K hK => ?_) AllReadyH.nil)
                    · refine step_append_src y91243 rfl (.tmp 106) (.tmp 108) 47 rfl w.heap.size 9 iS _ 1 16 Try.underlying47 hSi hSz hS1 hS2 rfl (by decide) u9 _ (strsB (H.map (·.sec))) RR4.out.o9 (some ⟨_, 0, none⟩) 1 1 [.string sec] rfl (fun _ => ⟨_, rfl, X2_4.out.src⟩) (fun h => by cases h) (by intro u hu; simp at hu; subst hu; rfl) (by first | exact HLn.out.1 | exact HLn.out.2.1 | exact HLn.out.2.2) (by decide) KK4.out.bel.size (by simp [Act.eval]) (by simp [Act.eval]) ?_
                      intro u2_5 y912435 ho hon hat _
                      have KK5 := Lib.hid (KK4.out.row RR4.out.o9 (by decide) (by decide) (by decide) hon)
                      have RR5 := Lib.hid (RR4.out.app9 sec ho hon hat)
                      have X3_5 := Lib.hid (X3_4.out.app9 hon hat)
                      clear ho hon hat
                      refine hK.out _ _ (HCELL.out _ KK5.out.bel) (fun hNew => ?_)
                      clear hHeld hK K
                      have hHeld := hNew
                      clear hNew
                      try simp only [Act.put, List.setIfInBounds_toArray, List.set_cons_zero, List.set_cons_succ]
                      clear KK4 RR4 X2_4 X3_4
                      refine wpAnyH_ready (rs := [14]) (by kernel_rfl) (by simp) ?_
                      refine (AllReadyH.cons rfl (fun K hK => ?_) AllReadyH.nil)
                      · refine step_append_src y912435 rfl (.tmp 110) (.tmp 115) 34 rfl w.heap.size 30 iL _ 1 24 Try.underlying34 hLi hLz hL1 hL2 rfl (by decide) u10 _ (lls (H.map (·.x))) RR5.out.o10 (some ⟨_, 0, none⟩) 1 1 [.slice p NL cap] rfl (fun _ => ⟨_, rfl, X3_5.out.src⟩) (fun h => by cases h) (by intro u hu; simp at hu; subst hu; rfl) (by first | exact HLn.out.1 | exact HLn.out.2.1 | exact HLn.out.2.2) (by decide) KK5.out.bel.size (by simp [Act.eval]) (by simp [Act.eval]) ?_
                        intro u3_6 y9124356 ho hon hat _
                        have KK6 := Lib.hid (KK5.out.row RR5.out.o10 (by decide) (by decide) (by decide) hon)
                        have RR6 := Lib.hid (RR5.out.app10 ⟨p, cap, L⟩ (by rw [show (⟨p, cap, L⟩ : In1).L.length = NL from HNL.out]; exact ho) hon)
                        clear ho hon hat
                        refine hK.out _ _ (HCELL.out _ KK6.out.bel) (fun hNew => ?_)
                        clear hHeld hK K
                        have hHeld := hNew
                        clear hNew
                        try simp only [Act.put, List.setIfInBounds_toArray, List.set_cons_zero, List.set_cons_succ]
                        clear KK5 RR5 X3_5
                        refine wpAnyH_takeD (i := 15) (v := ?_) (some 8) rfl rfl (by kernel_rfl) (by kernel_rfl) (by kernel_rfl) (fun _ _ _ h => h) (Or.inl ⟨by kernel_rfl, ?_⟩) (by assumption) ?_
                        rotate_left
                        · (intro w hSw; (try dsimp only at hSw); go_simp); all_goals with_reducible rfl
                        try simp only [Act.put, List.setIfInBounds_toArray, List.set_cons_zero, List.set_cons_succ]
                        refine wpAnyH_takeD (i := 16) (v := ?_) (some 9) rfl rfl (by kernel_rfl) (by kernel_rfl) (by kernel_rfl) (fun _ _ _ h => h) (Or.inl ⟨by kernel_rfl, ?_⟩) (by assumption) ?_
                        rotate_left
                        · (intro w hSw; (try dsimp only at hSw); go_simp); all_goals with_reducible rfl
                        try simp only [Act.put, List.setIfInBounds_toArray, List.set_cons_zero, List.set_cons_succ]
                        refine wpAnyH_takeD (i := 17) (v := ?_) (some 10) rfl rfl (by kernel_rfl) (by kernel_rfl) (by kernel_rfl) (fun _ _ _ h => h) (Or.inl ⟨by kernel_rfl, ?_⟩) (by assumption) ?_
                        rotate_left
                        · (intro w hSw; (try dsimp only at hSw); go_simp); all_goals with_reducible rfl
                        try simp only [Act.put, List.setIfInBounds_toArray, List.set_cons_zero, List.set_cons_succ]
                        refine wpAnyH_done (by kernel_rfl) ?_ _
                        go_wp2_with fail
                        go_roundw
                        case rel => exact ⟨i + 1, S1, vw2, vx2, vl, H ++ [⟨told, sec, ⟨p, cap, L⟩⟩], by omega, by omega, by go_num, KK6.out, by rw [List.map_append, List.map_append, List.map_append]; exact RR6.out, HHist.out, by have := HHl.out; simp; omega, HF.out⟩
                        case measure => simp [intOf]; omega
                · go_simp
                  have KK3 := Lib.hid (KK2.out.next ((Below.refl _ _).alloc (Nat.le_refl _) (.cells #[.slice p NL cap] 30)))
                  have RR3 := Lib.hid (RR2.out.next ((Below.refl _ _).alloc (Nat.le_refl _) (.cells #[.slice p NL cap] 30)))
                  have X1_3 := Lib.hid (X1_2.out.alloc (.cells #[.slice p NL cap] 30))
                  have X2_3 := Lib.hid (X2_2.out.alloc (.cells #[.slice p NL cap] 30))
                  have X3_3 := Lib.hid (Box.new RR2.out 30 (.slice p NL cap))
                  refine hK.out _ _ (HCELL.out _ KK3.out.bel) (fun hNew => ?_)
                  clear hHeld hK K
                  have hHeld := hNew
                  clear hNew
                  try simp only [Act.put, List.setIfInBounds_toArray, List.set_cons_zero, List.set_cons_succ]
                  generalize World.alloc y912 (.cells #[.slice p NL cap] 30) = y9123 at KK3 RR3 X1_3 X2_3 X3_3 hHeld ⊢
                  clear KK2 RR2 X1_2 X2_2
                  refine wpAnyH_ready (rs := [3]) (by kernel_rfl) (by simp) ?_
                  refine (AllReadyH.cons rfl (fun K hK => ?_) AllReadyH.nil)
                  · refine step_append_src y9123 rfl (.tmp 102) (.tmp 104) 47 rfl w.heap.size 9 iS _ 1 16 Try.underlying47 hSi hSz hS1 hS2 rfl (by decide) u8 _ (strsB (H.map (·.told))) RR3.out.o8 (some ⟨_, 0, none⟩) 1 1 [.string told] rfl (fun _ => ⟨_, rfl, X1_3.out.src⟩) (fun h => by cases h) (by intro u hu; simp at hu; subst hu; rfl) (by first | exact HLn.out.1 | exact HLn.out.2.1 | exact HLn.out.2.2) (by decide) KK3.out.bel.size (by simp [Act.eval]) (by simp [Act.eval]) ?_
                    intro u1_4 y91234 ho hon hat _
                    have KK4 := Lib.hid (KK3.out.row RR3.out.o8 (by decide) (by decide) (by decide) hon)
                    have RR4 := Lib.hid (RR3.out.app8 told ho hon hat)
                    have X2_4 := Lib.hid (X2_3.out.app8 hon hat)
                    have X3_4 := Lib.hid (X3_3.out.app8 hon hat)
                    clear ho hon hat
                    refine hK.out _ _ (HCELL.out _ KK4.out.bel) (fun hNew => ?_)
                    clear hHeld hK K
                    have hHeld := hNew
                    clear hNew
                    try simp only [Act.put, List.setIfInBounds_toArray, List.set_cons_zero, List.set_cons_succ]
                    clear KK3 RR3 X1_3 X2_3 X3_3
                    refine wpAnyH_ready (rs := [7]) (by kernel_rfl) (by simp) ?_
                    refine (AllReadyH.cons rfl (fun K hK => ?_) AllReadyH.nil)
                    · refine step_append_src y91234 rfl (.tmp 106) (.tmp 108) 47 rfl w.heap.size 9 iS _ 1 16 Try.underlying47 hSi hSz hS1 hS2 rfl (by decide) u9 _ (strsB (H.map (·.sec))) RR4.out.o9 (some ⟨_, 0, none⟩) 1 1 [.string sec] rfl (fun _ => ⟨_, rfl, X2_4.out.src⟩) (fun h => by cases h) (by intro u hu; simp at hu; subst hu; rfl) (by first | exact HLn.out.1 | exact HLn.out.2.1 | exact HLn.out.2.2) (by decide) KK4.out.bel.size (by simp [Act.eval]) (by simp [Act.eval]) ?_
                      intro u2_5 y912345 ho hon hat _
                      have KK5 := Lib.hid (KK4.out.row RR4.out.o9 (by decide) (by decide) (by decide) hon)
                      have RR5 := Lib.hid (RR4.out.app9 sec ho hon hat)
                      have X3_5 := Lib.hid (X3_4.out.app9 hon hat)
                      clear ho hon hat
                      refine hK.out _ _ (HCELL.out _ KK5.out.bel) (fun hNew => ?_)
                      clear hHeld hK K
                      have hHeld := hNew
                      clear hNew
                      try simp only [Act.put, List.setIfInBounds_toArray, List.set_cons_zero, List.set_cons_succ]
                      clear KK4 RR4 X2_4 X3_4
                      refine wpAnyH_ready (rs := [14]) (by kernel_rfl) (by simp) ?_
                      refine (AllReadyH.cons rfl (fun K hK => ?_) AllReadyH.nil)
                      · refine step_append_src y912345 rfl (.tmp 110) (.tmp 115) 34 rfl w.heap.size 30 iL _ 1 24 Try.underlying34 hLi hLz hL1 hL2 rfl (by decide) u10 _ (lls (H.map (·.x))) RR5.out.o10 (some ⟨_, 0, none⟩) 1 1 [.slice p NL cap] rfl (fun _ => ⟨_, rfl, X3_5.out.src⟩) (fun h => by cases h) (by intro u hu; simp at hu; subst hu; rfl) (by first | exact HLn.out.1 | exact HLn.out.2.1 | exact HLn.out.2.2) (by decide) KK5.out.bel.size (by simp [Act.eval]) (by simp [Act.eval]) ?_
                        intro u3_6 y9123456 ho hon hat _
                        have KK6 := Lib.hid (KK5.out.row RR5.out.o10 (by decide) (by decide) (by decide) hon)
                        have RR6 := Lib.hid (RR5.out.app10 ⟨p, cap, L⟩ (by rw [show (⟨p, cap, L⟩ : In1).L.length = NL from HNL.out]; exact ho) hon)
                        clear ho hon hat
                        refine hK.out _ _ (HCELL.out _ KK6.out.bel) (fun hNew => ?_)
                        clear hHeld hK K
                        have hHeld := hNew
                        clear hNew
                        try simp only [Act.put, List.setIfInBounds_toArray, List.set_cons_zero, List.set_cons_succ]
                        clear KK5 RR5 X3_5
                        refine wpAnyH_takeD (i := 15) (v := ?_) (some 8) rfl rfl (by kernel_rfl) (by kernel_rfl) (by kernel_rfl) (fun _ _ _ h => h) (Or.inl ⟨by kernel_rfl, ?_⟩) (by assumption) ?_
                        rotate_left
                        · (intro w hSw; (try dsimp only at hSw); go_simp); all_goals with_reducible rfl
                        try simp only [Act.put, List.setIfInBounds_toArray, List.set_cons_zero, List.set_cons_succ]
                        refine wpAnyH_takeD (i := 16) (v := ?_) (some 9) rfl rfl (by kernel_rfl) (by kernel_rfl) (by kernel_rfl) (fun _ _ _ h => h) (Or.inl ⟨by kernel_rfl, ?_⟩) (by assumption) ?_
                        rotate_left
                        · (intro w hSw; (try dsimp only at hSw); go_simp); all_goals with_reducible rfl
                        try simp only [Act.put, List.setIfInBounds_toArray, List.set_cons_zero, List.set_cons_succ]
                        refine wpAnyH_takeD (i := 17) (v := ?_) (some 10) rfl rfl (by kernel_rfl) (by kernel_rfl) (by kernel_rfl) (fun _ _ _ h => h) (Or.inl ⟨by kernel_rfl, ?_⟩) (by assumption) ?_
                        rotate_left
                        · (intro w hSw; (try dsimp only at hSw); go_simp); all_goals with_reducible rfl
                        try simp only [Act.put, List.setIfInBounds_toArray, List.set_cons_zero, List.set_cons_succ]
                        refine wpAnyH_done (by kernel_rfl) ?_ _
                        go_wp2_with fail
                        go_roundw
                        case rel => exact ⟨i + 1, S1, vw2, vx2, vl, H ++ [⟨told, sec, ⟨p, cap, L⟩⟩], by omega, by omega, by go_num, KK6.out, by rw [List.map_append, List.map_append, List.map_append]; exact RR6.out, HHist.out, by have := HHl.out; simp; omega, HF.out⟩
                        case measure => simp [intOf]; omega
              · go_simp
                have KK2 := Lib.hid (KK1.out.next ((Below.refl _ _).alloc (Nat.le_refl _) (.cells #[.slice p NL cap] 30)))
                have RR2 := Lib.hid (RR1.out.next ((Below.refl _ _).alloc (Nat.le_refl _) (.cells #[.slice p NL cap] 30)))
                have X1_2 := Lib.hid (X1_1.out.alloc (.cells #[.slice p NL cap] 30))
                have X3_2 := Lib.hid (Box.new RR1.out 30 (.slice p NL cap))
                refine hK.out _ _ (HCELL.out _ KK2.out.bel) (fun hNew => ?_)
                clear hHeld hK K
                have hHeld := hNew
                clear hNew
                try simp only [Act.put, List.setIfInBounds_toArray, List.set_cons_zero, List.set_cons_succ]
                generalize World.alloc y91 (.cells #[.slice p NL cap] 30) = y913 at KK2 RR2 X1_2 X3_2 hHeld ⊢
                clear KK1 RR1 X1_1
                refine wpAnyH_ready (rs := [3, 6]) (by kernel_rfl) (by simp) ?_
                refine (AllReadyH.cons rfl (fun K hK => ?_) (AllReadyH.cons rfl (fun K hK => ?_) AllReadyH.nil))
                · refine step_append_src y913 rfl (.tmp 102) (.tmp 104) 47 rfl w.heap.size 9 iS _ 1 16 Try.underlying47 hSi hSz hS1 hS2 rfl (by decide) u8 _ (strsB (H.map (·.told))) RR2.out.o8 (some ⟨_, 0, none⟩) 1 1 [.string told] rfl (fun _ => ⟨_, rfl, X1_2.out.src⟩) (fun h => by cases h) (by intro u hu; simp at hu; subst hu; rfl) (by first | exact HLn.out.1 | exact HLn.out.2.1 | exact HLn.out.2.2) (by decide) KK2.out.bel.size (by simp [Act.eval]) (by simp [Act.eval]) ?_
                  intro u1_3 y9134 ho hon hat _
                  have KK3 := Lib.hid (KK2.out.row RR2.out.o8 (by decide) (by decide) (by decide) hon)
                  have RR3 := Lib.hid (RR2.out.app8 told ho hon hat)
                  have X3_3 := Lib.hid (X3_2.out.app8 hon hat)
                  clear ho hon hat
                  refine hK.out _ _ (HCELL.out _ KK3.out.bel) (fun hNew => ?_)
                  clear hHeld hK K
                  have hHeld := hNew
                  clear hNew
                  try simp only [Act.put, List.setIfInBounds_toArray, List.set_cons_zero, List.set_cons_succ]
                  clear KK2 RR2 X1_2 X3_2
                  refine wpAnyH_ready (rs := [6]) (by kernel_rfl) (by simp) ?_
                  refine (AllReadyH.cons rfl (fun K hK => ?_) AllReadyH.nil)
                  · go_simp
                    have KK4 := Lib.hid (KK3.out.next ((Below.refl _ _).alloc (Nat.le_refl _) (.cells #[.string sec] 9)))
                    have RR4 := Lib.hid (RR3.out.next ((Below.refl _ _).alloc (Nat.le_refl _) (.cells #[.string sec] 9)))
                    have X3_4 := Lib.hid (X3_3.out.alloc (.cells #[.string sec] 9))
                    have X2_4 := Lib.hid (Box.new RR3.out 9 (.string sec))
                    refine hK.out _ _ (HCELL.out _ KK4.out.bel) (fun hNew => ?_)
                    clear hHeld hK K
                    have hHeld := hNew
                    clear hNew
                    try simp only [Act.put, List.setIfInBounds_toArray, List.set_cons_zero, List.set_cons_succ]
                    generalize World.alloc y9134 (.cells #[.string sec] 9) = y91342 at KK4 RR4 X2_4 X3_4 hHeld ⊢
                    clear KK3 RR3 X3_3
                    refine wpAnyH_ready (rs := [7]) (by kernel_rfl) (by simp) ?_
                    refine (AllReadyH.cons rfl (fun K hK => ?_) AllReadyH.nil)
                    · refine step_append_src y91342 rfl (.tmp 106) (.tmp 108) 47 rfl w.heap.size 9 iS _ 1 16 Try.underlying47 hSi hSz hS1 hS2 rfl (by decide) u9 _ (strsB (H.map (·.sec))) RR4.out.o9 (some ⟨_, 0, none⟩) 1 1 [.string sec] rfl (fun _ => ⟨_, rfl, X2_4.out.src⟩) (fun h => by cases h) (by intro u hu; simp at hu; subst hu; rfl) (by first | exact HLn.out.1 | exact HLn.out.2.1 | exact HLn.out.2.2) (by decide) KK4.out.bel.size (by simp [Act.eval]) (by simp [Act.eval]) ?_
                      intro u2_5 y913425 ho hon hat _
                      have KK5 := Lib.hid (KK4.out.row RR4.out.o9 (by decide) (by decide) (by decide) hon)
                      have RR5 := Lib.hid (RR4.out.app9 sec ho hon hat)
                      have X3_5 := Lib.hid (X3_4.out.app9 hon hat)
                      clear ho hon hat
                      refine hK.out _ _ (HCELL.out _ KK5.out.bel) (fun hNew => ?_)
                      clear hHeld hK K
                      have hHeld := hNew
                      clear hNew
                      try simp only [Act.put, List.setIfInBounds_toArray, List.set_cons_zero, List.set_cons_succ]
                      clear KK4 RR4 X2_4 X3_4
                      refine wpAnyH_ready (rs := [14]) (by kernel_rfl) (by simp) ?_
                      refine (AllReadyH.cons rfl (fun K hK => ?_) AllReadyH.nil)
                      · refine step_append_src y913425 rfl (.tmp 110) (.tmp 115) 34 rfl w.heap.size 30 iL _ 1 24 Try.underlying34 hLi hLz hL1 hL2 rfl (by decide) u10 _ (lls (H.map (·.x))) RR5.out.o10 (some ⟨_, 0, none⟩) 1 1 [.slice p NL cap] rfl (fun _ => ⟨_, rfl, X3_5.out.src⟩) (fun h => by cases h) (by intro u hu; simp at hu; subst hu; rfl) (by first | exact HLn.out.1 | exact HLn.out.2.1 | exact HLn.out.2.2) (by decide) KK5.out.bel.size (by simp [Act.eval]) (by simp [Act.eval]) ?_
                        intro u3_6 y9134256 ho hon hat _
                        have KK6 := Lib.hid (KK5.out.row RR5.out.o10 (by decide) (by decide) (by decide) hon)
                        have RR6 := Lib.hid (RR5.out.app10 ⟨p, cap, L⟩ (by rw [show (⟨p, cap, L⟩ : In1).L.length = NL from HNL.out]; exact ho) hon)
                        clear ho hon hat
                        refine hK.out _ _ (HCELL.out _ KK6.out.bel) (fun hNew => ?_)
                        clear hHeld hK K
                        have hHeld := hNew
                        clear hNew
                        try simp only [Act.put, List.setIfInBounds_toArray, List.set_cons_zero, List.set_cons_succ]
                        clear KK5 RR5 X3_5
                        refine wpAnyH_takeD (i := 15) (v := ?_) (some 8) rfl rfl (by kernel_rfl) (by kernel_rfl) (by kernel_rfl) (fun _ _ _ h => h) (Or.inl ⟨by kernel_rfl, ?_⟩) (by assumption) ?_
                        rotate_left
                        · (intro w hSw; (try dsimp only at hSw); go_simp); all_goals with_reducible rfl
                        try simp only [Act.put, List.setIfInBounds_toArray, List.set_cons_zero, List.set_cons_succ]
                        refine wpAnyH_takeD (i := 16) (v := ?_) (some 9) rfl rfl (by kernel_rfl) (by kernel_rfl) (by kernel_rfl) (fun _ _ _ h => h) (Or.inl ⟨by kernel_rfl, ?_⟩) (by assumption) ?_
                        rotate_left
                        · (intro w hSw; (try dsimp only at hSw); go_simp); all_goals with_reducible rfl
                        try simp only [Act.put, List.setIfInBounds_toArray, List.set_cons_zero, List.set_cons_succ]
                        refine wpAnyH_takeD (i := 17) (v := ?_) (some 10) rfl rfl (by kernel_rfl) (by kernel_rfl) (by kernel_rfl) (fun _ _ _ h => h) (Or.inl ⟨by kernel_rfl, ?_⟩) (by assumption) ?_
                        rotate_left
                        · (intro w hSw; (try dsimp only at hSw); go_simp); all_goals with_reducible rfl
                        try simp only [Act.put, List.setIfInBounds_toArray, List.set_cons_zero, List.set_cons_succ]
                        refine wpAnyH_done (by kernel_rfl) ?_ _
                        go_wp2_with fail
                        go_roundw
                        case rel => exact ⟨i + 1, S1, vw2, vx2, vl, H ++ [⟨told, sec, ⟨p, cap, L⟩⟩], by omega, by omega, by go_num, KK6.out, by rw [List.map_append, List.map_append, List.map_append]; exact RR6.out, HHist.out, by have := HHl.out; simp; omega, HF.out⟩
                        case measure => simp [intOf]; omega
                · go_simp
                  have KK3 := Lib.hid (KK2.out.next ((Below.refl _ _).alloc (Nat.le_refl _) (.cells #[.string sec] 9)))
                  have RR3 := Lib.hid (RR2.out.next ((Below.refl _ _).alloc (Nat.le_refl _) (.cells #[.string sec] 9)))
                  have X1_3 := Lib.hid (X1_2.out.alloc (.cells #[.string sec] 9))
                  have X3_3 := Lib.hid (X3_2.out.alloc (.cells #[.string sec] 9))
                  have X2_3 := Lib.hid (Box.new RR2.out 9 (.string sec))
                  refine hK.out _ _ (HCELL.out _ KK3.out.bel) (fun hNew => ?_)
                  clear hHeld hK K
                  have hHeld := hNew
                  clear hNew
                  try simp only [Act.put, List.setIfInBounds_toArray, List.set_cons_zero, List.set_cons_succ]
                  generalize World.alloc y913 (.cells #[.string sec] 9) = y9132 at KK3 RR3 X1_3 X2_3 X3_3 hHeld ⊢
                  clear KK2 RR2 X1_2 X3_2
                  refine wpAnyH_ready (rs := [3]) (by kernel_rfl) (by simp) ?_
                  refine (AllReadyH.cons rfl (fun K hK => ?_) AllReadyH.nil)
                  · refine step_append_src y9132 rfl (.tmp 102) (.tmp 104) 47 rfl w.heap.size 9 iS _ 1 16 Try.underlying47 hSi hSz hS1 hS2 rfl (by decide) u8 _ (strsB (H.map (·.told))) RR3.out.o8 (some ⟨_, 0, none⟩) 1 1 [.string told] rfl (fun _ => ⟨_, rfl, X1_3.out.src⟩) (fun h => by cases h) (by intro u hu; simp at hu; subst hu; rfl) (by first | exact HLn.out.1 | exact HLn.out.2.1 | exact HLn.out.2.2) (by decide) KK3.out.bel.size (by simp [Act.eval]) (by simp [Act.eval]) ?_
                    intro u1_4 y91324 ho hon hat _
                    have KK4 := Lib.hid (KK3.out.row RR3.out.o8 (by decide) (by decide) (by decide) hon)
                    have RR4 := Lib.hid (RR3.out.app8 told ho hon hat)
                    have X2_4 := Lib.hid (X2_3.out.app8 hon hat)
                    have X3_4 := Lib.hid (X3_3.out.app8 hon hat)
                    clear ho hon hat
                    refine hK.out _ _ (HCELL.out _ KK4.out.bel) (fun hNew => ?_)
                    clear hHeld hK K
                    have hHeld := hNew
                    clear hNew
                    try simp only [Act.put, List.setIfInBounds_toArray, List.set_cons_zero, List.set_cons_succ]
                    clear KK3 RR3 X1_3 X2_3 X3_3
                    refine wpAnyH_ready (rs := [7]) (by kernel_rfl) (by simp) ?_
                    refine (AllReadyH.cons rfl (fun K hK => ?_) AllReadyH.nil)
                    · refine step_append_src y91324 rfl (.tmp 106) (.tmp 108) 47 rfl w.heap.size 9 iS _ 1 16 Try.underlying47 hSi hSz hS1 hS2 rfl (by decide) u9 _ (strsB (H.map (·.sec))) RR4.out.o9 (some ⟨_, 0, none⟩) 1 1 [.string sec] rfl (fun _ => ⟨_, rfl, X2_4.out.src⟩) (fun h => by cases h) (by intro u hu; simp at hu; subst hu; rfl) (by first | exact HLn.out.1 | exact HLn.out.2.1 | exact HLn.out.2.2) (by decide) KK4.out.bel.size (by simp [Act.eval]) (by simp [Act.eval]) ?_
                      intro u2_5 y913245 ho hon hat _
                      have KK5 := Lib.hid (KK4.out.row RR4.out.o9 (by decide) (by decide) (by decide) hon)
                      have RR5 := Lib.hid (RR4.out.app9 sec ho hon hat)
                      have X3_5 := Lib.hid (X3_4.out.app9 hon hat)
                      clear ho hon hat
                      refine hK.out _ _ (HCELL.out _ KK5.out.bel) (fun hNew => ?_)
                      clear hHeld hK K
                      have hHeld := hNew
                      clear hNew
                      try simp only [Act.put, List.setIfInBounds_toArray, List.set_cons_zero, List.set_cons_succ]
                      clear KK4 RR4 X2_4 X3_4
                      refine wpAnyH_ready (rs := [14]) (by kernel_rfl) (by simp) ?_
                      refine (AllReadyH.cons rfl (fun K hK => ?_) AllReadyH.nil)
                      · refine step_append_src y913245 rfl (.tmp 110) (.tmp 115) 34 rfl w.heap.size 30 iL _ 1 24 Try.underlying34 hLi hLz hL1 hL2 rfl (by decide) u10 _ (lls (H.map (·.x))) RR5.out.o10 (some ⟨_, 0, none⟩) 1 1 [.slice p NL cap] rfl (fun _ => ⟨_, rfl, X3_5.out.src⟩) (fun h => by cases h) (by intro u hu; simp at hu; subst hu; rfl) (by first | exact HLn.out.1 | exact HLn.out.2.1 | exact HLn.out.2.2) (by decide) KK5.out.bel.size (by simp [Act.eval]) (by simp [Act.eval]) ?_
                        intro u3_6 y9132456 ho hon hat _
                        have KK6 := Lib.hid (KK5.out.row RR5.out.o10 (by decide) (by decide) (by decide) hon)
                        have RR6 := Lib.hid (RR5.out.app10 ⟨p, cap, L⟩ (by rw [show (⟨p, cap, L⟩ : In1).L.length = NL from HNL.out]; exact ho) hon)
                        clear ho hon hat
                        refine hK.out _ _ (HCELL.out _ KK6.out.bel) (fun hNew => ?_)
                        clear hHeld hK K
                        have hHeld := hNew
                        clear hNew
                        try simp only [Act.put, List.setIfInBounds_toArray, List.set_cons_zero, List.set_cons_succ]
                        clear KK5 RR5 X3_5
                        refine wpAnyH_takeD (i := 15) (v := ?_) (some 8) rfl rfl (by kernel_rfl) (by kernel_rfl) (by kernel_rfl) (fun _ _ _ h => h) (Or.inl ⟨by kernel_rfl, ?_⟩) (by assumption) ?_
                        rotate_left
                        · (intro w hSw; (try dsimp only at hSw); go_simp); all_goals with_reducible rfl
                        try simp only [Act.put, List.setIfInBounds_toArray, List.set_cons_zero, List.set_cons_succ]
                        refine wpAnyH_takeD (i := 16) (v := ?_) (some 9) rfl rfl (by kernel_rfl) (by kernel_rfl) (by kernel_rfl) (fun _ _ _ h => h) (Or.inl ⟨by kernel_rfl, ?_⟩) (by assumption) ?_
                        rotate_left
                        · (intro w hSw; (try dsimp only at hSw); go_simp); all_goals with_reducible rfl
                        try simp only [Act.put, List.setIfInBounds_toArray, List.set_cons_zero, List.set_cons_succ]
                        refine wpAnyH_takeD (i := 17) (v := ?_) (some 10) rfl rfl (by kernel_rfl) (by kernel_rfl) (by kernel_rfl) (fun _ _ _ h => h) (Or.inl ⟨by kernel_rfl, ?_⟩) (by assumption) ?_
                        rotate_left
                        · (intro w hSw; (try dsimp only at hSw); go_simp); all_goals with_reducible rfl
                        try simp only [Act.put, List.setIfInBounds_toArray, List.set_cons_zero, List.set_cons_succ]
                        refine wpAnyH_done (by kernel_rfl) ?_ _
                        go_wp2_with fail
                        go_roundw
                        case rel => exact ⟨i + 1, S1, vw2, vx2, vl, H ++ [⟨told, sec, ⟨p, cap, L⟩⟩], by omega, by omega, by go_num, KK6.out, by rw [List.map_append, List.map_append, List.map_append]; exact RR6.out, HHist.out, by have := HHl.out; simp; omega, HF.out⟩
                        case measure => simp [intOf]; omega
            · go_simp
              have KK1 := Lib.hid (KK0.out.next ((Below.refl _ _).alloc (Nat.le_refl _) (.cells #[.string sec] 9)))
              have RR1 := Lib.hid (RR0.out.next ((Below.refl _ _).alloc (Nat.le_refl _) (.cells #[.string sec] 9)))
              have X2_1 := Lib.hid (Box.new RR0.out 9 (.string sec))
              refine hK.out _ _ (HCELL.out _ KK1.out.bel) (fun hNew => ?_)
              clear hHeld hK K
              have hHeld := hNew
              clear hNew
              try simp only [Act.put, List.setIfInBounds_toArray, List.set_cons_zero, List.set_cons_succ]
              generalize World.alloc y9 (.cells #[.string sec] 9) = y92 at KK1 RR1 X2_1 hHeld ⊢
              clear KK0 RR0
              refine wpAnyH_ready (rs := [2, 13]) (by kernel_rfl) (by simp) ?_
              refine (AllReadyH.cons rfl (fun K hK => ?_) (AllReadyH.cons rfl (fun K hK => ?_) AllReadyH.nil))
              · go_simp
                have KK2 := Lib.hid (KK1.out.next ((Below.refl _ _).alloc (Nat.le_refl _) (.cells #[.string told] 9)))
                have RR2 := Lib.hid (RR1.out.next ((Below.refl _ _).alloc (Nat.le_refl _) (.cells #[.string told] 9)))
                have X2_2 := Lib.hid (X2_1.out.alloc (.cells #[.string told] 9))
                have X1_2 := Lib.hid (Box.new RR1.out 9 (.string told))
                refine hK.out _ _ (HCELL.out _ KK2.out.bel) (fun hNew => ?_)
                clear hHeld hK K
                have hHeld := hNew
                clear hNew
                try simp only [Act.put, List.setIfInBounds_toArray, List.set_cons_zero, List.set_cons_succ]
                generalize World.alloc y92 (.cells #[.string told] 9) = y921 at KK2 RR2 X1_2 X2_2 hHeld ⊢
                clear KK1 RR1 X2_1
                refine wpAnyH_ready (rs := [3, 13]) (by kernel_rfl) (by simp) ?_
                refine (AllReadyH.cons rfl (fun K hK => ?_) (AllReadyH.cons rfl (fun K hK => ?_) AllReadyH.nil))
                · refine step_append_src y921 rfl (.tmp 102) (.tmp 104) 47 rfl w.heap.size 9 iS _ 1 16 Try.underlying47 hSi hSz hS1 hS2 rfl (by decide) u8 _ (strsB (H.map (·.told))) RR2.out.o8 (some ⟨_, 0, none⟩) 1 1 [.string told] rfl (fun _ => ⟨_, rfl, X1_2.out.src⟩) (fun h => by cases h) (by intro u hu; simp at hu; subst hu; rfl) (by first | exact HLn.out.1 | exact HLn.out.2.1 | exact HLn.out.2.2) (by decide) KK2.out.bel.size (by simp [Act.eval]) (by simp [Act.eval]) ?_
                  intro u1_3 y9214 ho hon hat _
                  have KK3 := Lib.hid (KK2.out.row RR2.out.o8 (by decide) (by decide) (by decide) hon)
                  have RR3 := Lib.hid (RR2.out.app8 told ho hon hat)
                  have X2_3 := Lib.hid (X2_2.out.app8 hon hat)
                  clear ho hon hat
                  refine hK.out _ _ (HCELL.out _ KK3.out.bel) (fun hNew => ?_)
                  clear hHeld hK K
                  have hHeld := hNew
                  clear hNew
                  try simp only [Act.put, List.setIfInBounds_toArray, List.set_cons_zero, List.set_cons_succ]
                  clear KK2 RR2 X1_2 X2_2
                  refine wpAnyH_ready (rs := [7, 13]) (by kernel_rfl) (by simp) ?_
                  refine (AllReadyH.cons rfl (fun K hK => ?_) (AllReadyH.cons rfl (fun K hK => ?_) AllReadyH.nil))
                  · refine step_append_src y9214 rfl (.tmp 106) (.tmp 108) 47 rfl w.heap.size 9 iS _ 1 16 Try.underlying47 hSi hSz hS1 hS2 rfl (by decide) u9 _ (strsB (H.map (·.sec))) RR3.out.o9 (some ⟨_, 0, none⟩) 1 1 [.string sec] rfl (fun _ => ⟨_, rfl, X2_3.out.src⟩) (fun h => by cases h) (by intro u hu; simp at hu; subst hu; rfl) (by first | exact HLn.out.1 | exact HLn.out.2.1 | exact HLn.out.2.2) (by decide) KK3.out.bel.size (by simp [Act.eval]) (by simp [Act.eval]) ?_
                    intro u2_4 y92145 ho hon hat _
                    have KK4 := Lib.hid (KK3.out.row RR3.out.o9 (by decide) (by decide) (by decide) hon)
                    have RR4 := Lib.hid (RR3.out.app9 sec ho hon hat)
                    clear ho hon hat
                    refine hK.out _ _ (HCELL.out _ KK4.out.bel) (fun hNew => ?_)
                    clear hHeld hK K
                    have hHeld := hNew
                    clear hNew
                    try simp only [Act.put, List.setIfInBounds_toArray, List.set_cons_zero, List.set_cons_succ]
                    clear KK3 RR3 X2_3
                    refine wpAnyH_ready (rs := [13]) (by kernel_rfl) (by simp) ?_
                    refine (AllReadyH.cons rfl (fun K hK => ?_) AllReadyH.nil)
                    · go_simp
                      have KK5 := Lib.hid (KK4.out.next ((Below.refl _ _).alloc (Nat.le_refl _) (.cells #[.slice p NL cap] 30)))
                      have RR5 := Lib.hid (RR4.out.next ((Below.refl _ _).alloc (Nat.le_refl _) (.cells #[.slice p NL cap] 30)))
                      have X3_5 := Lib.hid (Box.new RR4.out 30 (.slice p NL cap))
                      refine hK.out _ _ (HCELL.out _ KK5.out.bel) (fun hNew => ?_)
                      clear hHeld hK K
                      have hHeld := hNew
                      clear hNew
                      try simp only [Act.put, List.setIfInBounds_toArray, List.set_cons_zero, List.set_cons_succ]
                      generalize World.alloc y92145 (.cells #[.slice p NL cap] 30) = y921453 at KK5 RR5 X3_5 hHeld ⊢
                      clear KK4 RR4
                      refine wpAnyH_ready (rs := [14]) (by kernel_rfl) (by simp) ?_
                      refine (AllReadyH.cons rfl (fun K hK => ?_) AllReadyH.nil)
                      · refine step_append_src y921453 rfl (.tmp 110) (.tmp 115) 34 rfl w.heap.size 30 iL _ 1 24 Try.underlying34 hLi hLz hL1 hL2 rfl (by decide) u10 _ (lls (H.map (·.x))) RR5.out.o10 (some ⟨_, 0, none⟩) 1 1 [.slice p NL cap] rfl (fun _ => ⟨_, rfl, X3_5.out.src⟩) (fun h => by cases h) (by intro u hu; simp at hu; subst hu; rfl) (by first | exact HLn.out.1 | exact HLn.out.2.1 | exact HLn.out.2.2) (by decide) KK5.out.bel.size (by simp [Act.eval]) (by simp [Act.eval]) ?_
                        intro u3_6 y9214536 ho hon hat _
                        have KK6 := Lib.hid (KK5.out.row RR5.out.o10 (by decide) (by decide) (by decide) hon)
                        have RR6 := Lib.hid (RR5.out.app10 ⟨p, cap, L⟩ (by rw [show (⟨p, cap, L⟩ : In1).L.length = NL from HNL.out]; exact ho) hon)
                        clear ho hon hat
                        refine hK.out _ _ (HCELL.out _ KK6.out.bel) (fun hNew => ?_)
                        clear hHeld hK K
                        have hHeld := hNew
                        clear hNew
                        try simp only [Act.put, List.setIfInBounds_toArray, List.set_cons_zero, List.set_cons_succ]
                        clear KK5 RR5 X3_5
                        refine wpAnyH_takeD (i := 15) (v := ?_) (some 8) rfl rfl (by kernel_rfl) (by kernel_rfl) (by kernel_rfl) (fun _ _ _ h => h) (Or.inl ⟨by kernel_rfl, ?_⟩) (by assumption) ?_
                        rotate_left
                        · (intro w hSw; (try dsimp only at hSw); go_simp); all_goals with_reducible rfl
                        try simp only [Act.put, List.setIfInBounds_toArray, List.set_cons_zero, List.set_cons_succ]
                        refine wpAnyH_takeD (i := 16) (v := ?_) (some 9) rfl rfl (by kernel_rfl) (by kernel_rfl) (by kernel_rfl) (fun _ _ _ h => h) (Or.inl ⟨by kernel_rfl, ?_⟩) (by assumption) ?_
                        rotate_left
                        · (intro w hSw; (try dsimp only at hSw); go_simp); all_goals with_reducible rfl
                        try simp only [Act.put, List.setIfInBounds_toArray, List.set_cons_zero, List.set_cons_succ]
                        refine wpAnyH_takeD (i := 17) (v := ?_) (some 10) rfl rfl (by kernel_rfl) (by kernel_rfl) (by kernel_rfl) (fun _ _ _ h => h) (Or.inl ⟨by kernel_rfl, ?_⟩) (by assumption) ?_
                        rotate_left
                        · (intro w hSw; (try dsimp only at hSw); go_simp); all_goals with_reducible rfl
                        try simp only [Act.put, List.setIfInBounds_toArray, List.set_cons_zero, List.set_cons_succ]
                        refine wpAnyH_done (by kernel_rfl) ?_ _
                        go_wp2_with fail
                        go_roundw
                        case rel => exact ⟨i + 1, S1, vw2, vx2, vl, H ++ [⟨told, sec, ⟨p, cap, L⟩⟩], by omega, by omega, by go_num, KK6.out, by rw [List.map_append, List.map_append, List.map_append]; exact RR6.out, HHist.out, by have := HHl.out; simp; omega, HF.out⟩
                        case measure => simp [intOf]; omega
                  · go_simp
                    have KK4 := Lib.hid (KK3.out.next ((Below.refl _ _).alloc (Nat.le_refl _) (.cells #[.slice p NL cap] 30)))
                    have RR4 := Lib.hid (RR3.out.next ((Below.refl _ _).alloc (Nat.le_refl _) (.cells #[.slice p NL cap] 30)))
                    have X2_4 := Lib.hid (X2_3.out.alloc (.cells #[.slice p NL cap] 30))
                    have X3_4 := Lib.hid (Box.new RR3.out 30 (.slice p NL cap))
                    refine hK.out _ _ (HCELL.out _ KK4.out.bel) (fun hNew => ?_)
                    clear hHeld hK K
                    have hHeld := hNew
                    clear hNew
                    try simp only [Act.put, List.setIfInBounds_toArray, List.set_cons_zero, List.set_cons_succ]
                    generalize World.alloc y9214 (.cells #[.slice p NL cap] 30) = y92143 at KK4 RR4 X2_4 X3_4 hHeld ⊢
                    clear KK3 RR3 X2_3
                    refine wpAnyH_ready (rs := [7]) (by kernel_rfl) (by simp) ?_
                    refine (AllReadyH.cons rfl (fun K hK => ?_) AllReadyH.nil)
                    · refine step_append_src y92143 rfl (.tmp 106) (.tmp 108) 47 rfl w.heap.size 9 iS _ 1 16 Try.underlying47 hSi hSz hS1 hS2 rfl (by decide) u9 _ (strsB (H.map (·.sec))) RR4.out.o9 (some ⟨_, 0, none⟩) 1 1 [.string sec] rfl (fun _ => ⟨_, rfl, X2_4.out.src⟩) (fun h => by cases h) (by intro u hu; simp at hu; subst hu; rfl) (by first | exact HLn.out.1 | exact HLn.out.2.1 | exact HLn.out.2.2) (by decide) KK4.out.bel.size (by simp [Act.eval]) (by simp [Act.eval]) ?_
                      intro u2_5 y921435 ho hon hat _
                      have KK5 := Lib.hid (KK4.out.row RR4.out.o9 (by decide) (by decide) (by decide) hon)
                      have RR5 := Lib.hid (RR4.out.app9 sec ho hon hat)
                      have X3_5 := Lib.hid (X3_4.out.app9 hon hat)
                      clear ho hon hat
                      refine hK.out _ _ (HCELL.out _ KK5.out.bel) (fun hNew => ?_)
                      clear hHeld hK K
                      have hHeld := hNew
                      clear hNew
                      try simp only [Act.put, List.setIfInBounds_toArray, List.set_cons_zero, List.set_cons_succ]
                      clear KK4 RR4 X2_4 X3_4
                      refine wpAnyH_ready (rs := [14]) (by kernel_rfl) (by simp) ?_
                      refine (AllReadyH.cons rfl (fun K hK => ?_) AllReadyH.nil)
                      · refine step_append_src y921435 rfl (.tmp 110) (.tmp 115) 34 rfl w.heap.size 30 iL _ 1 24 Try.underlying34 hLi hLz hL1 hL2 rfl (by decide) u10 _ (lls (H.map (·.x))) RR5.out.o10 (some ⟨_, 0, none⟩) 1 1 [.slice p NL cap] rfl (fun _ => ⟨_, rfl, X3_5.out.src⟩) (fun h => by cases h) (by intro u hu; simp at hu; subst hu; rfl) (by first | exact HLn.out.1 | exact HLn.out.2.1 | exact HLn.out.2.2) (by decide) KK5.out.bel.size (by simp [Act.eval]) (by simp [Act.eval]) ?_
                        intro u3_6 y9214356 ho hon hat _
                        have KK6 := Lib.hid (KK5.out.row RR5.out.o10 (by decide) (by decide) (by decide) hon)
                        have RR6 := Lib.hid (RR5.out.app10 ⟨p, cap, L⟩ (by rw [show (⟨p, cap, L⟩ : In1).L.length = NL from HNL.out]; exact ho) hon)
                        clear ho hon hat
                        refine hK.out _ _ (HCELL.out _ KK6.out.bel) (fun hNew => ?_)
                        clear hHeld hK K
                        have hHeld := hNew
                        clear hNew
                        try simp only [Act.put, List.setIfInBounds_toArray, List.set_cons_zero, List.set_cons_succ]
                        clear KK5 RR5 X3_5
                        refine wpAnyH_takeD (i := 15) (v := ?_) (some 8) rfl rfl (by kernel_rfl) (by kernel_rfl) (by kernel_rfl) (fun _ _ _ h => h) (Or.inl ⟨by kernel_rfl, ?_⟩) (by assumption) ?_
                        rotate_left
                        · (intro w hSw; (try dsimp only at hSw); go_simp); all_goals with_reducible rfl
                        try simp only [Act.put, List.setIfInBounds_toArray, List.set_cons_zero, List.set_cons_succ]
                        refine wpAnyH_takeD (i := 16) (v := ?_) (some 9) rfl rfl (by kernel_rfl) (by kernel_rfl) (by kernel_rfl) (fun _ _ _ h => h) (Or.inl ⟨by kernel_rfl, ?_⟩) (by assumption) ?_
                        rotate_left
                        · (intro w hSw; (try dsimp only at hSw); go_simp); all_goals with_reducible rfl
                        try simp only [Act.put, List.setIfInBounds_toArray, List.set_cons_zero, List.set_cons_succ]
                        refine wpAnyH_takeD (i := 17) (v := ?_) (some 10) rfl rfl (by kernel_rfl) (by kernel_rfl) (by kernel_rfl) (fun _ _ _ h => h) (Or.inl ⟨by kernel_rfl, ?_⟩) (by assumption) ?_
                        rotate_left
                        · (intro w hSw; (try dsimp only at hSw); go_simp); all_goals with_reducible rfl
                        try simp only [Act.put, List.setIfInBounds_toArray, List.set_cons_zero, List.set_cons_succ]
                        refine wpAnyH_done (by kernel_rfl) ?_ _
                        go_wp2_with fail
                        go_roundw
                        case rel => exact ⟨i + 1, S1, vw2, vx2, vl, H ++ [⟨told, sec, ⟨p, cap, L⟩⟩], by omega, by omega, by go_num, KK6.out, by rw [List.map_append, List.map_append, List.map_append]; exact RR6.out, HHist.out, by have := HHl.out; simp; omega, HF.out⟩
                        case measure => simp [intOf]; omega
                · go_simp
                  have KK3 := Lib.hid (KK2.out.next ((Below.refl _ _).alloc (Nat.le_refl _) (.cells #[.slice p NL cap] 30)))
                  have RR3 := Lib.hid (RR2.out.next ((Below.refl _ _).alloc (Nat.le_refl _) (.cells #[.slice p NL cap] 30)))
                  have X1_3 := Lib.hid (X1_2.out.alloc (.cells #[.slice p NL cap] 30))
                  have X2_3 := Lib.hid (X2_2.out.alloc (.cells #[.slice p NL cap] 30))
                  have X3_3 := Lib.hid (Box.new RR2.out 30 (.slice p NL cap))
                  refine hK.out _ _ (HCELL.out _ KK3.out.bel) (fun hNew => ?_)
                  clear hHeld hK K
                  have hHeld := hNew
                  clear hNew
                  try simp only [Act.put, List.setIfInBounds_toArray, List.set_cons_zero, List.set_cons_succ]
                  generalize World.alloc y921 (.cells #[.slice p NL cap] 30) = y9213 at KK3 RR3 X1_3 X2_3 X3_3 hHeld ⊢
                  clear KK2 RR2 X1_2 X2_2
                  refine wpAnyH_ready (rs := [3]) (by kernel_rfl) (by simp) ?_
                  refine (AllReadyH.cons rfl (fun K hK => ?_) AllReadyH.nil)
                  · refine step_append_src y9213 rfl (.tmp 102) (.tmp 104) 47 rfl w.heap.size 9 iS _ 1 16 Try.underlying47 hSi hSz hS1 hS2 rfl (by decide) u8 _ (strsB (H.map (·.told))) RR3.out.o8 (some ⟨_, 0, none⟩) 1 1 [.string told] rfl (fun _ => ⟨_, rfl, X1_3.out.src⟩) (fun h => by cases h) (by intro u hu; simp at hu; subst hu; rfl) (by first | exact HLn.out.1 | exact HLn.out.2.1 | exact HLn.out.2.2) (by decide) KK3.out.bel.size (by simp [Act.eval]) (by simp [Act.eval]) ?_
                    intro u1_4 y92134 ho hon hat _
                    have KK4 := Lib.hid (KK3.out.row RR3.out.o8 (by decide) (by decide) (by decide) hon)
                    have RR4 := Lib.hid (RR3.out.app8 told ho hon hat)
                    have X2_4 := Lib.hid (X2_3.out.app8 hon hat)
                    have X3_4 := Lib.hid (X3_3.out.app8 hon hat)
                    clear ho hon hat
                    refine hK.out _ _ (HCELL.out _ KK4.out.bel) (fun hNew => ?_)
                    clear hHeld hK K
                    have hHeld := hNew
                    clear hNew
                    try simp only [Act.put, List.setIfInBounds_toArray, List.set_cons_zero, List.set_cons_succ]
                    clear KK3 RR3 X1_3 X2_3 X3_3
                    refine wpAnyH_ready (rs := [7]) (by kernel_rfl) (by simp) ?_
                    refine (AllReadyH.cons rfl (fun K hK => ?_) AllReadyH.nil)
                    · refine step_append_src y92134 rfl (.tmp 106) (.tmp 108) 47 rfl w.heap.size 9 iS _ 1 16 Try.underlying47 hSi hSz hS1 hS2 rfl (by decide) u9 _ (strsB (H.map (·.sec))) RR4.out.o9 (some ⟨_, 0, none⟩) 1 1 [.string sec] rfl (fun _ => ⟨_, rfl, X2_4.out.src⟩) (fun h => by cases h) (by intro u hu; simp at hu; subst hu; rfl) (by first | exact HLn.out.1 | exact HLn.out.2.1 | exact HLn.out.2.2) (by decide) KK4.out.bel.size (by simp [Act.eval]) (by simp [Act.eval]) ?_
                      intro u2_5 y921345 ho hon hat _
                      have KK5 := Lib.hid (KK4.out.row RR4.out.o9 (by decide) (by decide) (by decide) hon)
                      have RR5 := Lib.hid (RR4.out.app9 sec ho hon hat)
                      have X3_5 := Lib.hid (X3_4.out.app9 hon hat)
                      clear ho hon hat
                      refine hK.out _ _ (HCELL.out _ KK5.out.bel) (fun hNew => ?_)
                      clear hHeld hK K
                      have hHeld := hNew
                      clear hNew
                      try simp only [Act.put, List.setIfInBounds_toArray, List.set_cons_zero, List.set_cons_succ]
                      clear KK4 RR4 X2_4 X3_4
                      refine wpAnyH_ready (rs := [14]) (by kernel_rfl) (by simp) ?_
                      refine (AllReadyH.cons rfl (fun K hK => ?_) AllReadyH.nil)
                      · refine step_append_src y921345 rfl (.tmp 110) (.tmp 115) 34 rfl w.heap.size 30 iL _ 1 24 Try.underlying34 hLi hLz hL1 hL2 rfl (by decide) u10 _ (lls (H.map (·.x))) RR5.out.o10 (some ⟨_, 0, none⟩) 1 1 [.slice p NL cap] rfl (fun _ => ⟨_, rfl, X3_5.out.src⟩) (fun h => by cases h) (by intro u hu; simp at hu; subst hu; rfl) (by first | exact HLn.out.1 | exact HLn.out.2.1 | exact HLn.out.2.2) (by decide) KK5.out.bel.size (by simp [Act.eval]) (by simp [Act.eval]) ?_
                        intro u3_6 y9213456 ho hon hat _
                        have KK6 := Lib.hid (KK5.out.row RR5.out.o10 (by decide) (by decide) (by decide) hon)
                        have RR6 := Lib.hid (RR5.out.app10 ⟨p, cap, L⟩ (by rw [show (⟨p, cap, L⟩ : In1).L.length = NL from HNL.out]; exact ho) hon)
                        clear ho hon hat
                        refine hK.out _ _ (HCELL.out _ KK6.out.bel) (fun hNew => ?_)
                        clear hHeld hK K
                        have hHeld := hNew
                        clear hNew
                        try simp only [Act.put, List.setIfInBounds_toArray, List.set_cons_zero, List.set_cons_succ]
                        clear KK5 RR5 X3_5
                        refine wpAnyH_takeD (i := 15) (v := ?_) (some 8) rfl rfl (by kernel_rfl) (by kernel_rfl) (by kernel_rfl) (fun _ _ _ h => h) (Or.inl ⟨by kernel_rfl, ?_⟩) (by assumption) ?_
                        rotate_left
                        · (intro w hSw; (try dsimp only at hSw); go_simp); all_goals with_reducible rfl
                        try simp only [Act.put, List.setIfInBounds_toArray, List.set_cons_zero, List.set_cons_succ]
                        refine wpAnyH_takeD (i := 16) (v := ?_) (some 9) rfl rfl (by kernel_rfl) (by kernel_rfl) (by kernel_rfl) (fun _ _ _ h => h) (Or.inl ⟨by kernel_rfl, ?_⟩) (by assumption) ?_
                        rotate_left
                        · (intro w hSw; (try dsimp only at hSw); go_simp); all_goals with_reducible rfl
                        try simp only [Act.put, List.setIfInBounds_toArray, List.set_cons_zero, List.set_cons_succ]
                        refine wpAnyH_takeD (i := 17) (v := ?_) (some 10) rfl rfl (by kernel_rfl) (by kernel_rfl) (by kernel_rfl) (fun _ _ _ h => h) (Or.inl ⟨by kernel_rfl, ?_⟩) (by assumption) ?_
                        rotate_left
                        · (intro w hSw; (try dsimp only at hSw); go_simp); all_goals with_reducible rfl
                        try simp only [Act.put, List.setIfInBounds_toArray, List.set_cons_zero, List.set_cons_succ]
                        refine wpAnyH_done (by kernel_rfl) ?_ _
                        go_wp2_with fail
                        go_roundw
                        case rel => exact ⟨i + 1, S1, vw2, vx2, vl, H ++ [⟨told, sec, ⟨p, cap, L⟩⟩], by omega, by omega, by go_num, KK6.out, by rw [List.map_append, List.map_append, List.map_append]; exact RR6.out, HHist.out, by have := HHl.out; simp; omega, HF.out⟩
                        case measure => simp [intOf]; omega
              · go_simp
                have KK2 := Lib.hid (KK1.out.next ((Below.refl _ _).alloc (Nat.le_refl _) (.cells #[.slice p NL cap] 30)))
                have RR2 := Lib.hid (RR1.out.next ((Below.refl _ _).alloc (Nat.le_refl _) (.cells #[.slice p NL cap] 30)))
                have X2_2 := Lib.hid (X2_1.out.alloc (.cells #[.slice p NL cap] 30))
                have X3_2 := Lib.hid (Box.new RR1.out 30 (.slice p NL cap))
                refine hK.out _ _ (HCELL.out _ KK2.out.bel) (fun hNew => ?_)
                clear hHeld hK K
                have hHeld := hNew
                clear hNew
                try simp only [Act.put, List.setIfInBounds_toArray, List.set_cons_zero, List.set_cons_succ]
                generalize World.alloc y92 (.cells #[.slice p NL cap] 30) = y923 at KK2 RR2 X2_2 X3_2 hHeld ⊢
                clear KK1 RR1 X2_1
                refine wpAnyH_ready (rs := [2]) (by kernel_rfl) (by simp) ?_
                refine (AllReadyH.cons rfl (fun K hK => ?_) AllReadyH.nil)
                · go_simp
                  have KK3 := Lib.hid (KK2.out.next ((Below.refl _ _).alloc (Nat.le_refl _) (.cells #[.string told] 9)))
                  have RR3 := Lib.hid (RR2.out.next ((Below.refl _ _).alloc (Nat.le_refl _) (.cells #[.string told] 9)))
                  have X2_3 := Lib.hid (X2_2.out.alloc (.cells #[.string told] 9))
                  have X3_3 := Lib.hid (X3_2.out.alloc (.cells #[.string told] 9))
                  have X1_3 := Lib.hid (Box.new RR2.out 9 (.string told))
                  refine hK.out _ _ (HCELL.out _ KK3.out.bel) (fun hNew => ?_)
                  clear hHeld hK K
                  have hHeld := hNew
                  clear hNew
                  try simp only [Act.put, List.setIfInBounds_toArray, List.set_cons_zero, List.set_cons_succ]
                  generalize World.alloc y923 (.cells #[.string told] 9) = y9231 at KK3 RR3 X1_3 X2_3 X3_3 hHeld ⊢
                  clear KK2 RR2 X2_2 X3_2
                  refine wpAnyH_ready (rs := [3]) (by kernel_rfl) (by simp) ?_
                  refine (AllReadyH.cons rfl (fun K hK => ?_) AllReadyH.nil)
                  · refine step_append_src y9231 rfl (.tmp 102) (.tmp 104) 47 rfl w.heap.size 9 iS _ 1 16 Try.underlying47 hSi hSz hS1 hS2 rfl (by decide) u8 _ (strsB (H.map (·.told))) RR3.out.o8 (some ⟨_, 0, none⟩) 1 1 [.string told] rfl (fun _ => ⟨_, rfl, X1_3.out.src⟩) (fun h => by cases h) (by intro u hu; simp at hu; subst hu; rfl) (by first | exact HLn.out.1 | exact HLn.out.2.1 | exact HLn.out.2.2) (by decide) KK3.out.bel.size (by simp [Act.eval]) (by simp [Act.eval]) ?_
                    intro u1_4 y92314 ho hon hat _
                    have KK4 := Lib.hid (KK3.out.row RR3.out.o8 (by decide) (by decide) (by decide) hon)
                    have RR4 := Lib.hid (RR3.out.app8 told ho hon hat)
                    have X2_4 := Lib.hid (X2_3.out.app8 hon hat)
                    have X3_4 := Lib.hid (X3_3.out.app8 hon hat)
                    clear ho hon hat
                    refine hK.out _ _ (HCELL.out _ KK4.out.bel) (fun hNew => ?_)
                    clear hHeld hK K
                    have hHeld := hNew
                    clear hNew
                    try simp only [Act.put, List.setIfInBounds_toArray, List.set_cons_zero, List.set_cons_succ]
                    clear KK3 RR3 X1_3 X2_3 X3_3
                    refine wpAnyH_ready (rs := [7]) (by kernel_rfl) (by simp) ?_
                    refine (AllReadyH.cons rfl (fun K hK => ?_) AllReadyH.nil)
                    · refine step_append_src y92314 rfl (.tmp 106) (.tmp 108) 47 rfl w.heap.size 9 iS _ 1 16 Try.underlying47 hSi hSz hS1 hS2 rfl (by decide) u9 _ (strsB (H.map (·.sec))) RR4.out.o9 (some ⟨_, 0, none⟩) 1 1 [.string sec] rfl (fun _ => ⟨_, rfl, X2_4.out.src⟩) (fun h => by cases h) (by intro u hu; simp at hu; subst hu; rfl) (by first | exact HLn.out.1 | exact HLn.out.2.1 | exact HLn.out.2.2) (by decide) KK4.out.bel.size (by simp [Act.eval]) (by simp [Act.eval]) ?_
                      intro u2_5 y923145 ho hon hat _
                      have KK5 := Lib.hid (KK4.out.row RR4.out.o9 (by decide) (by decide) (by decide) hon)
                      have RR5 := Lib.hid (RR4.out.app9 sec ho hon hat)
                      have X3_5 := Lib.hid (X3_4.out.app9 hon hat)
                      clear ho hon hat
                      refine hK.out _ _ (HCELL.out _ KK5.out.bel) (fun hNew => ?_)
                      clear hHeld hK K
                      have hHeld := hNew
                      clear hNew
                      try simp only [Act.put, List.setIfInBounds_toArray, List.set_cons_zero, List.set_cons_succ]
                      clear KK4 RR4 X2_4 X3_4
                      refine wpAnyH_ready (rs := [14]) (by kernel_rfl) (by simp) ?_
                      refine (AllReadyH.cons rfl (fun K hK => ?_) AllReadyH.nil)
                      · refine step_append_src y923145 rfl (.tmp 110) (.tmp 115) 34 rfl w.heap.size 30 iL _ 1 24 Try.underlying34 hLi hLz hL1 hL2 rfl (by decide) u10 _ (lls (H.map (·.x))) RR5.out.o10 (some ⟨_, 0, none⟩) 1 1 [.slice p NL cap] rfl (fun _ => ⟨_, rfl, X3_5.out.src⟩) (fun h => by cases h) (by intro u hu; simp at hu; subst hu; rfl) (by first | exact HLn.out.1 | exact HLn.out.2.1 | exact HLn.out.2.2) (by decide) KK5.out.bel.size (by simp [Act.eval]) (by simp [Act.eval]) ?_
                        intro u3_6 y9231456 ho hon hat _
                        have KK6 := Lib.hid (KK5.out.row RR5.out.o10 (by decide) (by decide) (by decide) hon)
                        have RR6 := Lib.hid (RR5.out.app10 ⟨p, cap, L⟩ (by rw [show (⟨p, cap, L⟩ : In1).L.length = NL from HNL.out]; exact ho) hon)
                        clear ho hon hat
                        refine hK.out _ _ (HCELL.out _ KK6.out.bel) (fun hNew => ?_)
                        clear hHeld hK K
                        have hHeld := hNew
                        clear hNew
                        try simp only [Act.put, List.setIfInBounds_toArray, List.set_cons_zero, List.set_cons_succ]
                        clear KK5 RR5 X3_5
                        refine wpAnyH_takeD (i := 15) (v := ?_) (some 8) rfl rfl (by kernel_rfl) (by kernel_rfl) (by kernel_rfl) (fun _ _ _ h => h) (Or.inl ⟨by kernel_rfl, ?_⟩) (by assumption) ?_
                        rotate_left
                        · (intro w hSw; (try dsimp only at hSw); go_simp); all_goals with_reducible rfl
                        try simp only [Act.put, List.setIfInBounds_toArray, List.set_cons_zero, List.set_cons_succ]
                        refine wpAnyH_takeD (i := 16) (v := ?_) (some 9) rfl rfl (by kernel_rfl) (by kernel_rfl) (by kernel_rfl) (fun _ _ _ h => h) (Or.inl ⟨by kernel_rfl, ?_⟩) (by assumption) ?_
                        rotate_left
                        · (intro w hSw; (try dsimp only at hSw); go_simp); all_goals with_reducible rfl
                        try simp only [Act.put, List.setIfInBounds_toArray, List.set_cons_zero, List.set_cons_succ]
                        refine wpAnyH_takeD (i := 17) (v := ?_) (some 10) rfl rfl (by kernel_rfl) (by kernel_rfl) (by kernel_rfl) (fun _ _ _ h => h) (Or.inl ⟨by kernel_rfl, ?_⟩) (by assumption) ?_
                        rotate_left
                        · (intro w hSw; (try dsimp only at hSw); go_simp); all_goals with_reducible rfl
                        try simp only [Act.put, List.setIfInBounds_toArray, List.set_cons_zero, List.set_cons_succ]
                        refine wpAnyH_done (by kernel_rfl) ?_ _
                        go_wp2_with fail
                        go_roundw
                        case rel => exact ⟨i + 1, S1, vw2, vx2, vl, H ++ [⟨told, sec, ⟨p, cap, L⟩⟩], by omega, by omega, by go_num, KK6.out, by rw [List.map_append, List.map_append, List.map_append]; exact RR6.out, HHist.out, by have := HHl.out; simp; omega, HF.out⟩
                        case measure => simp [intOf]; omega
            · go_simp
              have KK1 := Lib.hid (KK0.out.next ((Below.refl _ _).alloc (Nat.le_refl _) (.cells #[.slice p NL cap] 30)))
              have RR1 := Lib.hid (RR0.out.next ((Below.refl _ _).alloc (Nat.le_refl _) (.cells #[.slice p NL cap] 30)))
              have X3_1 := Lib.hid (Box.new RR0.out 30 (.slice p NL cap))
              refine hK.out _ _ (HCELL.out _ KK1.out.bel) (fun hNew => ?_)
              clear hHeld hK K
              have hHeld := hNew
              clear hNew
              try simp only [Act.put, List.setIfInBounds_toArray, List.set_cons_zero, List.set_cons_succ]
              generalize World.alloc y9 (.cells #[.slice p NL cap] 30) = y93 at KK1 RR1 X3_1 hHeld ⊢
              clear KK0 RR0
              refine wpAnyH_ready (rs := [2, 6]) (by kernel_rfl) (by simp) ?_
              refine (AllReadyH.cons rfl (fun K hK => ?_) (AllReadyH.cons rfl (fun K hK => ?_) AllReadyH.nil))
              · go_simp
                have KK2 := Lib.hid (KK1.out.next ((Below.refl _ _).alloc (Nat.le_refl _) (.cells #[.string told] 9)))
                have RR2 := Lib.hid (RR1.out.next ((Below.refl _ _).alloc (Nat.le_refl _) (.cells #[.string told] 9)))
                have X3_2 := Lib.hid (X3_1.out.alloc (.cells #[.string told] 9))
                have X1_2 := Lib.hid (Box.new RR1.out 9 (.string told))
                refine hK.out _ _ (HCELL.out _ KK2.out.bel) (fun hNew => ?_)
                clear hHeld hK K
                have hHeld := hNew
                clear hNew
                try simp only [Act.put, List.setIfInBounds_toArray, List.set_cons_zero, List.set_cons_succ]
                generalize World.alloc y93 (.cells #[.string told] 9) = y931 at KK2 RR2 X1_2 X3_2 hHeld ⊢
                clear KK1 RR1 X3_1
                refine wpAnyH_ready (rs := [3, 6]) (by kernel_rfl) (by simp) ?_
                refine (AllReadyH.cons rfl (fun K hK => ?_) (AllReadyH.cons rfl (fun K hK => ?_) AllReadyH.nil))
                · refine step_append_src y931 rfl (.tmp 102) (.tmp 104) 47 rfl w.heap.size 9 iS _ 1 16 Try.underlying47 hSi hSz hS1 hS2 rfl (by decide) u8 _ (strsB (H.map (·.told))) RR2.out.o8 (some ⟨_, 0, none⟩) 1 1 [.string told] rfl (fun _ => ⟨_, rfl, X1_2.out.src⟩) (fun h => by cases h) (by intro u hu; simp at hu; subst hu; rfl) (by first | exact HLn.out.1 | exact HLn.out.2.1 | exact HLn.out.2.2) (by decide) KK2.out.bel.size (by simp [Act.eval]) (by simp [Act.eval]) ?_
                  intro u1_3 y9314 ho hon hat _
                  have KK3 := Lib.hid (KK2.out.row RR2.out.o8 (by decide) (by decide) (by decide) hon)
                  have RR3 := Lib.hid (RR2.out.app8 told ho hon hat)
                  have X3_3 := Lib.hid (X3_2.out.app8 hon hat)
                  clear ho hon hat
                  refine hK.out _ _ (HCELL.out _ KK3.out.bel) (fun hNew => ?_)
                  clear hHeld hK K
                  have hHeld := hNew
                  clear hNew
                  try simp only [Act.put, List.setIfInBounds_toArray, List.set_cons_zero, List.set_cons_succ]
                  clear KK2 RR2 X1_2 X3_2
                  refine wpAnyH_ready (rs := [6]) (by kernel_rfl) (by simp) ?_
                  refine (AllReadyH.cons rfl (fun K hK => ?_) AllReadyH.nil)
                  · go_simp
                    have KK4 := Lib.hid (KK3.out.next ((Below.refl _ _).alloc (Nat.le_refl _) (.cells #[.string sec] 9)))
                    have RR4 := Lib.hid (RR3.out.next ((Below.refl _ _).alloc (Nat.le_refl _) (.cells #[.string sec] 9)))
                    have X3_4 := Lib.hid (X3_3.out.alloc (.cells #[.string sec] 9))
                    have X2_4 := Lib.hid (Box.new RR3.out 9 (.string sec))
                    refine hK.out _ _ (HCELL.out _ KK4.out.bel) (fun hNew => ?_)
                    clear hHeld hK K
                    have hHeld := hNew
                    clear hNew
                    try simp only [Act.put, List.setIfInBounds_toArray, List.set_cons_zero, List.set_cons_succ]
                    generalize World.alloc y9314 (.cells #[.string sec] 9) = y93142 at KK4 RR4 X2_4 X3_4 hHeld ⊢
                    clear KK3 RR3 X3_3
                    refine wpAnyH_ready (rs := [7]) (by kernel_rfl) (by simp) ?_
                    refine (AllReadyH.cons rfl (fun K hK => ?_) AllReadyH.nil)
                    · refine step_append_src y93142 rfl (.tmp 106) (.tmp 108) 47 rfl w.heap.size 9 iS _ 1 16 Try.underlying47 hSi hSz hS1 hS2 rfl (by decide) u9 _ (strsB (H.map (·.sec))) RR4.out.o9 (some ⟨_, 0, none⟩) 1 1 [.string sec] rfl (fun _ => ⟨_, rfl, X2_4.out.src⟩) (fun h => by cases h) (by intro u hu; simp at hu; subst hu; rfl) (by first | exact HLn.out.1 | exact HLn.out.2.1 | exact HLn.out.2.2) (by decide) KK4.out.bel.size (by simp [Act.eval]) (by simp [Act.eval]) ?_
                      intro u2_5 y931425 ho hon hat _
                      have KK5 := Lib.hid (KK4.out.row RR4.out.o9 (by decide) (by decide) (by decide) hon)
                      have RR5 := Lib.hid (RR4.out.app9 sec ho hon hat)
                      have X3_5 := Lib.hid (X3_4.out.app9 hon hat)
                      clear ho hon hat
                      refine hK.out _ _ (HCELL.out _ KK5.out.bel) (fun hNew => ?_)
                      clear hHeld hK K
                      have hHeld := hNew
                      clear hNew
                      try simp only [Act.put, List.setIfInBounds_toArray, List.set_cons_zero, List.set_cons_succ]
                      clear KK4 RR4 X2_4 X3_4
                      refine wpAnyH_ready (rs := [14]) (by kernel_rfl) (by simp) ?_
                      refine (AllReadyH.cons rfl (fun K hK => ?_) AllReadyH.nil)
                      · refine step_append_src y931425 rfl (.tmp 110) (.tmp 115) 34 rfl w.heap.size 30 iL _ 1 24 Try.underlying34 hLi hLz hL1 hL2 rfl (by decide) u10 _ (lls (H.map (·.x))) RR5.out.o10 (some ⟨_, 0, none⟩) 1 1 [.slice p NL cap] rfl (fun _ => ⟨_, rfl, X3_5.out.src⟩) (fun h => by cases h) (by intro u hu; simp at hu; subst hu; rfl) (by first | exact HLn.out.1 | exact HLn.out.2.1 | exact HLn.out.2.2) (by decide) KK5.out.bel.size (by simp [Act.eval]) (by simp [Act.eval]) ?_
                        intro u3_6 y9314256 ho hon hat _
                        have KK6 := Lib.hid (KK5.out.row RR5.out.o10 (by decide) (by decide) (by decide) hon)
                        have RR6 := Lib.hid (RR5.out.app10 ⟨p, cap, L⟩ (by rw [show (⟨p, cap, L⟩ : In1).L.length = NL from HNL.out]; exact ho) hon)
                        clear ho hon hat
                        refine hK.out _ _ (HCELL.out _ KK6.out.bel) (fun hNew => ?_)
                        clear hHeld hK K
                        have hHeld := hNew
                        clear hNew
                        try simp only [Act.put, List.setIfInBounds_toArray, List.set_cons_zero, List.set_cons_succ]
                        clear KK5 RR5 X3_5
                        refine wpAnyH_takeD (i := 15) (v := ?_) (some 8) rfl rfl (by kernel_rfl) (by kernel_rfl) (by kernel_rfl) (fun _ _ _ h => h) (Or.inl ⟨by kernel_rfl, ?_⟩) (by assumption) ?_
                        rotate_left
                        · (intro w hSw; (try dsimp only at hSw); go_simp); all_goals with_reducible rfl
                        try simp only [Act.put, List.setIfInBounds_toArray, List.set_cons_zero, List.set_cons_succ]
                        refine wpAnyH_takeD (i := 16) (v := ?_) (some 9) rfl rfl (by kernel_rfl) (by kernel_rfl) (by kernel_rfl) (fun _ _ _ h => h) (Or.inl ⟨by kernel_rfl, ?_⟩) (by assumption) ?_
                        rotate_left
                        · (intro w hSw; (try dsimp only at hSw); go_simp); all_goals with_reducible rfl
                        try simp only [Act.put, List.setIfInBounds_toArray, List.set_cons_zero, List.set_cons_succ]
                        refine wpAnyH_takeD (i := 17) (v := ?_) (some 10) rfl rfl (by kernel_rfl) (by kernel_rfl) (by kernel_rfl) (fun _ _ _ h => h) (Or.inl ⟨by kernel_rfl, ?_⟩) (by assumption) ?_
                        rotate_left
                        · (intro w hSw; (try dsimp only at hSw); go_simp); all_goals with_reducible rfl
                        try simp only [Act.put, List.setIfInBounds_toArray, List.set_cons_zero, List.set_cons_succ]
                        refine wpAnyH_done (by kernel_rfl) ?_ _
                        go_wp2_with fail
                        go_roundw
                        case rel => exact ⟨i + 1, S1, vw2, vx2, vl, H ++ [⟨told, sec, ⟨p, cap, L⟩⟩], by omega, by omega, by go_num, KK6.out, by rw [List.map_append, List.map_append, List.map_append]; exact RR6.out, HHist.out, by have := HHl.out; simp; omega, HF.out⟩
                        case measure => simp [intOf]; omega
                · go_simp
                  have KK3 := Lib.hid (KK2.out.next ((Below.refl _ _).alloc (Nat.le_refl _) (.cells #[.string sec] 9)))
                  have RR3 := Lib.hid (RR2.out.next ((Below.refl _ _).alloc (Nat.le_refl _) (.cells #[.string sec] 9)))
                  have X1_3 := Lib.hid (X1_2.out.alloc (.cells #[.string sec] 9))
                  have X3_3 := Lib.hid (X3_2.out.alloc (.cells #[.string sec] 9))
                  have X2_3 := Lib.hid (Box.new RR2.out 9 (.string sec))
                  refine hK.out _ _ (HCELL.out _ KK3.out.bel) (fun hNew => ?_)
                  clear hHeld hK K
                  have hHeld := hNew
                  clear hNew
                  try simp only [Act.put, List.setIfInBounds_toArray, List.set_cons_zero, List.set_cons_succ]
                  generalize World.alloc y931 (.cells #[.string sec] 9) = y9312 at KK3 RR3 X1_3 X2_3 X3_3 hHeld ⊢
                  clear KK2 RR2 X1_2 X3_2
                  refine wpAnyH_ready (rs := [3]) (by kernel_rfl) (by simp) ?_
                  refine (AllReadyH.cons rfl (fun K hK => ?_) AllReadyH.nil)
                  · refine step_append_src y9312 rfl (.tmp 102) (.tmp 104) 47 rfl w.heap.size 9 iS _ 1 16 Try.underlying47 hSi hSz hS1 hS2 rfl (by decide) u8 _ (strsB (H.map (·.told))) RR3.out.o8 (some ⟨_, 0, none⟩) 1 1 [.string told] rfl (fun _ => ⟨_, rfl, X1_3.out.src⟩) (fun h => by cases h) (by intro u hu; simp at hu; subst hu; rfl) (by first | exact HLn.out.1 | exact HLn.out.2.1 | exact HLn.out.2.2) (by decide) KK3.out.bel.size (by simp [Act.eval]) (by simp [Act.eval]) ?_
                    intro u1_4 y93124 ho hon hat _
                    have KK4 := Lib.hid (KK3.out.row RR3.out.o8 (by decide) (by decide) (by decide) hon)
                    have RR4 := Lib.hid (RR3.out.app8 told ho hon hat)
                    have X2_4 := Lib.hid (X2_3.out.app8 hon hat)
                    have X3_4 := Lib.hid (X3_3.out.app8 hon hat)
                    clear ho hon hat
                    refine hK.out _ _ (HCELL.out _ KK4.out.bel) (fun hNew => ?_)
                    clear hHeld hK K
                    have hHeld := hNew
                    clear hNew
                    try simp only [Act.put, List.setIfInBounds_toArray, List.set_cons_zero, List.set_cons_succ]
                    clear KK3 RR3 X1_3 X2_3 X3_3
                    refine wpAnyH_ready (rs := [7]) (by kernel_rfl) (by simp) ?_
                    refine (AllReadyH.cons rfl (fun K hK => ?_) AllReadyH.nil)
                    · refine step_append_src y93124 rfl (.tmp 106) (.tmp 108) 47 rfl w.heap.size 9 iS _ 1 16 Try.underlying47 hSi hSz hS1 hS2 rfl (by decide) u9 _ (strsB (H.map (·.sec))) RR4.out.o9 (some ⟨_, 0, none⟩) 1 1 [.string sec] rfl (fun _ => ⟨_, rfl, X2_4.out.src⟩) (fun h => by cases h) (by intro u hu; simp at hu; subst hu; rfl) (by first | exact HLn.out.1 | exact HLn.out.2.1 | exact HLn.out.2.2) (by decide) KK4.out.bel.size (by simp [Act.eval]) (by simp [Act.eval]) ?_
                      intro u2_5 y931245 ho hon hat _
                      have KK5 := Lib.hid (KK4.out.row RR4.out.o9 (by decide) (by decide) (by decide) hon)
                      have RR5 := Lib.hid (RR4.out.app9 sec ho hon hat)
                      have X3_5 := Lib.hid (X3_4.out.app9 hon hat)
                      clear ho hon hat
                      refine hK.out _ _ (HCELL.out _ KK5.out.bel) (fun hNew => ?_)
                      clear hHeld hK K
                      have hHeld := hNew
                      clear hNew
                      try simp only [Act.put, List.setIfInBounds_toArray, List.set_cons_zero, List.set_cons_succ]
                      clear KK4 RR4 X2_4 X3_4
                      refine wpAnyH_ready (rs := [14]) (by kernel_rfl) (by simp) ?_
                      refine (AllReadyH.cons rfl (fun K hK => ?_) AllReadyH.nil)
                      · refine step_append_src y931245 rfl (.tmp 110) (.tmp 115) 34 rfl w.heap.size 30 iL _ 1 24 Try.underlying34 hLi hLz hL1 hL2 rfl (by decide) u10 _ (lls (H.map (·.x))) RR5.out.o10 (some ⟨_, 0, none⟩) 1 1 [.slice p NL cap] rfl (fun _ => ⟨_, rfl, X3_5.out.src⟩) (fun h => by cases h) (by intro u hu; simp at hu; subst hu; rfl) (by first | exact HLn.out.1 | exact HLn.out.2.1 | exact HLn.out.2.2) (by decide) KK5.out.bel.size (by simp [Act.eval]) (by simp [Act.eval]) ?_
                        intro u3_6 y9312456 ho hon hat _
                        have KK6 := Lib.hid (KK5.out.row RR5.out.o10 (by decide) (by decide) (by decide) hon)
                        have RR6 := Lib.hid (RR5.out.app10 ⟨p, cap, L⟩ (by rw [show (⟨p, cap, L⟩ : In1).L.length = NL from HNL.out]; exact ho) hon)
                        clear ho hon hat
                        refine hK.out _ _ (HCELL.out _ KK6.out.bel) (fun hNew => ?_)
                        clear hHeld hK K
                        have hHeld := hNew
                        clear hNew
                        try simp only [Act.put, List.setIfInBounds_toArray, List.set_cons_zero, List.set_cons_succ]
                        clear KK5 RR5 X3_5
                        refine wpAnyH_takeD (i := 15) (v := ?_) (some 8) rfl rfl (by kernel_rfl) (by kernel_rfl) (by kernel_rfl) (fun _ _ _ h => h) (Or.inl ⟨by kernel_rfl, ?_⟩) (by assumption) ?_
                        rotate_left
                        · (intro w hSw; (try dsimp only at hSw); go_simp); all_goals with_reducible rfl
                        try simp only [Act.put, List.setIfInBounds_toArray, List.set_cons_zero, List.set_cons_succ]
                        refine wpAnyH_takeD (i := 16) (v := ?_) (some 9) rfl rfl (by kernel_rfl) (by kernel_rfl) (by kernel_rfl) (fun _ _ _ h => h) (Or.inl ⟨by kernel_rfl, ?_⟩) (by assumption) ?_
                        rotate_left
                        · (intro w hSw; (try dsimp only at hSw); go_simp); all_goals with_reducible rfl
                        try simp only [Act.put, List.setIfInBounds_toArray, List.set_cons_zero, List.set_cons_succ]
                        refine wpAnyH_takeD (i := 17) (v := ?_) (some 10) rfl rfl (by kernel_rfl) (by kernel_rfl) (by kernel_rfl) (fun _ _ _ h => h) (Or.inl ⟨by kernel_rfl, ?_⟩) (by assumption) ?_
                        rotate_left
                        · (intro w hSw; (try dsimp only at hSw); go_simp); all_goals with_reducible rfl
                        try simp only [Act.put, List.setIfInBounds_toArray, List.set_cons_zero, List.set_cons_succ]
                        refine wpAnyH_done (by kernel_rfl) ?_ _
                        go_wp2_with fail
                        go_roundw
                        case rel => exact ⟨i + 1, S1, vw2, vx2, vl, H ++ [⟨told, sec, ⟨p, cap, L⟩⟩], by omega, by omega, by go_num, KK6.out, by rw [List.map_append, List.map_append, List.map_append]; exact RR6.out, HHist.out, by have := HHl.out; simp; omega, HF.out⟩
                        case measure => simp [intOf]; omega
              · go_simp
                have KK2 := Lib.hid (KK1.out.next ((Below.refl _ _).alloc (Nat.le_refl _) (.cells #[.string sec] 9)))
                have RR2 := Lib.hid (RR1.out.next ((Below.refl _ _).alloc (Nat.le_refl _) (.cells #[.string sec] 9)))
                have X3_2 := Lib.hid (X3_1.out.alloc (.cells #[.string sec] 9))
                have X2_2 := Lib.hid (Box.new RR1.out 9 (.string sec))
                refine hK.out _ _ (HCELL.out _ KK2.out.bel) (fun hNew => ?_)
                clear hHeld hK K
                have hHeld := hNew
                clear hNew
                try simp only [Act.put, List.setIfInBounds_toArray, List.set_cons_zero, List.set_cons_succ]
                generalize World.alloc y93 (.cells #[.string sec] 9) = y932 at KK2 RR2 X2_2 X3_2 hHeld ⊢
                clear KK1 RR1 X3_1
                refine wpAnyH_ready (rs := [2]) (by kernel_rfl) (by simp) ?_
                refine (AllReadyH.cons rfl (fun K hK => ?_) AllReadyH.nil)
                · go_simp
                  have KK3 := Lib.hid (KK2.out.next ((Below.refl _ _).alloc (Nat.le_refl _) (.cells #[.string told] 9)))
                  have RR3 := Lib.hid (RR2.out.next ((Below.refl _ _).alloc (Nat.le_refl _) (.cells #[.string told] 9)))
                  have X2_3 := Lib.hid (X2_2.out.alloc (.cells #[.string told] 9))
                  have X3_3 := Lib.hid (X3_2.out.alloc (.cells #[.string told] 9))
                  have X1_3 := Lib.hid (Box.new RR2.out 9 (.string told))
                  refine hK.out _ _ (HCELL.out _ KK3.out.bel) (fun hNew => ?_)
                  clear hHeld hK K
                  have hHeld := hNew
                  clear hNew
                  try simp only [Act.put, List.setIfInBounds_toArray, List.set_cons_zero, List.set_cons_succ]
                  generalize World.alloc y932 (.cells #[.string told] 9) = y9321 at KK3 RR3 X1_3 X2_3 X3_3 hHeld ⊢
                  clear KK2 RR2 X2_2 X3_2
                  refine wpAnyH_ready (rs := [3]) (by kernel_rfl) (by simp) ?_
                  refine (AllReadyH.cons rfl (fun K hK => ?_) AllReadyH.nil)
                  · refine step_append_src y9321 rfl (.tmp 102) (.tmp 104) 47 rfl w.heap.size 9 iS _ 1 16 Try.underlying47 hSi hSz hS1 hS2 rfl (by decide) u8 _ (strsB (H.map (·.told))) RR3.out.o8 (some ⟨_, 0, none⟩) 1 1 [.string told] rfl (fun _ => ⟨_, rfl, X1_3.out.src⟩) (fun h => by cases h) (by intro u hu; simp at hu; subst hu; rfl) (by first | exact HLn.out.1 | exact HLn.out.2.1 | exact HLn.out.2.2) (by decide) KK3.out.bel.size (by simp [Act.eval]) (by simp [Act.eval]) ?_
                    intro u1_4 y93214 ho hon hat _
                    have KK4 := Lib.hid (KK3.out.row RR3.out.o8 (by decide) (by decide) (by decide) hon)
                    have RR4 := Lib.hid (RR3.out.app8 told ho hon hat)
                    have X2_4 := Lib.hid (X2_3.out.app8 hon hat)
                    have X3_4 := Lib.hid (X3_3.out.app8 hon hat)
                    clear ho hon hat
                    refine hK.out _ _ (HCELL.out _ KK4.out.bel) (fun hNew => ?_)
                    clear hHeld hK K
                    have hHeld := hNew
                    clear hNew
                    try simp only [Act.put, List.setIfInBounds_toArray, List.set_cons_zero, List.set_cons_succ]
                    clear KK3 RR3 X1_3 X2_3 X3_3
                    refine wpAnyH_ready (rs := [7]) (by kernel_rfl) (by simp) ?_
                    refine (AllReadyH.cons rfl (fun K hK => ?_) AllReadyH.nil)
                    · refine step_append_src y93214 rfl (.tmp 106) (.tmp 108) 47 rfl w.heap.size 9 iS _ 1 16 Try.underlying47 hSi hSz hS1 hS2 rfl (by decide) u9 _ (strsB (H.map (·.sec))) RR4.out.o9 (some ⟨_, 0, none⟩) 1 1 [.string sec] rfl (fun _ => ⟨_, rfl, X2_4.out.src⟩) (fun h => by cases h) (by intro u hu; simp at hu; subst hu; rfl) (by first | exact HLn.out.1 | exact HLn.out.2.1 | exact HLn.out.2.2) (by decide) KK4.out.bel.size (by simp [Act.eval]) (by simp [Act.eval]) ?_
                      intro u2_5 y932145 ho hon hat _
                      have KK5 := Lib.hid (KK4.out.row RR4.out.o9 (by decide) (by decide) (by decide) hon)
                      have RR5 := Lib.hid (RR4.out.app9 sec ho hon hat)
                      have X3_5 := Lib.hid (X3_4.out.app9 hon hat)
                      clear ho hon hat
                      refine hK.out _ _ (HCELL.out _ KK5.out.bel) (fun hNew => ?_)
                      clear hHeld hK K
                      have hHeld := hNew
                      clear hNew
                      try simp only [Act.put, List.setIfInBounds_toArray, List.set_cons_zero, List.set_cons_succ]
                      clear KK4 RR4 X2_4 X3_4
                      refine wpAnyH_ready (rs := [14]) (by kernel_rfl) (by simp) ?_
                      refine (AllReadyH.cons rfl (fun K hK => ?_) AllReadyH.nil)
                      · refine step_append_src y932145 rfl (.tmp 110) (.tmp 115) 34 rfl w.heap.size 30 iL _ 1 24 Try.underlying34 hLi hLz hL1 hL2 rfl (by decide) u10 _ (lls (H.map (·.x))) RR5.out.o10 (some ⟨_, 0, none⟩) 1 1 [.slice p NL cap] rfl (fun _ => ⟨_, rfl, X3_5.out.src⟩) (fun h => by cases h) (by intro u hu; simp at hu; subst hu; rfl) (by first | exact HLn.out.1 | exact HLn.out.2.1 | exact HLn.out.2.2) (by decide) KK5.out.bel.size (by simp [Act.eval]) (by simp [Act.eval]) ?_
                        intro u3_6 y9321456 ho hon hat _
                        have KK6 := Lib.hid (KK5.out.row RR5.out.o10 (by decide) (by decide) (by decide) hon)
                        have RR6 := Lib.hid (RR5.out.app10 ⟨p, cap, L⟩ (by rw [show (⟨p, cap, L⟩ : In1).L.length = NL from HNL.out]; exact ho) hon)
                        clear ho hon hat
                        refine hK.out _ _ (HCELL.out _ KK6.out.bel) (fun hNew => ?_)
                        clear hHeld hK K
                        have hHeld := hNew
                        clear hNew
                        try simp only [Act.put, List.setIfInBounds_toArray, List.set_cons_zero, List.set_cons_succ]
                        clear KK5 RR5 X3_5
                        refine wpAnyH_takeD (i := 15) (v := ?_) (some 8) rfl rfl (by kernel_rfl) (by kernel_rfl) (by kernel_rfl) (fun _ _ _ h => h) (Or.inl ⟨by kernel_rfl, ?_⟩) (by assumption) ?_
                        rotate_left
                        · (intro w hSw; (try dsimp only at hSw); go_simp); all_goals with_reducible rfl
                        try simp only [Act.put, List.setIfInBounds_toArray, List.set_cons_zero, List.set_cons_succ]
                        refine wpAnyH_takeD (i := 16) (v := ?_) (some 9) rfl rfl (by kernel_rfl) (by kernel_rfl) (by kernel_rfl) (fun _ _ _ h => h) (Or.inl ⟨by kernel_rfl, ?_⟩) (by assumption) ?_
                        rotate_left
                        · (intro w hSw; (try dsimp only at hSw); go_simp); all_goals with_reducible rfl
                        try simp only [Act.put, List.setIfInBounds_toArray, List.set_cons_zero, List.set_cons_succ]
                        refine wpAnyH_takeD (i := 17) (v := ?_) (some 10) rfl rfl (by kernel_rfl) (by kernel_rfl) (by kernel_rfl) (fun _ _ _ h => h) (Or.inl ⟨by kernel_rfl, ?_⟩) (by assumption) ?_
                        rotate_left
                        · (intro w hSw; (try dsimp only at hSw); go_simp); all_goals with_reducible rfl
                        try simp only [Act.put, List.setIfInBounds_toArray, List.set_cons_zero, List.set_cons_succ]
                        refine wpAnyH_done (by kernel_rfl) ?_ _
                        go_wp2_with fail
                        go_roundw
                        case rel => exact ⟨i + 1, S1, vw2, vx2, vl, H ++ [⟨told, sec, ⟨p, cap, L⟩⟩], by omega, by omega, by go_num, KK6.out, by rw [List.map_append, List.map_append, List.map_append]; exact RR6.out, HHist.out, by have := HHl.out; simp; omega, HF.out⟩
                        case measure => simp [intOf]; omega
end Go.Proofs.Ytkggjcfiomddeaa
