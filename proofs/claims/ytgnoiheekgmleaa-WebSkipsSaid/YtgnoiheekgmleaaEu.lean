/- web: the walk of WebSkips. -/
import Derived.Test.YtgnoiheekgmleaaEt
namespace Go.Proofs.Ytgnoiheekgmleaa
open Go.ChangeShapes Go.WideShapes Go.RowKit
set_option linter.unusedVariables false
set_option linter.unusedSimpArgs false

set_option maxRecDepth 100000 in
set_option maxHeartbeats 8000000 in
theorem skips_walk (HAW0 : ∀ w, Calls Try.prog 7 #[] w fun e w' => e = .returned (.bool true) ∧ Below w.heap.size w w') (a0 : Int) (m : MIn) (kind : Nat) (data : ByteArray) (w : World) (w0 : (Lit.int .i64 a0).wf = true) (hm : MsgIn w m) (bk : kind < 2 ^ 64) :
    Calls Try.prog 6 #[.int .i64 a0, m.v, .int .u64 (kind : Int), .string data] w fun e w' => e = .returned (.bool true) ∧ Below w.heap.size w w' := by
  have bk' : kind < 18446744073709551616 := bk
  have hb0 := bounds_i64 w0
  have HAW := Lib.hid HAW0
  have HNW := Lib.hid (fun w => NewWriter_any a0 (IntWalk.i64_in _ (by omega)) w)
  have HNR := Lib.hid (fun w => NewReader_any a0 (IntWalk.i64_in _ (by omega)) w)
  obtain ⟨p, cap, L, body⟩ := m
  obtain ⟨hIn1, hIn2, hIn3⟩ := hm
  simp only at hIn1 hIn2 hIn3
  have hg : Below w.heap.size w (w.alloc (.cells #[.slice p L.length cap, .string body] 31)) := (Below.refl _ _).alloc (Nat.le_refl _) _
  have HM := Lib.hid (And.intro (blk.new w 31 [.slice p L.length cap, .string body]) hg)
  have HIN := Lib.hid hIn1
  have HIN2 := Lib.hid (And.intro hIn2 hIn3)
  have hsz0 : ((MIn.mk p cap L body).v) = .agg #[.slice p L.length cap, .string body] := rfl
  rw [hsz0]
  clear hsz0 w0 hg hIn1 hIn2 hIn3 HAW0 bk
  go_enter Try.func6, Try.ntmps6
  go_wp2_with fail
  refine (HAW.out _).mono ?_
  rintro e x0 ⟨rfl, b0⟩
  have M0 := Lib.hid (msg_keep HM.out b0)
  obtain ⟨gm, hgm⟩ : ∃ gm, w.heap.size = gm := ⟨_, rfl⟩
  have HGM := Lib.hid hgm
  have M1 : Hid (blk x0 gm 31 [.slice p L.length cap, .string body] ∧ Below w.heap.size w x0) := Lib.hid (by rw [← hgm]; exact M0.out)
  have c0 := M1.out.1.cell (k := 0) rfl
  have c1 := M1.out.1.cell (k := 1) rfl
  rw [hgm]
  clear b0 M0 HM HAW hgm
  have hlg := wlarge_any L p cap body x0 (HIN.out.below M1.out.2) HIN2.out.1 HIN2.out.2
  unfold WLEnd at hlg
  have HLG := Lib.hid hlg
  clear hlg
  go_wp2_with fail
  refine HLG.out.mono ?_
  rintro e x1 ⟨big, rfl, hsm, b1⟩
  have M2 := Lib.hid (msg_keep M1.out b1)
  have c0 := M2.out.1.cell (k := 0) rfl
  have c1 := M2.out.1.cell (k := 1) rfl
  clear b1 M1 HLG
  cases big
  case true =>
    go_wp2_with fail
    go_ret
    exact ⟨rfl, M2.out.2⟩
  case false =>
    have HSM := Lib.hid (hsm rfl)
    clear hsm
    have hlen : L.length ≤ 10000 := by have := HSM.out.1; omega
    have hbody : body.size ≤ 5000 := by have := HSM.out.2; omega
    by_cases k1 : 500 < body.size
    · have d1 : (500 : Int) < (body.size : Int) := by omega
      clear k1
      go_wp2_with fail
      go_ret
      exact ⟨rfl, M2.out.2⟩
    · have d1 : ¬ (500 : Int) < (body.size : Int) := by omega
      clear k1
      by_cases k2 : kind ≤ 9
      · have d2 : (kind : Int) ≤ 9 := by omega
        clear k2
        go_wp2_with fail
        go_ret
        exact ⟨rfl, M2.out.2⟩
      · have d2 : ¬ (kind : Int) ≤ 9 := by omega
        by_cases k3 : 4611686018427387903 < kind
        · have d3 : (4611686018427387903 : Int) < (kind : Int) := by omega
          clear k3 k2
          go_wp2_with fail
          go_ret
          exact ⟨rfl, M2.out.2⟩
        · have d3 : ¬ (4611686018427387903 : Int) < (kind : Int) := by omega
          by_cases k4 : 300 < data.size
          · have d4 : (300 : Int) < (data.size : Int) := by omega
            clear k4 k3 k2
            go_wp2_with fail
            go_ret
            exact ⟨rfl, M2.out.2⟩
          · have d4 : ¬ (300 : Int) < (data.size : Int) := by omega
            have hkk : 9 < kind ∧ kind < 4611686018427387904 := by omega
            have hds : data.size ≤ 300 := by omega
            clear k4 k3 k2
            go_wp2_with fail
            refine (HNW.out _).mono ?_
            rintro e x2 ⟨bw, rfl, hbw, hk1, b2⟩
            have W2 := Lib.hid (tab_new (B := w.heap.size) hk1)
            have M3 := Lib.hid (msg_keep M2.out b2)
            have lw := hk1.lt
            have s1 := M2.out.2.size
            have lgm := M2.out.1.lt
            clear hk1 b2 M2
            go_wp2_with fail
            refine (HNR.out _).mono ?_
            rintro e x3 ⟨br, rfl, hbr, hk2, b3⟩
            have s2 := M3.out.2.size
            have T3 : Hid (TW w x3 bw br (.slice none 0 0) (.slice none 0 0) ⟨[], mostF a0, 0⟩ ⟨[], mostF a0, 0⟩) := Lib.hid ⟨W2.out.below b3, tab_new hk2, by omega, by omega, by omega, fun k hk => by simp [Value.ownBlock] at hk, M3.out.2.trans (b3.mono M3.out.2.size)⟩
            have M4 := Lib.hid (msg_keep M3.out b3).1
            clear hk2 b3 M3 W2
            have c0 := M4.out.cell (k := 0) rfl
            have c1 := M4.out.cell (k := 1) rfl
            have hbw2 := T3.out.2.2.2.1
            have hwr := wWrite_any w.heap.size bw (.slice none 0 0) ⟨[], mostF a0, 0⟩ L p cap body x3 T3.out.1 ⟨mostF_le a0, Nat.zero_le _, Nat.le_refl _⟩ T3.out.2.2.2.2.2.2.size hbw2 (HIN.out.below T3.out.2.2.2.2.2.2).1 hlen (fun hl g o e => by
              have hg := HIN.out.2.2.2 g o hl e
              exact ⟨Nat.lt_of_lt_of_le hg T3.out.2.2.2.2.2.2.size, by omega, by simp [Value.ownBlock]⟩) hbody
            have hwe : (webF ⟨[], mostF a0, 0⟩ L (byt body)).2.2.2 = 0 ∨ (webF ⟨[], mostF a0, 0⟩ L (byt body)).2.2.2 = 4 ∨ (webF ⟨[], mostF a0, 0⟩ L (byt body)).2.2.2 = 2 := by
              have := writeF_err ⟨[], mostF a0, 0⟩ L
              unfold webF
              split
              · exact this
              · exact .inl rfl
            by_cases he : (webF ⟨[], mostF a0, 0⟩ L (byt body)).2.2.2 = 0
            case neg =>
              rcases hW : webF ⟨[], mostF a0, 0⟩ L (byt body) with ⟨S1, told, bts, E⟩
              rw [hW] at hwr hwe he
              simp only at hwr hwe he
              have HW := Lib.hid hwr
              clear hwr hW
              have d5 : (E == 0) = false := by rw [beq_eq_false_iff_ne]; exact he
              clear hwe he
              go_wp2_with fail
              refine HW.out.mono ?_
              rintro e x4 ⟨rfl, hto⟩
              obtain ⟨vw, hT4, _⟩ := T3.out.write hto
              have T4 := Lib.hid hT4
              clear hto hT4 HW
              go_wp2_with fail
              go_ret
              exact ⟨rfl, T4.out.2.2.2.2.2.2⟩
            case pos =>
              obtain ⟨S1, told, sec, hW, hok1, htl, hrd, _, hss, hts, hl100⟩ := web_facts (mostF_le a0) he ⟨HSM.out.1, by have := HSM.out.2; omega⟩
              rw [hW] at hwr
              simp only at hwr
              have hpl := pieces_le (byt body).length (byt body)
              rw [byt_length] at hpl
              have htk := fun W => wTake_any (txt (frameB 1 (byt sec) ++ piecesF (byt body).length (byt body))) W (by rw [txt_size, List.length_append]; have := frameB_le 1 (byt sec); rw [byt_length] at this; rw [byt_length]; omega)
              rw [byt_txt, wtake_frame (by decide) (by decide) _ _ (by rw [byt_length]; omega)] at htk
              unfold takeV at htk
              simp only [txt_byt] at htk
              have hpx := fun W => wPut_any kind data W bk' (by omega)
              have hph := fun W => wPut_any 1 sec W (by decide) (by omega)
              have hrun := skips_run kind (byt data) (byt sec) (byt body) hkk (by rw [byt_length]; omega) (by rw [byt_length]; omega)
              have hfx := frameB_le kind (byt data)
              have hfh := frameB_le 1 (byt sec)
              rw [byt_length] at hfx hfh
              have hadd : ∀ y b ad bf, Ibx y w.heap.size b br emptyIB false 0 ad bf → Calls Try.prog 21 #[.pointer (some ⟨b, 0, none⟩), .string (txt (frameB kind (byt data)) ++ txt (frameB 1 (byt sec)) ++ txt (frameB kind (byt data)) ++ txt (piecesF (byt body).length (byt body)) ++ txt (frameB kind (byt data))), .bool true] y fun e1 w' => e1 = .returned (.int .i64 0) ∧ IbTo w.heap.size b br ⟨[], byt sec, true, byt body⟩ true 0 y w' := by
                intro y b ad bf hI
                have := Add_any (txt (frameB kind (byt data)) ++ txt (frameB 1 (byt sec)) ++ txt (frameB kind (byt data)) ++ txt (piecesF (byt body).length (byt body)) ++ txt (frameB kind (byt data))) true hI (by
                  show 0 + _ + 0 ≤ _
                  rw [ba_app_size, ba_app_size, ba_app_size, ba_app_size, txt_size, txt_size, txt_size, byt_length]
                  omega)
                rw [byt_app, byt_app, byt_app, byt_app, byt_txt, byt_txt, byt_txt, hrun] at this
                exact this
              obtain ⟨X, hX⟩ : ∃ X, txt (frameB kind (byt data)) = X := ⟨_, rfl⟩
              obtain ⟨Hd, hHd⟩ : ∃ X, txt (frameB 1 (byt sec)) = X := ⟨_, rfl⟩
              obtain ⟨R, hR⟩ : ∃ X, txt (piecesF (byt body).length (byt body)) = X := ⟨_, rfl⟩
              obtain ⟨s, hs⟩ : ∃ s, txt (frameB 1 (byt sec) ++ piecesF (byt body).length (byt body)) = s := ⟨_, rfl⟩
              have zX : X.size ≤ 316 := by rw [← hX, txt_size]; omega
              have zH : Hd.size ≤ 16 + 3604 := by rw [← hHd, txt_size]; omega
              have zR : R.size ≤ 85000 := by rw [← hR, txt_size, byt_length]; omega
              rw [hX] at hpx
              rw [hHd] at hph
              rw [hs] at hwr htk
              rw [hR] at htk
              simp only [hX, hHd, hR] at hadd
              have e1 : ¬ 9223372036854775807 < X.size + Hd.size := by omega
              have e2 : ¬ 9223372036854775807 < X.size + Hd.size + X.size := by omega
              have e3 : ¬ 9223372036854775807 < X.size + Hd.size + X.size + R.size := by omega
              have e4 : ¬ 9223372036854775807 < X.size + Hd.size + X.size + R.size + X.size := by omega
              have HW := Lib.hid hwr
              have HTK := Lib.hid htk
              have HPX := Lib.hid hpx
              have HPH := Lib.hid hph
              have HADD := Lib.hid hadd
              have HTL := Lib.hid htl
              have HRD := Lib.hid hrd
              have HOK1 := Lib.hid hok1
              clear hwr htk hpx hph hadd htl hrd hok1 hrun hX hHd hR hs hW he hwe hfx hfh hpl zX zH zR
              go_wp2_with fail
              refine HW.out.mono ?_
              rintro e x4 ⟨rfl, hto⟩
              obtain ⟨vw, hT4, hk4⟩ := T3.out.write hto
              have T4 := Lib.hid hT4
              have M5 := Lib.hid (hk4 _ _ _ M4.out (by omega) (by simp [Value.ownBlock])).1
              clear hto hT4 hk4 HW M4 c0 c1 T3
              go_wp2_with fail
              refine (HTK.out _).mono ?_
              rintro e x5 ⟨rfl, b5⟩
              have T5 := Lib.hid (T4.out.further b5)
              have M6 := Lib.hid (M5.out.below b5 M5.out.lt)
              clear b5 T4 M5 HTK
              have htd := Told_any w.heap.size br (.slice none 0 0) ⟨[], mostF a0, 0⟩ told x5 T5.out.2.1 ⟨mostF_le a0, Nat.zero_le _, Nat.le_refl _⟩ T5.out.2.2.2.2.2.2.size T5.out.2.2.2.2.1 (by omega)
              rw [HTL.out] at htd
              have HTD := Lib.hid htd
              clear htd
              go_wp2_with fail
              refine HTD.out.mono ?_
              rintro e x6 ⟨rfl, hto⟩
              obtain ⟨vr, hT6, hk6⟩ := T5.out.tell hto
              have T6 := Lib.hid hT6
              have M7 := Lib.hid (hk6 _ _ _ M6.out (by omega) (by simp [Value.ownBlock])).1
              clear hto hT6 hk6 HTD M6 T5
              go_wp2_with fail
              refine (HPX.out _).mono ?_
              rintro e x7 ⟨rfl, b7⟩
              have T7 := Lib.hid (T6.out.further b7)
              have M8 := Lib.hid (M7.out.below b7 M7.out.lt)
              clear b7 T6 M7 HPX
              go_wp2_with fail
              refine (New_any br w.heap.size _ T7.out.2.2.2.2.2.2.size).mono ?_
              rintro e x8 ⟨rfl, hib, b8⟩
              have l1 := M8.out.lt
              have l2 := T7.out.2.1.1.lt
              have l3 := T7.out.2.2.2.2.2.2.size
              have T8 := Lib.hid (T7.out.further b8)
              have M9 := Lib.hid (M8.out.below b8 M8.out.lt)
              have I8 := Lib.hid hib
              obtain ⟨b, hb⟩ : ∃ b, x7.heap.size = b := ⟨_, rfl⟩
              have HBx := Lib.hid hb
              rw [hb] at l1 l2 l3 ⊢
              have I9 : Hid (Ibx x8 w.heap.size b br emptyIB false 0 (.pointer none) (.slice none 0 0)) := Lib.hid (by rw [← hb]; exact I8.out)
              clear hib b8 T7 M8 I8 hb
              go_wp2_with fail
              refine (HPH.out _).mono ?_
              rintro e x9 ⟨rfl, b9⟩
              have T9 := Lib.hid (T8.out.further b9)
              have M10 := Lib.hid (M9.out.below b9 M9.out.lt)
              have I10 := Lib.hid (I9.out.next b9)
              clear b9 T8 M9 I9 HPH
              go_wp2_with fail
              refine (HADD.out _ _ _ _ I10.out).mono ?_
              rintro e x10 ⟨rfl, ad, bf, hI, hif⟩
              have TR := Lib.hid (T9.out.2.1.ifr hif (by decide) (by omega) I10.out.at_)
              have S11 : Hid (SkS w x10 gm b br p cap L body sec) := Lib.hid ⟨hif.blk M10.out (by decide) (by omega), ⟨ad, bf, hI⟩, ⟨l3, by omega, hbody⟩, T9.out.2.2.2.2.2.2.trans (hif.below l3 T9.out.2.2.2.2.2.2.size)⟩
              have hfd := Fields_any w.heap.size vr S1 hI rfl TR.out (by show (byt sec).length ≤ _; rw [byt_length]; omega) (by have := HOK1.out.2.1; have := HOK1.out.2.2; omega)
              rw [show txt (IB.sec ⟨[], byt sec, true, byt body⟩) = sec from txt_byt sec, HRD.out] at hfd
              have HFD := Lib.hid hfd
              clear hI hif hfd T9 M10 I10 HADD TR
              go_wp2_with fail
              refine HFD.out.mono ?_
              rintro e x11 ⟨b11, v20, rfl, ho⟩
              obtain ⟨pv, cv, rfl, _⟩ := own_shape ho
              have F12 := Lib.hid (OwnFl.fv ho)
              have S12 := Lib.hid (S11.out.next b11)
              clear b11 ho S11 HFD
              have hFw : Hid (∀ y, Below w.heap.size w y → FV y p L) := Lib.hid (fun y hb => (HIN.out.below hb).1)
              have HO1 := Lib.hid (own_any L pv cv x11.drew (F12.out.below ((Below.refl _ _).drew)) hlen)
              go_wp2_with fail
              --REGION17
              refine wp_region_held_drew (S := (fun w' => (w'.cell? ⟨gm, 0, none⟩ = some (.slice p L.length cap) ∧ w'.cell? ⟨gm, 1, none⟩ = some (.string body)) ∧ SkS w w' gm b br p cap L body sec)) (by as_aux_lemma => kernel_rfl) ((S12.out.next ((Below.refl _ _).drew)).cells) (fun hHeld => ?_)
              refine wpAnyH_takeD (i := 0) (v := ?_) (some 96) rfl rfl (by as_aux_lemma => kernel_rfl) (by as_aux_lemma => kernel_rfl) (by as_aux_lemma => kernel_rfl) (fun _ _ _ h => h) (Or.inl ⟨by as_aux_lemma => kernel_rfl, ?_⟩) (by assumption) ?_
              rotate_left
              · (intro w hSw; (try dsimp only at hSw); go_simp); all_goals with_reducible rfl
              try simp only [Act.put, List.setIfInBounds_toArray, List.set_cons_zero, List.set_cons_succ]
              refine wpAnyH_takeD (i := 1) (v := ?_) (some 97) rfl rfl (by as_aux_lemma => kernel_rfl) (by as_aux_lemma => kernel_rfl) (by as_aux_lemma => kernel_rfl) (fun _ _ _ h => h) (Or.inl ⟨by as_aux_lemma => kernel_rfl, ?_⟩) (by assumption) ?_
              rotate_left
              · (intro w hSw; (try dsimp only at hSw); go_simp); all_goals with_reducible rfl
              try simp only [Act.put, List.setIfInBounds_toArray, List.set_cons_zero, List.set_cons_succ]
              refine wpAnyH_takeD (i := 2) (v := ?_) (some 98) rfl rfl (by as_aux_lemma => kernel_rfl) (by as_aux_lemma => kernel_rfl) (by as_aux_lemma => kernel_rfl) (fun _ _ _ h => h) (Or.inl ⟨by as_aux_lemma => kernel_rfl, ?_⟩) (by assumption) ?_
              rotate_left
              · (intro w hSw; (try dsimp only at hSw); go_simp); all_goals with_reducible rfl
              try simp only [Act.put, List.setIfInBounds_toArray, List.set_cons_zero, List.set_cons_succ]
              refine wpAnyH_takeD (i := 3) (v := ?_) (some 99) rfl rfl (by as_aux_lemma => kernel_rfl) (by as_aux_lemma => kernel_rfl) (by as_aux_lemma => kernel_rfl) (fun _ _ _ h => h) (Or.inl ⟨by as_aux_lemma => kernel_rfl, ?_⟩) (by assumption) ?_
              rotate_left
              · (intro w hSw; (try dsimp only at hSw); go_simp); all_goals with_reducible rfl
              try simp only [Act.put, List.setIfInBounds_toArray, List.set_cons_zero, List.set_cons_succ]
              refine wpAnyH_takeD (i := 5) (v := ?_) (some 101) rfl rfl (by as_aux_lemma => kernel_rfl) (by as_aux_lemma => kernel_rfl) (by as_aux_lemma => kernel_rfl) (fun _ _ _ h => h) (Or.inl ⟨by as_aux_lemma => kernel_rfl, ?_⟩) (by assumption) ?_
              rotate_left
              · (intro w hSw; (try dsimp only at hSw); go_simp); all_goals with_reducible rfl
              try simp only [Act.put, List.setIfInBounds_toArray, List.set_cons_zero, List.set_cons_succ]
              refine wpAnyH_takeD (i := 6) (v := ?_) (some 102) rfl rfl (by as_aux_lemma => kernel_rfl) (by as_aux_lemma => kernel_rfl) (by as_aux_lemma => kernel_rfl) (fun _ _ _ h => h) (Or.inl ⟨by as_aux_lemma => kernel_rfl, ?_⟩) (by assumption) ?_
              rotate_left
              · (intro w hSw; (try dsimp only at hSw); go_simp); all_goals with_reducible rfl
              try simp only [Act.put, List.setIfInBounds_toArray, List.set_cons_zero, List.set_cons_succ]
              refine wpAnyH_ready (rs := [4]) (by as_aux_lemma => kernel_rfl) (by simp) ?_
              refine AllReadyH.cons rfl (fun K hK => ?_) AllReadyH.nil
              go_simp
              go_wp2_with (go_at_call 13; refine HO1.out.mono ?_; rintro e y3 ⟨v3, rfl, o3, b3⟩; obtain ⟨p3, c3, rfl, -⟩ := own_shape o3)
              refine hK.out _ _ ((hHeld.2.next b3).cells) (fun hHeld => ?_)
              clear hK K
              refine wpAnyH_ready (rs := [7]) (by as_aux_lemma => kernel_rfl) (by simp) ?_
              refine AllReadyH.cons rfl (fun K hK => ?_) AllReadyH.nil
              go_simp
              go_wp2_with (go_at_call 13; refine (own_any L p cap _ (hFw.out _ hHeld.2.bel) hlen).mono ?_; rintro e y4 ⟨v4, rfl, o4, b4⟩; obtain ⟨p4, c4, rfl, -⟩ := own_shape o4)
              refine hK.out _ _ ((hHeld.2.next b4).cells) (fun hHeld => ?_)
              clear hK K
              refine wpAnyH_ready (rs := [8]) (by as_aux_lemma => kernel_rfl) (by simp) ?_
              refine AllReadyH.cons rfl (fun K hK => ?_) AllReadyH.nil
              go_simp
              go_wp2_with (go_at_call 25; refine (Same_self L p3 p4 c3 c4 _ (o3.below b4).fv o4.fv hlen).mono ?_; rintro e y5 ⟨rfl, b5⟩)
              refine hK.out _ _ ((hHeld.2.next b5).cells) (fun hHeld => ?_)
              clear hK K
              refine wpAnyH_takeD (i := 9) (v := ?_) (some 105) rfl rfl (by as_aux_lemma => kernel_rfl) (by as_aux_lemma => kernel_rfl) (by as_aux_lemma => kernel_rfl) (fun _ _ _ h => h) (Or.inl ⟨by as_aux_lemma => kernel_rfl, ?_⟩) (by assumption) ?_
              rotate_left
              · (intro w hSw; (try dsimp only at hSw); go_simp); all_goals with_reducible rfl
              try simp only [Act.put, List.setIfInBounds_toArray, List.set_cons_zero, List.set_cons_succ]
              refine wpAnyH_takeD (i := 10) (v := ?_) (some 106) rfl rfl (by as_aux_lemma => kernel_rfl) (by as_aux_lemma => kernel_rfl) (by as_aux_lemma => kernel_rfl) (fun _ _ _ h => h) (Or.inl ⟨by as_aux_lemma => kernel_rfl, ?_⟩) (by assumption) ?_
              rotate_left
              · (intro w hSw; (try dsimp only at hSw); go_simp); all_goals with_reducible rfl
              try simp only [Act.put, List.setIfInBounds_toArray, List.set_cons_zero, List.set_cons_succ]
              refine wpAnyH_takeD (i := 11) (v := ?_) (some 107) rfl rfl (by as_aux_lemma => kernel_rfl) (by as_aux_lemma => kernel_rfl) (by as_aux_lemma => kernel_rfl) (fun _ _ _ h => h) (Or.inl ⟨by as_aux_lemma => kernel_rfl, ?_⟩) (by assumption) ?_
              rotate_left
              · (intro w hSw; (try dsimp only at hSw); go_simp); all_goals with_reducible rfl
              try simp only [Act.put, List.setIfInBounds_toArray, List.set_cons_zero, List.set_cons_succ]
              refine wpAnyH_takeD (i := 13) (v := ?_) (some 109) rfl rfl (by as_aux_lemma => kernel_rfl) (by as_aux_lemma => kernel_rfl) (by as_aux_lemma => kernel_rfl) (fun _ _ _ h => h) (Or.inl ⟨by as_aux_lemma => kernel_rfl, ?_⟩) (by assumption) ?_
              rotate_left
              · (intro w hSw; (try dsimp only at hSw); go_simp); all_goals with_reducible rfl
              try simp only [Act.put, List.setIfInBounds_toArray, List.set_cons_zero, List.set_cons_succ]
              refine wpAnyH_takeD (i := 14) (v := ?_) (some 110) rfl rfl (by as_aux_lemma => kernel_rfl) (by as_aux_lemma => kernel_rfl) (by as_aux_lemma => kernel_rfl) (fun _ _ _ h => h) (Or.inl ⟨by as_aux_lemma => kernel_rfl, ?_⟩) (by assumption) ?_
              rotate_left
              · (intro w hSw; (try dsimp only at hSw); go_simp); all_goals with_reducible rfl
              try simp only [Act.put, List.setIfInBounds_toArray, List.set_cons_zero, List.set_cons_succ]
              refine wpAnyH_ready (rs := [12]) (by as_aux_lemma => kernel_rfl) (by simp) ?_
              refine AllReadyH.cons rfl (fun K hK => ?_) AllReadyH.nil
              go_simp
              go_wp2_with (go_at_call 23; refine hHeld.2.bod.mono ?_; rintro e y6 ⟨rfl, s6⟩)
              refine hK.out _ _ (s6.cells) (fun hHeld => ?_)
              clear hK K
              refine wpAnyH_takeD (i := 15) (v := ?_) (some 111) rfl rfl (by as_aux_lemma => kernel_rfl) (by as_aux_lemma => kernel_rfl) (by as_aux_lemma => kernel_rfl) (fun _ _ _ h => h) (Or.inl ⟨by as_aux_lemma => kernel_rfl, ?_⟩) (by assumption) ?_
              rotate_left
              · (intro w hSw; (try dsimp only at hSw); go_simp); all_goals with_reducible rfl
              try simp only [Act.put, List.setIfInBounds_toArray, List.set_cons_zero, List.set_cons_succ]
              refine wpAnyH_takeD (i := 16) (v := ?_) (some 112) rfl rfl (by as_aux_lemma => kernel_rfl) (by as_aux_lemma => kernel_rfl) (by as_aux_lemma => kernel_rfl) (fun _ _ _ h => h) (Or.inl ⟨by as_aux_lemma => kernel_rfl, ?_⟩) (by assumption) ?_
              rotate_left
              · (intro w hSw; (try dsimp only at hSw); go_simp); all_goals with_reducible rfl
              try simp only [Act.put, List.setIfInBounds_toArray, List.set_cons_zero, List.set_cons_succ]
              refine wpAnyH_takeD (i := 17) (v := ?_) (some 113) rfl rfl (by as_aux_lemma => kernel_rfl) (by as_aux_lemma => kernel_rfl) (by as_aux_lemma => kernel_rfl) (fun _ _ _ h => h) (Or.inl ⟨by as_aux_lemma => kernel_rfl, ?_⟩) (by assumption) ?_
              rotate_left
              · (intro w hSw; (try dsimp only at hSw); go_simp); all_goals with_reducible rfl
              try simp only [Act.put, List.setIfInBounds_toArray, List.set_cons_zero, List.set_cons_succ]
              refine wpAnyH_takeD (i := 18) (v := ?_) (some 114) rfl rfl (by as_aux_lemma => kernel_rfl) (by as_aux_lemma => kernel_rfl) (by as_aux_lemma => kernel_rfl) (fun _ _ _ h => h) (Or.inl ⟨by as_aux_lemma => kernel_rfl, ?_⟩) (by assumption) ?_
              rotate_left
              · (intro w hSw; (try dsimp only at hSw); go_simp); all_goals with_reducible rfl
              try simp only [Act.put, List.setIfInBounds_toArray, List.set_cons_zero, List.set_cons_succ]
              refine wpAnyH_ready (rs := [19]) (by as_aux_lemma => kernel_rfl) (by simp) ?_
              refine AllReadyH.cons rfl (fun K hK => ?_) AllReadyH.nil
              go_simp
              go_wp2_with (go_at_call 22; refine hHeld.2.done.mono ?_; rintro e y7 ⟨rfl, s7⟩)
              refine hK.out _ _ (s7.cells) (fun hHeld => ?_)
              clear hK K
              refine wpAnyH_takeD (i := 20) (v := ?_) (some 116) rfl rfl (by as_aux_lemma => kernel_rfl) (by as_aux_lemma => kernel_rfl) (by as_aux_lemma => kernel_rfl) (fun _ _ _ h => h) (Or.inl ⟨by as_aux_lemma => kernel_rfl, ?_⟩) (by assumption) ?_
              rotate_left
              · (intro w hSw; (try dsimp only at hSw); go_simp); all_goals with_reducible rfl
              try simp only [Act.put, List.setIfInBounds_toArray, List.set_cons_zero, List.set_cons_succ]
              refine wpAnyH_takeD (i := 21) (v := ?_) (some 8) rfl rfl (by as_aux_lemma => kernel_rfl) (by as_aux_lemma => kernel_rfl) (by as_aux_lemma => kernel_rfl) (fun _ _ _ h => h) (Or.inl ⟨by as_aux_lemma => kernel_rfl, ?_⟩) (by assumption) ?_
              rotate_left
              · (intro w hSw; (try dsimp only at hSw); go_simp); all_goals with_reducible rfl
              try simp only [Act.put, List.setIfInBounds_toArray, List.set_cons_zero, List.set_cons_succ]
              refine wpAnyH_done (by as_aux_lemma => kernel_rfl) ?_ _
              go_wp2_with fail
              go_ret
              exact ⟨rfl, hHeld.2.bel⟩

end Go.Proofs.Ytgnoiheekgmleaa
