/- web: the inbox: frames. -/
import Derived.Test.YtgnoiheekgmleaaEe
import Derived.Deep.DeepCutAuto
import Derived.Deep.LoopGhost
import Derived.Deep.CutBlock
namespace Go.Proofs.Ytgnoiheekgmleaa
open Go.ChangeShapes Go.WideShapes Go.RowKit
set_option linter.unusedVariables false

/-- A step of the loop. -/
theorem run_nil {I : IB} (h : I.came = []) : runF I = (I, 0) := by
  unfold runF
  rw [h]
  rfl
theorem run_step {I : IB} (h : I.came ≠ []) : runF I = if (wtake I.came).2.2.2 = 13 then (I, 0) else if (wtake I.came).2.2.2 ≠ 0 then (I, (wtake I.came).2.2.2) else
    if (actF I (wtake I.came).1 (wtake I.came).2.1).2 ≠ 0 then actF I (wtake I.came).1 (wtake I.came).2.1 else runF { (actF I (wtake I.came).1 (wtake I.came).2.1).1 with came := (wtake I.came).2.2.1 } := by
  obtain ⟨n, hn⟩ : ∃ n, I.came.length = n + 1 := ⟨I.came.length - 1, by have := List.length_pos_iff.2 h; omega⟩
  conv => lhs; unfold runF
  rw [hn]
  conv => lhs; unfold loopF
  rw [if_neg h]
  by_cases h1 : (wtake I.came).2.2.2 = 13
  · rw [if_pos h1, if_pos h1]
  · rw [if_neg h1, if_neg h1]
    by_cases h2 : (wtake I.came).2.2.2 ≠ 0
    · rw [if_pos h2, if_pos h2]
    · rw [if_neg h2, if_neg h2]
      by_cases h3 : (actF I (wtake I.came).1 (wtake I.came).2.1).2 ≠ 0
      · rw [if_pos h3, if_pos h3]
      · rw [if_neg h3, if_neg h3]
        have hlt := ((wtake_app (l := I.came) []).1 (by omega)).2
        unfold runF
        exact loop_fuel _ _ _ (by simp only; omega) (by simp only; omega)
theorem wtake_len {l : List UInt8} (h : (wtake l).2.2.2 = 0) : (wtake l).2.1.length + (wtake l).2.2.1.length ≤ l.length := by
  have key : ∀ (k : Nat) (l : List UInt8), (wtake2 k l).2.2.2 = 0 → (wtake2 k l).2.1.length + (wtake2 k l).2.2.1.length ≤ l.length := by
    intro k l h
    have hle := (wnum_le l).1
    unfold wtake2 at h ⊢
    split
    · exact Nat.zero_le _
    · rename_i h1
      rw [if_neg h1] at h
      split
      · exact Nat.zero_le _
      · simp only [List.length_take, List.length_drop]
        omega
  have hle := (wnum_le l).1
  unfold wtake at h ⊢
  split
  · exact Nat.zero_le _
  · rename_i h1
    rw [if_neg h1] at h
    split
    · exact Nat.zero_le _
    · rename_i h2
      rw [if_neg h2] at h
      have := key _ _ h
      omega
theorem act_len (I : IB) (k : Nat) (d : List UInt8) : (actF I k d).1.body.length ≤ I.body.length + d.length := by
  unfold actF
  split
  · split <;> simp
  · split
    · split <;> simp
    · split <;> simp
theorem act_err (I : IB) (k : Nat) (d : List UInt8) : (actF I k d).2 = 0 ∨ (actF I k d).2 = 22 := by
  unfold actF
  split
  · split <;> simp
  · split
    · split <;> simp
    · split <;> simp
theorem txt_nil : txt [] = (⟨#[]⟩ : ByteArray) := rfl

set_option maxRecDepth 100000 in
set_option maxHeartbeats 4000000 in
theorem frames_any (B b br : Nat) (I : IB) (fin : Bool) (e0 : Int) (ad bf : Value) (w : World) (h : Ibx w B b br I fin e0 ad bf) (hlen : I.came.length + I.body.length ≤ 100000) :
    Calls Try.prog 37 #[.pointer (some ⟨b, 0, none⟩)] w fun e1 w' => e1 = .returned (.int .i64 (runF I).2) ∧ IbTo B b br (runF I).1 fin e0 w w' := by
  obtain ⟨R, hR⟩ : ∃ R, runF I = R := ⟨_, rfl⟩
  rw [hR]
  have H := Lib.hid h
  have HR := Lib.hid hR
  have HLen := Lib.hid hlen
  clear h hR hlen
  go_enter Try.func37, Try.ntmps37
  go_wp2_with fail
  go_loopg [2] I.came.length (fun gk _ wr => ∃ (J : IB) (ad' bf' : Value), J.came.length ≤ gk ∧ runF J = R ∧ Ibx wr B b br J fin e0 ad' bf' ∧ Ifr B b w wr ∧ J.came.length + J.body.length ≤ 100000)
  case atStart => exact ⟨I, ad, bf, Nat.le_refl _, HR.out, H.out, Ifr.refl _ _ _, HLen.out⟩
  case round =>
    obtain ⟨J, ad', bf', hJg, hJR, hJ, hIf, hJl⟩ := hrel
    have c1 := hJ.at_.cell (k := 1) rfl
    have HIf0 := Lib.hid hIf
    have HJl := Lib.hid hJl
    by_cases hc : J.came = []
    · have hstep := run_nil hc
      rw [hJR] at hstep
      rw [hc, txt_nil] at c1
      have HS := Lib.hid hstep
      have HJ := Lib.hid hJ
      clear hc hstep hJR hJ hIf hJl
      go_wp2_with fail
      go_ret
      rw [HS.out]
      exact ⟨rfl, ad', bf', HJ.out, HIf0.out⟩
    · obtain ⟨n1, n2⟩ := txt_ne hc
      have hstep := run_step hc
      rw [hJR] at hstep
      have ht := fun W => wTake_any (txt J.came) W (by rw [txt_size]; omega)
      rw [byt_txt] at ht
      have hte := wtake_err J.came
      have htl := fun h => wtake_len (l := J.came) h
      have htlt := fun h => ((wtake_app (l := J.came) []).1 h).2
      rcases hT : wtake J.came with ⟨k, d, r, e⟩
      rw [hT] at ht hstep hte htl htlt
      simp only at hstep hte htl htlt
      obtain ⟨C, hC⟩ : ∃ C, txt J.came = C := ⟨_, rfl⟩
      rw [hC] at c1 n1 n2 ht
      have HT := Lib.hid (ht wr)
      have HC := Lib.hid hC
      have HG := Lib.hid hJg
      have HJ := Lib.hid hJ
      clear ht hC hT hJg hc hJR hJ hIf hJl
      rcases hte with rfl | rfl | rfl
      · have HTl := Lib.hid (htl rfl)
        have HLt0 := Lib.hid (htlt rfl)
        rw [if_neg (by decide), if_neg (fun h => h rfl)] at hstep
        have HStep := Lib.hid hstep
        have HLt : Hid (r.length < gk) := Lib.hid (by have := HLt0.out; have := HG.out; omega)
        clear htl htlt hstep HLt0 HG
        go_wp2_with fail
        unfold takeV at HT
        refine HT.out.mono ?_
        rintro e1 y1 ⟨rfl, hb1⟩
        have hJ1 := HJ.out.next hb1
        have HIf := Lib.hid (HIf0.out.trans (Ifr.of hb1))
        have c1 := hJ1.at_.cell (k := 1) rfl
        rw [HC.out] at c1
        have HJ1 := Lib.hid hJ1
        clear hb1 hJ1 HT HJ HIf0
        by_cases k1 : k = 1
        · subst k1
          have hA := takeHead_any (B := B) (br := br) (fin := fin) (e := e0) (I := J) (w := y1) (txt d) HJ1.out
          rw [byt_txt] at hA
          obtain ⟨J', e', hact⟩ : ∃ J' e', actF J 1 d = (J', e') := ⟨_, _, rfl⟩
          have herr := act_err J 1 d
          have hle := act_len J 1 d
          have hcm := actF_came2 J 1 d
          have hcm2 := fun c => actF_came J 1 d c
          rw [hact] at hA herr hle hcm hcm2
          simp only at hA herr hle hcm
          have HA := Lib.hid hA
          have HAct := Lib.hid hact
          have HCm := Lib.hid hcm
          clear hA hact hcm hcm2
          rcases herr with rfl | rfl
          · go_wp2_with fail
            refine HA.out.mono ?_
            rintro e1 y2 ⟨rfl, ad2, bf2, hJ2, hf2⟩
            have c1 := hJ2.at_.cell (k := 1) rfl
            have f1 := hJ2.at_.free 1
            obtain ⟨hJ3, hf3⟩ := hJ2.set 1 (.string (txt r)) (I' := { J' with came := r }) (fin' := fin) (e' := e0) rfl rfl
            have HF := Lib.hid (And.intro hJ3 (HIf.out.trans (hf2.trans hf3)))
            have hstep : runF { J' with came := r } = R := by
              have := HStep.out
              rw [HAct.out] at this
              simpa using this.symm
            have HS2 := Lib.hid hstep
            clear hJ2 hf2 hJ3 hf3 hstep HA
            go_wp2_with fail
            go_roundg r.length
            case measure => have := HLt.out; omega
            case rel => exact ⟨_, _, _, Nat.le_refl _, HS2.out, HF.out.1, HF.out.2, by have := HTl.out; have := HJl.out; simp only; omega⟩
          · go_wp2_with fail
            refine HA.out.mono ?_
            rintro e1 y2 ⟨rfl, ad2, bf2, hJ2, hf2⟩
            have hstep : R = (J', 22) := by
              have := HStep.out
              rw [HAct.out] at this
              simpa using this
            have HF := Lib.hid (And.intro hJ2 (HIf.out.trans hf2))
            have HS2 := Lib.hid hstep
            clear hJ2 hf2 hstep HA
            go_wp2_with fail
            go_ret
            rw [HS2.out]
            exact ⟨rfl, ad2, bf2, HF.out.1, HF.out.2⟩
        · have d1 : ((k : Int) == 1) = false := by rw [beq_eq_false_iff_ne]; omega
          by_cases k0 : k = 0
          · subst k0
            have hA := takeBody_any (B := B) (br := br) (fin := fin) (e := e0) (I := J) (w := y1) (txt d) HJ1.out (by rw [txt_size]; have := HTl.out; have := HJl.out; omega)
            rw [byt_txt] at hA
            obtain ⟨J', e', hact⟩ : ∃ J' e', actF J 0 d = (J', e') := ⟨_, _, rfl⟩
            have herr := act_err J 0 d
            have hle := act_len J 0 d
            have hcm := actF_came2 J 0 d
            have hcm2 := fun c => actF_came J 0 d c
            rw [hact] at hA herr hle hcm hcm2
            simp only at hA herr hle hcm
            have HA := Lib.hid hA
            have HAct := Lib.hid hact
            have HCm := Lib.hid hcm
            clear hA hact hcm hcm2
            rcases herr with rfl | rfl
            · go_wp2_with fail
              refine HA.out.mono ?_
              rintro e1 y2 ⟨rfl, ad2, bf2, hJ2, hf2⟩
              have c1 := hJ2.at_.cell (k := 1) rfl
              have f1 := hJ2.at_.free 1
              obtain ⟨hJ3, hf3⟩ := hJ2.set 1 (.string (txt r)) (I' := { J' with came := r }) (fin' := fin) (e' := e0) rfl rfl
              have HF := Lib.hid (And.intro hJ3 (HIf.out.trans (hf2.trans hf3)))
              have hstep : runF { J' with came := r } = R := by
                have := HStep.out
                rw [HAct.out] at this
                simpa using this.symm
              have HS2 := Lib.hid hstep
              clear hJ2 hf2 hJ3 hf3 hstep HA
              go_wp2_with fail
              go_roundg r.length
              case measure => have := HLt.out; omega
              case rel => exact ⟨_, _, _, Nat.le_refl _, HS2.out, HF.out.1, HF.out.2, by have := HTl.out; have := HJl.out; simp only; omega⟩
            · go_wp2_with fail
              refine HA.out.mono ?_
              rintro e1 y2 ⟨rfl, ad2, bf2, hJ2, hf2⟩
              have hstep : R = (J', 22) := by
                have := HStep.out
                rw [HAct.out] at this
                simpa using this
              have HF := Lib.hid (And.intro hJ2 (HIf.out.trans hf2))
              have HS2 := Lib.hid hstep
              clear hJ2 hf2 hstep HA
              go_wp2_with fail
              go_ret
              rw [HS2.out]
              exact ⟨rfl, ad2, bf2, HF.out.1, HF.out.2⟩
          · have d0 : ((k : Int) == 0) = false := by rw [beq_eq_false_iff_ne]; omega
            by_cases k4 : k = 4
            · subst k4
              have hA := refuse_any (B := B) (br := br) (fin := fin) (e := e0) (I := J) (w := y1) (txt d) HJ1.out 4 (.inl rfl)
              rw [byt_txt] at hA
              obtain ⟨J', e', hact⟩ : ∃ J' e', actF J 4 d = (J', e') := ⟨_, _, rfl⟩
              have herr := act_err J 4 d
              have hle := act_len J 4 d
              have hcm := actF_came2 J 4 d
              have hcm2 := fun c => actF_came J 4 d c
              rw [hact] at hA herr hle hcm hcm2
              simp only at hA herr hle hcm
              have HA := Lib.hid hA
              have HAct := Lib.hid hact
              have HCm := Lib.hid hcm
              clear hA hact hcm hcm2
              rcases herr with rfl | rfl
              · go_wp2_with fail
                refine HA.out.mono ?_
                rintro e1 y2 ⟨rfl, ad2, bf2, hJ2, hf2⟩
                have c1 := hJ2.at_.cell (k := 1) rfl
                have f1 := hJ2.at_.free 1
                obtain ⟨hJ3, hf3⟩ := hJ2.set 1 (.string (txt r)) (I' := { J' with came := r }) (fin' := fin) (e' := e0) rfl rfl
                have HF := Lib.hid (And.intro hJ3 (HIf.out.trans (hf2.trans hf3)))
                have hstep : runF { J' with came := r } = R := by
                  have := HStep.out
                  rw [HAct.out] at this
                  simpa using this.symm
                have HS2 := Lib.hid hstep
                clear hJ2 hf2 hJ3 hf3 hstep HA
                go_wp2_with fail
                go_roundg r.length
                case measure => have := HLt.out; omega
                case rel => exact ⟨_, _, _, Nat.le_refl _, HS2.out, HF.out.1, HF.out.2, by have := HTl.out; have := HJl.out; simp only; omega⟩
              · go_wp2_with fail
                refine HA.out.mono ?_
                rintro e1 y2 ⟨rfl, ad2, bf2, hJ2, hf2⟩
                have hstep : R = (J', 22) := by
                  have := HStep.out
                  rw [HAct.out] at this
                  simpa using this
                have HF := Lib.hid (And.intro hJ2 (HIf.out.trans hf2))
                have HS2 := Lib.hid hstep
                clear hJ2 hf2 hstep HA
                go_wp2_with fail
                go_ret
                rw [HS2.out]
                exact ⟨rfl, ad2, bf2, HF.out.1, HF.out.2⟩
            · have d4 : ((k : Int) == 4) = false := by rw [beq_eq_false_iff_ne]; omega
              by_cases k7 : k = 7
              · subst k7
                have hA := refuse_any (B := B) (br := br) (fin := fin) (e := e0) (I := J) (w := y1) (txt d) HJ1.out 7 (.inr rfl)
                rw [byt_txt] at hA
                obtain ⟨J', e', hact⟩ : ∃ J' e', actF J 7 d = (J', e') := ⟨_, _, rfl⟩
                have herr := act_err J 7 d
                have hle := act_len J 7 d
                have hcm := actF_came2 J 7 d
                have hcm2 := fun c => actF_came J 7 d c
                rw [hact] at hA herr hle hcm hcm2
                simp only at hA herr hle hcm
                have HA := Lib.hid hA
                have HAct := Lib.hid hact
                have HCm := Lib.hid hcm
                clear hA hact hcm hcm2
                rcases herr with rfl | rfl
                · go_wp2_with fail
                  refine HA.out.mono ?_
                  rintro e1 y2 ⟨rfl, ad2, bf2, hJ2, hf2⟩
                  have c1 := hJ2.at_.cell (k := 1) rfl
                  have f1 := hJ2.at_.free 1
                  obtain ⟨hJ3, hf3⟩ := hJ2.set 1 (.string (txt r)) (I' := { J' with came := r }) (fin' := fin) (e' := e0) rfl rfl
                  have HF := Lib.hid (And.intro hJ3 (HIf.out.trans (hf2.trans hf3)))
                  have hstep : runF { J' with came := r } = R := by
                    have := HStep.out
                    rw [HAct.out] at this
                    simpa using this.symm
                  have HS2 := Lib.hid hstep
                  clear hJ2 hf2 hJ3 hf3 hstep HA
                  go_wp2_with fail
                  go_roundg r.length
                  case measure => have := HLt.out; omega
                  case rel => exact ⟨_, _, _, Nat.le_refl _, HS2.out, HF.out.1, HF.out.2, by have := HTl.out; have := HJl.out; simp only; omega⟩
                · go_wp2_with fail
                  refine HA.out.mono ?_
                  rintro e1 y2 ⟨rfl, ad2, bf2, hJ2, hf2⟩
                  have hstep : R = (J', 22) := by
                    have := HStep.out
                    rw [HAct.out] at this
                    simpa using this
                  have HF := Lib.hid (And.intro hJ2 (HIf.out.trans hf2))
                  have HS2 := Lib.hid hstep
                  clear hJ2 hf2 hstep HA
                  go_wp2_with fail
                  go_ret
                  rw [HS2.out]
                  exact ⟨rfl, ad2, bf2, HF.out.1, HF.out.2⟩
              · have d7 : ((k : Int) == 7) = false := by rw [beq_eq_false_iff_ne]; omega
                have hkk : k ≠ 0 ∧ k ≠ 1 ∧ k ≠ 4 ∧ k ≠ 7 := ⟨k0, k1, k4, k7⟩
                have HKK := Lib.hid hkk
                clear hkk k0 k1 k4 k7
                have hA := pass_any (B := B) (br := br) (fin := fin) (e := e0) (I := J) (w := y1) (txt d) HJ1.out k HKK.out
                rw [byt_txt] at hA
                obtain ⟨J', e', hact⟩ : ∃ J' e', actF J k d = (J', e') := ⟨_, _, rfl⟩
                have herr := act_err J k d
                have hle := act_len J k d
                have hcm := actF_came2 J k d
                have hcm2 := fun c => actF_came J k d c
                rw [hact] at hA herr hle hcm hcm2
                simp only at hA herr hle hcm
                have HA := Lib.hid hA
                have HAct := Lib.hid hact
                have HCm := Lib.hid hcm
                clear hA hact hcm hcm2
                rcases herr with rfl | rfl
                · go_wp2_with fail
                  refine HA.out.mono ?_
                  rintro e1 y2 ⟨rfl, ad2, bf2, hJ2, hf2⟩
                  have c1 := hJ2.at_.cell (k := 1) rfl
                  have f1 := hJ2.at_.free 1
                  obtain ⟨hJ3, hf3⟩ := hJ2.set 1 (.string (txt r)) (I' := { J' with came := r }) (fin' := fin) (e' := e0) rfl rfl
                  have HF := Lib.hid (And.intro hJ3 (HIf.out.trans (hf2.trans hf3)))
                  have hstep : runF { J' with came := r } = R := by
                    have := HStep.out
                    rw [HAct.out] at this
                    simpa using this.symm
                  have HS2 := Lib.hid hstep
                  clear hJ2 hf2 hJ3 hf3 hstep HA
                  go_wp2_with fail
                  go_roundg r.length
                  case measure => have := HLt.out; omega
                  case rel => exact ⟨_, _, _, Nat.le_refl _, HS2.out, HF.out.1, HF.out.2, by have := HTl.out; have := HJl.out; simp only; omega⟩
                · go_wp2_with fail
                  refine HA.out.mono ?_
                  rintro e1 y2 ⟨rfl, ad2, bf2, hJ2, hf2⟩
                  have hstep : R = (J', 22) := by
                    have := HStep.out
                    rw [HAct.out] at this
                    simpa using this
                  have HF := Lib.hid (And.intro hJ2 (HIf.out.trans hf2))
                  have HS2 := Lib.hid hstep
                  clear hJ2 hf2 hstep HA
                  go_wp2_with fail
                  go_ret
                  rw [HS2.out]
                  exact ⟨rfl, ad2, bf2, HF.out.1, HF.out.2⟩
      · rw [if_pos rfl] at hstep
        have HS := Lib.hid hstep
        clear htl htlt hstep HG
        go_wp2_with fail
        unfold takeV at HT
        refine HT.out.mono ?_
        rintro e1 y1 ⟨rfl, hb1⟩
        have HF := Lib.hid (And.intro (HJ.out.next hb1) (HIf0.out.trans (Ifr.of hb1)))
        clear hb1 HT HJ HIf0
        go_wp2_with fail
        go_ret
        rw [HS.out]
        exact ⟨rfl, ad', bf', HF.out.1, HF.out.2⟩
      · rw [if_neg (by decide), if_pos (by decide)] at hstep
        have HS := Lib.hid hstep
        clear htl htlt hstep HG
        go_wp2_with fail
        unfold takeV at HT
        refine HT.out.mono ?_
        rintro e1 y1 ⟨rfl, hb1⟩
        have HF := Lib.hid (And.intro (HJ.out.next hb1) (HIf0.out.trans (Ifr.of hb1)))
        clear hb1 HT HJ HIf0
        go_wp2_with fail
        go_ret
        rw [HS.out]
        exact ⟨rfl, ad', bf', HF.out.1, HF.out.2⟩

end Go.Proofs.Ytgnoiheekgmleaa
