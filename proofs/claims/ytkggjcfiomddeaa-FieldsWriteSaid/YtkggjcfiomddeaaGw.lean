/- fields: the walk of FieldsWrite. -/
import Derived.Test.YtkggjcfiomddeaaGo
import Derived.Test.YtkggjcfiomddeaaGj
namespace Go.Proofs.Ytkggjcfiomddeaa
open Go.ChangeShapes Go.WideShapes Go.RowKit
set_option linter.unusedVariables false
set_option linter.unusedSimpArgs false

theorem write_keeps {S : Tbl} (hS : S.Ok) (hZ : SzOk S) (L : List Fl) : (writeF S L).1.Ok ∧ SzOk (writeF S L).1 := by
  by_cases hW : WOk L
  · rw [write_ok hW]
    refine ⟨(fold_inv hS L).1, ?_⟩
    show SzOk (foldW S L).1
    rw [foldW_tab]
    exact szok_fold L S hZ
  · obtain ⟨E, hE, _⟩ := write_bad (S := S) hW
    rw [hE]
    exact ⟨hS, hZ⟩

/-- A writer and the reference's table, made by this call. -/
def PW (w0 w : World) (bw bt : Nat) (vw vr : Value) (Sw Sr : Tbl) : Prop :=
  TblIs w w0.heap.size bw 64 vw Sw ∧ TbR w w0.heap.size bt vr Sr ∧ bw ≠ bt ∧ w0.heap.size ≤ bw ∧ w0.heap.size ≤ bt ∧ Below w0.heap.size w0 w
theorem PW.further {w0 w x : World} {bw bt : Nat} {vw vr : Value} {Sw Sr : Tbl} (h : PW w0 w bw bt vw vr Sw Sr) (hb : Below w.heap.size w x) : PW w0 x bw bt vw vr Sw Sr := by
  obtain ⟨h1, h2, h3, h4, h5, h7⟩ := h
  exact ⟨h1.below hb, h2.below hb, h3, h4, h5, h7.trans (hb.mono h7.size)⟩
theorem PW.write {w0 w x : World} {bw bt : Nat} {vw vr : Value} {Sw Sw' Sr : Tbl} (h : PW w0 w bw bt vw vr Sw Sr) (ht : TabTo w x w0.heap.size bw 64 vw Sw') : ∃ vw', PW w0 x bw bt vw' vr Sw' Sr := by
  obtain ⟨h1, h2, h3, h4, h5, h7⟩ := h
  have hb := TabTo.bel h1 ht h4 h7.size
  obtain ⟨vw', a1, a2, a3⟩ := ht
  refine ⟨vw', a1, ⟨blk.only h2.1 a2 ?_, own_only h2.2 a2 (fun k hk => ?_)⟩, h3, h4, h5, h7.trans hb⟩
  · rintro (e | e)
    · exact h3 e.symm
    · exact own_ne h1.2 h2.1 (by decide) e
  · rintro (e | e)
    · subst e
      exact own_ne h2.2 h1.1 (by decide) hk
    · exact own_ne2 h1.2 h2.2 (by decide) k e hk
theorem PW.rwrite {w0 w x : World} {bw bt : Nat} {vw vr : Value} {Sw Sr Sr' : Tbl} (h : PW w0 w bw bt vw vr Sw Sr) (ht : RTo w x w0.heap.size bt Sr') : ∃ vr', PW w0 x bw bt vw vr' Sw Sr' := by
  obtain ⟨h1, h2, h3, h4, h5, h7⟩ := h
  obtain ⟨vr', a1, a2⟩ := ht
  refine ⟨vr', ⟨blk.only h1.1 a2 h3, own_only h1.2 a2 (fun k hk e => ?_)⟩, a1, h3, h4, h5, h7.trans (a2.below h7.size (fun k e => by omega))⟩
  subst e
  exact own_ne h1.2 h2.1 (by decide) hk

set_option maxRecDepth 100000 in
set_option maxHeartbeats 8000000 in
theorem write_walk (a0 : Int) (a1 : Option Addr) (cap1 : Nat) (X : List In1) (w : World) (w0 : (Lit.int .i64 a0).wf = true) (hX : InLl w a1 X) :
    Calls Try.prog 4 #[.int .i64 a0, .slice a1 X.length cap1] w fun e w' => e = .returned (.bool true) ∧ Below w.heap.size w w' := by
  have hb0 := bounds_i64 w0
  have HAW := Lib.hid (fun w => awake_any w)
  have HNW := Lib.hid (fun w => NewWriter_any a0 (IntWalk.i64_in _ (by omega)) w)
  have HNR := Lib.hid (fun w => RNew_any a0 (IntWalk.i64_in _ (by omega)) w)
  have hok0 : (⟨[], mostF a0, 0⟩ : Tbl).Ok := ⟨mostF_le a0, Nat.zero_le _, Nat.le_refl _⟩
  have HOK := Lib.hid hok0
  have HX := Lib.hid hX
  obtain ⟨N, hN⟩ : ∃ N, X.length = N := ⟨_, rfl⟩
  have HN := Lib.hid hN
  have hNb := hX.2.2
  unfold maxLen at hNb
  rw [hN] at hNb ⊢
  clear w0 hX hok0 hN
  go_enter Try.func4, Try.ntmps4
  go_wp2_with fail
  refine (HAW.out _).mono ?_
  rintro e x0 ⟨rfl, b0⟩
  have B0 := Lib.hid b0
  clear b0
  go_wp2_with fail
  refine (HNW.out _).mono ?_
  rintro e x1 ⟨bw, rfl, hbw, hk1, b1⟩
  have s0 := B0.out.size
  have W1 := Lib.hid (tab_new (B := w.heap.size) hk1)
  have B1 := Lib.hid (B0.out.trans (b1.mono B0.out.size))
  have lw := hk1.lt
  clear hk1 b1
  go_wp2_with fail
  refine (HNR.out _).mono ?_
  rintro e x2 ⟨bt, rfl, hbr, hk2, b2⟩
  have s1 := B1.out.size
  have T2 : Hid (PW w x2 bw bt (.slice none 0 0) (.slice none 0 0) ⟨[], mostF a0, 0⟩ ⟨[], mostF a0, 0⟩) := Lib.hid ⟨W1.out.below b2, ⟨hk2, World.ownsRow_nil _ _ _ _⟩, by omega, by omega, by omega, B1.out.trans (b2.mono B1.out.size)⟩
  clear hk2 b2
  go_wp2_with fail
  go_loopw [4, 7, 8, 9, 10, 11, 12, 13] (fun _ iv _ _ _ _ _ _ wr => ∃ (i : Nat) (S : Tbl) (vw vr : Value), i ≤ N ∧ iv = .int .i64 i ∧ PW w wr bw bt vw vr S S ∧ S.Ok ∧ SzOk S) (fun _ iv _ _ _ _ _ _ _ => N - (intOf iv).toNat)
  case atStart => exact ⟨0, _, _, _, by omega, rfl, T2.out, HOK.out, rfl⟩
  case round =>
    obtain ⟨i, S, vw, vr, hiN, rfl, hT, hS, hZ⟩ := hrel
    have HT := Lib.hid hT
    have HS := Lib.hid hS
    have HZ := Lib.hid hZ
    have hbel := hT.2.2.2.2.2
    clear hT hS hZ
    by_cases hlt : i < N
    case neg =>
      have d1 : decide ((i : Int) < (N : Int)) = false := by rw [decide_eq_false_iff_not]; omega
      have HB := Lib.hid hbel
      clear hbel
      go_wp2_with fail
      go_ret
      exact ⟨rfl, HB.out⟩
    case pos =>
      have d1 : decide ((i : Int) < (N : Int)) = true := by rw [decide_eq_true_iff]; omega
      by_cases h20 : i < 20
      case neg =>
        have d2 : decide ((i : Int) < 20) = false := by rw [decide_eq_false_iff_not]; omega
        have HB := Lib.hid hbel
        clear hbel
        go_wp2_with fail
        go_ret
        exact ⟨rfl, HB.out⟩
      case pos =>
        have d2 : decide ((i : Int) < 20) = true := by rw [decide_eq_true_iff]; omega
        have hiX : i < X.length := by rw [HN.out]; exact hlt
        obtain ⟨x, hx⟩ : ∃ x, X[i]? = some x := ⟨_, List.getElem?_eq_getElem hiX⟩
        have hIn := HX.out.2.1 x (List.mem_of_getElem? hx)
        obtain ⟨g, o, rfl, hg, hc⟩ := HX.out.1 (by omega)
        have hcw := hc i x hx
        have k0 := (hbel.cell (p := ⟨g, o + i, none⟩) hg).trans hcw
        obtain ⟨p, cap, L⟩ := x
        simp only at hIn hcw k0
        have hLG := large_any L p cap wr (hIn.below hbel)
        obtain ⟨NL, hNL⟩ : ∃ n, L.length = n := ⟨_, rfl⟩
        rw [hNL] at hcw k0 hLG
        have HLG := Lib.hid hLG
        have HIN := Lib.hid hIn
        have HNL := Lib.hid hNL
        have HCELL : Hid (∀ y, Below w.heap.size w y → y.cell? ⟨g, o + i, none⟩ = some (.slice p NL cap)) := Lib.hid (fun y hb => (hb.cell (p := ⟨g, o + i, none⟩) hg).trans hcw)
        clear hLG hIn hNL hc hcw hx hiX hbel hg
        go_wp2_with fail
        refine HLG.out.mono ?_
        rintro e y1 ⟨big, rfl, hsm, b1⟩
        have T1 := Lib.hid (HT.out.further b1)
        have k1 := HCELL.out _ T1.out.2.2.2.2.2
        clear b1 k0
        cases big
        case true =>
          go_wp2_with fail
          go_ret
          exact ⟨rfl, T1.out.2.2.2.2.2⟩
        case false =>
          have HSM := Lib.hid (hsm rfl)
          clear hsm
          have hlen : L.length ≤ 10000 := by have := HSM.out.1; omega
          have hw1 := write_in (cap := cap) T1.out.1 HS.out T1.out.2.2.2.1 T1.out.2.2.2.2.2 HIN.out hlen
          have hown := fun y (hb : Below w.heap.size w y) => own_any L p cap y (HIN.out.below hb).1 hlen
          have hrw := fun (y : World) (pl : Option Addr) (c : Nat) (v : Value) (hT : TbR y w.heap.size bt v S) (hB : w.heap.size ≤ y.heap.size) (hO : OwnR y.heap.size y (.slice pl L.length c) L ∨ ∃ B, OwnR B y (.slice pl L.length c) L) => RWrite_any w.heap.size bt v S L pl c y hT HS.out HZ.out hB (by rcases hO with h | ⟨_, h⟩ <;> exact h.fv) hlen (fun _ g o e => by
            have hne : (Value.slice pl L.length c).ownBlock ≠ some bt := by rcases hO with h | ⟨_, h⟩ <;> exact own_ne h hT.1 (by decide)
            subst e
            intro e2
            subst e2
            exact hne rfl)
          have hkeep := write_keeps HS.out HZ.out L
          rw [HNL.out] at hw1 hown
          obtain ⟨R, hR⟩ : ∃ R, writeF S L = R := ⟨_, rfl⟩
          rw [hR] at hw1 hrw hkeep
          obtain ⟨S2, a, bb, E⟩ := R
          simp only at hw1 hrw hkeep
          have HW1 := Lib.hid hw1
          have HOW := Lib.hid hown
          have HRW := Lib.hid hrw
          have HK := Lib.hid hkeep
          clear hw1 hown hrw hkeep hR
          go_wp2_with fail
          refine HW1.out.mono ?_
          rintro e y2 ⟨rfl, hto⟩
          obtain ⟨vw2, hT2⟩ := T1.out.write hto
          have TA := Lib.hid hT2
          have k2 := HCELL.out _ TA.out.2.2.2.2.2
          clear hto hT2 k1
          go_wp2_with fail
          refine (HOW.out _ TA.out.2.2.2.2.2).mono ?_
          rintro e y3 ⟨v3, rfl, o3, b3⟩
          obtain ⟨p3, c3, rfl, _⟩ := own_shape o3
          have TB := Lib.hid (TA.out.further b3)
          have O3 := Lib.hid o3
          clear b3 o3 k2
          go_wp2_with fail
          refine (HRW.out _ _ _ _ TB.out.2.1 TB.out.2.2.2.2.2.size (.inr ⟨_, O3.out⟩)).mono ?_
          rintro e y4 ⟨rfl, hto⟩
          obtain ⟨vr2, hT4⟩ := TB.out.rwrite hto
          have TC := Lib.hid hT4
          clear hto hT4
          go_wp2_with fail
          go_roundw
          case rel => exact ⟨i + 1, S2, vw2, vr2, by omega, by go_num, TC.out, HK.out.1, HK.out.2⟩
          case measure => simp [intOf]; omega

end Go.Proofs.Ytkggjcfiomddeaa
