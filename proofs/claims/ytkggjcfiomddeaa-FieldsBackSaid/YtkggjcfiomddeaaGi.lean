/- fields: the walk of FieldsAgain. -/
import Derived.Test.YtkggjcfiomddeaaGh
import Derived.OpenShut
namespace Go.Proofs.Ytkggjcfiomddeaa
open Go.ChangeShapes Go.WideShapes Go.RowKit
set_option linter.unusedVariables false
set_option linter.unusedSimpArgs false

theorem TabTo.bel {w x : World} {B b : Nat} {T : TypeId} {v : Value} {S S' : Tbl} (h : TblIs w B b T v S) (ht : TabTo w x B b T v S') (hb : B ≤ b) (hB : B ≤ w.heap.size) : Below B w x := by
  obtain ⟨v', _, o, _⟩ := ht
  refine o.below hB ?_
  rintro k (e | e)
  · omega
  · exact (World.ownsRow.lt h.2 k e).1

/-- A list that came in is written to a table of the call's own. -/
theorem write_in {w0 w : World} {b : Nat} {v : Value} {S : Tbl} {p : Option Addr} {cap : Nat} {L : List Fl} (hT : TblIs w w0.heap.size b 64 v S) (hok : S.Ok) (hb : w0.heap.size ≤ b) (hB : Below w0.heap.size w0 w) (hF : InFl w0 p L) (hlen : L.length ≤ 10000) :
    Calls Try.prog 21 #[.pointer (some ⟨b, 0, none⟩), .slice p L.length cap] w fun e w' => e = .returned (.tuple #[.string (writeF S L).2.1, .string (writeF S L).2.2.1, .int .i64 (writeF S L).2.2.2]) ∧ TabTo w w' w0.heap.size b 64 v (writeF S L).1 :=
  Write_any w0.heap.size b v S L p cap w hT hok hB.size hb (hF.below hB).1 hlen (fun hl g o e => by
    have hg := hF.2.2.2 g o hl e
    refine ⟨Nat.lt_of_lt_of_le hg hB.size, by omega, fun he => ?_⟩
    have := (World.ownsRow.lt hT.2 g he).1
    omega)

set_option maxRecDepth 100000 in
set_option maxHeartbeats 4000000 in
theorem again_walk (a0 : Int) (a1 : Option Addr) (cap1 : Nat) (L : List Fl) (w : World) (w0 : (Lit.int .i64 a0).wf = true) (hF : InFl w a1 L) :
    Calls Try.prog 8 #[.int .i64 a0, .slice a1 L.length cap1] w fun e w' => e = .returned (.bool true) ∧ Below w.heap.size w w' := by
  have hb0 := bounds_i64 w0
  have HAW := Lib.hid (fun w => awake_any w)
  have HNW := Lib.hid (fun w => NewWriter_any a0 (IntWalk.i64_in _ (by omega)) w)
  have HNZ := Lib.hid (fun w => NewWriter_any 0 (by decide) w)
  have HF := Lib.hid hF
  have hok : (⟨[], mostF a0, 0⟩ : Tbl).Ok := ⟨mostF_le a0, Nat.zero_le _, Nat.le_refl _⟩
  have HOK := Lib.hid hok
  obtain ⟨N, hN⟩ : ∃ N, L.length = N := ⟨_, rfl⟩
  have HN := Lib.hid hN
  have HLG := Lib.hid (fun w' (hb : Below w.heap.size w w') => large_any L a1 cap1 w' (hF.below hb))
  rw [hN] at HLG ⊢
  clear w0 hF hok hN
  go_enter Try.func8, Try.ntmps8
  go_wp2_with fail
  refine (HAW.out _).mono ?_
  rintro e x0 ⟨rfl, b0⟩
  have B0 := Lib.hid b0
  clear b0
  go_wp2_with fail
  refine (HLG.out _ B0.out).mono ?_
  rintro e x1 ⟨big, rfl, hsm, b1⟩
  have B1 := Lib.hid (B0.out.trans (b1.mono B0.out.size))
  clear b1
  cases big
  case true =>
    go_wp2_with fail
    go_ret
    exact ⟨rfl, B1.out⟩
  case false =>
    have HSM := Lib.hid (hsm rfl)
    clear hsm
    go_wp2_with fail
    refine (HNW.out _).mono ?_
    rintro e x2 ⟨bw, rfl, hbw2, hk2, b2⟩
    have B2 := Lib.hid (B1.out.trans (b2.mono B1.out.size))
    have T2 : Hid (TblIs x2 w.heap.size bw 64 (.slice none 0 0) ⟨[], mostF a0, 0⟩) := Lib.hid (tab_new hk2)
    have s1 := B1.out.size
    have hbw : w.heap.size ≤ bw := by omega
    have hlen : L.length ≤ 10000 := by have := HSM.out.1; omega
    have hw2 := write_in (cap := cap1) T2.out HOK.out hbw B2.out HF.out hlen
    rw [HN.out] at hw2
    clear b2 hk2
    by_cases hW : WOk L
    case neg =>
      obtain ⟨E, hE, hE2⟩ := write_bad (S := ⟨[], mostF a0, 0⟩) hW
      rw [hE] at hw2
      have HW2 := Lib.hid hw2
      clear hw2 hE hW
      rcases hE2 with rfl | rfl
      all_goals
        go_wp2_with fail
        refine HW2.out.mono ?_
        rintro e x3 ⟨rfl, hto⟩
        have B3 := Lib.hid (B2.out.trans (TabTo.bel T2.out hto hbw B2.out.size))
        clear hto
        go_wp2_with fail
        go_ret
        exact ⟨rfl, B3.out⟩
    case pos =>
      have hz := sizes HOK.out hW HSM.out
      have hcmp := again_size (mostF a0) hW HOK.out
      have hok1 := (fold_inv HOK.out L).1
      have hag := again_write HOK.out hW
      have hz0 := sizes (S := ⟨[], 0, 0⟩) ⟨by decide, Nat.zero_le _, Nat.le_refl _⟩ hW HSM.out
      rw [write_ok hW] at hw2
      have hw0 : ∀ (x : World) (b : Nat), TblIs x w.heap.size b 64 (.slice none 0 0) ⟨[], 0, 0⟩ → w.heap.size ≤ b → Below w.heap.size w x → _ := fun x b hT hb hB => write_in (cap := cap1) hT ⟨by decide, Nat.zero_le _, Nat.le_refl _⟩ hb hB HF.out hlen
      rw [write_ok (S := ⟨[], 0, 0⟩) hW, HN.out] at hw0
      have hw1 : ∀ (x : World) (v : Value), TblIs x w.heap.size bw 64 v (foldW ⟨[], mostF a0, 0⟩ L).1 → Below w.heap.size w x → _ := fun x v hT hB => write_in (cap := cap1) hT hok1 hbw hB HF.out hlen
      rw [hag, HN.out] at hw1
      generalize foldW ⟨[], mostF a0, 0⟩ L = st at *
      obtain ⟨S1, told, m⟩ := st
      simp only at hw2 hw1 hz hcmp hok1
      generalize secF S1.l m L = sa at *
      generalize secF (foldW ⟨[], 0, 0⟩ L).1.l (foldW ⟨[], 0, 0⟩ L).2.2 L = sc at *
      generalize (foldW ⟨[], 0, 0⟩ L).2.1 = tc at *
      have hd : decide ((sa.size : Int) ≤ (sc.size : Int) + 2) = true := by rw [decide_eq_true_iff]; omega
      have HW2 := Lib.hid hw2
      have HW1 := Lib.hid hw1
      have HW0 := Lib.hid hw0
      have hza := hz.2
      have hzc := hz0.2
      clear hw2 hw1 hw0 hz hz0 hag hok1 hW
      go_wp2_with fail
      refine HW2.out.mono ?_
      rintro e x3 ⟨rfl, hto⟩
      have B3 := Lib.hid (B2.out.trans (TabTo.bel T2.out hto hbw B2.out.size))
      obtain ⟨v3, hT3, _, _⟩ := hto
      have T3 := Lib.hid hT3
      clear hT3
      go_wp2_with fail
      refine (HW1.out x3 v3 T3.out B3.out).mono ?_
      rintro e x4 ⟨rfl, hto⟩
      have B4 := Lib.hid (B3.out.trans (TabTo.bel T3.out hto hbw B3.out.size))
      clear hto
      go_wp2_with fail
      refine (HNZ.out _).mono ?_
      rintro e x5 ⟨bz, rfl, hbz, hk5, b5⟩
      have s4 := B4.out.size
      have B5 := Lib.hid (B4.out.trans (b5.mono B4.out.size))
      have T5 : Hid (TblIs x5 w.heap.size bz 64 (.slice none 0 0) ⟨[], 0, 0⟩) := Lib.hid (by
        have := tab_new (B := w.heap.size) hk5
        rw [show mostF 0 = 0 by decide] at this
        exact this)
      have hbz2 : w.heap.size ≤ bz := by omega
      clear b5 hk5
      go_wp2_with fail
      refine (HW0.out x5 bz T5.out hbz2 B5.out).mono ?_
      rintro e x6 ⟨rfl, hto⟩
      have B6 := Lib.hid (B5.out.trans (TabTo.bel T5.out hto hbz2 B5.out.size))
      clear hto
      go_wp2_with fail
      go_ret
      exact ⟨rfl, B6.out⟩

end Go.Proofs.Ytkggjcfiomddeaa
