/- fields: the law's awake. -/
import Derived.Test.YtgnoiheekgmleaaFo
namespace Go.Proofs.Ytgnoiheekgmleaa
open Go.ChangeShapes Go.WideShapes Go.RowKit
set_option linter.unusedVariables false
set_option linter.unusedSimpArgs false

/-- Another table stays. -/
theorem TblIs.other {w w' : World} {B b b1 : Nat} {T T1 : TypeId} {v v1 v1' : Value} {S S1 : Tbl} (h : TblIs w B b T v S) (h1 : TblIs w B b1 T1 v1 S1) (hT : T ≠ 66) (hT1 : T1 ≠ 66) (hb : b ≠ b1) (hd : ∀ k, v.ownBlock = some k → v1.ownBlock ≠ some k)
    (ho : Only (fun k => k = b1 ∨ v1.ownBlock = some k) w w') (hv : v1'.ownBlock = v1.ownBlock ∨ ∀ k, v1'.ownBlock = some k → w.heap.size ≤ k) : TblIs w' B b T v S ∧ (∀ k, v.ownBlock = some k → v1'.ownBlock ≠ some k) := by
  refine ⟨⟨blk.only h.1 ho ?_, own_only h.2 ho (fun k hk => ?_)⟩, fun k hk => ?_⟩
  · rintro (e | e)
    · exact hb e
    · exact own_ne h1.2 h.1 hT e
  · rintro (e | e)
    · subst e
      exact own_ne h.2 h1.1 hT1 hk
    · exact hd k hk e
  · rcases hv with e | e
    · rw [e]; exact hd k hk
    · intro e2
      have := e k e2
      have := own_lt h.2 k hk
      omega

theorem TblIs.drewN {w : World} {B b : Nat} {T : TypeId} {v : Value} {S : Tbl} (h : TblIs w B b T v S) (n : Nat) : TblIs (w.drewN n) B b T v S := h.below (below_drewN (Below.refl _ _) n)

theorem tab_new {w : World} {B b : Nat} {T : TypeId} {m : Nat} (h : blk w b T (Tbl.cells ⟨[], m, 0⟩ (.slice none 0 0))) : TblIs w B b T (.slice none 0 0) ⟨[], m, 0⟩ := ⟨h, World.ownsRow_nil _ _ _ _⟩

/-- A writer and a reader, made by this call. -/
def TW (w0 w : World) (bw br : Nat) (vw vr : Value) (Sw Sr : Tbl) : Prop :=
  TblIs w w0.heap.size bw 71 vw Sw ∧ TblIs w w0.heap.size br 89 vr Sr ∧ bw ≠ br ∧ w0.heap.size ≤ bw ∧ w0.heap.size ≤ br ∧ (∀ k, vw.ownBlock = some k → vr.ownBlock ≠ some k) ∧ Below w0.heap.size w0 w

theorem TW.further {w0 w x : World} {bw br : Nat} {vw vr : Value} {Sw Sr : Tbl} (h : TW w0 w bw br vw vr Sw Sr) (hb : Below w.heap.size w x) : TW w0 x bw br vw vr Sw Sr := by
  obtain ⟨h1, h2, h3, h4, h5, h6, h7⟩ := h
  exact ⟨h1.below hb, h2.below hb, h3, h4, h5, h6, h7.trans (hb.mono h7.size)⟩

theorem TW.write {w0 w x : World} {bw br : Nat} {vw vr : Value} {Sw Sw' Sr : Tbl} (h : TW w0 w bw br vw vr Sw Sr) (ht : TabTo w x w0.heap.size bw 71 vw Sw') :
    ∃ vw', TW w0 x bw br vw' vr Sw' Sr ∧ (∀ g T L, blk w g T L → g ≠ bw → vw.ownBlock ≠ some g → blk x g T L ∧ vw'.ownBlock ≠ some g) := by
  obtain ⟨h1, h2, h3, h4, h5, h6, h7⟩ := h
  obtain ⟨vw', a1, a2, a3⟩ := ht
  obtain ⟨o1, o2⟩ := h2.other h1 (by decide) (by decide) (fun e => h3 e.symm) (fun k hk hk2 => h6 k hk2 hk) a2 a3
  refine ⟨vw', ⟨a1, o1, h3, h4, h5, fun k hk hk2 => o2 k hk2 hk, h7.trans (a2.below h7.size ?_)⟩, fun g T L hg hn ho => ⟨blk.only hg a2 ?_, ?_⟩⟩
  · rintro k (e | e)
    · omega
    · exact (World.ownsRow.lt h1.2 k e).1
  · rintro (e | e)
    · exact hn e
    · exact ho e
  · rcases a3 with e | e
    · rw [e]; exact ho
    · intro e2
      have := e g e2
      have := hg.lt
      omega

theorem TW.tell {w0 w x : World} {bw br : Nat} {vw vr : Value} {Sw Sr Sr' : Tbl} (h : TW w0 w bw br vw vr Sw Sr) (ht : TabTo w x w0.heap.size br 89 vr Sr') :
    ∃ vr', TW w0 x bw br vw vr' Sw Sr' ∧ (∀ g T L, blk w g T L → g ≠ br → vr.ownBlock ≠ some g → blk x g T L ∧ vr'.ownBlock ≠ some g) := by
  obtain ⟨h1, h2, h3, h4, h5, h6, h7⟩ := h
  obtain ⟨vr', a1, a2, a3⟩ := ht
  obtain ⟨o1, o2⟩ := h1.other h2 (by decide) (by decide) h3 h6 a2 a3
  refine ⟨vr', ⟨o1, a1, h3, h4, h5, o2, h7.trans (a2.below h7.size ?_)⟩, fun g T L hg hn ho => ⟨blk.only hg a2 ?_, ?_⟩⟩
  · rintro k (e | e)
    · omega
    · exact (World.ownsRow.lt h2.2 k e).1
  · rintro (e | e)
    · exact hn e
    · exact ho e
  · rcases a3 with e | e
    · rw [e]; exact ho
    · intro e2
      have := e g e2
      have := hg.lt
      omega

end Go.Proofs.Ytgnoiheekgmleaa
