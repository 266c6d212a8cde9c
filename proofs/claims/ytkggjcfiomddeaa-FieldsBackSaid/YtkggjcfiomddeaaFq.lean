/- fields: the law's awake. -/
import Derived.Test.YtkggjcfiomddeaaFp
namespace Go.Proofs.Ytkggjcfiomddeaa
open Go.ChangeShapes Go.WideShapes Go.RowKit
set_option linter.unusedVariables false
set_option linter.unusedSimpArgs false

/-- Another table stays. -/
theorem TblIs.other {w w' : World} {B b b1 : Nat} {T T1 : TypeId} {v v1 v1' : Value} {S S1 : Tbl} (h : TblIs w B b T v S) (h1 : TblIs w B b1 T1 v1 S1) (hT : T ≠ 54) (hT1 : T1 ≠ 54) (hb : b ≠ b1) (hd : ∀ k, v.ownBlock = some k → v1.ownBlock ≠ some k)
    (ho : Only (fun k => k = b1 ∨ v1.ownBlock = some k) w w') (hv : v1'.ownBlock = v1.ownBlock ∨ ∀ k, v1'.ownBlock = some k → w.heap.size ≤ k) : TblIs w' B b T v S ∧ (∀ k, v.ownBlock = some k → v1'.ownBlock ≠ some k) := by
  refine ⟨⟨blk.only h.1 ho ?_, own_only h.2 ho (fun k hk => ?_)⟩, fun k hk => ?_⟩
  · rintro (e | e)
    · exact hb e
    · exact own_ne h1.2 h.1 hT e
  · rintro (e | e)
    · subst e
      exact own_ne h.2 h1.1 hT1 hk
    · exact hd k hk e
  · rcases hv with e | e
    · rw [e]; exact hd k hk
    · intro e2
      have := e k e2
      have := own_lt h.2 k hk
      omega

theorem TblIs.drewN {w : World} {B b : Nat} {T : TypeId} {v : Value} {S : Tbl} (h : TblIs w B b T v S) (n : Nat) : TblIs (w.drewN n) B b T v S := h.below (below_drewN (Below.refl _ _) n)

theorem tab_new {w : World} {B b : Nat} {T : TypeId} {m : Nat} (h : blk w b T (Tbl.cells ⟨[], m, 0⟩ (.slice none 0 0))) : TblIs w B b T (.slice none 0 0) ⟨[], m, 0⟩ := ⟨h, World.ownsRow_nil _ _ _ _⟩

/-- A writer and a reader, made by this call. -/
def TW (w0 w : World) (bw br : Nat) (vw vr : Value) (Sw Sr : Tbl) : Prop :=
  TblIs w w0.heap.size bw 64 vw Sw ∧ TblIs w w0.heap.size br 77 vr Sr ∧ bw ≠ br ∧ w0.heap.size ≤ bw ∧ w0.heap.size ≤ br ∧ (∀ k, vw.ownBlock = some k → vr.ownBlock ≠ some k) ∧ Below w0.heap.size w0 w

theorem TW.further {w0 w x : World} {bw br : Nat} {vw vr : Value} {Sw Sr : Tbl} (h : TW w0 w bw br vw vr Sw Sr) (hb : Below w.heap.size w x) : TW w0 x bw br vw vr Sw Sr := by
  obtain ⟨h1, h2, h3, h4, h5, h6, h7⟩ := h
  exact ⟨h1.below hb, h2.below hb, h3, h4, h5, h6, h7.trans (hb.mono h7.size)⟩

theorem TW.write {w0 w x : World} {bw br : Nat} {vw vr : Value} {Sw Sw' Sr : Tbl} (h : TW w0 w bw br vw vr Sw Sr) (ht : TabTo w x w0.heap.size bw 64 vw Sw') :
    ∃ vw', TW w0 x bw br vw' vr Sw' Sr ∧ (∀ g T L, blk w g T L → g ≠ bw → vw.ownBlock ≠ some g → blk x g T L ∧ vw'.ownBlock ≠ some g) := by
  obtain ⟨h1, h2, h3, h4, h5, h6, h7⟩ := h
  obtain ⟨vw', a1, a2, a3⟩ := ht
  obtain ⟨o1, o2⟩ := h2.other h1 (by decide) (by decide) (fun e => h3 e.symm) (fun k hk hk2 => h6 k hk2 hk) a2 a3
  refine ⟨vw', ⟨a1, o1, h3, h4, h5, fun k hk hk2 => o2 k hk2 hk, h7.trans (a2.below h7.size ?_)⟩, fun g T L hg hn ho => ⟨blk.only hg a2 ?_, ?_⟩⟩
  · rintro k (e | e)
    · omega
    · exact (World.ownsRow.lt h1.2 k e).1
  · rintro (e | e)
    · exact hn e
    · exact ho e
  · rcases a3 with e | e
    · rw [e]; exact ho
    · intro e2
      have := e g e2
      have := hg.lt
      omega

theorem TW.tell {w0 w x : World} {bw br : Nat} {vw vr : Value} {Sw Sr Sr' : Tbl} (h : TW w0 w bw br vw vr Sw Sr) (ht : TabTo w x w0.heap.size br 77 vr Sr') :
    ∃ vr', TW w0 x bw br vw vr' Sw Sr' ∧ (∀ g T L, blk w g T L → g ≠ br → vr.ownBlock ≠ some g → blk x g T L ∧ vr'.ownBlock ≠ some g) := by
  obtain ⟨h1, h2, h3, h4, h5, h6, h7⟩ := h
  obtain ⟨vr', a1, a2, a3⟩ := ht
  obtain ⟨o1, o2⟩ := h1.other h2 (by decide) (by decide) h3 h6 a2 a3
  refine ⟨vr', ⟨o1, a1, h3, h4, h5, o2, h7.trans (a2.below h7.size ?_)⟩, fun g T L hg hn ho => ⟨blk.only hg a2 ?_, ?_⟩⟩
  · rintro k (e | e)
    · omega
    · exact (World.ownsRow.lt h2.2 k e).1
  · rintro (e | e)
    · exact hn e
    · exact ho e
  · rcases a3 with e | e
    · rw [e]; exact ho
    · intro e2
      have := e g e2
      have := hg.lt
      omega

theorem FV.tail {w : World} {g o : Nat} {f : Fl} {L : List Fl} (h : FV w (some ⟨g, o, none⟩) (f :: L)) : FV w (some ⟨g, o + 2, none⟩) L := by
  intro hl
  obtain ⟨g', o', e, hg, hc⟩ := h (by simp)
  injection e with e
  injection e with e1 e2
  subst e1 e2
  refine ⟨g, o + 2, rfl, hg, fun i q hq => ?_⟩
  have := hc (i + 1) q (by simpa using hq)
  rw [show o + (i + 1) * 2 = o + 2 + i * 2 by omega] at this
  exact this

/-- Own fields, as a block. -/
theorem OwnFl.blk {B : Nat} {w : World} {v : Value} {L : List Fl} (h : OwnFl B w v L) (hl : 0 < L.length) : ∃ g cap M, v = .slice (some ⟨g, 0, none⟩) L.length cap ∧ B ≤ g ∧ blk w g 54 (flc L ++ M) := by
  rcases h.2 with ⟨_, e⟩ | ⟨g, cap, cur, rfl, hb, hh, _, _, hc, ht⟩
  · omega
  · refine ⟨g, cap, cur.toList.drop (L.length * 2), rfl, hb, ?_⟩
    unfold Go.Proofs.Ytkggjcfiomddeaa.blk
    have e : flc L ++ cur.toList.drop (L.length * 2) = cur.toList := by rw [← ht, List.take_append_drop]
    rw [e]
    exact hh

theorem awTok : awT.Ok := ⟨by decide, by decide, by decide⟩
theorem awT1ok : awT1.Ok := ⟨by decide, by decide, by decide⟩

theorem aw_takeN (w : World) : Calls Try.prog 10 #[.string ⟨#[31, 154, 10, 120]⟩, .int .i64 5] w fun e w' => e = .returned (.tuple #[.int .u64 1337, .string ⟨#[120]⟩, .bool true]) ∧ Below w.heap.size w w' := by
  have := TakeNumber_any ⟨#[31, 154, 10, 120]⟩ 5 w (by decide) (by omega)
  rw [show byt ⟨#[31, 154, 10, 120]⟩ = [31, 154, 10, 120] from rfl, aw_take] at this
  exact this
theorem aw_num (w : World) : Calls Try.prog 12 #[.int .u64 1337, .int .i64 5, .int .u8 0] w fun e w' => e = .returned (.string ⟨#[31, 154, 10]⟩) ∧ Below w.heap.size w w' := by
  have := Number_any 1337 5 0 w (by omega) (by omega) (by omega)
  rw [aw_number] at this
  exact this

theorem aw_count {w0 : World} {bw br : Nat} {vw vr : Value} {Sw : Tbl} (w : World) (h : TW w0 w bw br vw vr Sw awT1) : Calls Try.prog 26 #[.pointer (some ⟨br, 0, none⟩)] w fun e w' => e = .returned (.int .i64 1) ∧ w = w' :=
  Count_any w0.heap.size br vr awT1 w h.2.1

theorem aw_keep {w0 w x : World} {bw br gl gm : Nat} {vw vr : Value} {Sw Sr : Tbl} {a0 a1 a2 a3 c0 c1 c2 c3 : Value}
    (h : (w.cell? ⟨gl, 0, none⟩ = some a0 ∧ w.cell? ⟨gl, 1, none⟩ = some a1 ∧ w.cell? ⟨gl, 2, none⟩ = some a2 ∧ w.cell? ⟨gl, 3, none⟩ = some a3 ∧ w.cell? ⟨gm, 0, none⟩ = some c0 ∧ w.cell? ⟨gm, 1, none⟩ = some c1 ∧ w.cell? ⟨gm, 2, none⟩ = some c2 ∧ w.cell? ⟨gm, 3, none⟩ = some c3) ∧ TW w0 w bw br vw vr Sw Sr) (b : Below w.heap.size w x) :
    (x.cell? ⟨gl, 0, none⟩ = some a0 ∧ x.cell? ⟨gl, 1, none⟩ = some a1 ∧ x.cell? ⟨gl, 2, none⟩ = some a2 ∧ x.cell? ⟨gl, 3, none⟩ = some a3 ∧ x.cell? ⟨gm, 0, none⟩ = some c0 ∧ x.cell? ⟨gm, 1, none⟩ = some c1 ∧ x.cell? ⟨gm, 2, none⟩ = some c2 ∧ x.cell? ⟨gm, 3, none⟩ = some c3) ∧ TW w0 x bw br vw vr Sw Sr := by
  have k : ∀ {g i v}, w.cell? ⟨g, i, none⟩ = some v → x.cell? ⟨g, i, none⟩ = some v := fun {g i v} h => (b.cell (p := ⟨g, i, none⟩) (World.block_lt_of_cell? _ _ h)).trans h
  obtain ⟨⟨h0, h1, h2, h3, h4, h5, h6, h7⟩, h8⟩ := h
  exact ⟨⟨k h0, k h1, k h2, k h3, k h4, k h5, k h6, k h7⟩, h8.further b⟩

set_option maxRecDepth 100000 in
set_option maxHeartbeats 8000000 in
theorem awake_any (w : World) : Calls Try.prog 9 #[] w fun e w' => e = .returned (.bool true) ∧ Below w.heap.size w w' := by
  have HNW := Lib.hid (fun w => NewWriter_any 200 (by decide) w)
  have HNR := Lib.hid (fun w => NewReader_any 200 (by decide) w)
  go_enter Try.func9, Try.ntmps9
  go_wp2_with fail
  refine (HNW.out _).mono ?_
  rintro e w1 ⟨bw, rfl, hbw, hk1, b1⟩
  rw [aw_most] at hk1
  have W1 := Lib.hid (tab_new (B := w.heap.size) hk1)
  have B1 := Lib.hid b1
  have lw := hk1.lt
  clear hk1 b1
  go_wp2_with fail
  refine (HNR.out _).mono ?_
  rintro e w2 ⟨br, rfl, hbr, hk2, b2⟩
  rw [aw_most] at hk2
  have s1 := B1.out.size
  have s2 := b2.size
  have lr := hk2.lt
  have T2 : Hid (TW w w2 bw br (.slice none 0 0) (.slice none 0 0) awT awT) := Lib.hid ⟨W1.out.below b2, tab_new hk2, by omega, hbw, by omega, fun k hk => by simp [Value.ownBlock] at hk, B1.out.trans (b2.mono B1.out.size)⟩
  clear hk2 b2
  have hbl : Below w2.heap.size w2 (w2.alloc (.cells #[.string ⟨#[58, 109, 101, 116, 104, 111, 100]⟩, .string ⟨#[71, 69, 84]⟩, .string ⟨#[120]⟩, .string ⟨#[49]⟩] 54)) := (Below.refl _ _).alloc (Nat.le_refl _) _
  have hL : blk (w2.alloc (.cells #[.string ⟨#[58, 109, 101, 116, 104, 111, 100]⟩, .string ⟨#[71, 69, 84]⟩, .string ⟨#[120]⟩, .string ⟨#[49]⟩] 54)) w2.heap.size 54 (flc [fg, fx]) := blk.new w2 _ _
  have hT3 := T2.out.further hbl
  obtain ⟨gl, hgl⟩ : ∃ g, w2.heap.size = g := ⟨_, rfl⟩
  rw [hgl] at hL
  have hw3 := hT3.2.2.2.2.2.2.size
  have HW1 := Lib.hid (Write_any w.heap.size bw (.slice none 0 0) awT [fg, fx] (some ⟨gl, 0, none⟩) 2 _ hT3.1 awTok hw3 hbw (FV.of_blk hL) (by decide) (by
    intro _ g o hgo
    injection hgo with hgo
    injection hgo with e1 e2
    subst e1
    exact ⟨hL.lt, by omega, by simp [Value.ownBlock]⟩))
  have T3 := Lib.hid hT3
  have L3 := Lib.hid hL
  have HG := Lib.hid hgl
  have hgw : gl ≠ bw := by omega
  have hgr : gl ≠ br := by omega
  clear hbl hL hT3 hgl hw3 W1 B1 T2
  go_wp2_with fail
  rw [HG.out]
  refine HW1.out.mono ?_
  rintro e w3 ⟨rfl, hto⟩
  rw [aw_write] at hto ⊢
  obtain ⟨vw, hT4, hk4⟩ := T3.out.write hto
  obtain ⟨hL4, ho4⟩ := hk4 _ _ _ L3.out hgw (by simp [Value.ownBlock])
  have T4 := Lib.hid hT4
  have L4 := Lib.hid hL4
  have Ho4 := Lib.hid ho4
  clear hto hT4 hk4 hL4 ho4 T3 L3 HW1
  go_wp2_with fail
  refine (Read_any w.heap.size br (.slice none 0 0) awT awSec _ T4.out.2.1 (by decide) (by decide)).mono ?_
  rintro e w4 ⟨b4, v4, rfl, _⟩
  rw [show awT.l = [] from rfl, aw_read0]
  have T5 := Lib.hid (T4.out.further b4)
  have L5 := Lib.hid (L4.out.below b4 L4.out.lt)
  clear b4 T4 L4
  go_wp2_with fail
  refine (Told_any w.heap.size br (.slice none 0 0) awT awTold _ T5.out.2.1 awTok T5.out.2.2.2.2.2.2.size T5.out.2.2.2.2.1 (by decide)).mono ?_
  rintro e w5 ⟨rfl, hto⟩
  rw [show awTold.size + 1 = 5 from rfl, aw_told] at hto ⊢
  obtain ⟨vr, hT6, hk6⟩ := T5.out.tell hto
  obtain ⟨hL6, ho6⟩ := hk6 _ _ _ L5.out hgr (by simp [Value.ownBlock])
  have T6 := Lib.hid hT6
  have L6 := Lib.hid hL6
  clear hto hT6 hk6 hL6 ho6 T5 L5
  go_wp2_with fail
  refine (Read_any w.heap.size br vr awT1 awSec _ T6.out.2.1 (by decide) (by decide)).mono ?_
  rintro e w6 ⟨b6, v6, rfl, hO6⟩
  rw [show awT1.l = [fx] from rfl, aw_read1] at hO6 ⊢
  have T7 := Lib.hid (T6.out.further b6)
  have L7 := Lib.hid (L6.out.below b6 L6.out.lt)
  obtain ⟨gm, capm, M, rfl, hgm, hM7⟩ := hO6.blk (by decide)
  have hom : vw.ownBlock ≠ some gm := fun e => by have := own_lt T6.out.1.2 _ e; omega
  have hbm : gm ≠ bw := by have := T6.out.1.1.lt; omega
  have M7 := Lib.hid hM7
  have Hom := Lib.hid hom
  clear b6 hO6 hM7 hom T6 L6
  go_wp2_with fail
  have hF7 : FV w6 (some ⟨gl, 2, none⟩) [fx] := (FV.of_blk L7.out).tail
  refine (Write_any w.heap.size bw vw awT1 [fx] (some ⟨gl, 2, none⟩) 1 _ T7.out.1 awT1ok T7.out.2.2.2.2.2.2.size hbw hF7 (by decide) (by
    intro _ g o hgo
    injection hgo with hgo
    injection hgo with e1 e2
    subst e1
    exact ⟨L7.out.lt, hgw, Ho4.out⟩)).mono ?_
  rintro e w7 ⟨rfl, hto⟩
  rw [aw_write2] at hto ⊢
  obtain ⟨vw2, hT8, hk8⟩ := T7.out.write hto
  obtain ⟨hL8, ho8⟩ := hk8 _ _ _ L7.out hgw Ho4.out
  obtain ⟨hM8, hp8⟩ := hk8 _ _ _ M7.out hbm Hom.out
  have T8 := Lib.hid hT8
  have L8 := Lib.hid hL8
  have M8 := Lib.hid hM8
  have P8 := Lib.hid (And.intro ho8 hp8)
  clear hto hT8 hk8 hL8 ho8 hM8 hp8 T7 L7 M7 hF7
  go_wp2_with fail
  refine (aw_takeN _).mono ?_
  rintro e w8 ⟨rfl, b8⟩
  have hbe : Below w8.heap.size w8 (w8.alloc (.cells #[.string ⟨#[]⟩, .string ⟨#[]⟩] 54)) := (Below.refl _ _).alloc (Nat.le_refl _) _
  have hbe2 := b8.trans (hbe.mono b8.size)
  have hE : blk (w8.alloc (.cells #[.string ⟨#[]⟩, .string ⟨#[]⟩] 54)) w8.heap.size 54 (flc [emptyF]) := blk.new w8 _ _
  have s8 := b8.size
  have hT9 := T8.out.further hbe2
  have T9 := Lib.hid hT9
  have L9 := Lib.hid (L8.out.below hbe2 L8.out.lt)
  have M9 := Lib.hid (M8.out.below hbe2 M8.out.lt)
  have HW9 := Lib.hid (Write_any w.heap.size bw vw2 awT1 [emptyF] (some ⟨w8.heap.size, 0, none⟩) 1 _ hT9.1 awT1ok hT9.2.2.2.2.2.2.size hbw (FV.of_blk hE) (by decide) (by
    have h1 := T8.out.1.1.lt
    have h2 := own_lt T8.out.1.2
    intro _ g o hgo
    injection hgo with hgo
    injection hgo with e1 e2
    subst e1
    exact ⟨hE.lt, by omega, fun e => by have := h2 _ e; omega⟩))
  clear b8 hbe hbe2 hE hT9 T8 L8 M8
  go_wp2_with fail
  refine HW9.out.mono ?_
  rintro e w9 ⟨rfl, hto⟩
  rw [aw_write3] at hto ⊢
  obtain ⟨vw3, hT10, hk10⟩ := T9.out.write hto
  obtain ⟨hL10, _⟩ := hk10 _ _ _ L9.out hgw P8.out.1
  obtain ⟨hM10, _⟩ := hk10 _ _ _ M9.out hbm P8.out.2
  have T10 := Lib.hid hT10
  have l0 : w9.cell? ⟨gl, 0, none⟩ = some (.string ⟨#[58, 109, 101, 116, 104, 111, 100]⟩) := hL10.cell (k := 0) rfl
  have l1 : w9.cell? ⟨gl, 1, none⟩ = some (.string ⟨#[71, 69, 84]⟩) := hL10.cell (k := 1) rfl
  have l2 : w9.cell? ⟨gl, 2, none⟩ = some (.string ⟨#[120]⟩) := hL10.cell (k := 2) rfl
  have l3 : w9.cell? ⟨gl, 3, none⟩ = some (.string ⟨#[49]⟩) := hL10.cell (k := 3) rfl
  have m0 : w9.cell? ⟨gm, 0, none⟩ = some (.string ⟨#[58, 109, 101, 116, 104, 111, 100]⟩) := hM10.cell (k := 0) rfl
  have m1 : w9.cell? ⟨gm, 1, none⟩ = some (.string ⟨#[71, 69, 84]⟩) := hM10.cell (k := 1) rfl
  have m2 : w9.cell? ⟨gm, 2, none⟩ = some (.string ⟨#[120]⟩) := hM10.cell (k := 2) rfl
  have m3 : w9.cell? ⟨gm, 3, none⟩ = some (.string ⟨#[49]⟩) := hM10.cell (k := 3) rfl
  have HS : Hid ((w9.cell? ⟨gl, 0, none⟩ = some (.string ⟨#[58, 109, 101, 116, 104, 111, 100]⟩) ∧ w9.cell? ⟨gl, 1, none⟩ = some (.string ⟨#[71, 69, 84]⟩) ∧ w9.cell? ⟨gl, 2, none⟩ = some (.string ⟨#[120]⟩) ∧ w9.cell? ⟨gl, 3, none⟩ = some (.string ⟨#[49]⟩) ∧ w9.cell? ⟨gm, 0, none⟩ = some (.string ⟨#[58, 109, 101, 116, 104, 111, 100]⟩) ∧ w9.cell? ⟨gm, 1, none⟩ = some (.string ⟨#[71, 69, 84]⟩) ∧ w9.cell? ⟨gm, 2, none⟩ = some (.string ⟨#[120]⟩) ∧ w9.cell? ⟨gm, 3, none⟩ = some (.string ⟨#[49]⟩)) ∧ TW w w9 bw br vw3 vr awT1 awT1) := Lib.hid ⟨⟨l0, l1, l2, l3, m0, m1, m2, m3⟩, hT10⟩
  clear hto hT10 hk10 hL10 hM10 T9 L9 M9 HW9
  unfold bs
  go_wp2_with fail
  refine wp_region_held_drew (S := (fun w' => (w'.cell? ⟨gl, 0, none⟩ = some (.string ⟨#[58, 109, 101, 116, 104, 111, 100]⟩) ∧ w'.cell? ⟨gl, 1, none⟩ = some (.string ⟨#[71, 69, 84]⟩) ∧ w'.cell? ⟨gl, 2, none⟩ = some (.string ⟨#[120]⟩) ∧ w'.cell? ⟨gl, 3, none⟩ = some (.string ⟨#[49]⟩) ∧ w'.cell? ⟨gm, 0, none⟩ = some (.string ⟨#[58, 109, 101, 116, 104, 111, 100]⟩) ∧ w'.cell? ⟨gm, 1, none⟩ = some (.string ⟨#[71, 69, 84]⟩) ∧ w'.cell? ⟨gm, 2, none⟩ = some (.string ⟨#[120]⟩) ∧ w'.cell? ⟨gm, 3, none⟩ = some (.string ⟨#[49]⟩)) ∧ TW w w' bw br vw3 vr awT1 awT1)) (by kernel_rfl) (aw_keep HS.out ((Below.refl _ _).drew)) (fun hHeld => ?_)
  refine wpAnyH_takeD (i := 0) (v := ?_) (some 75) rfl rfl (by kernel_rfl) (by kernel_rfl) (by kernel_rfl) (fun _ _ _ h => h) (Or.inl ⟨by kernel_rfl, ?_⟩) (by assumption) ?_
  rotate_left
  · (intro w hSw; (try dsimp only at hSw); go_simp); all_goals with_reducible rfl
  try simp only [Act.put, List.setIfInBounds_toArray, List.set_cons_zero, List.set_cons_succ]
  refine wpAnyH_takeD (i := 1) (v := ?_) (some 76) rfl rfl (by kernel_rfl) (by kernel_rfl) (by kernel_rfl) (fun _ _ _ h => h) (Or.inl ⟨by kernel_rfl, ?_⟩) (by assumption) ?_
  rotate_left
  · (intro w hSw; (try dsimp only at hSw); go_simp); all_goals with_reducible rfl
  try simp only [Act.put, List.setIfInBounds_toArray, List.set_cons_zero, List.set_cons_succ]
  refine wpAnyH_takeD (i := 2) (v := ?_) (some 77) rfl rfl (by kernel_rfl) (by kernel_rfl) (by kernel_rfl) (fun _ _ _ h => h) (Or.inl ⟨by kernel_rfl, ?_⟩) (by assumption) ?_
  rotate_left
  · (intro w hSw; (try dsimp only at hSw); go_simp); all_goals with_reducible rfl
  try simp only [Act.put, List.setIfInBounds_toArray, List.set_cons_zero, List.set_cons_succ]
  refine wpAnyH_takeD (i := 3) (v := ?_) (some 78) rfl rfl (by kernel_rfl) (by kernel_rfl) (by kernel_rfl) (fun _ _ _ h => h) (Or.inl ⟨by kernel_rfl, ?_⟩) (by assumption) ?_
  rotate_left
  · (intro w hSw; (try dsimp only at hSw); go_simp); all_goals with_reducible rfl
  try simp only [Act.put, List.setIfInBounds_toArray, List.set_cons_zero, List.set_cons_succ]
  refine wpAnyH_takeD (i := 4) (v := ?_) (some 79) rfl rfl (by kernel_rfl) (by kernel_rfl) (by kernel_rfl) (fun _ _ _ h => h) (Or.inl ⟨by kernel_rfl, ?_⟩) (by assumption) ?_
  rotate_left
  · (intro w hSw; (try dsimp only at hSw); go_simp); all_goals with_reducible rfl
  try simp only [Act.put, List.setIfInBounds_toArray, List.set_cons_zero, List.set_cons_succ]
  refine wpAnyH_takeD (i := 5) (v := ?_) (some 80) rfl rfl (by kernel_rfl) (by kernel_rfl) (by kernel_rfl) (fun _ _ _ h => h) (Or.inl ⟨by kernel_rfl, ?_⟩) (by assumption) ?_
  rotate_left
  · (intro w hSw; (try dsimp only at hSw); go_simp); all_goals with_reducible rfl
  try simp only [Act.put, List.setIfInBounds_toArray, List.set_cons_zero, List.set_cons_succ]
  refine wpAnyH_takeD (i := 6) (v := ?_) (some 81) rfl rfl (by kernel_rfl) (by kernel_rfl) (by kernel_rfl) (fun _ _ _ h => h) (Or.inl ⟨by kernel_rfl, ?_⟩) (by assumption) ?_
  rotate_left
  · (intro w hSw; (try dsimp only at hSw); go_simp); all_goals with_reducible rfl
  try simp only [Act.put, List.setIfInBounds_toArray, List.set_cons_zero, List.set_cons_succ]
  refine wpAnyH_takeD (i := 7) (v := ?_) (some 82) rfl rfl (by kernel_rfl) (by kernel_rfl) (by kernel_rfl) (fun _ _ _ h => h) (Or.inl ⟨by kernel_rfl, ?_⟩) (by assumption) ?_
  rotate_left
  · (intro w hSw; (try dsimp only at hSw); go_simp); all_goals with_reducible rfl
  try simp only [Act.put, List.setIfInBounds_toArray, List.set_cons_zero, List.set_cons_succ]
  refine wpAnyH_takeD (i := 8) (v := ?_) (some 83) rfl rfl (by kernel_rfl) (by kernel_rfl) (by kernel_rfl) (fun _ _ _ h => h) (Or.inl ⟨by kernel_rfl, ?_⟩) (by assumption) ?_
  rotate_left
  · (intro w hSw; (try dsimp only at hSw); go_simp); all_goals with_reducible rfl
  try simp only [Act.put, List.setIfInBounds_toArray, List.set_cons_zero, List.set_cons_succ]
  refine wpAnyH_takeD (i := 9) (v := ?_) (some 84) rfl rfl (by kernel_rfl) (by kernel_rfl) (by kernel_rfl) (fun _ _ _ h => h) (Or.inl ⟨by kernel_rfl, ?_⟩) (by assumption) ?_
  rotate_left
  · (intro w hSw; (try dsimp only at hSw); go_simp); all_goals with_reducible rfl
  try simp only [Act.put, List.setIfInBounds_toArray, List.set_cons_zero, List.set_cons_succ]
  refine wpAnyH_takeD (i := 10) (v := ?_) (some 85) rfl rfl (by kernel_rfl) (by kernel_rfl) (by kernel_rfl) (fun _ _ _ h => h) (Or.inl ⟨by kernel_rfl, ?_⟩) (by assumption) ?_
  rotate_left
  · (intro w hSw; (try dsimp only at hSw); go_simp); all_goals with_reducible rfl
  try simp only [Act.put, List.setIfInBounds_toArray, List.set_cons_zero, List.set_cons_succ]
  refine wpAnyH_takeD (i := 11) (v := ?_) (some 86) rfl rfl (by kernel_rfl) (by kernel_rfl) (by kernel_rfl) (fun _ _ _ h => h) (Or.inl ⟨by kernel_rfl, ?_⟩) (by assumption) ?_
  rotate_left
  · (intro w hSw; (try dsimp only at hSw); go_simp); all_goals with_reducible rfl
  try simp only [Act.put, List.setIfInBounds_toArray, List.set_cons_zero, List.set_cons_succ]
  refine wpAnyH_takeD (i := 12) (v := ?_) (some 87) rfl rfl (by kernel_rfl) (by kernel_rfl) (by kernel_rfl) (fun _ _ _ h => h) (Or.inl ⟨by kernel_rfl, ?_⟩) (by assumption) ?_
  rotate_left
  · (intro w hSw; (try dsimp only at hSw); go_simp); all_goals with_reducible rfl
  try simp only [Act.put, List.setIfInBounds_toArray, List.set_cons_zero, List.set_cons_succ]
  refine wpAnyH_takeD (i := 13) (v := ?_) (some 88) rfl rfl (by kernel_rfl) (by kernel_rfl) (by kernel_rfl) (fun _ _ _ h => h) (Or.inl ⟨by kernel_rfl, ?_⟩) (by assumption) ?_
  rotate_left
  · (intro w hSw; (try dsimp only at hSw); go_simp); all_goals with_reducible rfl
  try simp only [Act.put, List.setIfInBounds_toArray, List.set_cons_zero, List.set_cons_succ]
  refine wpAnyH_takeD (i := 14) (v := ?_) (some 89) rfl rfl (by kernel_rfl) (by kernel_rfl) (by kernel_rfl) (fun _ _ _ h => h) (Or.inl ⟨by kernel_rfl, ?_⟩) (by assumption) ?_
  rotate_left
  · (intro w hSw; (try dsimp only at hSw); go_simp); all_goals with_reducible rfl
  try simp only [Act.put, List.setIfInBounds_toArray, List.set_cons_zero, List.set_cons_succ]
  refine wpAnyH_takeD (i := 15) (v := ?_) (some 90) rfl rfl (by kernel_rfl) (by kernel_rfl) (by kernel_rfl) (fun _ _ _ h => h) (Or.inl ⟨by kernel_rfl, ?_⟩) (by assumption) ?_
  rotate_left
  · (intro w hSw; (try dsimp only at hSw); go_simp); all_goals with_reducible rfl
  try simp only [Act.put, List.setIfInBounds_toArray, List.set_cons_zero, List.set_cons_succ]
  refine wpAnyH_takeD (i := 16) (v := ?_) (some 91) rfl rfl (by kernel_rfl) (by kernel_rfl) (by kernel_rfl) (fun _ _ _ h => h) (Or.inl ⟨by kernel_rfl, ?_⟩) (by assumption) ?_
  rotate_left
  · (intro w hSw; (try dsimp only at hSw); go_simp); all_goals with_reducible rfl
  try simp only [Act.put, List.setIfInBounds_toArray, List.set_cons_zero, List.set_cons_succ]
  refine wpAnyH_takeD (i := 17) (v := ?_) (some 92) rfl rfl (by kernel_rfl) (by kernel_rfl) (by kernel_rfl) (fun _ _ _ h => h) (Or.inl ⟨by kernel_rfl, ?_⟩) (by assumption) ?_
  rotate_left
  · (intro w hSw; (try dsimp only at hSw); go_simp); all_goals with_reducible rfl
  try simp only [Act.put, List.setIfInBounds_toArray, List.set_cons_zero, List.set_cons_succ]
  refine wpAnyH_takeD (i := 18) (v := ?_) (some 93) rfl rfl (by kernel_rfl) (by kernel_rfl) (by kernel_rfl) (fun _ _ _ h => h) (Or.inl ⟨by kernel_rfl, ?_⟩) (by assumption) ?_
  rotate_left
  · (intro w hSw; (try dsimp only at hSw); go_simp); all_goals with_reducible rfl
  try simp only [Act.put, List.setIfInBounds_toArray, List.set_cons_zero, List.set_cons_succ]
  refine wpAnyH_takeD (i := 19) (v := ?_) (some 94) rfl rfl (by kernel_rfl) (by kernel_rfl) (by kernel_rfl) (fun _ _ _ h => h) (Or.inl ⟨by kernel_rfl, ?_⟩) (by assumption) ?_
  rotate_left
  · (intro w hSw; (try dsimp only at hSw); go_simp); all_goals with_reducible rfl
  try simp only [Act.put, List.setIfInBounds_toArray, List.set_cons_zero, List.set_cons_succ]
  refine wpAnyH_takeD (i := 20) (v := ?_) (some 95) rfl rfl (by kernel_rfl) (by kernel_rfl) (by kernel_rfl) (fun _ _ _ h => h) (Or.inl ⟨by kernel_rfl, ?_⟩) (by assumption) ?_
  rotate_left
  · (intro w hSw; (try dsimp only at hSw); go_simp); all_goals with_reducible rfl
  try simp only [Act.put, List.setIfInBounds_toArray, List.set_cons_zero, List.set_cons_succ]
  refine wpAnyH_takeD (i := 21) (v := ?_) (some 96) rfl rfl (by kernel_rfl) (by kernel_rfl) (by kernel_rfl) (fun _ _ _ h => h) (Or.inl ⟨by kernel_rfl, ?_⟩) (by assumption) ?_
  rotate_left
  · (intro w hSw; (try dsimp only at hSw); go_simp); all_goals with_reducible rfl
  try simp only [Act.put, List.setIfInBounds_toArray, List.set_cons_zero, List.set_cons_succ]
  refine wpAnyH_takeD (i := 22) (v := ?_) (some 97) rfl rfl (by kernel_rfl) (by kernel_rfl) (by kernel_rfl) (fun _ _ _ h => h) (Or.inl ⟨by kernel_rfl, ?_⟩) (by assumption) ?_
  rotate_left
  · (intro w hSw; (try dsimp only at hSw); go_simp); all_goals with_reducible rfl
  try simp only [Act.put, List.setIfInBounds_toArray, List.set_cons_zero, List.set_cons_succ]
  refine wpAnyH_takeD (i := 23) (v := ?_) (some 98) rfl rfl (by kernel_rfl) (by kernel_rfl) (by kernel_rfl) (fun _ _ _ h => h) (Or.inl ⟨by kernel_rfl, ?_⟩) (by assumption) ?_
  rotate_left
  · (intro w hSw; (try dsimp only at hSw); go_simp); all_goals with_reducible rfl
  try simp only [Act.put, List.setIfInBounds_toArray, List.set_cons_zero, List.set_cons_succ]
  refine wpAnyH_takeD (i := 24) (v := ?_) (some 99) rfl rfl (by kernel_rfl) (by kernel_rfl) (by kernel_rfl) (fun _ _ _ h => h) (Or.inl ⟨by kernel_rfl, ?_⟩) (by assumption) ?_
  rotate_left
  · (intro w hSw; (try dsimp only at hSw); go_simp); all_goals with_reducible rfl
  try simp only [Act.put, List.setIfInBounds_toArray, List.set_cons_zero, List.set_cons_succ]
  refine wpAnyH_takeD (i := 25) (v := ?_) (some 100) rfl rfl (by kernel_rfl) (by kernel_rfl) (by kernel_rfl) (fun _ _ _ h => h) (Or.inl ⟨by kernel_rfl, ?_⟩) (by assumption) ?_
  rotate_left
  · (intro w hSw; (try dsimp only at hSw); go_simp); all_goals with_reducible rfl
  try simp only [Act.put, List.setIfInBounds_toArray, List.set_cons_zero, List.set_cons_succ]
  refine wpAnyH_takeD (i := 26) (v := ?_) (some 101) rfl rfl (by kernel_rfl) (by kernel_rfl) (by kernel_rfl) (fun _ _ _ h => h) (Or.inl ⟨by kernel_rfl, ?_⟩) (by assumption) ?_
  rotate_left
  · (intro w hSw; (try dsimp only at hSw); go_simp); all_goals with_reducible rfl
  try simp only [Act.put, List.setIfInBounds_toArray, List.set_cons_zero, List.set_cons_succ]
  refine wpAnyH_takeD (i := 27) (v := ?_) (some 102) rfl rfl (by kernel_rfl) (by kernel_rfl) (by kernel_rfl) (fun _ _ _ h => h) (Or.inl ⟨by kernel_rfl, ?_⟩) (by assumption) ?_
  rotate_left
  · (intro w hSw; (try dsimp only at hSw); go_simp); all_goals with_reducible rfl
  try simp only [Act.put, List.setIfInBounds_toArray, List.set_cons_zero, List.set_cons_succ]
  refine wpAnyH_takeD (i := 28) (v := ?_) (some 103) rfl rfl (by kernel_rfl) (by kernel_rfl) (by kernel_rfl) (fun _ _ _ h => h) (Or.inl ⟨by kernel_rfl, ?_⟩) (by assumption) ?_
  rotate_left
  · (intro w hSw; (try dsimp only at hSw); go_simp); all_goals with_reducible rfl
  try simp only [Act.put, List.setIfInBounds_toArray, List.set_cons_zero, List.set_cons_succ]
  refine wpAnyH_takeD (i := 29) (v := ?_) (some 104) rfl rfl (by kernel_rfl) (by kernel_rfl) (by kernel_rfl) (fun _ _ _ h => h) (Or.inl ⟨by kernel_rfl, ?_⟩) (by assumption) ?_
  rotate_left
  · (intro w hSw; (try dsimp only at hSw); go_simp); all_goals with_reducible rfl
  try simp only [Act.put, List.setIfInBounds_toArray, List.set_cons_zero, List.set_cons_succ]
  refine wpAnyH_takeD (i := 30) (v := ?_) (some 105) rfl rfl (by kernel_rfl) (by kernel_rfl) (by kernel_rfl) (fun _ _ _ h => h) (Or.inl ⟨by kernel_rfl, ?_⟩) (by assumption) ?_
  rotate_left
  · (intro w hSw; (try dsimp only at hSw); go_simp); all_goals with_reducible rfl
  try simp only [Act.put, List.setIfInBounds_toArray, List.set_cons_zero, List.set_cons_succ]
  refine wpAnyH_takeD (i := 31) (v := ?_) (some 106) rfl rfl (by kernel_rfl) (by kernel_rfl) (by kernel_rfl) (fun _ _ _ h => h) (Or.inl ⟨by kernel_rfl, ?_⟩) (by assumption) ?_
  rotate_left
  · (intro w hSw; (try dsimp only at hSw); go_simp); all_goals with_reducible rfl
  try simp only [Act.put, List.setIfInBounds_toArray, List.set_cons_zero, List.set_cons_succ]
  refine wpAnyH_takeD (i := 32) (v := ?_) (some 107) rfl rfl (by kernel_rfl) (by kernel_rfl) (by kernel_rfl) (fun _ _ _ h => h) (Or.inl ⟨by kernel_rfl, ?_⟩) (by assumption) ?_
  rotate_left
  · (intro w hSw; (try dsimp only at hSw); go_simp); all_goals with_reducible rfl
  try simp only [Act.put, List.setIfInBounds_toArray, List.set_cons_zero, List.set_cons_succ]
  refine wpAnyH_takeD (i := 33) (v := ?_) (some 108) rfl rfl (by kernel_rfl) (by kernel_rfl) (by kernel_rfl) (fun _ _ _ h => h) (Or.inl ⟨by kernel_rfl, ?_⟩) (by assumption) ?_
  rotate_left
  · (intro w hSw; (try dsimp only at hSw); go_simp); all_goals with_reducible rfl
  try simp only [Act.put, List.setIfInBounds_toArray, List.set_cons_zero, List.set_cons_succ]
  refine wpAnyH_takeD (i := 34) (v := ?_) (some 109) rfl rfl (by kernel_rfl) (by kernel_rfl) (by kernel_rfl) (fun _ _ _ h => h) (Or.inl ⟨by kernel_rfl, ?_⟩) (by assumption) ?_
  rotate_left
  · (intro w hSw; (try dsimp only at hSw); go_simp); all_goals with_reducible rfl
  try simp only [Act.put, List.setIfInBounds_toArray, List.set_cons_zero, List.set_cons_succ]
  refine wpAnyH_takeD (i := 35) (v := ?_) (some 110) rfl rfl (by kernel_rfl) (by kernel_rfl) (by kernel_rfl) (fun _ _ _ h => h) (Or.inl ⟨by kernel_rfl, ?_⟩) (by assumption) ?_
  rotate_left
  · (intro w hSw; (try dsimp only at hSw); go_simp); all_goals with_reducible rfl
  try simp only [Act.put, List.setIfInBounds_toArray, List.set_cons_zero, List.set_cons_succ]
  refine wpAnyH_takeD (i := 36) (v := ?_) (some 111) rfl rfl (by kernel_rfl) (by kernel_rfl) (by kernel_rfl) (fun _ _ _ h => h) (Or.inl ⟨by kernel_rfl, ?_⟩) (by assumption) ?_
  rotate_left
  · (intro w hSw; (try dsimp only at hSw); go_simp); all_goals with_reducible rfl
  try simp only [Act.put, List.setIfInBounds_toArray, List.set_cons_zero, List.set_cons_succ]
  refine wpAnyH_takeD (i := 37) (v := ?_) (some 112) rfl rfl (by kernel_rfl) (by kernel_rfl) (by kernel_rfl) (fun _ _ _ h => h) (Or.inl ⟨by kernel_rfl, ?_⟩) (by assumption) ?_
  rotate_left
  · (intro w hSw; (try dsimp only at hSw); go_simp); all_goals with_reducible rfl
  try simp only [Act.put, List.setIfInBounds_toArray, List.set_cons_zero, List.set_cons_succ]
  refine wpAnyH_takeD (i := 38) (v := ?_) (some 113) rfl rfl (by kernel_rfl) (by kernel_rfl) (by kernel_rfl) (fun _ _ _ h => h) (Or.inl ⟨by kernel_rfl, ?_⟩) (by assumption) ?_
  rotate_left
  · (intro w hSw; (try dsimp only at hSw); go_simp); all_goals with_reducible rfl
  try simp only [Act.put, List.setIfInBounds_toArray, List.set_cons_zero, List.set_cons_succ]
  refine wpAnyH_takeD (i := 39) (v := ?_) (some 114) rfl rfl (by kernel_rfl) (by kernel_rfl) (by kernel_rfl) (fun _ _ _ h => h) (Or.inl ⟨by kernel_rfl, ?_⟩) (by assumption) ?_
  rotate_left
  · (intro w hSw; (try dsimp only at hSw); go_simp); all_goals with_reducible rfl
  try simp only [Act.put, List.setIfInBounds_toArray, List.set_cons_zero, List.set_cons_succ]
  refine wpAnyH_takeD (i := 40) (v := ?_) (some 115) rfl rfl (by kernel_rfl) (by kernel_rfl) (by kernel_rfl) (fun _ _ _ h => h) (Or.inl ⟨by kernel_rfl, ?_⟩) (by assumption) ?_
  rotate_left
  · (intro w hSw; (try dsimp only at hSw); go_simp); all_goals with_reducible rfl
  try simp only [Act.put, List.setIfInBounds_toArray, List.set_cons_zero, List.set_cons_succ]
  refine wpAnyH_takeD (i := 41) (v := ?_) (some 116) rfl rfl (by kernel_rfl) (by kernel_rfl) (by kernel_rfl) (fun _ _ _ h => h) (Or.inl ⟨by kernel_rfl, ?_⟩) (by assumption) ?_
  rotate_left
  · (intro w hSw; (try dsimp only at hSw); go_simp); all_goals with_reducible rfl
  try simp only [Act.put, List.setIfInBounds_toArray, List.set_cons_zero, List.set_cons_succ]
  refine wpAnyH_takeD (i := 42) (v := ?_) (some 117) rfl rfl (by kernel_rfl) (by kernel_rfl) (by kernel_rfl) (fun _ _ _ h => h) (Or.inl ⟨by kernel_rfl, ?_⟩) (by assumption) ?_
  rotate_left
  · (intro w hSw; (try dsimp only at hSw); go_simp); all_goals with_reducible rfl
  try simp only [Act.put, List.setIfInBounds_toArray, List.set_cons_zero, List.set_cons_succ]
  refine wpAnyH_takeD (i := 43) (v := ?_) (some 118) rfl rfl (by kernel_rfl) (by kernel_rfl) (by kernel_rfl) (fun _ _ _ h => h) (Or.inl ⟨by kernel_rfl, ?_⟩) (by assumption) ?_
  rotate_left
  · (intro w hSw; (try dsimp only at hSw); go_simp); all_goals with_reducible rfl
  try simp only [Act.put, List.setIfInBounds_toArray, List.set_cons_zero, List.set_cons_succ]
  refine wpAnyH_takeD (i := 44) (v := ?_) (some 119) rfl rfl (by kernel_rfl) (by kernel_rfl) (by kernel_rfl) (fun _ _ _ h => h) (Or.inl ⟨by kernel_rfl, ?_⟩) (by assumption) ?_
  rotate_left
  · (intro w hSw; (try dsimp only at hSw); go_simp); all_goals with_reducible rfl
  try simp only [Act.put, List.setIfInBounds_toArray, List.set_cons_zero, List.set_cons_succ]
  refine wpAnyH_takeD (i := 45) (v := ?_) (some 120) rfl rfl (by kernel_rfl) (by kernel_rfl) (by kernel_rfl) (fun _ _ _ h => h) (Or.inl ⟨by kernel_rfl, ?_⟩) (by assumption) ?_
  rotate_left
  · (intro w hSw; (try dsimp only at hSw); go_simp); all_goals with_reducible rfl
  try simp only [Act.put, List.setIfInBounds_toArray, List.set_cons_zero, List.set_cons_succ]
  refine wpAnyH_takeD (i := 46) (v := ?_) (some 121) rfl rfl (by kernel_rfl) (by kernel_rfl) (by kernel_rfl) (fun _ _ _ h => h) (Or.inl ⟨by kernel_rfl, ?_⟩) (by assumption) ?_
  rotate_left
  · (intro w hSw; (try dsimp only at hSw); go_simp); all_goals with_reducible rfl
  try simp only [Act.put, List.setIfInBounds_toArray, List.set_cons_zero, List.set_cons_succ]
  refine wpAnyH_takeD (i := 47) (v := ?_) (some 122) rfl rfl (by kernel_rfl) (by kernel_rfl) (by kernel_rfl) (fun _ _ _ h => h) (Or.inl ⟨by kernel_rfl, ?_⟩) (by assumption) ?_
  rotate_left
  · (intro w hSw; (try dsimp only at hSw); go_simp); all_goals with_reducible rfl
  try simp only [Act.put, List.setIfInBounds_toArray, List.set_cons_zero, List.set_cons_succ]
  refine wpAnyH_takeD (i := 48) (v := ?_) (some 123) rfl rfl (by kernel_rfl) (by kernel_rfl) (by kernel_rfl) (fun _ _ _ h => h) (Or.inl ⟨by kernel_rfl, ?_⟩) (by assumption) ?_
  rotate_left
  · (intro w hSw; (try dsimp only at hSw); go_simp); all_goals with_reducible rfl
  try simp only [Act.put, List.setIfInBounds_toArray, List.set_cons_zero, List.set_cons_succ]
  refine wpAnyH_takeD (i := 49) (v := ?_) (some 124) rfl rfl (by kernel_rfl) (by kernel_rfl) (by kernel_rfl) (fun _ _ _ h => h) (Or.inl ⟨by kernel_rfl, ?_⟩) (by assumption) ?_
  rotate_left
  · (intro w hSw; (try dsimp only at hSw); go_simp); all_goals with_reducible rfl
  try simp only [Act.put, List.setIfInBounds_toArray, List.set_cons_zero, List.set_cons_succ]
  refine wpAnyH_takeD (i := 50) (v := ?_) (some 125) rfl rfl (by kernel_rfl) (by kernel_rfl) (by kernel_rfl) (fun _ _ _ h => h) (Or.inl ⟨by kernel_rfl, ?_⟩) (by assumption) ?_
  rotate_left
  · (intro w hSw; (try dsimp only at hSw); go_simp); all_goals with_reducible rfl
  try simp only [Act.put, List.setIfInBounds_toArray, List.set_cons_zero, List.set_cons_succ]
  refine wpAnyH_ready (rs := [51]) (by kernel_rfl) (by simp) ?_
  refine AllReadyH.cons rfl (fun K hK => ?_) AllReadyH.nil
  go_simp
  go_wp2_with (go_at_call 26; refine (aw_count _ hHeld.2).mono ?_; rintro e xc ⟨rfl, rfl⟩)
  refine hK.out _ _ (hHeld) (fun hHeld => ?_)
  clear hK K
  refine wpAnyH_takeD (i := 52) (v := ?_) (some 127) rfl rfl (by kernel_rfl) (by kernel_rfl) (by kernel_rfl) (fun _ _ _ h => h) (Or.inl ⟨by kernel_rfl, ?_⟩) (by assumption) ?_
  rotate_left
  · (intro w hSw; (try dsimp only at hSw); go_simp); all_goals with_reducible rfl
  try simp only [Act.put, List.setIfInBounds_toArray, List.set_cons_zero, List.set_cons_succ]
  refine wpAnyH_takeD (i := 53) (v := ?_) (some 128) rfl rfl (by kernel_rfl) (by kernel_rfl) (by kernel_rfl) (fun _ _ _ h => h) (Or.inl ⟨by kernel_rfl, ?_⟩) (by assumption) ?_
  rotate_left
  · (intro w hSw; (try dsimp only at hSw); go_simp); all_goals with_reducible rfl
  try simp only [Act.put, List.setIfInBounds_toArray, List.set_cons_zero, List.set_cons_succ]
  refine wpAnyH_takeD (i := 54) (v := ?_) (some 129) rfl rfl (by kernel_rfl) (by kernel_rfl) (by kernel_rfl) (fun _ _ _ h => h) (Or.inl ⟨by kernel_rfl, ?_⟩) (by assumption) ?_
  rotate_left
  · (intro w hSw; (try dsimp only at hSw); go_simp); all_goals with_reducible rfl
  try simp only [Act.put, List.setIfInBounds_toArray, List.set_cons_zero, List.set_cons_succ]
  refine wpAnyH_takeD (i := 55) (v := ?_) (some 130) rfl rfl (by kernel_rfl) (by kernel_rfl) (by kernel_rfl) (fun _ _ _ h => h) (Or.inl ⟨by kernel_rfl, ?_⟩) (by assumption) ?_
  rotate_left
  · (intro w hSw; (try dsimp only at hSw); go_simp); all_goals with_reducible rfl
  try simp only [Act.put, List.setIfInBounds_toArray, List.set_cons_zero, List.set_cons_succ]
  refine wpAnyH_takeD (i := 56) (v := ?_) (some 131) rfl rfl (by kernel_rfl) (by kernel_rfl) (by kernel_rfl) (fun _ _ _ h => h) (Or.inl ⟨by kernel_rfl, ?_⟩) (by assumption) ?_
  rotate_left
  · (intro w hSw; (try dsimp only at hSw); go_simp); all_goals with_reducible rfl
  try simp only [Act.put, List.setIfInBounds_toArray, List.set_cons_zero, List.set_cons_succ]
  refine wpAnyH_takeD (i := 57) (v := ?_) (some 132) rfl rfl (by kernel_rfl) (by kernel_rfl) (by kernel_rfl) (fun _ _ _ h => h) (Or.inl ⟨by kernel_rfl, ?_⟩) (by assumption) ?_
  rotate_left
  · (intro w hSw; (try dsimp only at hSw); go_simp); all_goals with_reducible rfl
  try simp only [Act.put, List.setIfInBounds_toArray, List.set_cons_zero, List.set_cons_succ]
  refine wpAnyH_takeD (i := 58) (v := ?_) (some 133) rfl rfl (by kernel_rfl) (by kernel_rfl) (by kernel_rfl) (fun _ _ _ h => h) (Or.inl ⟨by kernel_rfl, ?_⟩) (by assumption) ?_
  rotate_left
  · (intro w hSw; (try dsimp only at hSw); go_simp); all_goals with_reducible rfl
  try simp only [Act.put, List.setIfInBounds_toArray, List.set_cons_zero, List.set_cons_succ]
  refine wpAnyH_takeD (i := 59) (v := ?_) (some 134) rfl rfl (by kernel_rfl) (by kernel_rfl) (by kernel_rfl) (fun _ _ _ h => h) (Or.inl ⟨by kernel_rfl, ?_⟩) (by assumption) ?_
  rotate_left
  · (intro w hSw; (try dsimp only at hSw); go_simp); all_goals with_reducible rfl
  try simp only [Act.put, List.setIfInBounds_toArray, List.set_cons_zero, List.set_cons_succ]
  refine wpAnyH_takeD (i := 60) (v := ?_) (some 135) rfl rfl (by kernel_rfl) (by kernel_rfl) (by kernel_rfl) (fun _ _ _ h => h) (Or.inl ⟨by kernel_rfl, ?_⟩) (by assumption) ?_
  rotate_left
  · (intro w hSw; (try dsimp only at hSw); go_simp); all_goals with_reducible rfl
  try simp only [Act.put, List.setIfInBounds_toArray, List.set_cons_zero, List.set_cons_succ]
  refine wpAnyH_takeD (i := 61) (v := ?_) (some 136) rfl rfl (by kernel_rfl) (by kernel_rfl) (by kernel_rfl) (fun _ _ _ h => h) (Or.inl ⟨by kernel_rfl, ?_⟩) (by assumption) ?_
  rotate_left
  · (intro w hSw; (try dsimp only at hSw); go_simp); all_goals with_reducible rfl
  try simp only [Act.put, List.setIfInBounds_toArray, List.set_cons_zero, List.set_cons_succ]
  refine wpAnyH_takeD (i := 62) (v := ?_) (some 137) rfl rfl (by kernel_rfl) (by kernel_rfl) (by kernel_rfl) (fun _ _ _ h => h) (Or.inl ⟨by kernel_rfl, ?_⟩) (by assumption) ?_
  rotate_left
  · (intro w hSw; (try dsimp only at hSw); go_simp); all_goals with_reducible rfl
  try simp only [Act.put, List.setIfInBounds_toArray, List.set_cons_zero, List.set_cons_succ]
  refine wpAnyH_takeD (i := 63) (v := ?_) (some 138) rfl rfl (by kernel_rfl) (by kernel_rfl) (by kernel_rfl) (fun _ _ _ h => h) (Or.inl ⟨by kernel_rfl, ?_⟩) (by assumption) ?_
  rotate_left
  · (intro w hSw; (try dsimp only at hSw); go_simp); all_goals with_reducible rfl
  try simp only [Act.put, List.setIfInBounds_toArray, List.set_cons_zero, List.set_cons_succ]
  refine wpAnyH_takeD (i := 64) (v := ?_) (some 139) rfl rfl (by kernel_rfl) (by kernel_rfl) (by kernel_rfl) (fun _ _ _ h => h) (Or.inl ⟨by kernel_rfl, ?_⟩) (by assumption) ?_
  rotate_left
  · (intro w hSw; (try dsimp only at hSw); go_simp); all_goals with_reducible rfl
  try simp only [Act.put, List.setIfInBounds_toArray, List.set_cons_zero, List.set_cons_succ]
  refine wpAnyH_takeD (i := 65) (v := ?_) (some 140) rfl rfl (by kernel_rfl) (by kernel_rfl) (by kernel_rfl) (fun _ _ _ h => h) (Or.inl ⟨by kernel_rfl, ?_⟩) (by assumption) ?_
  rotate_left
  · (intro w hSw; (try dsimp only at hSw); go_simp); all_goals with_reducible rfl
  try simp only [Act.put, List.setIfInBounds_toArray, List.set_cons_zero, List.set_cons_succ]
  refine wpAnyH_ready (rs := [66]) (by kernel_rfl) (by simp) ?_
  refine AllReadyH.cons rfl (fun K hK => ?_) AllReadyH.nil
  go_simp
  go_wp2_with (go_at_call 12; refine (aw_num _).mono ?_; rintro e xn ⟨rfl, bn⟩)
  refine hK.out _ _ (aw_keep hHeld bn) (fun hHeld => ?_)
  clear hK K
  refine wpAnyH_takeD (i := 67) (v := ?_) (some 142) rfl rfl (by kernel_rfl) (by kernel_rfl) (by kernel_rfl) (fun _ _ _ h => h) (Or.inl ⟨by kernel_rfl, ?_⟩) (by assumption) ?_
  rotate_left
  · (intro w hSw; (try dsimp only at hSw); go_simp); all_goals with_reducible rfl
  try simp only [Act.put, List.setIfInBounds_toArray, List.set_cons_zero, List.set_cons_succ]
  refine wpAnyH_takeD (i := 68) (v := ?_) (some 143) rfl rfl (by kernel_rfl) (by kernel_rfl) (by kernel_rfl) (fun _ _ _ h => h) (Or.inl ⟨by kernel_rfl, ?_⟩) (by assumption) ?_
  rotate_left
  · (intro w hSw; (try dsimp only at hSw); go_simp); all_goals with_reducible rfl
  try simp only [Act.put, List.setIfInBounds_toArray, List.set_cons_zero, List.set_cons_succ]
  refine wpAnyH_takeD (i := 69) (v := ?_) (some 144) rfl rfl (by kernel_rfl) (by kernel_rfl) (by kernel_rfl) (fun _ _ _ h => h) (Or.inl ⟨by kernel_rfl, ?_⟩) (by assumption) ?_
  rotate_left
  · (intro w hSw; (try dsimp only at hSw); go_simp); all_goals with_reducible rfl
  try simp only [Act.put, List.setIfInBounds_toArray, List.set_cons_zero, List.set_cons_succ]
  refine wpAnyH_takeD (i := 70) (v := ?_) (some 145) rfl rfl (by kernel_rfl) (by kernel_rfl) (by kernel_rfl) (fun _ _ _ h => h) (Or.inl ⟨by kernel_rfl, ?_⟩) (by assumption) ?_
  rotate_left
  · (intro w hSw; (try dsimp only at hSw); go_simp); all_goals with_reducible rfl
  try simp only [Act.put, List.setIfInBounds_toArray, List.set_cons_zero, List.set_cons_succ]
  refine wpAnyH_takeD (i := 71) (v := ?_) (some 146) rfl rfl (by kernel_rfl) (by kernel_rfl) (by kernel_rfl) (fun _ _ _ h => h) (Or.inl ⟨by kernel_rfl, ?_⟩) (by assumption) ?_
  rotate_left
  · (intro w hSw; (try dsimp only at hSw); go_simp); all_goals with_reducible rfl
  try simp only [Act.put, List.setIfInBounds_toArray, List.set_cons_zero, List.set_cons_succ]
  refine wpAnyH_takeD (i := 72) (v := ?_) (some 147) rfl rfl (by kernel_rfl) (by kernel_rfl) (by kernel_rfl) (fun _ _ _ h => h) (Or.inl ⟨by kernel_rfl, ?_⟩) (by assumption) ?_
  rotate_left
  · (intro w hSw; (try dsimp only at hSw); go_simp); all_goals with_reducible rfl
  try simp only [Act.put, List.setIfInBounds_toArray, List.set_cons_zero, List.set_cons_succ]
  refine wpAnyH_takeD (i := 73) (v := ?_) (some 148) rfl rfl (by kernel_rfl) (by kernel_rfl) (by kernel_rfl) (fun _ _ _ h => h) (Or.inl ⟨by kernel_rfl, ?_⟩) (by assumption) ?_
  rotate_left
  · (intro w hSw; (try dsimp only at hSw); go_simp); all_goals with_reducible rfl
  try simp only [Act.put, List.setIfInBounds_toArray, List.set_cons_zero, List.set_cons_succ]
  refine wpAnyH_ready (rs := [74]) (by kernel_rfl) (by simp) ?_
  refine AllReadyH.cons rfl (fun K hK => ?_) AllReadyH.nil
  go_simp
  go_wp2_with (go_at_call 16; refine (Fixed_any _).mono ?_; rintro e xf ⟨rfl, _, bf⟩)
  refine hK.out _ _ (aw_keep hHeld bf) (fun hHeld => ?_)
  clear hK K
  refine wpAnyH_takeD (i := 75) (v := ?_) (some 150) rfl rfl (by kernel_rfl) (by kernel_rfl) (by kernel_rfl) (fun _ _ _ h => h) (Or.inl ⟨by kernel_rfl, ?_⟩) (by assumption) ?_
  rotate_left
  · (intro w hSw; (try dsimp only at hSw); go_simp); all_goals with_reducible rfl
  try simp only [Act.put, List.setIfInBounds_toArray, List.set_cons_zero, List.set_cons_succ]
  refine wpAnyH_takeD (i := 76) (v := ?_) (some 151) rfl rfl (by kernel_rfl) (by kernel_rfl) (by kernel_rfl) (fun _ _ _ h => h) (Or.inl ⟨by kernel_rfl, ?_⟩) (by assumption) ?_
  rotate_left
  · (intro w hSw; (try dsimp only at hSw); go_simp); all_goals with_reducible rfl
  try simp only [Act.put, List.setIfInBounds_toArray, List.set_cons_zero, List.set_cons_succ]
  refine wpAnyH_takeD (i := 77) (v := ?_) (some 152) rfl rfl (by kernel_rfl) (by kernel_rfl) (by kernel_rfl) (fun _ _ _ h => h) (Or.inl ⟨by kernel_rfl, ?_⟩) (by assumption) ?_
  rotate_left
  · (intro w hSw; (try dsimp only at hSw); go_simp); all_goals with_reducible rfl
  try simp only [Act.put, List.setIfInBounds_toArray, List.set_cons_zero, List.set_cons_succ]
  refine wpAnyH_takeD (i := 78) (v := ?_) (some 0) rfl rfl (by kernel_rfl) (by kernel_rfl) (by kernel_rfl) (fun _ _ _ h => h) (Or.inl ⟨by kernel_rfl, ?_⟩) (by assumption) ?_
  rotate_left
  · (intro w hSw; (try dsimp only at hSw); go_simp); all_goals with_reducible rfl
  try simp only [Act.put, List.setIfInBounds_toArray, List.set_cons_zero, List.set_cons_succ]
  refine wpAnyH_done (by kernel_rfl) ?_ _
  go_wp2_with fail
  go_ret
  exact ⟨rfl, hHeld.2.2.2.2.2.2.2⟩

end Go.Proofs.Ytkggjcfiomddeaa
