/- fields: contract of Writer.one. -/
import Derived.Test.YtgnoiheekgmleaaFg
namespace Go.Proofs.Ytgnoiheekgmleaa
open Go.ChangeShapes Go.WideShapes Go.RowKit
set_option linter.unusedVariables false
set_option linter.unusedSimpArgs false

/-- A field in a section that needs so many. -/
def oneF (l : List Fl) (needs : Int) (f : Fl) : ByteArray :=
  if 0 ≤ idxF fixedL f then nF (idxF fixedL f) 6 192 else if 0 ≤ idxF l f then nF (needs - 1 - idxF l f) 6 128
  else if 0 ≤ namedF f.1 then nF (namedF f.1) 4 80 ++ tF f.2 8 0 else tF f.1 4 32 ++ tF f.2 8 0

/-- What stays through a section's field. -/
abbrev OneS (w : World) (g : Nat) (n0 v0 : ByteArray) (B b : Nat) (p : Option Addr) (N cap : Nat) (S : Tbl) (w' : World) : Prop :=
  (w'.cell? ⟨g, 0, none⟩ = some (.string n0) ∧ w'.cell? ⟨g, 1, none⟩ = some (.string v0)) ∧ w'.cell? ⟨b, 0, none⟩ = some (.slice p N cap) ∧ TblIs w' B b 71 (.slice p N cap) S ∧ Below w.heap.size w w'

theorem OneS.further {w w1 x : World} {g : Nat} {n0 v0 : ByteArray} {B b : Nat} {p : Option Addr} {N cap : Nat} {S : Tbl} (h : OneS w g n0 v0 B b p N cap S w1) (bq : Below w1.heap.size w1 x) : OneS w g n0 v0 B b p N cap S x := by
  obtain ⟨h1, h2, h3, h4⟩ := h
  have h3' := h3.below bq
  exact ⟨two_below h1 bq, h3'.1.cell (k := 0) rfl, h3', h4.trans (bq.mono h4.size)⟩
theorem OneS.drew {w w1 : World} {g : Nat} {n0 v0 : ByteArray} {B b : Nat} {p : Option Addr} {N cap : Nat} {S : Tbl} (h : OneS w g n0 v0 B b p N cap S w1) : OneS w g n0 v0 B b p N cap S w1.drew :=
  h.further ((Below.refl _ _).drew)

set_option maxRecDepth 100000 in
set_option maxHeartbeats 4000000 in
theorem one_any (B b : Nat) (v : Value) (S : Tbl) (f : Fl) (m : Int) (w : World) (h : TblIs w B b 71 v S) (hok : S.Ok) (h1 : f.1.size ≤ 5000) (h2 : f.2.size ≤ 5000) (hm : 0 ≤ m ∧ m ≤ 10000) (hmi : idxF fixedL f < 0 → idxF S.l f < m) :
    Calls Try.prog 47 #[.pointer (some ⟨b, 0, none⟩), f.v, .int .i64 m] w fun e w' => e = .returned (.string (oneF S.l m f)) ∧ Below w.heap.size w w' := by
  obtain ⟨p, cap, rfl, hpn⟩ := own_shape h.2
  obtain ⟨n0, v0⟩ := f
  simp only at h1 h2
  obtain ⟨N, hN⟩ : ∃ N, S.l.length = N := ⟨_, rfl⟩
  have hNb : N ≤ 10000 := by have := hok.2.1; have := hok.2.2; omega
  have HN := Lib.hid hN
  have hbx := blk.new w 66 [.string n0, .string v0]
  have hbb : Below w.heap.size w (w.alloc (.cells [.string n0, .string v0].toArray 66)) := (Below.refl _ _).alloc (Nat.le_refl _) _
  have hbd : Below w.heap.size w (w.alloc (.cells [.string n0, .string v0].toArray 66)).drew := hbb.drew
  have hTd := h.below hbd
  have Hsz : Hid ((w.alloc (.cells #[.string n0, .string v0] 66)).drew.heap.size = w.heap.size + 1) := Lib.hid (by show (w.alloc _).heap.size = _; simp)
  rw [hN] at hTd
  have hS0 : OneS w w.heap.size n0 v0 B b p N cap S (w.alloc (.cells #[.string n0, .string v0] 66)).drew := ⟨⟨hbx.cell (k := 0) rfl, hbx.cell (k := 1) rfl⟩, hTd.1.cell (k := 0) rfl, hTd, hbd⟩
  obtain ⟨g, hg⟩ : ∃ g, w.heap.size = g := ⟨_, rfl⟩
  obtain ⟨iF, hiF⟩ : ∃ c, idxF fixedL (n0, v0) = c := ⟨_, rfl⟩
  obtain ⟨iW, hiW⟩ : ∃ c, idxF S.l (n0, v0) = c := ⟨_, rfl⟩
  obtain ⟨m0, hm0⟩ : ∃ m, namedF n0 = m := ⟨_, rfl⟩
  obtain ⟨f1, f2⟩ := idx_rng fixedL (n0, v0)
  obtain ⟨g1, g2⟩ := idx_rng S.l (n0, v0)
  obtain ⟨m1, m2⟩ := named_rng n0
  have Hnam := Lib.hid (fun w => named_any n0 w)
  have HE : Hid (oneF S.l m (n0, v0) = if 0 ≤ iF then nF iF 6 192 else if 0 ≤ iW then nF (m - 1 - iW) 6 128 else if 0 ≤ m0 then nF m0 4 80 ++ tF v0 8 0 else tF n0 4 32 ++ tF v0 8 0) := Lib.hid (by unfold oneF; rw [hiF, hiW, hm0])
  rw [hiF] at f1 f2 hmi
  rw [hiW] at g1 g2 hmi
  rw [hm0] at m1 m2 Hnam
  have hfl : (fixedL.length : Int) = 12 := rfl
  rw [hfl] at f2
  rw [hN] at g2
  rw [hg] at hS0
  have HS0 := Lib.hid hS0
  have HiF := Lib.hid hiF
  have HiW := Lib.hid hiW
  have Hg := Lib.hid hg
  have hsv : (tF v0 8 0).size ≤ 6000 := by have := tF_size v0 8 0 (by omega) h2; omega
  unfold Fl.v
  simp only
  clear hiF hiW hm0 h hok hpn hN hbx hbb hbd hTd hS0 hg
  by_cases c1 : 0 ≤ iF
  case pos =>
    rw [show oneF S.l m (n0, v0) = nF iF 6 192 from HE.out.trans (if_pos c1)]
    have hwr : IntKind.u64.wrap iF = iF := IntWalk.u64_in _ (by omega)
    have hd : decide (0 ≤ iF) = true := decide_eq_true c1
    go_enter Try.func47, Try.ntmps47
    go_wp2_with fail
    rw [Hg.out]
    go_region_held (fun w' => (w'.cell? ⟨g, 0, none⟩ = some (.string n0) ∧ w'.cell? ⟨g, 1, none⟩ = some (.string v0)) ∧ w'.cell? ⟨b, 0, none⟩ = some (.slice p N cap) ∧ TblIs w' B b 71 (.slice p N cap) S ∧ Below w.heap.size w w')
      (first | with_reducible assumption | exact HS0.out | (refine OneS.further ?_ (by with_reducible assumption); with_reducible assumption))
      (first | (go_at_call 44; refine (Fixed_any _).mono ?_; rintro e x1 ⟨rfl, hF, bq⟩; rw [Hsz.out] at hF) | (go_at_call 45; refine (Index_fix _ (n0, v0) _ hF).mono ?_; rintro e x2 ⟨he, bq⟩; rw [HiF.out] at he; subst he))
    go_wp2_with fail
    refine (number_gen _ _ _ _ (by omega) (by omega) (by omega)).mono ?_
    rintro e x5 ⟨rfl, b5⟩
    have B5 := Lib.hid (OneS.further (w := w) (g := g) (n0 := n0) (v0 := v0) (B := B) (b := b) (p := p) (N := N) (cap := cap) (S := S) (by with_reducible assumption) b5)
    go_wp2_with fail
    go_ret
    exact ⟨rfl, B5.out.2.2.2⟩
  case neg =>
    have hd : decide (0 ≤ iF) = false := decide_eq_false c1
    have hmi2 := hmi (by omega)
    clear hmi
    by_cases c2 : 0 ≤ iW
    case pos =>
      rw [show oneF S.l m (n0, v0) = nF (m - 1 - iW) 6 128 from (HE.out.trans (if_neg c1)).trans (if_pos c2)]
      have hw1 : IntKind.i64.wrap (m - 1) = m - 1 := IntWalk.i64_in _ (by omega)
      have hw2 : IntKind.i64.wrap (m - 1 - iW) = m - 1 - iW := IntWalk.i64_in _ (by omega)
      have hw3 : IntKind.u64.wrap (m - 1 - iW) = m - 1 - iW := IntWalk.u64_in _ (by omega)
      have hd2 : decide (0 ≤ iW) = true := decide_eq_true c2
      go_enter Try.func47, Try.ntmps47
      go_wp2_with fail
      rw [Hg.out]
      go_region_held (fun w' => (w'.cell? ⟨g, 0, none⟩ = some (.string n0) ∧ w'.cell? ⟨g, 1, none⟩ = some (.string v0)) ∧ w'.cell? ⟨b, 0, none⟩ = some (.slice p N cap) ∧ TblIs w' B b 71 (.slice p N cap) S ∧ Below w.heap.size w w')
        (first | with_reducible assumption | exact HS0.out | (refine OneS.further ?_ (by with_reducible assumption); with_reducible assumption))
        (first | (go_at_call 44; refine (Fixed_any _).mono ?_; rintro e x1 ⟨rfl, hF, bq⟩; rw [Hsz.out] at hF) | (go_at_call 45; refine (Index_fix _ (n0, v0) _ hF).mono ?_; rintro e x2 ⟨he, bq⟩; rw [HiF.out] at he; subst he))
      go_wp2_with fail
      go_region_held (fun w' => (w'.cell? ⟨g, 0, none⟩ = some (.string n0) ∧ w'.cell? ⟨g, 1, none⟩ = some (.string v0)) ∧ w'.cell? ⟨b, 0, none⟩ = some (.slice p N cap) ∧ TblIs w' B b 71 (.slice p N cap) S ∧ Below w.heap.size w w')
        (first | with_reducible assumption | (refine OneS.drew ?_; with_reducible assumption) | (refine OneS.further ?_ (by with_reducible assumption); with_reducible assumption))
        (first | (go_at_call 45; refine (Index_tab (n0, v0) _ (show OneS w g n0 v0 B b p N cap S _ by with_reducible assumption).2.2.1 HN.out hNb).mono ?_; rintro e x3 ⟨he, bq⟩; rw [HiW.out] at he; subst he))
      go_wp2_with fail
      refine (number_gen _ _ _ _ (by omega) (by omega) (by omega)).mono ?_
      rintro e x5 ⟨rfl, b5⟩
      have B5 := Lib.hid (OneS.further (w := w) (g := g) (n0 := n0) (v0 := v0) (B := B) (b := b) (p := p) (N := N) (cap := cap) (S := S) (by with_reducible assumption) b5)
      go_wp2_with fail
      go_ret
      exact ⟨rfl, B5.out.2.2.2⟩
    case neg =>
      have hd2 : decide (0 ≤ iW) = false := decide_eq_false c2
      have hsn : (tF n0 4 32).size ≤ 6000 := by have := tF_size n0 4 32 (by omega) h1; omega
      by_cases c3 : 0 ≤ m0
      case pos =>
        rw [show oneF S.l m (n0, v0) = nF m0 4 80 ++ tF v0 8 0 from ((HE.out.trans (if_neg c1)).trans (if_neg c2)).trans (if_pos c3)]
        have hwr : IntKind.u64.wrap m0 = m0 := IntWalk.u64_in _ (by omega)
        have hd3 : decide (0 ≤ m0) = true := decide_eq_true c3
        have hsk : (nF m0 4 80).size ≤ 3 := nF_size _ _ _ (by omega) (by omega)
        go_enter Try.func47, Try.ntmps47
        go_wp2_with fail
        rw [Hg.out]
        go_region_held (fun w' => (w'.cell? ⟨g, 0, none⟩ = some (.string n0) ∧ w'.cell? ⟨g, 1, none⟩ = some (.string v0)) ∧ w'.cell? ⟨b, 0, none⟩ = some (.slice p N cap) ∧ TblIs w' B b 71 (.slice p N cap) S ∧ Below w.heap.size w w')
          (first | with_reducible assumption | exact HS0.out | (refine OneS.further ?_ (by with_reducible assumption); with_reducible assumption))
          (first | (go_at_call 44; refine (Fixed_any _).mono ?_; rintro e x1 ⟨rfl, hF, bq⟩; rw [Hsz.out] at hF) | (go_at_call 45; refine (Index_fix _ (n0, v0) _ hF).mono ?_; rintro e x2 ⟨he, bq⟩; rw [HiF.out] at he; subst he))
        go_wp2_with fail
        go_region_held (fun w' => (w'.cell? ⟨g, 0, none⟩ = some (.string n0) ∧ w'.cell? ⟨g, 1, none⟩ = some (.string v0)) ∧ w'.cell? ⟨b, 0, none⟩ = some (.slice p N cap) ∧ TblIs w' B b 71 (.slice p N cap) S ∧ Below w.heap.size w w')
          (first | with_reducible assumption | (refine OneS.drew ?_; with_reducible assumption) | (refine OneS.further ?_ (by with_reducible assumption); with_reducible assumption))
          (first | (go_at_call 45; refine (Index_tab (n0, v0) _ (show OneS w g n0 v0 B b p N cap S _ by with_reducible assumption).2.2.1 HN.out hNb).mono ?_; rintro e x3 ⟨he, bq⟩; rw [HiW.out] at he; subst he))
        go_wp2_with fail
        refine (Hnam.out _).mono ?_
        rintro e x4 ⟨rfl, b4⟩
        have B4 : OneS w g n0 v0 B b p N cap S x4 := OneS.further (by with_reducible assumption) b4
        clear b4
        go_wp2_with fail
        go_region_held (fun w' => (w'.cell? ⟨g, 0, none⟩ = some (.string n0) ∧ w'.cell? ⟨g, 1, none⟩ = some (.string v0)) ∧ w'.cell? ⟨b, 0, none⟩ = some (.slice p N cap) ∧ TblIs w' B b 71 (.slice p N cap) S ∧ Below w.heap.size w w')
          (first | with_reducible assumption | (refine OneS.drew ?_; with_reducible assumption) | (refine OneS.further ?_ (by with_reducible assumption); with_reducible assumption))
          (first | (go_at_call 46; refine (number_gen _ _ _ _ (by omega) (by omega) (by omega)).mono ?_; rintro e x6 ⟨rfl, b6⟩) | (go_at_call 70; refine (text_gen _ _ _ _ (by assumption) (by omega) (by omega)).mono ?_; rintro e x7 ⟨rfl, b7⟩))
        all_goals go_wp2_with fail
        all_goals
          go_ret
          exact ⟨rfl, (show OneS w g n0 v0 B b p N cap S _ by with_reducible assumption).2.2.2⟩
      case neg =>
        rw [show oneF S.l m (n0, v0) = tF n0 4 32 ++ tF v0 8 0 from ((HE.out.trans (if_neg c1)).trans (if_neg c2)).trans (if_neg c3)]
        have hd3 : decide (0 ≤ m0) = false := decide_eq_false c3
        go_enter Try.func47, Try.ntmps47
        go_wp2_with fail
        rw [Hg.out]
        go_region_held (fun w' => (w'.cell? ⟨g, 0, none⟩ = some (.string n0) ∧ w'.cell? ⟨g, 1, none⟩ = some (.string v0)) ∧ w'.cell? ⟨b, 0, none⟩ = some (.slice p N cap) ∧ TblIs w' B b 71 (.slice p N cap) S ∧ Below w.heap.size w w')
          (first | with_reducible assumption | exact HS0.out | (refine OneS.further ?_ (by with_reducible assumption); with_reducible assumption))
          (first | (go_at_call 44; refine (Fixed_any _).mono ?_; rintro e x1 ⟨rfl, hF, bq⟩; rw [Hsz.out] at hF) | (go_at_call 45; refine (Index_fix _ (n0, v0) _ hF).mono ?_; rintro e x2 ⟨he, bq⟩; rw [HiF.out] at he; subst he))
        go_wp2_with fail
        go_region_held (fun w' => (w'.cell? ⟨g, 0, none⟩ = some (.string n0) ∧ w'.cell? ⟨g, 1, none⟩ = some (.string v0)) ∧ w'.cell? ⟨b, 0, none⟩ = some (.slice p N cap) ∧ TblIs w' B b 71 (.slice p N cap) S ∧ Below w.heap.size w w')
          (first | with_reducible assumption | (refine OneS.drew ?_; with_reducible assumption) | (refine OneS.further ?_ (by with_reducible assumption); with_reducible assumption))
          (first | (go_at_call 45; refine (Index_tab (n0, v0) _ (show OneS w g n0 v0 B b p N cap S _ by with_reducible assumption).2.2.1 HN.out hNb).mono ?_; rintro e x3 ⟨he, bq⟩; rw [HiW.out] at he; subst he))
        go_wp2_with fail
        refine (Hnam.out _).mono ?_
        rintro e x4 ⟨rfl, b4⟩
        have B4 : OneS w g n0 v0 B b p N cap S x4 := OneS.further (by with_reducible assumption) b4
        clear b4
        go_wp2_with fail
        go_region_held (fun w' => (w'.cell? ⟨g, 0, none⟩ = some (.string n0) ∧ w'.cell? ⟨g, 1, none⟩ = some (.string v0)) ∧ w'.cell? ⟨b, 0, none⟩ = some (.slice p N cap) ∧ TblIs w' B b 71 (.slice p N cap) S ∧ Below w.heap.size w w')
          (first | with_reducible assumption | (refine OneS.drew ?_; with_reducible assumption) | (refine OneS.further ?_ (by with_reducible assumption); with_reducible assumption))
          (first | (go_at_call 70; refine (text_gen _ _ _ _ (by assumption) (by omega) (by omega)).mono ?_; rintro e x7 ⟨rfl, b7⟩))
        all_goals go_wp2_with fail
        all_goals
          go_ret
          exact ⟨rfl, (show OneS w g n0 v0 B b p N cap S _ by with_reducible assumption).2.2.2⟩

end Go.Proofs.Ytgnoiheekgmleaa
