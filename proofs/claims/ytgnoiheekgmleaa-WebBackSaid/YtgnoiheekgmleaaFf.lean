/- fields: a table that fields come to; contracts of newTable, NewWriter, NewReader, Count, add. -/
import Derived.Test.YtgnoiheekgmleaaFe
import Derived.Deep.DeepCutAuto
namespace Go.Proofs.Ytgnoiheekgmleaa
open Go.ChangeShapes Go.WideShapes Go.RowKit
set_option linter.unusedVariables false

/-- A table: what came, its most, its size. -/
structure Tbl where
  l : List Fl
  most : Nat
  size : Nat

def Tbl.cells (S : Tbl) (v : Value) : List Value := [v, .int .i64 (S.most : Int), .int .i64 (S.size : Int)]
/-- Block b is this table; what came lies behind v. -/
def TblIs (w : World) (B b : Nat) (T : TypeId) (v : Value) (S : Tbl) : Prop := blk w b T (S.cells v) ∧ w.ownsRow B 66 2 v S.l.length (flc S.l)
/-- The size is what the fields weigh; there's room. -/
def Tbl.Ok (S : Tbl) : Prop := S.most ≤ 65536 ∧ S.size ≤ 65536 ∧ S.l.length * 32 ≤ S.size

def weigh (f : Fl) : Nat := f.1.size + f.2.size + 32
def addF (S : Tbl) (f : Fl) : Tbl × Bool := if S.most < S.size + weigh f then (S, false) else (⟨S.l ++ [f], S.most, S.size + weigh f⟩, true)

theorem Tbl.Ok.add {S : Tbl} (h : S.Ok) (f : Fl) : (addF S f).1.Ok := by
  obtain ⟨h1, h2, h3⟩ := h
  unfold addF
  by_cases hr : S.most < S.size + weigh f
  · rw [if_pos hr]; exact ⟨h1, h2, h3⟩
  · rw [if_neg hr]
    refine ⟨h1, by show S.size + weigh f ≤ 65536; omega, ?_⟩
    show (S.l ++ [f]).length * 32 ≤ S.size + weigh f
    rw [List.length_append, List.length_singleton]
    unfold weigh
    omega

theorem flc_append (L M : List Fl) : flc (L ++ M) = flc L ++ flc M := by unfold flc; rw [List.flatMap_append]

theorem FV.of_tab {w : World} {B b : Nat} {T : TypeId} {p : Option Addr} {n cap : Nat} {S : Tbl} (h : w.ownsRow B 66 2 (.slice p n cap) S.l.length (flc S.l)) : FV w p S.l := by
  intro hl
  obtain ⟨g, cap', hv, hb, hg, hc, _⟩ := own_view h hl
  injection hv with hv1 hv2 hv3
  refine ⟨g, 0, hv1, hg, fun i f hf => ?_⟩
  obtain ⟨h1, h2⟩ := flc_at S.l i f hf
  rw [Nat.zero_add]
  exact ⟨hc _ _ h1, hc _ _ h2⟩

theorem TblIs.below {w w' : World} {B b : Nat} {T : TypeId} {v : Value} {S : Tbl} (h : TblIs w B b T v S) (hb : Below w.heap.size w w') : TblIs w' B b T v S := ⟨h.1.below hb h.1.lt, own_below h.2 hb⟩

theorem Try.infoF : (Try.prog.info? 66).map (fun i => (i.zero, i.size, i.bytes)) = some (some (.agg #[.string ⟨#[]⟩, .string ⟨#[]⟩]), 2, 32) := by kernel_rfl

def mostF (m : Int) : Nat := (min (max m 0) 65536).toNat
theorem mostF_le (m : Int) : mostF m ≤ 65536 := by unfold mostF; omega
theorem mostF_eq (m : Int) : ((mostF m : Nat) : Int) = min (max m 0) 65536 := by unfold mostF; omega

theorem newTable_any (m : Int) (hm : IntKind.i64.wrap m = m) (w : World) :
    Calls Try.prog 26 #[.int .i64 m] w fun e w' => e = .returned (.agg #[.slice none 0 0, .int .i64 (mostF m : Int), .int .i64 0]) ∧ Below w.heap.size w w' := by
  have he := mostF_eq m
  have hb1 : blk (w.alloc (.cells [.slice none 0 0, .int .i64 (min (max m 0) 65536), .int .i64 0].toArray 68)) w.heap.size 68 [.slice none 0 0, .int .i64 (min (max m 0) 65536), .int .i64 0] := blk.new w _ _
  have HB : Hid (Below w.heap.size w (w.alloc (.cells #[.slice none 0 0, .int .i64 (min (max m 0) 65536), .int .i64 0] 68))) := Lib.hid ((Below.refl _ _).alloc (Nat.le_refl _) _)
  have x0 := hb1.cell (k := 0) rfl
  have x1 := hb1.cell (k := 1) rfl
  have x2 := hb1.cell (k := 2) rfl
  rw [he]
  clear he hb1
  go_enter Try.func26, Try.ntmps26
  go_wp2_with fail
  refine bodyPost_ret (v := .agg #[.slice none 0 0, .int .i64 (min (max m 0) 65536), .int .i64 0]) (by simp [results, Try.results26, go_sem, x0, x1, x2]) rfl ⟨rfl, HB.out⟩

theorem NewWriter_any (m : Int) (hm : IntKind.i64.wrap m = m) (w : World) :
    Calls Try.prog 8 #[.int .i64 m] w fun e w' => ∃ b, e = .returned (.pointer (some ⟨b, 0, none⟩)) ∧ w.heap.size ≤ b ∧ blk w' b 71 (Tbl.cells ⟨[], mostF m, 0⟩ (.slice none 0 0)) ∧ Below w.heap.size w w' := by
  have HN := Lib.hid (fun w => newTable_any m hm w)
  go_enter Try.func8, Try.ntmps8
  go_wp2_with fail
  refine (HN.out _).mono ?_
  rintro e w1 ⟨rfl, b1⟩
  have B1 := Lib.hid (b1.alloc b1.size (.cells #[.slice none 0 0, .int .i64 (mostF m : Int), .int .i64 0] 71))
  have B2 := Lib.hid (blk.new w1 71 (Tbl.cells ⟨[], mostF m, 0⟩ (.slice none 0 0)))
  have B3 := b1.size
  clear b1
  go_wp2_with fail
  go_ret
  exact ⟨w1.heap.size, rfl, B3, B2.out, B1.out⟩

theorem NewReader_any (m : Int) (hm : IntKind.i64.wrap m = m) (w : World) :
    Calls Try.prog 18 #[.int .i64 m] w fun e w' => ∃ b, e = .returned (.pointer (some ⟨b, 0, none⟩)) ∧ w.heap.size ≤ b ∧ blk w' b 89 (Tbl.cells ⟨[], mostF m, 0⟩ (.slice none 0 0)) ∧ Below w.heap.size w w' := by
  have HN := Lib.hid (fun w => newTable_any m hm w)
  go_enter Try.func18, Try.ntmps18
  go_wp2_with fail
  refine (HN.out _).mono ?_
  rintro e w1 ⟨rfl, b1⟩
  have B1 := Lib.hid (b1.alloc b1.size (.cells #[.slice none 0 0, .int .i64 (mostF m : Int), .int .i64 0] 89))
  have B2 := Lib.hid (blk.new w1 89 (Tbl.cells ⟨[], mostF m, 0⟩ (.slice none 0 0)))
  have B3 := b1.size
  clear b1
  go_wp2_with fail
  go_ret
  exact ⟨w1.heap.size, rfl, B3, B2.out, B1.out⟩

theorem add_end {B b : Nat} {T : TypeId} {v v4 : Value} {S : Tbl} {f : Fl} {w w3 w4 : World} {N SN most : Nat} (hb : b < w3.heap.size) (hT : T ≠ 66) (hW : blk w3 b T [v, .int .i64 (most : Int), .int .i64 (SN : Int)])
    (hN2 : Only (fun k => k = b ∨ v.ownBlock = some k) w w3) (hnb : v.ownBlock ≠ some b) (hM : S.most = most) (hS : S.size + (f.1.size + f.2.size + 32) = SN) (hN : S.l.length = N)
    (hon : Only (fun k => v.ownBlock = some k) w3.drew w4) (ho : w4.ownsRow B 66 2 v4 (N + 1) (flc S.l ++ [.string f.1, .string f.2])) (hat : v4.ownBlock = v.ownBlock ∨ v4.ownBlock = some (w3.drew.heap.size + 1)) :
    ∃ v', TblIs (w4.setCell ⟨b, 0, none⟩ v4) B b T v' ⟨S.l ++ [f], S.most, S.size + (f.1.size + f.2.size + 32)⟩ ∧ Only (fun k => k = b ∨ v.ownBlock = some k) w (w4.setCell ⟨b, 0, none⟩ v4) ∧ (v'.ownBlock = v.ownBlock ∨ ∀ k, v'.ownBlock = some k → w.heap.size ≤ k) := by
  have h4 : blk w4 b T [v, .int .i64 (most : Int), .int .i64 (SN : Int)] := blk.only (blk.drew hW) hon hnb
  have hne : v4.ownBlock ≠ some b := own_ne ho h4 hT
  refine ⟨v4, ⟨?_, ?_⟩, ?_, ?_⟩
  · have := blk.set h4 0 v4
    unfold Tbl.cells
    simp only
    rw [hM, hS]
    exact this
  · have : (w4.setCell ⟨b, 0, none⟩ v4).ownsRow B 66 2 v4 (N + 1) (flc S.l ++ [.string f.1, .string f.2]) := ownsRow_setCell_other ho (a := ⟨b, 0, none⟩) hne _
    simp only [List.length_append, List.length_singleton, flc_append]
    rw [hN]
    exact this
  · exact Only.setCell (p := ⟨b, 0, none⟩) (hN2.then ((Only.drew (Only.refl _ _)).trans hon) (fun i hi => .inl (.inr hi))) (.inl (.inl rfl)) _
  · rcases hat with h | h
    · exact .inl h
    · refine .inr (fun k hk => ?_)
      rw [h] at hk
      injection hk with hk
      have := hN2.size
      have : w3.drew.heap.size = w3.heap.size := rfl
      omega

set_option maxRecDepth 100000 in
set_option maxHeartbeats 1000000 in
theorem add_any (B b : Nat) (T : TypeId) (v : Value) (S : Tbl) (f : Fl) (w : World) (h : TblIs w B b T v S) (hok : S.Ok) (hB : B ≤ w.heap.size) (hBb : B ≤ b) (hT : T ≠ 66) (h1 : f.1.size ≤ 1000000) (h2 : f.2.size ≤ 1000000) :
    Calls Try.prog 36 #[.pointer (some ⟨b, 0, none⟩), f.v] w fun e w' => e = .returned (.bool (addF S f).2) ∧ ∃ v', TblIs w' B b T v' (addF S f).1 ∧ Only (fun k => k = b ∨ v.ownBlock = some k) w w' ∧ (v'.ownBlock = v.ownBlock ∨ ∀ k, v'.ownBlock = some k → w.heap.size ≤ k) := by
  obtain ⟨hL, hO⟩ := h
  obtain ⟨p, cap, rfl, hpn⟩ := own_shape hO
  obtain ⟨N, hN⟩ : ∃ N, S.l.length = N := ⟨_, rfl⟩
  obtain ⟨o1, o2, o3⟩ := hok
  have hbl := hL.lt
  have c0 : w.cell? ⟨b, 0, none⟩ = some (.slice p S.l.length cap) := hL.cell rfl
  have c1 : w.cell? ⟨b, 1, none⟩ = some (.int .i64 (S.most : Int)) := hL.cell rfl
  have c2 : w.cell? ⟨b, 2, none⟩ = some (.int .i64 (S.size : Int)) := hL.cell rfl
  have hf := hL.free
  obtain ⟨most, hM⟩ : ∃ x, S.most = x := ⟨_, rfl⟩
  obtain ⟨sz, hS⟩ : ∃ x, S.size = x := ⟨_, rfl⟩
  obtain ⟨n0, v0⟩ := f
  simp only at h1 h2
  have hbx := blk.new w 66 [.string n0, .string v0]
  have hbb : Below w.heap.size w (w.alloc (.cells [.string n0, .string v0].toArray 66)) := (Below.refl _ _).alloc (Nat.le_refl _) _
  rw [hN] at c0
  rw [hM] at c1
  rw [hS] at c2
  rw [hM] at o1
  rw [hS] at o2 o3
  rw [hN] at o3
  by_cases hr : most < sz + (n0.size + v0.size + 32)
  · have e1 : addF S (n0, v0) = (S, false) := by unfold addF weigh; rw [if_pos (by rw [hM, hS]; exact hr)]
    rw [e1]
    have hE := Lib.hid (And.intro (And.intro (hL.below hbb hbl) (own_below hO hbb)) (Only.ofBelow (S := fun k => k = b ∨ (Value.slice p S.l.length cap).ownBlock = some k) hbb))
    have d1 : decide ((most : Int) < (sz : Int) + ((n0.size : Int) + (v0.size : Int) + 32)) = true := by rw [decide_eq_true_iff]; omega
    unfold Fl.v
    simp only
    clear e1 hbx hbb hL hO hN hM hS hr hpn
    go_enter Try.func36, Try.ntmps36
    go_wp2_with fail
    go_quiet (fail)
    go_wp2_with fail
    go_ret
    exact ⟨rfl, _, ⟨hE.out.1.1.drewN _, own_below hE.out.1.2 (below_drewN (Below.refl _ _) _)⟩, hE.out.2.drewN _, .inl rfl⟩
  · have e1 : addF S (n0, v0) = (⟨S.l ++ [(n0, v0)], S.most, S.size + (n0.size + v0.size + 32)⟩, true) := by unfold addF weigh; rw [if_neg (by rw [hM, hS]; exact hr)]
    rw [e1]
    have HE := Lib.hid e1
    have d1 : decide ((most : Int) < (sz : Int) + ((n0.size : Int) + (v0.size : Int) + 32)) = false := by rw [decide_eq_false_iff_not]; omega
    have hf2 := hf 2
    unfold Fl.v
    simp only
    clear e1
    have hcast : (sz : Int) + ((n0.size : Int) + (v0.size : Int) + 32) = ((sz + (n0.size + v0.size + 32) : Nat) : Int) := by push_cast; rfl
    obtain ⟨SN, hSN⟩ : ∃ x, sz + (n0.size + v0.size + 32) = x := ⟨_, rfl⟩
    rw [hSN] at hcast hr
    go_enter Try.func36, Try.ntmps36
    go_wp2_with fail
    go_quiet (fail)
    go_wp2_with fail
    have hw2 : blk (((w.alloc (.cells #[.string n0, .string v0] 66)).drewN nq).setCell ⟨b, 2, none⟩ (.int .i64 (SN : Int))) b T [.slice p S.l.length cap, .int .i64 (S.most : Int), .int .i64 (SN : Int)] := ((hL.below hbb hbl).drewN nq).set 2 _
    have hx2 : blk (((w.alloc (.cells #[.string n0, .string v0] 66)).drewN nq).setCell ⟨b, 2, none⟩ (.int .i64 (SN : Int))) w.heap.size 66 [.string n0, .string v0] := (hbx.drewN nq).set_other (by show b ≠ w.heap.size; omega) _
    have ho2 : (((w.alloc (.cells #[.string n0, .string v0] 66)).drewN nq).setCell ⟨b, 2, none⟩ (.int .i64 (SN : Int))).ownsRow B 66 2 (.slice p S.l.length cap) S.l.length (flc S.l) := ownsRow_setCell_other (own_below hO (below_drewN hbb nq)) (a := ⟨b, 2, none⟩) (own_ne hO hL hT) _
    have hn2 : Only (fun k => k = b ∨ (Value.slice p S.l.length cap).ownBlock = some k) w (((w.alloc (.cells #[.string n0, .string v0] 66)).drewN nq).setCell ⟨b, 2, none⟩ (.int .i64 (SN : Int))) := Only.setCell (p := ⟨b, 2, none⟩) ((Only.ofBelow hbb).drewN nq) (.inl (.inl rfl)) _
    generalize World.setCell (World.drewN (w.alloc _) _) _ _ = w3 at *
    rw [hN] at hw2 ho2 hn2
    rw [hM] at hw2
    have e0 := hw2.cell (k := 0) rfl
    have e1 := hw2.cell (k := 1) rfl
    have e2 := hw2.cell (k := 2) rfl
    have e3 := hx2.cell (k := 0) rfl
    have e4 := hx2.cell (k := 1) rfl
    have hfb := hw2.free 0
    obtain ⟨i0, hi0, hz0, hz1, hz2⟩ := info_parts Try.infoF
    have hB3 : B ≤ w3.heap.size := Nat.le_trans hB hn2.size
    have hbl3 : b < w3.heap.size := hw2.lt
    have hnb : ¬ (Value.slice p N cap).ownBlock = some b := own_ne ho2 hw2 hT
    have hNb : N ≤ 1000000 := by omega
    have HO3 := Lib.hid ho2
    have HW2 := Lib.hid hw2
    have HN2 := Lib.hid hn2
    have Hnb := Lib.hid hnb
    have Hsz := Lib.hid hn2.size
    have Hs := Lib.hid (And.intro hM (And.intro hS (And.intro hSN hN)))
    clear c0 c1 c2 hL hO hbx hbb hw2 hx2 ho2 hn2 hnb d1 hf hf2 HE hpn hcast hSN hr hM hS hN
    go_region_law ((refine step_append_new w3.drew _ rfl (.tmp 37) (.tmp 39) 29 rfl B 66 i0 _ 2 32 Try.underlying29 hi0 hz0 hz1 hz2 rfl (by decide) (.slice p N cap) N (flc S.l) HO3.out [.string n0, .string v0] _ rfl rfl (by intro u hu; simp at hu; rcases hu with rfl | rfl <;> rfl) hNb (by decide) hB3 rfl (by simp [Act.eval]) (by simp [Act.eval]) ?_); (intro v4 w4 ho4 hon4 hat4; obtain ⟨p4, cap4, hv4, _⟩ := own_shape ho4; subst hv4; have f4 := (hon4.cell (p := ⟨b, 0, none⟩) hbl3 Hnb.out).trans e0; have f5 := (hon4.frozen (p := ⟨b, 0, none⟩) hbl3 Hnb.out).trans hfb; have Hon4 := Lib.hid hon4; have Ho4 := Lib.hid ho4; have Hat4 := Lib.hid hat4; clear hon4 ho4 hat4))
    all_goals go_wp2_with fail
    all_goals
      go_ret
      obtain ⟨q1, q2, q3, q4⟩ := Hs.out
      refine ⟨rfl, ?_⟩
      rw [q4]
      exact add_end (f := (n0, v0)) hbl3 hT HW2.out HN2.out Hnb.out q1 (by rw [q2]; exact q3) q4 Hon4.out Ho4.out Hat4.out

end Go.Proofs.Ytgnoiheekgmleaa
