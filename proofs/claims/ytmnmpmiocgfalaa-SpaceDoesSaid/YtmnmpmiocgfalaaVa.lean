/- Printed by wip/tools/does_tpl.py out of texts of other layers. -/
import Derived.Test.YtmnmpmiocgfalaaSm

namespace Go.Proofs.Ytmnmpmiocgfalaa
open Go.ChangeShapes Go.WideShapes Go.RowKit
set_option linter.unusedVariables false

/-- The reference's ledger lies in block b: the same numbers. -/
structure ROwns (B b : Nat) (v : Value) (S : Lg) (w : World) : Prop where
  led : blk w b 80 [v, .int .i64 (sg S.li S.ln), .int .i64 (sg S.bi S.bn)]
  own : w.ownsRow B 103 5 v S.op.length (pks S.op)
  bw : B ≤ w.heap.size
  bb : B ≤ b

theorem ROwns.next {B b : Nat} {v : Value} {S : Lg} {w w' : World} (h : ROwns B b v S w) (hb : Below w.heap.size w w') : ROwns B b v S w' :=
  ⟨h.led.below hb h.led.lt, own_below h.own hb, Nat.le_trans h.bw hb.size, h.bb⟩
theorem ROwns.only {P : Nat → Prop} {B b : Nat} {v : Value} {S : Lg} {w w' : World} (h : ROwns B b v S w) (ho : Only P w w') (hb : ¬ P b) (hv : ∀ k, v.ownBlock = some k → ¬ P k) : ROwns B b v S w' :=
  ⟨h.led.only ho hb, own_only h.own ho hv, Nat.le_trans h.bw ho.size, h.bb⟩

/-- What it has come to behind a call. -/
def RCame (B b : Nat) (v : Value) (w : World) (S' : Lg) (v' : Value) (w' : World) : Prop :=
  ROwns B b v' S' w' ∧ Only (fun k => k = b ∨ v.ownBlock = some k) w w' ∧ (v'.ownBlock = v.ownBlock ∨ ∀ k, v'.ownBlock = some k → w.heap.size ≤ k)
theorem RCame.same {B b : Nat} {v : Value} {S : Lg} {w w' : World} (h : ROwns B b v S w) (hb : Below w.heap.size w w') : RCame B b v w S v w' := ⟨h.next hb, Only.ofBelow hb, .inl rfl⟩

theorem Try.infoR10 : (Try.prog.info? 103).map (fun i => (i.zero, i.size, i.bytes)) = some (some (.agg #[.int .u64 0, .int .u64 0, .int .u64 0, .bool false, .slice none 0 0]), 5, 56) := by kernel_rfl

theorem rNew_any (w : World) : Calls Try.prog 60 #[] w fun e w' => e = .returned (.pointer (some ⟨w.heap.size, 0, none⟩)) ∧ w' = w.alloc (.cells #[.slice none 0 0, .int .i64 (-1), .int .i64 (-1)] 80) := by
  go_enter Try.func60, Try.ntmps60
  go_wp2_with fail
  go_ret
  exact ⟨rfl, rfl⟩

theorem sg_bounds {is : Bool} {n : Nat} (h : n ≤ 4611686018427387903) : -1 ≤ sg is n ∧ sg is n ≤ 4611686018427387903 := by
  unfold sg
  split <;> omega

theorem bad_sg {S : Lg} {num : Nat} (hI : Inv S) : badNum S num = (decide (4611686018427387904 ≤ num) || decide ((num : Int) ≤ sg S.li S.ln)) := by
  unfold badNum sg
  have e1 : decide (4611686018427387903 < num) = decide (4611686018427387904 ≤ num) := by rw [decide_eq_decide]; omega
  rw [e1]
  congr 1
  cases S.li with
  | false =>
    rw [if_neg Bool.false_ne_true, Bool.false_and]
    have : decide ((num : Int) ≤ -1) = false := by rw [decide_eq_false_iff_not]; omega
    rw [this]
  | true =>
    rw [if_pos rfl, Bool.true_and, decide_eq_decide]
    omega

set_option maxRecDepth 100000 in
set_option maxHeartbeats 1000000 in
theorem rSent_bad (b : Nat) (la : Int) (w : World) (num time size : Nat) (asks : Bool) (fa : Option Addr) (fl fc : Nat) (hbl : b < w.heap.size) (c1 : w.cell? ⟨b, 1, none⟩ = some (.int .i64 la)) (hla : -1 ≤ la ∧ la ≤ 4611686018427387903)
    (hnum : num < 2 ^ 64) (hbad : (decide (4611686018427387904 ≤ num) || decide ((num : Int) ≤ la) || decide (1099511627776 < time) || decide (1099511627776 < size)) = true) :
    Calls Try.prog 61 #[.pointer (some ⟨b, 0, none⟩), .agg #[.int .u64 (num : Int), .int .u64 (time : Int), .int .u64 (size : Int), .bool asks, .slice fa fl fc]] w fun e w' => e = .returned (.int .i64 3) ∧ Below w.heap.size w w' := by
  obtain ⟨hl1, hl2⟩ := hla
  by_cases h1 : 4611686018427387904 ≤ num
  · have d1 : decide ((4611686018427387904 : Int) ≤ (num : Int)) = true := by rw [decide_eq_true_iff]; omega
    clear hbad
    go_enter Try.func61, Try.ntmps61
    go_wp2_with fail
    go_quiet (fail)
    go_wp2_with fail
    go_ret
    exact ⟨rfl, below_drewN ((Below.refl _ _).alloc (Nat.le_refl _) _) _⟩
  · have d1 : decide ((4611686018427387904 : Int) ≤ (num : Int)) = false := by rw [decide_eq_false_iff_not]; omega
    have e1 : decide (4611686018427387904 ≤ num) = false := by rw [decide_eq_false_iff_not]; exact h1
    have hn63 : num < 4611686018427387904 := by omega
    rw [e1, Bool.false_or] at hbad
    clear e1 hnum h1
    by_cases h2 : (num : Int) ≤ la
    · have d2 : decide ((num : Int) ≤ la) = true := by rw [decide_eq_true_iff]; exact h2
      clear hbad
      go_enter Try.func61, Try.ntmps61
      go_wp2_with fail
      go_quiet (fail)
      go_wp2_with fail
      go_ret
      exact ⟨rfl, below_drewN ((Below.refl _ _).alloc (Nat.le_refl _) _) _⟩
    · have d2 : decide ((num : Int) ≤ la) = false := by rw [decide_eq_false_iff_not]; exact h2
      rw [d2, Bool.false_or] at hbad
      by_cases h3 : 1099511627776 < time
      · have d3 : decide ((1099511627776 : Int) < (time : Int)) = true := by rw [decide_eq_true_iff]; omega
        clear hbad
        go_enter Try.func61, Try.ntmps61
        go_wp2_with fail
        go_quiet (fail)
        go_wp2_with fail
        go_ret
        exact ⟨rfl, below_drewN ((Below.refl _ _).alloc (Nat.le_refl _) _) _⟩
      · have d3 : decide ((1099511627776 : Int) < (time : Int)) = false := by rw [decide_eq_false_iff_not]; omega
        have h4 : 1099511627776 < size := by
          simp only [Bool.or_eq_true, decide_eq_true_eq] at hbad
          omega
        have d4 : decide ((1099511627776 : Int) < (size : Int)) = true := by rw [decide_eq_true_iff]; omega
        clear hbad
        go_enter Try.func61, Try.ntmps61
        go_wp2_with fail
        go_quiet (fail)
        go_wp2_with fail
        go_ret
        exact ⟨rfl, below_drewN ((Below.refl _ _).alloc (Nat.le_refl _) _) _⟩

theorem rSent_end {B b N num time size : Nat} {asks : Bool} {fa : Option Addr} {fl fc : Nat} {p p4 : Option Addr} {cap cap4 : Nat} {S : Lg} {w w2 w4 : World} (hN : N = S.op.length) (h : ROwns B b (.slice p S.op.length cap) S w) (h2 : Below w.heap.size w w2) (h4 : Below w2.heap.size w2 w4)
    (ho : w4.ownsRow w2.heap.size 103 5 (.slice p4 (N + 1) cap4) (N + 1) (pks S.op ++ [.int .u64 (num : Int), .int .u64 (time : Int), .int .u64 (size : Int), .bool asks, .slice fa fl fc])) :
    ∃ v', RCame B b (.slice p S.op.length cap) w { S with op := S.op ++ [⟨num, time, size, asks, fa, fl, fc⟩], ln := num, li := true } v' ((w4.setCell ⟨b, 0, none⟩ (.slice p4 (N + 1) cap4)).setCell ⟨b, 1, none⟩ (.int .i64 (num : Int))) := by
  have hbl := h.led.lt
  have hs2 := h2.size
  have hs4 := h4.size
  have h24 : Below w.heap.size w w4 := h2.trans (h4.mono hs2)
  have hnew : ∀ k, (Value.slice p4 (N + 1) cap4).ownBlock = some k → w2.heap.size ≤ k := fun k e => (ho.lt k e).1
  have hob : Only (fun k => k = b) w4 ((w4.setCell ⟨b, 0, none⟩ (.slice p4 (N + 1) cap4)).setCell ⟨b, 1, none⟩ (.int .i64 (num : Int))) := ((Only.refl (fun k => k = b) w4).setCell (p := ⟨b, 0, none⟩) (.inl rfl) _).setCell (p := ⟨b, 1, none⟩) (.inl rfl) _
  refine ⟨.slice p4 (N + 1) cap4, ⟨?_, ?_, Nat.le_trans h.bw (Nat.le_trans h24.size hob.size), h.bb⟩, ?_, .inr fun k e => Nat.le_trans hs2 (hnew k e)⟩
  · have := ((h.led.below h24 hbl).set 0 (.slice p4 (N + 1) cap4)).set 1 (.int .i64 (num : Int))
    exact this
  · have h5 := own_base (base' := B) (own_only ho hob (fun k e e2 => by have := hnew k e; omega)) (Nat.le_trans h.bw hs2)
    rw [hN] at h5 ⊢
    show World.ownsRow _ B _ 5 _ ((S.op ++ [_]).length) (pks (S.op ++ [_]))
    rw [List.length_append]
    rw [pks_append, pks_one]
    exact h5
  · exact (Only.ofBelow h24).then hob (fun k e => .inl (.inl e))

set_option maxRecDepth 100000 in
set_option maxHeartbeats 2000000 in
theorem rSent_ok (B b : Nat) (v : Value) (S : Lg) (w : World) (num time size : Nat) (asks : Bool) (fa : Option Addr) (fl fc : Nat) (h : ROwns B b v S w) (hla : -1 ≤ sg S.li S.ln ∧ sg S.li S.ln ≤ 4611686018427387903)
    (h1 : num < 4611686018427387904) (h2 : ¬ (num : Int) ≤ sg S.li S.ln) (h3 : time ≤ 1099511627776) (h4 : size ≤ 1099511627776) (h5 : S.op.length < 500) :
    Calls Try.prog 61 #[.pointer (some ⟨b, 0, none⟩), .agg #[.int .u64 (num : Int), .int .u64 (time : Int), .int .u64 (size : Int), .bool asks, .slice fa fl fc]] w fun e w' => e = .returned (.int .i64 0) ∧
      ∃ v', RCame B b v w { S with op := S.op ++ [⟨num, time, size, asks, fa, fl, fc⟩], ln := num, li := true } v' w' := by
  obtain ⟨hl1, hl2⟩ := hla
  have hO := h.own
  obtain ⟨p, cap, rfl, hpn⟩ := own_shape hO
  have hbl := h.led.lt
  have c0 := h.led.cell (k := 0) rfl
  have c1 := h.led.cell (k := 1) rfl
  obtain ⟨N, hN⟩ : ∃ N, S.op.length = N := ⟨_, rfl⟩
  obtain ⟨la, hlae⟩ : ∃ x, sg S.li S.ln = x := ⟨_, rfl⟩
  rw [hN] at c0 h5 hO
  rw [hlae] at c1 hl1 hl2 h2
  have d1 : decide ((4611686018427387904 : Int) ≤ (num : Int)) = false := by rw [decide_eq_false_iff_not]; omega
  have d2 : decide ((num : Int) ≤ la) = false := by rw [decide_eq_false_iff_not]; exact h2
  have d3 : decide ((1099511627776 : Int) < (time : Int)) = false := by rw [decide_eq_false_iff_not]; omega
  have d4 : decide ((1099511627776 : Int) < (size : Int)) = false := by rw [decide_eq_false_iff_not]; omega
  have Hh := Lib.hid h
  have HO := Lib.hid hO
  clear h hO hN hlae h2
  go_enter Try.func61, Try.ntmps61
  go_wp2_with fail
  go_quiet (fail)
  go_wp2_with fail
  have hb2 : Below w.heap.size w ((w.alloc (.cells #[.int .u64 (num : Int), .int .u64 (time : Int), .int .u64 (size : Int), .bool asks, .slice fa fl fc] 103)).drewN nq) := below_drewN ((Below.refl _ _).alloc (Nat.le_refl _) _) _
  have hbx : blk ((w.alloc (.cells #[.int .u64 (num : Int), .int .u64 (time : Int), .int .u64 (size : Int), .bool asks, .slice fa fl fc] 103)).drewN nq) w.heap.size 103 [.int .u64 (num : Int), .int .u64 (time : Int), .int .u64 (size : Int), .bool asks, .slice fa fl fc] := (blk.new w _ _).drewN nq
  obtain ⟨w2, hw2⟩ : ∃ w2, (w.alloc (.cells #[.int .u64 (num : Int), .int .u64 (time : Int), .int .u64 (size : Int), .bool asks, .slice fa fl fc] 103)).drewN nq = w2 := ⟨_, rfl⟩
  rw [hw2] at hb2 hbx ⊢
  have e0 := hbx.cell (k := 0) rfl
  have e1 := hbx.cell (k := 1) rfl
  have e2 := hbx.cell (k := 2) rfl
  have e3 := hbx.cell (k := 3) rfl
  have e4 := hbx.cell (k := 4) rfl
  have f0 := (hb2.cell (p := ⟨b, 0, none⟩) hbl).trans c0
  have f1 := (Hh.out.next hb2).led.free 0
  have hx2 := hbx.lt
  clear hw2 hbx c0 c1
  have hbl2 : b < w2.heap.size := Nat.lt_of_lt_of_le hbl hb2.size
  obtain ⟨i0, hi0, hz0, hz1, hz2⟩ := info_parts Try.infoR10
  have hpl := pks_length S.op
  have hsrc := own_src HO.out (hb2.alloc hb2.size (.cells #[] 103))
  have Hsrc := Lib.hid hsrc
  have HsrcB := Lib.hid (own_src HO.out ((hb2.alloc hb2.size (.cells #[.int .u64 (num : Int), .int .u64 (time : Int), .int .u64 (size : Int), .bool asks, .slice fa fl fc] 103)).alloc (by rw [World.size_alloc]; have := hb2.size; omega) (.cells #[] 103)))
  have hownB : ((w2.alloc (.cells #[.int .u64 (num : Int), .int .u64 (time : Int), .int .u64 (size : Int), .bool asks, .slice fa fl fc] 103)).alloc (.cells #[] 103)).ownsRow w2.heap.size 103 5 (.slice (some ⟨w2.heap.size + 1, 0, none⟩) 0 0) 0 [] := by
    have := World.ownsRow_made (e := 103) (size := 5) (base := w2.heap.size) (w2.alloc (.cells #[.int .u64 (num : Int), .int .u64 (time : Int), .int .u64 (size : Int), .bool asks, .slice fa fl fc] 103)) #[] 0 (by rw [World.size_alloc]; omega) (by decide) rfl
    rw [World.size_alloc] at this
    exact this
  have HsrcC := Lib.hid (own_src HO.out ((hb2.alloc hb2.size (.cells #[] 103)).alloc (by rw [World.size_alloc]; have := hb2.size; omega) (.cells #[.int .u64 (num : Int), .int .u64 (time : Int), .int .u64 (size : Int), .bool asks, .slice fa fl fc] 103)))
  have hownC : ((w2.alloc (.cells #[] 103)).alloc (.cells #[.int .u64 (num : Int), .int .u64 (time : Int), .int .u64 (size : Int), .bool asks, .slice fa fl fc] 103)).ownsRow w2.heap.size 103 5 (.slice (some ⟨w2.heap.size, 0, none⟩) 0 0) 0 [] := (World.ownsRow_made w2 #[] 0 (Nat.le_refl _) (by decide) rfl).alloc _
  have hB2 : B ≤ w2.heap.size := Nat.le_trans Hh.out.bw hb2.size
  have Hpl := Lib.hid hpl
  have hNl : N = S.op.length := by have := HO.out.1; rw [hpl] at this; omega
  have HNl := Lib.hid hNl
  clear hsrc hpl hNl
  have hk3 : ∀ w3, Only (fun k => (Value.slice (some ⟨w2.heap.size, 0, none⟩) 0 0).ownBlock = some k) (w2.alloc (.cells #[] 103)).drew w3 → Below w2.heap.size w2 w3 := fun w3 h =>
    ((Below.refl _ _).alloc (Nat.le_refl _) _).drew.trans (h.below (B := w2.heap.size) (by simp) (fun k e => Nat.le_of_eq (Option.some.inj e)))
  have hk4 : ∀ v3 w3 w4, w3.ownsRow w2.heap.size 103 5 v3 N (pks S.op) → Below w2.heap.size w2 w3 → Only (fun k => v3.ownBlock = some k) w3 w4 → Below w2.heap.size w2 w4 := fun v3 w3 w4 ho h3 h =>
    h3.trans (h.below h3.size (fun k e => (ho.lt k e).1))
  have hkB : ∀ w3, Only (fun k => (Value.slice (some ⟨w2.heap.size + 1, 0, none⟩) 0 0).ownBlock = some k) ((w2.alloc (.cells #[.int .u64 (num : Int), .int .u64 (time : Int), .int .u64 (size : Int), .bool asks, .slice fa fl fc] 103)).alloc (.cells #[] 103)).drew w3 → Below w2.heap.size w2 w3 ∧ blk w3 w2.heap.size 103 [.int .u64 (num : Int), .int .u64 (time : Int), .int .u64 (size : Int), .bool asks, .slice fa fl fc] := by
    intro w3 h
    refine ⟨(((Below.refl _ _).alloc (Nat.le_refl _) _).alloc (by rw [World.size_alloc]; omega) _).drew.trans (h.below (B := w2.heap.size) (by show _ ≤ ((w2.alloc _).alloc _).heap.size; rw [World.size_alloc, World.size_alloc]; omega) (fun k e => Nat.le_trans (Nat.le_succ _) (Nat.le_of_eq (Option.some.inj e)))), ?_⟩
    have h1 := blk.new w2 103 [.int .u64 (num : Int), .int .u64 (time : Int), .int .u64 (size : Int), .bool asks, .slice fa fl fc]
    exact (blk.drew (h1.alloc (.cells #[] 103))).only h (fun e => absurd (show w2.heap.size + 1 = w2.heap.size from Option.some.inj e) (by omega))
  have hkC : ∀ w3, Only (fun k => (Value.slice (some ⟨w2.heap.size, 0, none⟩) 0 0).ownBlock = some k) ((w2.alloc (.cells #[] 103)).alloc (.cells #[.int .u64 (num : Int), .int .u64 (time : Int), .int .u64 (size : Int), .bool asks, .slice fa fl fc] 103)).drew w3 → Below w2.heap.size w2 w3 ∧ blk w3 (w2.heap.size + 1) 103 [.int .u64 (num : Int), .int .u64 (time : Int), .int .u64 (size : Int), .bool asks, .slice fa fl fc] := by
    intro w3 h
    refine ⟨(((Below.refl _ _).alloc (Nat.le_refl _) _).alloc (by rw [World.size_alloc]; omega) _).drew.trans (h.below (B := w2.heap.size) (by show _ ≤ ((w2.alloc _).alloc _).heap.size; rw [World.size_alloc, World.size_alloc]; omega) (fun k e => Nat.le_of_eq (Option.some.inj e))), ?_⟩
    have h1 := blk.new (w2.alloc (.cells #[] 103)) 103 [.int .u64 (num : Int), .int .u64 (time : Int), .int .u64 (size : Int), .bool asks, .slice fa fl fc]
    rw [World.size_alloc] at h1
    exact (blk.drew h1).only h (fun e => absurd (show w2.heap.size = w2.heap.size + 1 from Option.some.inj e) (by omega))
  have HkC := Lib.hid hkC
  clear hkC
  have HkB := Lib.hid hkB
  clear hkB
  have Hk3 := Lib.hid hk3
  have Hk4 := Lib.hid hk4
  clear hk3 hk4
  go_region_law (first
    | (refine step_append_src _ rfl (.tmp 35) (.tmp 39) 66 rfl w2.heap.size 103 i0 _ 5 56 Try.underlying66 hi0 hz0 hz1 hz2 rfl (by decide) (.slice (some ⟨w2.heap.size, 0, none⟩) 0 0) 0 [] (World.ownsRow_made w2 #[] 0 (Nat.le_refl _) (by decide) rfl) p N cap (pks S.op) HO.out.1 Hsrc.out.1 Hsrc.out.2 (pks_one_cell _) (by omega) (by decide) (by simp) (by simp [Act.eval]) (by simp [Act.eval]) ?_; intro v3 w3 ho3 hon3 hat3 hsame3; simp only [Nat.zero_add, List.nil_append] at ho3; have hb3 := Hk3.out w3 hon3; have k0 := (hb3.cell (p := ⟨w.heap.size, 0, none⟩) hx2).trans e0; have k1 := (hb3.cell (p := ⟨w.heap.size, 1, none⟩) hx2).trans e1; have k2 := (hb3.cell (p := ⟨w.heap.size, 2, none⟩) hx2).trans e2; have k3 := (hb3.cell (p := ⟨w.heap.size, 3, none⟩) hx2).trans e3; have k4 := (hb3.cell (p := ⟨w.heap.size, 4, none⟩) hx2).trans e4; have Ho3 := Lib.hid ho3; have Hb3 := Lib.hid hb3; clear ho3 hon3 hat3 hsame3 hb3)
    | (refine step_append_src _ rfl (.tmp 35) (.tmp 39) 66 rfl w2.heap.size 103 i0 _ 5 56 Try.underlying66 hi0 hz0 hz1 hz2 rfl (by decide) (.slice (some ⟨w2.heap.size + 1, 0, none⟩) 0 0) 0 [] hownB p N cap (pks S.op) HO.out.1 HsrcB.out.1 HsrcB.out.2 (pks_one_cell _) (by omega) (by decide) (by simp; omega) (by simp [Act.eval]) (by simp [Act.eval]) ?_; intro v3 w3 ho3 hon3 hat3 hsame3; simp only [Nat.zero_add, List.nil_append] at ho3; obtain ⟨hb3, hx3⟩ := HkB.out w3 hon3; have Ho3 := Lib.hid ho3; have Hb3 := Lib.hid hb3; have Hx3 := Lib.hid hx3; clear ho3 hon3 hat3 hsame3 hb3 hx3)
    | (refine step_append_src _ rfl (.tmp 35) (.tmp 39) 66 rfl w2.heap.size 103 i0 _ 5 56 Try.underlying66 hi0 hz0 hz1 hz2 rfl (by decide) (.slice (some ⟨w2.heap.size, 0, none⟩) 0 0) 0 [] hownC p N cap (pks S.op) HO.out.1 HsrcC.out.1 HsrcC.out.2 (pks_one_cell _) (by omega) (by decide) (by simp; omega) (by simp [Act.eval]) (by simp [Act.eval]) ?_; intro v3 w3 ho3 hon3 hat3 hsame3; simp only [Nat.zero_add, List.nil_append] at ho3; obtain ⟨hb3, hx3⟩ := HkC.out w3 hon3; have Ho3 := Lib.hid ho3; have Hb3 := Lib.hid hb3; have Hx3 := Lib.hid hx3; clear ho3 hon3 hat3 hsame3 hb3 hx3)
    | (refine step_append_new w3 _ rfl (.tmp 40) (.tmp 42) 66 rfl w2.heap.size 103 i0 _ 5 56 Try.underlying66 hi0 hz0 hz1 hz2 rfl (by decide) v3 N (pks S.op) Ho3.out [.int .u64 (num : Int), .int .u64 (time : Int), .int .u64 (size : Int), .bool asks, .slice fa fl fc] _ rfl rfl (by intro u hu; simp at hu; rcases hu with rfl | rfl | rfl | rfl | rfl <;> rfl) (by omega) (by decide) Hb3.out.size rfl (by simp [Act.eval]) (by simp [Act.eval]) ?_; intro v4 w4 ho4 hon4 hat4; obtain ⟨p4, cap4, hv4, _⟩ := own_shape ho4; subst hv4; have hb4 := Hk4.out v3 w3 w4 Ho3.out Hb3.out hon4; have f4 := (hb4.cell (p := ⟨b, 0, none⟩) hbl2).trans f0; have f5 := (hb4.frozen (p := ⟨b, 0, none⟩) hbl2).trans f1; have Hb4 := Lib.hid hb4; have Ho4 := Lib.hid ho4; clear hon4 ho4 hat4 hb4)
    | (refine step_append_src w3 rfl (.tmp 40) (.tmp 42) 66 rfl w2.heap.size 103 i0 _ 5 56 Try.underlying66 hi0 hz0 hz1 hz2 rfl (by decide) v3 N (pks S.op) Ho3.out (some ⟨w2.heap.size, 0, none⟩) 1 1 [.int .u64 (num : Int), .int .u64 (time : Int), .int .u64 (size : Int), .bool asks, .slice fa fl fc] rfl (fun _ => ⟨_, rfl, fun j u hu => by rw [add_zero]; exact Hx3.out.cell hu⟩) (fun e => by cases e) (by intro u hu; simp at hu; rcases hu with rfl | rfl | rfl | rfl | rfl <;> rfl) (by omega) (by decide) Hb3.out.size (by simp [Act.eval]) (by simp [Act.eval]) ?_; intro v4 w4 ho4 hon4 hat4 _; obtain ⟨p4, cap4, hv4, _⟩ := own_shape ho4; subst hv4; have hb4 := Hk4.out v3 w3 w4 Ho3.out Hb3.out hon4; have f4 := (hb4.cell (p := ⟨b, 0, none⟩) hbl2).trans f0; have f5 := (hb4.frozen (p := ⟨b, 0, none⟩) hbl2).trans f1; have Hb4 := Lib.hid hb4; have Ho4 := Lib.hid ho4; clear hon4 ho4 hat4 hb4)
    | (refine step_append_src w3 rfl (.tmp 40) (.tmp 42) 66 rfl w2.heap.size 103 i0 _ 5 56 Try.underlying66 hi0 hz0 hz1 hz2 rfl (by decide) v3 N (pks S.op) Ho3.out (some ⟨w2.heap.size + 1, 0, none⟩) 1 1 [.int .u64 (num : Int), .int .u64 (time : Int), .int .u64 (size : Int), .bool asks, .slice fa fl fc] rfl (fun _ => ⟨_, rfl, fun j u hu => by rw [add_zero]; exact Hx3.out.cell hu⟩) (fun e => by cases e) (by intro u hu; simp at hu; rcases hu with rfl | rfl | rfl | rfl | rfl <;> rfl) (by omega) (by decide) Hb3.out.size (by simp [Act.eval]) (by simp [Act.eval]) ?_; intro v4 w4 ho4 hon4 hat4 _; obtain ⟨p4, cap4, hv4, _⟩ := own_shape ho4; subst hv4; have hb4 := Hk4.out v3 w3 w4 Ho3.out Hb3.out hon4; have f4 := (hb4.cell (p := ⟨b, 0, none⟩) hbl2).trans f0; have f5 := (hb4.frozen (p := ⟨b, 0, none⟩) hbl2).trans f1; have Hb4 := Lib.hid hb4; have Ho4 := Lib.hid ho4; clear hon4 ho4 hat4 hb4))
  all_goals
    have g0 := (Hb4.out.cell (p := ⟨w.heap.size, 0, none⟩) hx2).trans e0
    have g1 := ((ROwns.next Hh.out hb2).led.below Hb4.out hbl2).free 1
    have g2 := ((ROwns.next Hh.out hb2).led.below Hb4.out hbl2).cell (k := 1) rfl
    clear e0 e1 e2 e3 e4 f0 f1 f4 f5
    go_wp2_with fail
    go_ret
    exact ⟨rfl, rSent_end HNl.out Hh.out hb2 Hb4.out Ho4.out⟩

end Go.Proofs.Ytmnmpmiocgfalaa

namespace Go.Proofs.Ytmnmpmiocgfalaa
open Go.ChangeShapes Go.WideShapes Go.RowKit
set_option linter.unusedVariables false

set_option maxRecDepth 100000 in
set_option maxHeartbeats 1000000 in
theorem rSent_many (B b : Nat) (v : Value) (S : Lg) (w : World) (num time size : Nat) (asks : Bool) (fa : Option Addr) (fl fc : Nat) (h : ROwns B b v S w) (hla : -1 ≤ sg S.li S.ln ∧ sg S.li S.ln ≤ 4611686018427387903)
    (h1 : num < 4611686018427387904) (h2 : ¬ (num : Int) ≤ sg S.li S.ln) (h3 : time ≤ 1099511627776) (h4 : size ≤ 1099511627776) (h5 : 500 ≤ S.op.length) (h6 : S.op.length ≤ 1000) :
    Calls Try.prog 61 #[.pointer (some ⟨b, 0, none⟩), .agg #[.int .u64 (num : Int), .int .u64 (time : Int), .int .u64 (size : Int), .bool asks, .slice fa fl fc]] w fun e w' => e = .returned (.int .i64 4) ∧ Below w.heap.size w w' := by
  obtain ⟨hl1, hl2⟩ := hla
  have hO := h.own
  obtain ⟨p, cap, rfl, hpn⟩ := own_shape hO
  have hbl := h.led.lt
  have c0 := h.led.cell (k := 0) rfl
  have c1 := h.led.cell (k := 1) rfl
  obtain ⟨N, hN⟩ : ∃ N, S.op.length = N := ⟨_, rfl⟩
  obtain ⟨la, hlae⟩ : ∃ x, sg S.li S.ln = x := ⟨_, rfl⟩
  rw [hN] at c0 h5 h6
  rw [hlae] at c1 hl1 hl2 h2
  have d1 : decide ((4611686018427387904 : Int) ≤ (num : Int)) = false := by rw [decide_eq_false_iff_not]; omega
  have d2 : decide ((num : Int) ≤ la) = false := by rw [decide_eq_false_iff_not]; exact h2
  have d3 : decide ((1099511627776 : Int) < (time : Int)) = false := by rw [decide_eq_false_iff_not]; omega
  have d4 : decide ((1099511627776 : Int) < (size : Int)) = false := by rw [decide_eq_false_iff_not]; omega
  clear h hN hlae h2 hO hpn
  go_enter Try.func61, Try.ntmps61
  go_wp2_with fail
  go_quiet (fail)
  go_wp2_with fail
  go_ret
  exact ⟨rfl, below_drewN ((Below.refl _ _).alloc (Nat.le_refl _) _) _⟩

/-- Sent, whole. -/
theorem rSent_any (B b : Nat) (v : Value) (S : Lg) (w : World) (num time size : Nat) (asks : Bool) (fa : Option Addr) (fl fc : Nat) (h : ROwns B b v S w) (hI : Inv S) (hnum : num < 2 ^ 64) :
    Calls Try.prog 61 #[.pointer (some ⟨b, 0, none⟩), .agg #[.int .u64 (num : Int), .int .u64 (time : Int), .int .u64 (size : Int), .bool asks, .slice fa fl fc]] w fun e w' => e = .returned (.int .i64 (sentF S ⟨num, time, size, asks, fa, fl, fc⟩).2) ∧ ∃ v', RCame B b v w (sentF S ⟨num, time, size, asks, fa, fl, fc⟩).1 v' w' := by
  have hla := sg_bounds (is := S.li) hI.ln
  have hbs := bad_sg (num := num) hI
  unfold sentF
  by_cases hbad : sentBad S ⟨num, time, size, asks, fa, fl, fc⟩ = true
  · rw [if_pos hbad]
    refine (rSent_bad b _ w num time size asks fa fl fc h.led.lt (h.led.cell rfl) hla hnum ?_).mono fun e w' ⟨h1, h2⟩ => ⟨h1, v, RCame.same h h2⟩
    rw [← hbs]
    exact hbad
  · rw [if_neg hbad]
    unfold sentBad at hbad
    simp only [hbs, Bool.or_eq_true, decide_eq_true_eq, not_or] at hbad
    obtain ⟨⟨⟨g1, g2⟩, g3⟩, g4⟩ := hbad
    by_cases h5 : 500 ≤ S.op.length
    · rw [if_pos h5]
      exact (rSent_many B b v S w num time size asks fa fl fc h hla (by omega) g2 (by omega) (by omega) h5 hI.len1).mono fun e w' ⟨h1, h2⟩ => ⟨h1, v, RCame.same h h2⟩
    · rw [if_neg h5]
      exact rSent_ok B b v S w num time size asks fa fl fc h hla (by omega) g2 (by omega) (by omega) (by omega)

set_option maxRecDepth 100000 in
set_option maxHeartbeats 1000000 in
theorem rSkip_any (B b : Nat) (v : Value) (S : Lg) (w : World) (num : Nat) (h : ROwns B b v S w) (hI : Inv S) (hnum : num < 2 ^ 64) :
    Calls Try.prog 62 #[.pointer (some ⟨b, 0, none⟩), .int .u64 (num : Int)] w fun e w' => e = .returned (.int .i64 (skipF S num).2) ∧ ∃ v', RCame B b v w (skipF S num).1 v' w' := by
  have hla := sg_bounds (is := S.li) hI.ln
  have hbs := bad_sg (num := num) hI
  obtain ⟨hl1, hl2⟩ := hla
  have hbl := h.led.lt
  have c1 := h.led.cell (k := 1) rfl
  have f1 := h.led.free 1
  have hgood : ∃ v', RCame B b v w { S with ln := num, li := true } v' (w.setCell ⟨b, 1, none⟩ (.int .i64 (num : Int))) := by
    have hob : Only (fun k => k = b) w (w.setCell ⟨b, 1, none⟩ (.int .i64 (num : Int))) := (Only.refl (fun k => k = b) w).setCell (p := ⟨b, 1, none⟩) (.inl rfl) _
    have hne : v.ownBlock ≠ some b := own_ne h.own h.led (by decide)
    refine ⟨v, ⟨(h.led.set 1 _), own_only h.own hob (fun k e e2 => hne (by rw [e, e2])), Nat.le_trans h.bw hob.size, h.bb⟩, hob.mono (fun i e => .inl e), .inl rfl⟩
  have hsame := fun w' hb => (⟨v, RCame.same (w' := w') h hb⟩ : ∃ v', RCame B b v w S v' w')
  unfold skipF
  rw [hbs]
  obtain ⟨la, hlae⟩ : ∃ x, sg S.li S.ln = x := ⟨_, rfl⟩
  rw [hlae] at c1 hl1 hl2 ⊢
  have Hg := Lib.hid hgood
  have Hs := Lib.hid hsame
  clear hgood hsame h hlae hbs hI
  by_cases h1 : 4611686018427387904 ≤ num
  · have hd : decide (4611686018427387904 ≤ num) = true := by rw [decide_eq_true_iff]; exact h1
    rw [hd, Bool.true_or, if_pos rfl]
    have d1 : decide ((4611686018427387904 : Int) ≤ (num : Int)) = true := by rw [decide_eq_true_iff]; omega
    clear hd
    go_enter Try.func62, Try.ntmps62
    go_wp2_with fail
    go_ret
    exact ⟨rfl, Hs.out _ (Below.refl _ _)⟩
  · have hd : decide (4611686018427387904 ≤ num) = false := by rw [decide_eq_false_iff_not]; exact h1
    have d1 : decide ((4611686018427387904 : Int) ≤ (num : Int)) = false := by rw [decide_eq_false_iff_not]; omega
    rw [hd, Bool.false_or]
    clear hd
    by_cases h2 : (num : Int) ≤ la
    · have d2 : decide ((num : Int) ≤ la) = true := by rw [decide_eq_true_iff]; exact h2
      rw [d2, if_pos rfl]
      go_enter Try.func62, Try.ntmps62
      go_wp2_with fail
      go_ret
      exact ⟨rfl, Hs.out _ (Below.refl _ _)⟩
    · have d2 : decide ((num : Int) ≤ la) = false := by rw [decide_eq_false_iff_not]; exact h2
      rw [d2, if_neg Bool.false_ne_true]
      go_enter Try.func62, Try.ntmps62
      go_wp2_with fail
      go_ret
      exact ⟨rfl, Hg.out⟩

/-- A packet's five cells at the place of element i. -/
theorem rpk_cells {w : World} {base : Nat} {v : Value} {n : Nat} {l : List Pk} (h : w.ownsRow base 103 5 v n (pks l)) (i : Nat) (p : Pk) (hp : l[i]? = some p) :
    ∃ g cap, v = .slice (some ⟨g, 0, none⟩) n cap ∧ base ≤ g ∧ g < w.heap.size ∧ w.cell? ⟨g, i * 5, none⟩ = some (.int .u64 (p.num : Int)) ∧ w.cell? ⟨g, i * 5 + 1, none⟩ = some (.int .u64 (p.time : Int)) ∧
      w.cell? ⟨g, i * 5 + 2, none⟩ = some (.int .u64 (p.size : Int)) ∧ w.cell? ⟨g, i * 5 + 3, none⟩ = some (.bool p.asks) ∧ w.cell? ⟨g, i * 5 + 4, none⟩ = some (.slice p.fa p.fl p.fc) := by
  have hl := h.1
  rw [pks_length] at hl
  have hi : i < l.length := (List.getElem?_eq_some_iff.1 hp).1
  obtain ⟨g, cap, hv, hb, hg, hc, _⟩ := own_view h (by omega)
  exact ⟨g, cap, hv, hb, hg, hc _ _ (pks_at l i p hp 0 (by omega)), hc _ _ (pks_at l i p hp 1 (by omega)), hc _ _ (pks_at l i p hp 2 (by omega)), hc _ _ (pks_at l i p hp 3 (by omega)), hc _ _ (pks_at l i p hp 4 (by omega))⟩

set_option maxRecDepth 100000 in
set_option maxHeartbeats 1000000 in
theorem rFlying_any (B b : Nat) (v : Value) (S : Lg) (w : World) (h : ROwns B b v S w) (hI : Inv S) :
    Calls Try.prog 38 #[.pointer (some ⟨b, 0, none⟩)] w fun e w' => e = .returned (.int .u64 (flyF S.op : Nat)) ∧ Below w.heap.size w w' := by
  have hsz : ∀ p ∈ S.op, p.size ≤ 1099511627776 := fun p hp => (hI.le p hp).2.2
  have hlen := hI.len1
  have hbl := h.led.lt
  have hO := h.own
  obtain ⟨p, cap, rfl, hpn⟩ := own_shape hO
  have c0 : w.cell? ⟨b, 0, none⟩ = some (.slice p S.op.length cap) := h.led.cell rfl
  obtain ⟨N, hN⟩ : ∃ N, S.op.length = N := ⟨_, rfl⟩
  rw [hN] at hpn hlen hO c0
  have HN := Lib.hid hN
  have HO := Lib.hid hO
  have Hsz := Lib.hid hsz
  clear h hN hO hpn hsz hI
  go_enter Try.func38, Try.ntmps38
  go_wp2_with fail
  go_loopw [3, 4] (fun n i wr => ∃ j t : Nat, j ≤ N ∧ i = .int .i64 j ∧ t = flyF (S.op.take j) ∧ t ≤ j * 1099511627776 ∧ n = .int .u64 t ∧ Below w.heap.size w wr) (fun _ i _ => N - (intOf i).toNat)
  case atStart => exact ⟨0, 0, by omega, rfl, rfl, by omega, rfl, Below.refl _ _⟩
  case round =>
    obtain ⟨j, t, hj, rfl, ht, htl, rfl, hbw⟩ := hrel
    have e0 := (hbw.cell (p := ⟨b, 0, none⟩) hbl).trans c0
    by_cases hlt : j < N
    · have hjl : j < S.op.length := by rw [HN.out]; exact hlt
      obtain ⟨q, hq⟩ : ∃ q, S.op[j] = q := ⟨_, rfl⟩
      have hq2 : S.op[j]? = some q := by rw [List.getElem?_eq_getElem hjl, hq]
      obtain ⟨g1, cap1, hv, hgB, hg1, k0, k1, k2, k3, k4⟩ := rpk_cells HO.out j q hq2
      injection hv with hv1 hv2 hv3
      subst hv1
      have hqm : q ∈ S.op := by rw [← hq]; exact List.getElem_mem _
      have htk : flyF (S.op.take (j + 1)) = t + (if q.asks then q.size else 0) := by rw [List.take_succ_eq_append_getElem hjl, hq, flyF_append, ← ht]; simp [flyF]
      have hqs := Hsz.out q hqm
      obtain ⟨hst0, hst1, hb1, hb2⟩ := fly_step t q.size j htl hqs (Nat.lt_of_lt_of_le hlt hlen)
      have Hst0 := Lib.hid hst0
      have Hst1 := Lib.hid hst1
      obtain ⟨num, time, size, asks, fa, fl, fc⟩ := q
      simp only at k0 k1 k2 k3 k4 htk hb2 Hst1
      clear hqs htl hst0 hst1
      have c2 := (hbw.cell (p := ⟨g1, j * 5 + 2, none⟩) hg1).trans k2
      have c3 := (hbw.cell (p := ⟨g1, j * 5 + 3, none⟩) hg1).trans k3
      have Htk := Lib.hid htk
      have Hbw := Lib.hid hbw
      clear hbw hq hq2 htk k0 k1 k2 k3 k4 hv2 hv3 ht hqm
      cases asks
      · go_wp2_with fail
        go_roundw
        case rel => exact ⟨j + 1, t, by omega, by go_num, by rw [Htk.out, if_neg Bool.false_ne_true, Nat.add_zero], Hst0.out, rfl, Hbw.out⟩
        case measure => simp [intOf]; omega
      · go_wp2_with fail
        go_roundw
        case rel => exact ⟨j + 1, t + size, by omega, by go_num, by rw [Htk.out, if_pos rfl], Hst1.out, by go_num, Hbw.out⟩
        case measure => simp [intOf]; omega
    · obtain rfl : j = N := by omega
      rw [List.take_of_length_le (by rw [HN.out]; exact Nat.le_refl _)] at ht
      have Ht := Lib.hid ht
      have Hbw := Lib.hid hbw
      clear ht hbw
      go_wp2_with fail
      go_ret
      exact ⟨by rw [← Ht.out]; rfl, Hbw.out⟩

end Go.Proofs.Ytmnmpmiocgfalaa
