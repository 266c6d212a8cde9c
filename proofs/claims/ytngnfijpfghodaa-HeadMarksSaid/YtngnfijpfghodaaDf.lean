/- Contract of the reader's opening. -/
import Derived.Test.YtngnfijpfghodaaDe
import Derived.Laws.ResultCell
import Derived.Test.YtngnfijpfghodaaDc
namespace Go.Proofs.Ytngnfijpfghodaa
open Go.ChangeShapes Go.WideShapes Go.RowKit
set_option linter.unusedVariables false

def zeroH : List Value := [.int .i64 0, .string ⟨#[]⟩, .string ⟨#[]⟩, .int .u64 0, .int .i64 0, .int .i64 0, .bool false]

/-- A reader in block b, a head in block bh, a result's cell in block br. -/
structure OpenSt (w0 w : World) (b bh br : Nat) (r : Rd) (hc rc : List Value) : Prop where
  rd : RdIs w b r
  h : blk w bh 24 hc
  z : blk w br 24 rc
  on : Only (fun k => k = b) w0 w
  l1 : b < w0.heap.size
  l2 : w0.heap.size ≤ bh
  l3 : w0.heap.size ≤ br
  ne : bh ≠ br

theorem OpenSt.next {w0 w w' : World} {b bh br : Nat} {r r' : Rd} {hc rc : List Value} (H : OpenSt w0 w b bh br r hc rc) (h1 : RdIs w' b r') (h2 : Only (fun k => k = b) w w') : OpenSt w0 w' b bh br r' hc rc :=
  ⟨h1, H.h.only h2 (by have := H.l1; have := H.l2; omega), H.z.only h2 (by have := H.l1; have := H.l3; omega), H.on.trans h2, H.l1, H.l2, H.l3, H.ne⟩
theorem OpenSt.setH {w0 w : World} {b bh br : Nat} {r : Rd} {hc rc : List Value} (H : OpenSt w0 w b bh br r hc rc) (k : Nat) (u : Value) : OpenSt w0 (w.setCell ⟨bh, k, none⟩ u) b bh br r (hc.set k u) rc :=
  ⟨blk.set_other H.rd (by have := H.l1; have := H.l2; show bh ≠ b; omega) u, H.h.set k u, H.z.set_other H.ne u, H.on.setCell (.inr H.l2) u, H.l1, H.l2, H.l3, H.ne⟩

/-- A head stored whole. -/
def put7 (w : World) (b : Nat) (v0 v1 v2 v3 v4 v5 v6 : Value) : World :=
  ((((((w.setCell ⟨b, 0, none⟩ v0).setCell ⟨b, 1, none⟩ v1).setCell ⟨b, 2, none⟩ v2).setCell ⟨b, 3, none⟩ v3).setCell ⟨b, 4, none⟩ v4).setCell ⟨b, 5, none⟩ v5).setCell ⟨b, 6, none⟩ v6
theorem OpenSt.setZ {w0 w : World} {b bh br : Nat} {r : Rd} {hc rc : List Value} (H : OpenSt w0 w b bh br r hc rc) (k : Nat) (u : Value) : OpenSt w0 (w.setCell ⟨br, k, none⟩ u) b bh br r hc (rc.set k u) :=
  ⟨blk.set_other H.rd (by have := H.l1; have := H.l3; show br ≠ b; omega) u, H.h.set_other (fun e => H.ne e.symm) u, H.z.set k u, H.on.setCell (.inr H.l3) u, H.l1, H.l2, H.l3, H.ne⟩
theorem OpenSt.put7 {w0 w : World} {b bh br : Nat} {r : Rd} {hc : List Value} (H : OpenSt w0 w b bh br r hc zeroH) (v0 v1 v2 v3 v4 v5 v6 : Value) : OpenSt w0 (put7 w br v0 v1 v2 v3 v4 v5 v6) b bh br r hc [v0, v1, v2, v3, v4, v5, v6] :=
  (((((((H.setZ 0 v0).setZ 1 v1).setZ 2 v2).setZ 3 v3).setZ 4 v4).setZ 5 v5).setZ 6 v6)

theorem bits_first (x : Nat) (h : x < 256) : ((bits BinOp.and IntKind.u8 (x : Int) 192 == 192) = decide (192 ≤ x)) ∧ ((bits BinOp.and IntKind.u8 (x : Int) 12 == 0) = decide (x / 4 % 4 = 0)) ∧
    bits BinOp.and IntKind.u8 ((x / 16 : Nat) : Int) 3 = ((x / 16 % 4 : Nat) : Int) ∧ bits BinOp.and IntKind.u8 (x : Int) 3 = ((x % 4 : Nat) : Int) := by
  have H : ∀ x : Fin 256, ((bits BinOp.and IntKind.u8 (x.val : Int) 192 == 192) = decide (192 ≤ x.val)) ∧ ((bits BinOp.and IntKind.u8 (x.val : Int) 12 == 0) = decide (x.val / 4 % 4 = 0)) ∧
    bits BinOp.and IntKind.u8 ((x.val / 16 : Nat) : Int) 3 = ((x.val / 16 % 4 : Nat) : Int) ∧ bits BinOp.and IntKind.u8 (x.val : Int) 3 = ((x.val % 4 : Nat) : Int) := by decide +kernel
  exact H ⟨x, h⟩

theorem RdIs.alloc0 {w : World} {b : Nat} {r : Rd} (h : RdIs w b r) : RdIs (w.alloc (.cells zeroH.toArray 24)) b r := blk.alloc h _

theorem toList_txt (l : List UInt8) : (txt l).toList = l := by rw [ByteArray.toList_eq]; simp [txt]

/-- Steps of a reader keep it no longer than it was. -/
theorem take_len (r : Rd) (n : Int) : (r.take n).2.s.length ≤ r.s.length := by
  unfold Rd.take
  split
  · simp
  · simp
theorem one_len (r : Rd) : r.one.2.s.length ≤ r.s.length := take_len r 1
theorem must_len (r : Rd) (c : Bool) : (r.must c).s.length ≤ r.s.length := Nat.le_refl _
theorem cid_len (r : Rd) : r.cid.2.s.length ≤ r.s.length := Nat.le_trans (take_len _ _) (one_len r)
theorem o5_len (r : Rd) : (o5 r).s.length ≤ r.s.length := by
  have h1 : (o2 r).s.length ≤ r.s.length := Nat.le_trans (take_len (o1 r) 4) (one_len r)
  have h2 : (o2 r).cid.2.cid.2.s.length ≤ r.s.length := Nat.le_trans (cid_len _) (Nat.le_trans (cid_len _) h1)
  unfold o5
  split
  · exact Nat.le_trans (one_len _) h2
  · exact h2

set_option maxRecDepth 100000 in
set_option maxHeartbeats 4000000 in
theorem open_any (b : Nat) (r : Rd) (w : World) (hR : RdIs w b r) (hlen : r.s.length ≤ 100000) :
    Calls Try.prog 22 #[.pointer (some ⟨b, 0, none⟩)] w fun e w' => e = .returned (.tuple #[(openF r).1.v, .int .i64 (openF r).2.1]) ∧ RdIs w' b (openF r).2.2 ∧ Only (fun k => k = b) w w' := by
  have h5 := o5_len r
  have hx := one_lt r
  have h1 := fun w h => one_any b r w h
  have h2 := fun w c h => must_any b r.one.2 c w h
  have h3 := fun w h => take_any b (o1 r) 4 w h (.inr (by omega))
  have h4 := fun w c h => must_any b ((o1 r).take 4).2 c w h
  have hc1 := fun w h => cid_any b (o2 r) w h
  have hc2 := fun w h => cid_any b (o2 r).cid.2 w h
  have hz1 := fun w h => one_any b (o2 r).cid.2.cid.2 w h
  have hz2 := fun w c h => must_any b ((o2 r).cid.2.cid.2.one.2) c w h
  have hs := fun w h => size_rd_any b (o5 r) w h (by omega)
  have hm := fun w c h => must_any b (o5 r).size.2 c w h
  obtain ⟨k1, k2, k3, k4⟩ := bits_first r.one.1 hx
  unfold openF
  have e1 : (r.one.2).must (okFirst r.one.1) = o1 r := rfl
  have e2 : ((o1 r).take 4).2.must (decide (((o1 r).take 4).1 = [0, 0, 0, 1])) = o2 r := rfl
  have e5 : o5 r = if r.one.1 / 16 % 4 = 0 then ((o2 r).cid.2.cid.2.one.2).must (decide ((o2 r).cid.2.cid.2.one.1 = 0)) else (o2 r).cid.2.cid.2 := rfl
  unfold okFirst at e1
  have hver : ((txt ((o1 r).take 4).1).toList == [0, 0, 0, 1]) = decide (((o1 r).take 4).1 = [0, 0, 0, 1]) := by
    rw [toList_txt, Bool.eq_iff_iff, beq_iff_eq, decide_eq_true_iff]
  have hlg : ∀ w, Calls Try.prog 21 #[.int .i64 ((r.one.1 / 16 % 4 : Nat) : Int)] w fun e w' => e = .returned (.bool (longF ((r.one.1 / 16 % 4 : Nat) : Int))) ∧ w = w' := fun w => long_any _ w
  have hb1 : b < w.heap.size := hR.lt
  generalize longF ((r.one.1 / 16 % 4 : Nat) : Int) = lg at *
  generalize (o5 r).size.1 = n at *
  generalize (o5 r).size.2 = r9 at *
  generalize o5 r = r8 at *
  generalize (o2 r).cid.2.cid.2.one.1 = z at *
  generalize (o2 r).cid.2.cid.2.one.2 = r7 at *
  generalize (o2 r).cid.2.cid.1 = src at *
  generalize (o2 r).cid.2.cid.2 = r6 at *
  generalize (o2 r).cid.1 = dst at *
  generalize (o2 r).cid.2 = r5 at *
  generalize o2 r = r4 at *
  generalize ((o1 r).take 4).1 = ver at *
  generalize ((o1 r).take 4).2 = r3 at *
  generalize o1 r = r2 at *
  generalize r.one.1 = x at *
  generalize r.one.2 = r1 at *
  obtain ⟨p1, hp1⟩ : ∃ p, decide (192 ≤ x) = p := ⟨_, rfl⟩
  obtain ⟨p2, hp2⟩ : ∃ p, decide (x / 4 % 4 = 0) = p := ⟨_, rfl⟩
  obtain ⟨p3, hp3⟩ : ∃ p, decide (ver = [0, 0, 0, 1]) = p := ⟨_, rfl⟩
  rw [hp1] at k1 e1
  rw [hp2] at k2 e1
  rw [hp3] at hver e2
  obtain ⟨y, hy⟩ : ∃ y, x / 16 = y := ⟨_, rfl⟩
  have hx16 : (x : Int) / 16 = (y : Int) := by omega
  have hx16' : (x : Int) / 2 ^ 4 = (y : Int) := hx16
  obtain ⟨t, ht⟩ : ∃ t, x / 16 % 4 = t := ⟨_, rfl⟩
  obtain ⟨m, hm4⟩ : ∃ m, x % 4 = m := ⟨_, rfl⟩
  have ht4 : t < 4 := by omega
  have hm4l : m < 4 := by omega
  rw [ht] at k3 hlg e5 ⊢
  rw [hy] at k3
  clear hy
  rw [hm4] at k4 ⊢
  clear hp1 hp2 hp3 ht hm4 h5
  have H1 := Lib.hid h1
  have H2 := Lib.hid h2
  have H3 := Lib.hid h3
  have H4 := Lib.hid h4
  have C1 := Lib.hid hc1
  have C2 := Lib.hid hc2
  have Z1 := Lib.hid hz1
  have Z2 := Lib.hid hz2
  have HS := Lib.hid hs
  have HM := Lib.hid hm
  have HLG := Lib.hid hlg
  have E1 := Lib.hid e1
  have E2 := Lib.hid e2
  have E5 := Lib.hid e5
  have HR := Lib.hid (RdIs.alloc0 hR)
  clear h1 h2 h3 h4 hc1 hc2 hz1 hz2 hs hm hlg e1 e2 e5 hR
  go_enter Try.func22, Try.ntmps22
  go_wp2_with fail
  refine (H1.out _ HR.out).mono ?_
  rintro e w1 ⟨rfl, g1, o1⟩
  have S1 : OpenSt w (w1.alloc (.cells (#[.int .i64 (t : Int), .string ⟨#[]⟩, .string ⟨#[]⟩, .int .u64 0, .int .i64 ((m : Int) + 1), .int .i64 0, .bool false]) 24)) b w1.heap.size w.heap.size r1 [.int .i64 (t : Int), .string ⟨#[]⟩, .string ⟨#[]⟩, .int .u64 0, .int .i64 ((m : Int) + 1), .int .i64 0, .bool false] zeroH :=
    ⟨blk.alloc g1 _, blk.new w1 _ _, ((blk.new w _ zeroH).only o1 (by omega)).alloc _, (((Only.refl _ w).alloc _).trans o1).alloc _, hb1, by have := o1.size; simp at this; omega, Nat.le_refl _, by have := o1.size; simp at this; omega⟩
  have G1 := Lib.hid S1
  clear g1 o1 S1
  go_upto_region 3 with (fail)
  go_cut [] (fun wx => OpenSt w wx b w1.heap.size w.heap.size r2 [.int .i64 (t : Int), .string ⟨#[]⟩, .string ⟨#[]⟩, .int .u64 0, .int .i64 ((m : Int) + 1), .int .i64 0, .bool false] zeroH)
  case first =>
    cases p1
    · go_wp2_with fail
      refine (H2.out _ _ G1.out.rd).mono ?_
      rintro e w2 ⟨rfl, g2, o2⟩
      have G2 := Lib.hid (G1.out.next g2 o2)
      clear g2 o2
      go_wp2_with fail
      go_meet
      rw [← E1.out, Bool.false_and, Bool.false_and]
      exact G2.out
    · cases p2
      · go_wp2_with fail
        refine (H2.out _ _ G1.out.rd).mono ?_
        rintro e w2 ⟨rfl, g2, o2⟩
        have G2 := Lib.hid (G1.out.next g2 o2)
        clear g2 o2
        go_wp2_with fail
        go_meet
        rw [← E1.out, Bool.and_false, Bool.false_and]
        exact G2.out
      · go_wp2_with fail
        refine (HLG.out _).mono ?_
        rintro e w2 ⟨rfl, rfl⟩
        go_wp2_with fail
        refine (H2.out _ _ G1.out.rd).mono ?_
        rintro e w2 ⟨rfl, g2, o2⟩
        have G2 := Lib.hid (G1.out.next g2 o2)
        clear g2 o2
        go_wp2_with fail
        go_meet
        rw [← E1.out, Bool.true_and, Bool.true_and]
        exact G2.out
  case rest =>
    have G2 := Lib.hid hcut
    clear hcut
    go_wp2_with fail
    refine (H3.out _ G2.out.rd).mono ?_
    rintro e w3 ⟨rfl, g, o⟩
    have G3 := Lib.hid (G2.out.next g o)
    clear g o G2
    go_wp2_with fail
    refine (H4.out _ _ G3.out.rd).mono ?_
    rintro e w4 ⟨rfl, g, o⟩
    rw [E2.out] at g
    have G4 := Lib.hid (G3.out.next g o)
    clear g o G3
    go_wp2_with fail
    refine (C1.out _ G4.out.rd).mono ?_
    rintro e w5 ⟨rfl, g, o⟩
    have G5 := Lib.hid (G4.out.next g o)
    clear g o G4
    go_wp2_with fail
    refine (C2.out _ G5.out.rd).mono ?_
    rintro e w6 ⟨rfl, g, o⟩
    have G6 := G5.out.next g o
    have f1 := G6.h.free 1
    have f2 := G6.h.free 2
    have q1 := G6.h.cell (k := 1) rfl
    have q2 := G6.h.cell (k := 2) rfl
    have S6 : OpenSt w ((w6.setCell ⟨w1.heap.size, 1, none⟩ (.string (txt dst))).setCell ⟨w1.heap.size, 2, none⟩ (.string (txt src))) b w1.heap.size w.heap.size r6 [.int .i64 (t : Int), .string (txt dst), .string (txt src), .int .u64 0, .int .i64 ((m : Int) + 1), .int .i64 0, .bool false] zeroH := (G6.setH 1 (.string (txt dst))).setH 2 (.string (txt src))
    obtain ⟨w7, hw7⟩ : ∃ w7, (w6.setCell ⟨w1.heap.size, 1, none⟩ (.string (txt dst))).setCell ⟨w1.heap.size, 2, none⟩ (.string (txt src)) = w7 := ⟨_, rfl⟩
    rw [hw7] at S6
    have HW7 := Lib.hid hw7
    have G7 := Lib.hid S6
    clear g o G5 G6 S6 hw7
    go_upto_region 6 with (fail)
    rw [HW7.out]
    clear HW7 f1 f2 q1 q2 H1 H2 H3 H4 C1 C2 E1 E2 G1 hver k1 k2 k3 k4 hx16 hx16'
    have hq := hd_cells G7.out.h
    obtain ⟨q0, q1, q2, q3, q4, q5, q6⟩ := hq
    obtain ⟨a1, ha1⟩ : ∃ a1, decide (((m + 1 : Nat) : Int) ≤ n) = a1 := ⟨_, rfl⟩
    obtain ⟨a2, ha2⟩ : ∃ a2, decide (n ≤ ((m + 1 : Nat) : Int) + 16384) = a2 := ⟨_, rfl⟩
    have ha1' : decide ((m : Int) + 1 ≤ n) = a1 := ha1
    have ha2' : decide (n ≤ (m : Int) + 1 + 16384) = a2 := ha2
    have HA1 := Lib.hid ha1
    have HA2 := Lib.hid ha2
    clear ha1 ha2
    by_cases ht0 : t = 0
    · subst ht0
      obtain ⟨pz, hpz⟩ : ∃ pz, decide (z = 0) = pz := ⟨_, rfl⟩
      have hpz2 : ((z : Int) == 0) = pz := by rw [← hpz, Bool.eq_iff_iff, beq_iff_eq, decide_eq_true_iff]; omega
      have e5 := E5.out
      rw [if_pos rfl, hpz] at e5
      subst e5
      clear hpz
      go_wp2_with fail
      refine (Z1.out _ G7.out.rd).mono ?_
      rintro e w8 ⟨rfl, g, o⟩
      have G8 := Lib.hid (G7.out.next g o)
      clear g o G7 q0 q1 q2 q3 q4 q5 q6
      go_wp2_with fail
      refine (Z2.out _ _ G8.out.rd).mono ?_
      rintro e w9 ⟨rfl, g, o⟩
      have G9 := Lib.hid (G8.out.next g o)
      clear g o G8 Z1 Z2
      go_wp2_with fail
      refine (HS.out _ G9.out.rd).mono ?_
      rintro e w10 ⟨rfl, g, o⟩
      have S10 := G9.out.next g o
      obtain ⟨q0, q1, q2, q3, q4, q5, q6⟩ := hd_cells S10.h
      have G10 := Lib.hid S10
      clear g o S10 G9
      cases a1
      · go_wp2_with fail
        refine (HM.out _ _ G10.out.rd).mono ?_
        rintro e w11 ⟨rfl, g, o⟩
        have S11 := G10.out.next g o
        clear q0 q1 q2 q3 q4 q5 q6
        obtain ⟨q0, q1, q2, q3, q4, q5, q6⟩ := hd_cells S11.h
        obtain ⟨z0, z1, z2, z3, z4, z5, z6⟩ := hd_cells S11.z
        have zf := fun k => S11.z.free k
        have G11 := Lib.hid S11
        clear g o S11 G10
        go_wp2_with fail
        have S12 := G11.out.put7 (.int .i64 0) (.string (txt dst)) (.string (txt src)) (.int .u64 0) (.int .i64 ((m : Int) + 1)) (.int .i64 0) (.bool false)
        change bodyPost _ _ _ _ _ (put7 w11 w.heap.size (.int .i64 0) (.string (txt dst)) (.string (txt src)) (.int .u64 0) (.int .i64 ((m : Int) + 1)) (.int .i64 0) (.bool false))
        generalize put7 w11 w.heap.size (.int .i64 0) (.string (txt dst)) (.string (txt src)) (.int .u64 0) (.int .i64 ((m : Int) + 1)) (.int .i64 0) (.bool false) = F at S12 ⊢
        clear q0 q1 q2 q3 q4 q5 q6 z0 z1 z2 z3 z4 z5 z6 zf
        obtain ⟨q0, q1, q2, q3, q4, q5, q6⟩ := hd_cells S12.z
        refine bodyPost_ret (v := .tuple #[.agg #[.int .i64 0, .string (txt dst), .string (txt src), .int .u64 0, .int .i64 ((m : Int) + 1), .int .i64 0, .bool false], .int .i64 n]) (by simp [results, Try.results22, go_sem, q0, q1, q2, q3, q4, q5, q6]) rfl ⟨rfl, ?_, S12.on⟩
        rw [HA1.out, HA2.out]
        exact S12.rd
      · go_wp2_with fail
        refine (HM.out _ _ G10.out.rd).mono ?_
        rintro e w11 ⟨rfl, g, o⟩
        have S11 := G10.out.next g o
        clear q0 q1 q2 q3 q4 q5 q6
        obtain ⟨q0, q1, q2, q3, q4, q5, q6⟩ := hd_cells S11.h
        obtain ⟨z0, z1, z2, z3, z4, z5, z6⟩ := hd_cells S11.z
        have zf := fun k => S11.z.free k
        have G11 := Lib.hid S11
        clear g o S11 G10
        go_wp2_with fail
        have S12 := G11.out.put7 (.int .i64 0) (.string (txt dst)) (.string (txt src)) (.int .u64 0) (.int .i64 ((m : Int) + 1)) (.int .i64 0) (.bool false)
        change bodyPost _ _ _ _ _ (put7 w11 w.heap.size (.int .i64 0) (.string (txt dst)) (.string (txt src)) (.int .u64 0) (.int .i64 ((m : Int) + 1)) (.int .i64 0) (.bool false))
        generalize put7 w11 w.heap.size (.int .i64 0) (.string (txt dst)) (.string (txt src)) (.int .u64 0) (.int .i64 ((m : Int) + 1)) (.int .i64 0) (.bool false) = F at S12 ⊢
        clear q0 q1 q2 q3 q4 q5 q6 z0 z1 z2 z3 z4 z5 z6 zf
        obtain ⟨q0, q1, q2, q3, q4, q5, q6⟩ := hd_cells S12.z
        refine bodyPost_ret (v := .tuple #[.agg #[.int .i64 0, .string (txt dst), .string (txt src), .int .u64 0, .int .i64 ((m : Int) + 1), .int .i64 0, .bool false], .int .i64 n]) (by simp [results, Try.results22, go_sem, q0, q1, q2, q3, q4, q5, q6]) rfl ⟨rfl, ?_, S12.on⟩
        rw [HA1.out, HA2.out]
        exact S12.rd
    · have e5 := E5.out
      rw [if_neg ht0] at e5
      subst e5
      have ht0' : ((t : Int) == 0) = false := by rw [beq_eq_false_iff_ne]; omega
      have G9 := Lib.hid G7.out
      clear G7 Z1 Z2
      go_wp2_with fail
      clear q0 q1 q2 q3 q4 q5 q6
      refine (HS.out _ G9.out.rd).mono ?_
      rintro e w10 ⟨rfl, g, o⟩
      have S10 := G9.out.next g o
      obtain ⟨q0, q1, q2, q3, q4, q5, q6⟩ := hd_cells S10.h
      have G10 := Lib.hid S10
      clear g o S10 G9
      cases a1
      · go_wp2_with fail
        refine (HM.out _ _ G10.out.rd).mono ?_
        rintro e w11 ⟨rfl, g, o⟩
        have S11 := G10.out.next g o
        clear q0 q1 q2 q3 q4 q5 q6
        obtain ⟨q0, q1, q2, q3, q4, q5, q6⟩ := hd_cells S11.h
        obtain ⟨z0, z1, z2, z3, z4, z5, z6⟩ := hd_cells S11.z
        have zf := fun k => S11.z.free k
        have G11 := Lib.hid S11
        clear g o S11 G10
        go_wp2_with fail
        have S12 := G11.out.put7 (.int .i64 (t : Int)) (.string (txt dst)) (.string (txt src)) (.int .u64 0) (.int .i64 ((m : Int) + 1)) (.int .i64 0) (.bool false)
        change bodyPost _ _ _ _ _ (put7 w11 w.heap.size (.int .i64 (t : Int)) (.string (txt dst)) (.string (txt src)) (.int .u64 0) (.int .i64 ((m : Int) + 1)) (.int .i64 0) (.bool false))
        generalize put7 w11 w.heap.size (.int .i64 (t : Int)) (.string (txt dst)) (.string (txt src)) (.int .u64 0) (.int .i64 ((m : Int) + 1)) (.int .i64 0) (.bool false) = F at S12 ⊢
        clear q0 q1 q2 q3 q4 q5 q6 z0 z1 z2 z3 z4 z5 z6 zf
        obtain ⟨q0, q1, q2, q3, q4, q5, q6⟩ := hd_cells S12.z
        refine bodyPost_ret (v := .tuple #[.agg #[.int .i64 (t : Int), .string (txt dst), .string (txt src), .int .u64 0, .int .i64 ((m : Int) + 1), .int .i64 0, .bool false], .int .i64 n]) (by simp [results, Try.results22, go_sem, q0, q1, q2, q3, q4, q5, q6]) rfl ⟨rfl, ?_, S12.on⟩
        rw [HA1.out, HA2.out]
        exact S12.rd
      · go_wp2_with fail
        refine (HM.out _ _ G10.out.rd).mono ?_
        rintro e w11 ⟨rfl, g, o⟩
        have S11 := G10.out.next g o
        clear q0 q1 q2 q3 q4 q5 q6
        obtain ⟨q0, q1, q2, q3, q4, q5, q6⟩ := hd_cells S11.h
        obtain ⟨z0, z1, z2, z3, z4, z5, z6⟩ := hd_cells S11.z
        have zf := fun k => S11.z.free k
        have G11 := Lib.hid S11
        clear g o S11 G10
        go_wp2_with fail
        have S12 := G11.out.put7 (.int .i64 (t : Int)) (.string (txt dst)) (.string (txt src)) (.int .u64 0) (.int .i64 ((m : Int) + 1)) (.int .i64 0) (.bool false)
        change bodyPost _ _ _ _ _ (put7 w11 w.heap.size (.int .i64 (t : Int)) (.string (txt dst)) (.string (txt src)) (.int .u64 0) (.int .i64 ((m : Int) + 1)) (.int .i64 0) (.bool false))
        generalize put7 w11 w.heap.size (.int .i64 (t : Int)) (.string (txt dst)) (.string (txt src)) (.int .u64 0) (.int .i64 ((m : Int) + 1)) (.int .i64 0) (.bool false) = F at S12 ⊢
        clear q0 q1 q2 q3 q4 q5 q6 z0 z1 z2 z3 z4 z5 z6 zf
        obtain ⟨q0, q1, q2, q3, q4, q5, q6⟩ := hd_cells S12.z
        refine bodyPost_ret (v := .tuple #[.agg #[.int .i64 (t : Int), .string (txt dst), .string (txt src), .int .u64 0, .int .i64 ((m : Int) + 1), .int .i64 0, .bool false], .int .i64 n]) (by simp [results, Try.results22, go_sem, q0, q1, q2, q3, q4, q5, q6]) rfl ⟨rfl, ?_, S12.on⟩
        rw [HA1.out, HA2.out]
        exact S12.rd

end Go.Proofs.Ytngnfijpfghodaa
