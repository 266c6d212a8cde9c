/- Contract of head's Read, of a short head; Read whole. -/
import Derived.Test.YtngnfijpfghodaaDh
import Derived.Deep.RegionWith
namespace Go.Proofs.Ytngnfijpfghodaa
open Go.ChangeShapes Go.WideShapes Go.RowKit
set_option linter.unusedVariables false

theorem bits_short (x : Nat) (h : x < 256) : ((bits BinOp.and IntKind.u8 (x : Int) 64 != 0) = decide (x / 64 % 2 = 1)) ∧ ((bits BinOp.and IntKind.u8 (x : Int) 24 == 0) = decide (x / 8 % 4 = 0)) ∧
    ((bits BinOp.and IntKind.u8 (x : Int) 32 != 0) = decide (x / 32 % 2 = 1)) ∧ bits BinOp.and IntKind.u8 (x : Int) 3 = ((x % 4 : Nat) : Int) := by
  have H : ∀ x : Fin 256, ((bits BinOp.and IntKind.u8 (x.val : Int) 64 != 0) = decide (x.val / 64 % 2 = 1)) ∧ ((bits BinOp.and IntKind.u8 (x.val : Int) 24 == 0) = decide (x.val / 8 % 4 = 0)) ∧
    ((bits BinOp.and IntKind.u8 (x.val : Int) 32 != 0) = decide (x.val / 32 % 2 = 1)) ∧ bits BinOp.and IntKind.u8 (x.val : Int) 3 = ((x.val % 4 : Nat) : Int) := by decide +kernel
  exact H ⟨x, h⟩

theorem RdIs.lt' {w : World} {b : Nat} {r : Rd} (h : RdIs w b r) : b < w.heap.size := blk.lt h

set_option maxRecDepth 100000 in
set_option maxHeartbeats 8000000 in
theorem read_short (l : List UInt8) (cid c : Int) (bl : Nat) (w : World) (hcid : 0 ≤ cid ∧ cid ≤ 20) (hlong : LongF l = false) (hlen : l.length ≤ 100000) (hL : blk w bl 40 (askL c)) (hc : -9223372036854775808 ≤ c) :
    Calls Try.prog 16 #[.string (txt l), .int .i64 cid, askV bl] w fun e w' =>
      e = .returned (.tuple #[(endF (shortF l cid).2 (shortF l cid).1 (max (((shortF l cid).2.s.length : Int) - (shortF l cid).1.bytes) 0) c).1.1.v, .string (txt (endF (shortF l cid).2 (shortF l cid).1 (max (((shortF l cid).2.s.length : Int) - (shortF l cid).1.bytes) 0) c).1.2.1), .int .i64 (endF (shortF l cid).2 (shortF l cid).1 (max (((shortF l cid).2.s.length : Int) - (shortF l cid).1.bytes) 0) c).1.2.2]) ∧ Below w.heap.size w w' := by
  have hx := one_lt ⟨l, false⟩
  obtain ⟨k1, k2, k3, k4⟩ := bits_short _ hx
  have h1 := fun w' h => one_any (w.heap.size + 1) ⟨l, false⟩ w' h
  have h2 := fun w' c h => must_any (w.heap.size + 1) (⟨l, false⟩ : Rd).one.2 c w' h
  have h3 := fun w' h => take_any (w.heap.size + 1) (sFirst l) cid w' h (.inr hcid.1)
  have hrl : ((sFirst l).take cid).2.s.length ≤ 100000 := Nat.le_trans (take_len (sFirst l) cid) (Nat.le_trans (one_len ⟨l, false⟩) hlen)
  have e1 : ((⟨l, false⟩ : Rd).one.2).must (decide ((⟨l, false⟩ : Rd).one.1 / 64 % 2 = 1) && decide ((⟨l, false⟩ : Rd).one.1 / 8 % 4 = 0)) = sFirst l := rfl
  unfold shortF
  simp only
  generalize ((sFirst l).take cid).1 = dst at *
  generalize ((sFirst l).take cid).2 = r3 at *
  generalize sFirst l = r2 at *
  generalize (⟨l, false⟩ : Rd).one.1 = x at *
  generalize (⟨l, false⟩ : Rd).one.2 = r1 at *
  generalize decide (x / 64 % 2 = 1) = p1 at *
  generalize decide (x / 8 % 4 = 0) = p2 at *
  generalize decide (x / 32 % 2 = 1) = p3 at *
  obtain ⟨m, hm⟩ : ∃ m, x % 4 = m := ⟨_, rfl⟩
  have hm3 : m ≤ 3 := by omega
  rw [hm] at k4 ⊢
  obtain ⟨be, hbe⟩ : ∃ be : Nat, max ((r3.s.length : Int) - ((m + 1 : Nat) : Int)) 0 = (be : Int) := ⟨r3.s.length - (m + 1), by omega⟩
  rw [hbe]
  have hbe2 : max ((r3.s.length : Int) - ((m : Int) + 1)) 0 = (be : Int) := hbe
  have he := fun w' h hl => end_any (w.heap.size + 1) bl 3 dst [] (m + 1) p3 r3 (be : Int) c w' h hl (by have := hL.lt; omega) (by omega) (.inr (by omega)) hc
  rw [show ((3 : Nat) : Int) = 3 from rfl] at he
  generalize endF r3 ⟨(3 : Int), dst, [], 0, ((m + 1 : Nat) : Int), 0, p3⟩ (be : Int) c = q at *
  obtain ⟨⟨⟨ty', dst', src', num', bytes', size', spin'⟩, pay, E⟩, r4⟩ := q
  have hlg := fun w => Long_any l w
  rw [hlong] at hlg
  simp only at he ⊢
  unfold Hd.v at he ⊢
  simp only at he ⊢
  rw [show ((m + 1 : Nat) : Int) = (m : Int) + 1 from rfl, show txt [] = ⟨#[]⟩ from rfl] at he
  obtain ⟨s3, hs3⟩ : ∃ s, txt r3.s = s := ⟨_, rfl⟩
  obtain ⟨L, hLe⟩ : ∃ L, r3.s.length = L := ⟨_, rfl⟩
  have hsz : s3.size = L := by rw [← hs3, txt_size, hLe]
  rw [hLe] at hbe2 hrl
  have H1 := Lib.hid h1
  have H2 := Lib.hid h2
  have H3 := Lib.hid h3
  have HE := Lib.hid he
  have HLG := Lib.hid hlg
  have E1 := Lib.hid e1
  have HS3 := Lib.hid hs3
  -- the world at the start
  have g0 : RdIs ((w.alloc (.cells zeroH.toArray 24)).alloc (.cells #[.string (txt l), .bool false] 54)) (w.heap.size + 1) ⟨l, false⟩ := by
    have h := blk.new (w.alloc (.cells zeroH.toArray 24)) 54 [.string (txt l), .bool false]
    rw [show (w.alloc (.cells zeroH.toArray 24)).heap.size = w.heap.size + 1 by simp] at h
    exact h
  have z0 : blk ((w.alloc (.cells zeroH.toArray 24)).alloc (.cells #[.string (txt l), .bool false] 54)) w.heap.size 24 zeroH := (blk.new w _ _).alloc _
  have o0 : Below w.heap.size w ((w.alloc (.cells zeroH.toArray 24)).alloc (.cells #[.string (txt l), .bool false] 54)) := ((Below.refl _ _).alloc (Nat.le_refl _) _).alloc (by simp) _
  have G0 := Lib.hid g0
  have Z0 := Lib.hid z0
  have O0 := Lib.hid o0
  have HL := Lib.hid hL
  clear h1 h2 h3 he hlg g0 z0 o0 e1 hlong hL hm hx hbe hLe hs3 hc hlen
  go_enter Try.func16, Try.ntmps16
  go_wp2_with fail
  refine (HLG.out _).mono ?_
  rintro e w1 ⟨rfl, rfl⟩
  go_wp2_with fail
  refine (H1.out _ G0.out).mono ?_
  rintro e w1 ⟨rfl, g, o⟩
  have Z1 := Lib.hid (Z0.out.only o (by omega))
  have O1 := Lib.hid (O0.out.trans (o.below (B := w.heap.size) (by simp; omega) (fun k hk => by omega)))
  have G1 := Lib.hid g
  clear g o G0 Z0 O0
  go_upto_region 8 with (fail)
  go_cut [] (fun wx => RdIs wx (w.heap.size + 1) r2 ∧ blk wx w.heap.size 24 zeroH ∧ Below w.heap.size w wx)
  case first =>
    cases p1
    · go_wp2_with fail
      refine (H2.out _ _ G1.out).mono ?_
      rintro e w2 ⟨rfl, g, o⟩
      have Z2 := Lib.hid (Z1.out.only o (by omega))
      have O2 := Lib.hid (O1.out.trans (o.below (B := w.heap.size) O1.out.size (fun k hk => by omega)))
      have G2 := Lib.hid g
      clear g o G1 Z1 O1
      go_wp2_with fail
      go_meet
      refine ⟨?_, Z2.out, O2.out⟩
      rw [← E1.out, Bool.false_and]
      exact G2.out
    · go_wp2_with fail
      refine (H2.out _ _ G1.out).mono ?_
      rintro e w2 ⟨rfl, g, o⟩
      have Z2 := Lib.hid (Z1.out.only o (by omega))
      have O2 := Lib.hid (O1.out.trans (o.below (B := w.heap.size) O1.out.size (fun k hk => by omega)))
      have G2 := Lib.hid g
      clear g o G1 Z1 O1
      go_wp2_with fail
      go_meet
      refine ⟨?_, Z2.out, O2.out⟩
      rw [← E1.out, Bool.true_and]
      exact G2.out
  case rest =>
    obtain ⟨g, z, o⟩ := hcut
    have G2 := Lib.hid g
    have Z2 := Lib.hid z
    have O2 := Lib.hid o
    clear g z o G1 Z1 O1 H1 H2 E1
    go_wp2_with fail
    refine (H3.out _ (blk.alloc G2.out _)).mono ?_
    rintro e w3 ⟨rfl, g, o⟩
    have hlt := RdIs.lt' G2.out
    have hh := (blk.new wc 24 [.int .i64 3, .string ⟨#[]⟩, .string ⟨#[]⟩, .int .u64 0, .int .i64 ((m : Int) + 1), .int .i64 0, .bool p3]).only o (by omega)
    have Z3 := (Z2.out.alloc _).only o (by omega)
    have O3 := (O2.out.alloc O2.out.size _).trans (o.below (B := w.heap.size) (by simp; have := O2.out.size; omega) (fun k hk => by omega))
    have q1 := hh.cell (k := 1) rfl
    have f1 := hh.free 1
    have H4 := Lib.hid (hh.set 1 (.string (txt dst)))
    have Z4 := Lib.hid (Z3.set_other (p := ⟨wc.heap.size, 1, none⟩) (by show wc.heap.size ≠ w.heap.size; omega) (.string (txt dst)))
    have O4 := Lib.hid (O3.setCell (p := ⟨wc.heap.size, 1, none⟩) O2.out.size (.string (txt dst)))
    have G4 := Lib.hid (blk.set_other g (p := ⟨wc.heap.size, 1, none⟩) (by show wc.heap.size ≠ w.heap.size + 1; omega) (.string (txt dst)))
    clear g o G2 Z2 O2 hh Z3 O3
    go_wp2_with fail
    clear q1 f1
    obtain ⟨w4, hw4⟩ : ∃ w4, w3.setCell ⟨wc.heap.size, 1, none⟩ (.string (txt dst)) = w4 := ⟨_, rfl⟩
    rw [hw4] at H4 Z4 O4 G4 ⊢
    have HW4 := Lib.hid hw4
    have h4 : blk w4 wc.heap.size 24 [.int .i64 3, .string (txt dst), .string ⟨#[]⟩, .int .u64 0, .int .i64 ((m : Int) + 1), .int .i64 0, .bool p3] := H4.out
    obtain ⟨q0, q1, q2, q3, q4, q5, q6⟩ := hd_cells h4
    have g4 : RdIs w4 (w.heap.size + 1) r3 := G4.out
    have p0 := g4.cell (k := 0) rfl
    rw [HS3.out] at p0
    have HL4 : Hid (blk w4.drew bl 40 (askL c)) := Lib.hid ((HL.out.below O4.out HL.out.lt).drew)
    have HG4 : Hid (RdIs w4.drew (w.heap.size + 1) r3) := Lib.hid (blk.drew g4)
    clear hw4 h4 g4 H4 HS3 H3
    have hite : (if IntKind.i64.wrap ((L : Int) - ((m : Int) + 1)) < 0 then (0 : Int) else IntKind.i64.wrap ((L : Int) - ((m : Int) + 1))) = (be : Int) := by
      rw [IntWalk.i64_in _ (by omega)]
      split <;> omega
    have HZ4 : Hid (blk w4.drew w.heap.size 24 zeroH) := Lib.hid (blk.drew Z4.out)
    have HO4 : Hid (Below w.heap.size w w4.drew) := Lib.hid O4.out.drew
    clear Z4 O4 HW4 G4 k1 k2 k3 k4 HLG hcid hbe2
    go_region_with (go_at_call 25; refine (HE.out w4.drew HG4.out HL4.out).mono ?_; rintro e w5 ⟨rfl, g5, o5⟩; have Z5 := Lib.hid (blk.only HZ4.out o5 (by omega)); have O5 := Lib.hid (HO4.out.trans (o5.below (B := w.heap.size) HO4.out.size (fun k hk => by omega))); obtain ⟨z0, z1, z2, z3, z4, z5, z6⟩ := hd_cells Z5.out; have zf := fun k => Z5.out.free k; clear g5 o5 q0 q1 q2 q3 q4 q5 q6 p0)
    all_goals
      clear z0 z1 z2 z3 z4 z5 z6 zf
      go_wp2_with fail
      have BZ := blk_put7 Z5.out (.int .i64 ty') (.string (txt dst')) (.string (txt src')) (.int .u64 (num' : Int)) (.int .i64 bytes') (.int .i64 size') (.bool spin')
      have BO := below_put7 O5.out w.heap.size (Nat.le_refl _) (.int .i64 ty') (.string (txt dst')) (.string (txt src')) (.int .u64 (num' : Int)) (.int .i64 bytes') (.int .i64 size') (.bool spin')
      change bodyPost _ _ _ _ _ (put7 w5 w.heap.size (.int .i64 ty') (.string (txt dst')) (.string (txt src')) (.int .u64 (num' : Int)) (.int .i64 bytes') (.int .i64 size') (.bool spin'))
      generalize put7 w5 w.heap.size (.int .i64 ty') (.string (txt dst')) (.string (txt src')) (.int .u64 (num' : Int)) (.int .i64 bytes') (.int .i64 size') (.bool spin') = F at BZ BO ⊢
      obtain ⟨x0, x1, x2, x3, x4, x5, x6⟩ := hd_cells BZ
      refine bodyPost_ret (v := .tuple #[.agg #[.int .i64 ty', .string (txt dst'), .string (txt src'), .int .u64 (num' : Int), .int .i64 bytes', .int .i64 size', .bool spin'], .string (txt pay), .int .i64 E]) (by simp [results, Try.results16, go_sem, x0, x1, x2, x3, x4, x5, x6]) rfl ⟨rfl, BO⟩

theorem Read_any (l : List UInt8) (cid c : Int) (bl : Nat) (w : World) (hlen : l.length ≤ 100000) (hL : blk w bl 40 (askL c)) (hc : -9223372036854775808 ≤ c) :
    Calls Try.prog 16 #[.string (txt l), .int .i64 cid, askV bl] w fun e w' => e = .returned (.tuple #[(readF l cid c).1.v, .string (txt (readF l cid c).2.1), .int .i64 (readF l cid c).2.2]) ∧ Below w.heap.size w w' := by
  unfold readF
  by_cases h : cid < 0 ∨ 20 < cid
  · rw [if_pos h]
    exact read_arg l cid _ w h
  · rw [if_neg h]
    by_cases hl : LongF l = true
    · rw [if_pos hl]
      exact read_long l cid c bl w (by omega) hl hlen hL hc
    · rw [if_neg hl]
      exact read_short l cid c bl w (by omega) (by simpa using hl) hlen hL hc

end Go.Proofs.Ytngnfijpfghodaa
