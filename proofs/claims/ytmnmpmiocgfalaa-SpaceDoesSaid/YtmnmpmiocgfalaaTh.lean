/- space: the reference's May. Printed by tools/mkTh.py. -/
import Derived.Test.YtmnmpmiocgfalaaTg
import Derived.Deep.CutBlock
import Derived.Deep.DeepCutAuto
import Derived.BigGuardPart
namespace Go.Proofs.Ytmnmpmiocgfalaa
open Go.ChangeShapes Go.WideShapes Go.RowKit
set_option linter.unusedVariables false
set_option linter.unusedSimpArgs false

@[local go_sem] theorem undef_bool (b : Bool) : (undef = Value.bool b) = False := by unfold undef; simp
@[local go_sem] theorem some_undef_bool (b : Bool) : (some undef = some (Value.bool b)) = False := by unfold undef; simp
def sw03 (k a b ds ms : Nat) : Bool :=
  if k = 6 then decide (a + ds < 4611686018427387904) else if k = 7 then decide (0 < ds) else if k = 8 then decide (b + ds < 4611686018427387904)
  else if k = 18 ∨ k = 19 ∨ k = 22 ∨ k = 23 then decide (a ≤ 1152921504606846976) else if k = 24 then decide (b ≤ a) && decide (1 ≤ ds) && decide (ds ≤ 20) && decide (ms = 16)
  else if k = 26 ∨ k = 27 then decide (ds = 8) else true
/-- What is told of May's answer: a Boolean; at kinds other than 0, 2, 3: which. -/
def May03Q (k : Nat) (v : Bool) (h : Nat) (w : World) (e : Ending) (w' : World) : Prop := ∃ z : Bool, e = .returned (.bool z) ∧ ((k ≠ 0 ∧ k ≠ 2 ∧ k ≠ 3) → z = v) ∧ Below h w w'

set_option maxRecDepth 100000 in
set_option maxHeartbeats 4000000 in
theorem may03_main (k a b c : Nat) (fin : Bool) (data more : ByteArray) (lp : Option Addr) (rs : List (Nat × Nat)) (lc : Nat) (w : World) (hd : data.size ≤ 1000) (hm : more.size ≤ 1000) (hl : rs.length ≤ 1000) (hrg : RgAt w lp rs)
    (n : Int) (hn : numsF k = n) (n0 : 0 ≤ n) (ha : a ≤ 4611686018427387903) (hb : b ≤ 4611686018427387903) (hc : c ≤ 4611686018427387903)
    (y1 y2 y3 za zb zc dk k8 k3 k24 k2 zd zm zl x1 x2 x3 x4 x5 x6 x7 : Bool) (hy1 : decide (n < 1) = y1) (hy2 : decide (n < 2) = y2) (hy3 : decide (n < 3) = y3) (hza : ((a : Int) != 0) = za) (hzb : ((b : Int) != 0) = zb) (hzc : ((c : Int) != 0) = zc)
    (hdk : dataF k = dk) (hk8 : ((k : Int) != 8) = k8) (hk3 : ((k : Int) != 3) = k3) (hk24 : ((k : Int) != 24) = k24) (hk2 : ((k : Int) != 2) = k2) (hzd : decide (0 < data.size) = zd) (hzm : decide (0 < more.size) = zm) (hzl : decide (0 < rs.length) = zl)
    (hx1 : (y1 && za) = x1) (hx2 : (x1 || (y2 && zb)) = x2) (hx3 : (x2 || (y3 && zc)) = x3) (hx4 : (x3 || (!dk && zd)) = x4) (hx5 : (x4 || (k8 && fin)) = x5) (hx6 : (x5 || (k3 && k24 && zm)) = x6) (hx7 : (x6 || (k2 && k3 && zl)) = x7) :
    Calls Try.prog 14 #[.agg #[.int .u64 (k : Int), .int .u64 (a : Int), .int .u64 (b : Int), .int .u64 (c : Int), .bool fin, .string data, .string more, .slice lp rs.length lc]] w (May03Q k (!x7 && sw03 k a b data.size more.size) w.heap.size w) := by
  have e0 : decide (n < 0) = false := by rw [decide_eq_false_iff_not]; omega
  have ea : decide ((4611686018427387904 : Int) ≤ (a : Int)) = false := by rw [decide_eq_false_iff_not]; omega
  have eb : decide ((4611686018427387904 : Int) ≤ (b : Int)) = false := by rw [decide_eq_false_iff_not]; omega
  have ec : decide ((4611686018427387904 : Int) ≤ (c : Int)) = false := by rw [decide_eq_false_iff_not]; omega
  have ed : decide ((16384 : Int) < (data.size : Int)) = false := by rw [decide_eq_false_iff_not]; omega
  have HN : ∀ w, RowKit.Hid (Calls Try.prog 46 #[.int .u64 (k : Int)] w fun e w' => e = .returned (.int .i64 n) ∧ w = w') := fun w => Lib.hid (hn ▸ numbers_any k w)
  have HD : ∀ w, RowKit.Hid (Calls Try.prog 47 #[.int .u64 (k : Int)] w fun e w' => e = .returned (.bool dk) ∧ w = w') := fun w => Lib.hid (hdk ▸ data_any k w)
  obtain ⟨W, hW⟩ : ∃ W, w.alloc (.cells #[.int .u64 (k : Int), .int .u64 (a : Int), .int .u64 (b : Int), .int .u64 (c : Int), .bool fin, .string data, .string more, .slice lp rs.length lc] 43) = W := ⟨_, rfl⟩
  have hbW : Below w.heap.size w W := by rw [← hW]; exact (Below.refl _ _).alloc (Nat.le_refl _) _
  have HR := Lib.hid (ranges03_some rs lp lc W (hrg.below hbW) hl)
  have HM := fun w => Lib.hid (number03_some more w hm)
  have hk : blk W w.heap.size 43 [.int .u64 (k : Int), .int .u64 (a : Int), .int .u64 (b : Int), .int .u64 (c : Int), .bool fin, .string data, .string more, .slice lp rs.length lc] := by rw [← hW]; exact blk.new w _ _
  have HB := Lib.hid hbW
  have HK := Lib.hid hk
  obtain ⟨H, hH⟩ : ∃ H, w.heap.size = H := ⟨_, rfl⟩
  have HH := Lib.hid hH
  rw [hH] at hk HK
  have q0 := hk.cell (k := 0) rfl
  have q1 := hk.cell (k := 1) rfl
  have q2 := hk.cell (k := 2) rfl
  have q3 := hk.cell (k := 3) rfl
  have q4 := hk.cell (k := 4) rfl
  have q5 := hk.cell (k := 5) rfl
  have q6 := hk.cell (k := 6) rfl
  have q7 := hk.cell (k := 7) rfl
  have hHl := hk.lt
  obtain ⟨S, hS⟩ : ∃ S, sw03 k a b data.size more.size = S := ⟨_, rfl⟩
  rw [hS]
  have HS := Lib.hid hS
  have HF := Lib.hid (show 0 ≤ n ∧ a ≤ 4611686018427387903 ∧ b ≤ 4611686018427387903 ∧ c ≤ 4611686018427387903 ∧ data.size ≤ 1000 ∧ more.size ≤ 1000 ∧ rs.length ≤ 1000 from ⟨n0, ha, hb, hc, hd, hm, hl⟩)
  obtain ⟨N, hN⟩ : ∃ N, rs.length = N := ⟨_, rfl⟩
  rw [hN] at q7 HR HK hW hzl ⊢
  have HX1 := Lib.hid hx1
  have HX2 := Lib.hid hx2
  have HX3 := Lib.hid hx3
  have HX4 := Lib.hid hx4
  have HX5 := Lib.hid hx5
  have HX6 := Lib.hid hx6
  have HX7 := Lib.hid hx7
  clear hn n0 ha hb hc hd hm hl hdk hrg hbW hk hS hN hx1 hx2 hx3 hx4 hx5 hx6 hx7
  go_enter Try.func14, Try.ntmps14
  go_upto_region 4 with (go_at_call 46; refine (HN _).out.mono ?_; rintro e w' ⟨rfl, rfl⟩)
  apply wp_region_lit
  simp only [List.append_eq, List.cons_append, List.nil_append]
  refine wpList_cut 7 36 [30, 31, 32, 33, 34, 35] x1 rfl ?rest1 ?first1
  case first1 =>
    simp only [List.take_succ_cons, List.take_zero]
    cases y1
    · go_wp2_with (go_at_call 47; refine (HD _).out.mono ?_; rintro e w' ⟨rfl, rfl⟩)
      refine MidQ.meet _ rfl HX1.out.symm ?_
      simp only [putS_nil, putS_cons, nthV_zero, nthV_succ, List.set_cons_succ, List.set_cons_zero]
    · go_wp2_with (go_at_call 47; refine (HD _).out.mono ?_; rintro e w' ⟨rfl, rfl⟩)
      refine MidQ.meet _ rfl HX1.out.symm ?_
      simp only [putS_nil, putS_cons, nthV_zero, nthV_succ, List.set_cons_succ, List.set_cons_zero]
  intro us
  simp only [putS_nil, putS_cons, List.set_cons_succ, List.set_cons_zero, List.drop_succ_cons, List.drop_zero]
  generalize us 30 = u30
  generalize us 31 = u31
  generalize us 32 = u32
  generalize us 33 = u33
  generalize us 34 = u34
  generalize us 35 = u35
  clear us
  refine wpList_cut 9 45 [37, 38, 39, 40, 41, 42, 43, 44] x2 rfl ?rest2 ?first2
  case first2 =>
    simp only [List.take_succ_cons, List.take_zero]
    cases x1
    · cases y2
      · go_wp2_with (go_at_call 47; refine (HD _).out.mono ?_; rintro e w' ⟨rfl, rfl⟩)
        refine MidQ.meet _ rfl HX2.out.symm ?_
        simp only [putS_nil, putS_cons, nthV_zero, nthV_succ, List.set_cons_succ, List.set_cons_zero]
      · go_wp2_with (go_at_call 47; refine (HD _).out.mono ?_; rintro e w' ⟨rfl, rfl⟩)
        refine MidQ.meet _ rfl HX2.out.symm ?_
        simp only [putS_nil, putS_cons, nthV_zero, nthV_succ, List.set_cons_succ, List.set_cons_zero]
    · go_wp2_with (go_at_call 47; refine (HD _).out.mono ?_; rintro e w' ⟨rfl, rfl⟩)
      refine MidQ.meet _ rfl HX2.out.symm ?_
      simp only [putS_nil, putS_cons, nthV_zero, nthV_succ, List.set_cons_succ, List.set_cons_zero]
  intro us
  simp only [putS_nil, putS_cons, List.set_cons_succ, List.set_cons_zero, List.drop_succ_cons, List.drop_zero]
  generalize us 37 = u37
  generalize us 38 = u38
  generalize us 39 = u39
  generalize us 40 = u40
  generalize us 41 = u41
  generalize us 42 = u42
  generalize us 43 = u43
  generalize us 44 = u44
  clear us
  refine wpList_cut 9 54 [46, 47, 48, 49, 50, 51, 52, 53] x3 rfl ?rest3 ?first3
  case first3 =>
    simp only [List.take_succ_cons, List.take_zero]
    cases x2
    · cases y3
      · go_wp2_with (go_at_call 47; refine (HD _).out.mono ?_; rintro e w' ⟨rfl, rfl⟩)
        refine MidQ.meet _ rfl HX3.out.symm ?_
        simp only [putS_nil, putS_cons, nthV_zero, nthV_succ, List.set_cons_succ, List.set_cons_zero]
      · go_wp2_with (go_at_call 47; refine (HD _).out.mono ?_; rintro e w' ⟨rfl, rfl⟩)
        refine MidQ.meet _ rfl HX3.out.symm ?_
        simp only [putS_nil, putS_cons, nthV_zero, nthV_succ, List.set_cons_succ, List.set_cons_zero]
    · go_wp2_with (go_at_call 47; refine (HD _).out.mono ?_; rintro e w' ⟨rfl, rfl⟩)
      refine MidQ.meet _ rfl HX3.out.symm ?_
      simp only [putS_nil, putS_cons, nthV_zero, nthV_succ, List.set_cons_succ, List.set_cons_zero]
  intro us
  simp only [putS_nil, putS_cons, List.set_cons_succ, List.set_cons_zero, List.drop_succ_cons, List.drop_zero]
  generalize us 46 = u46
  generalize us 47 = u47
  generalize us 48 = u48
  generalize us 49 = u49
  generalize us 50 = u50
  generalize us 51 = u51
  generalize us 52 = u52
  generalize us 53 = u53
  clear us
  refine wpList_cut 12 66 [55, 56, 57, 58, 59, 60, 61, 62, 63, 64, 65] x4 rfl ?rest4 ?first4
  case first4 =>
    simp only [List.take_succ_cons, List.take_zero]
    cases x3
    · cases dk
      · go_wp2_with (go_at_call 47; refine (HD _).out.mono ?_; rintro e w' ⟨rfl, rfl⟩)
        refine MidQ.meet _ rfl HX4.out.symm ?_
        simp only [putS_nil, putS_cons, nthV_zero, nthV_succ, List.set_cons_succ, List.set_cons_zero]
      · go_wp2_with (go_at_call 47; refine (HD _).out.mono ?_; rintro e w' ⟨rfl, rfl⟩)
        refine MidQ.meet _ rfl HX4.out.symm ?_
        simp only [putS_nil, putS_cons, nthV_zero, nthV_succ, List.set_cons_succ, List.set_cons_zero]
    · go_wp2_with (go_at_call 47; refine (HD _).out.mono ?_; rintro e w' ⟨rfl, rfl⟩)
      refine MidQ.meet _ rfl HX4.out.symm ?_
      simp only [putS_nil, putS_cons, nthV_zero, nthV_succ, List.set_cons_succ, List.set_cons_zero]
  intro us
  simp only [putS_nil, putS_cons, List.set_cons_succ, List.set_cons_zero, List.drop_succ_cons, List.drop_zero]
  generalize us 55 = u55
  generalize us 56 = u56
  generalize us 57 = u57
  generalize us 58 = u58
  generalize us 59 = u59
  generalize us 60 = u60
  generalize us 61 = u61
  generalize us 62 = u62
  generalize us 63 = u63
  generalize us 64 = u64
  generalize us 65 = u65
  clear us
  refine wpList_cut 9 75 [67, 68, 69, 70, 71, 72, 73, 74] x5 rfl ?rest5 ?first5
  case first5 =>
    simp only [List.take_succ_cons, List.take_zero]
    cases x4
    · cases k8
      · go_wp2_with (go_at_call 47; refine (HD _).out.mono ?_; rintro e w' ⟨rfl, rfl⟩)
        refine MidQ.meet _ rfl HX5.out.symm ?_
        simp only [putS_nil, putS_cons, nthV_zero, nthV_succ, List.set_cons_succ, List.set_cons_zero]
      · go_wp2_with (go_at_call 47; refine (HD _).out.mono ?_; rintro e w' ⟨rfl, rfl⟩)
        refine MidQ.meet _ rfl HX5.out.symm ?_
        simp only [putS_nil, putS_cons, nthV_zero, nthV_succ, List.set_cons_succ, List.set_cons_zero]
    · go_wp2_with (go_at_call 47; refine (HD _).out.mono ?_; rintro e w' ⟨rfl, rfl⟩)
      refine MidQ.meet _ rfl HX5.out.symm ?_
      simp only [putS_nil, putS_cons, nthV_zero, nthV_succ, List.set_cons_succ, List.set_cons_zero]
  intro us
  simp only [putS_nil, putS_cons, List.set_cons_succ, List.set_cons_zero, List.drop_succ_cons, List.drop_zero]
  generalize us 67 = u67
  generalize us 68 = u68
  generalize us 69 = u69
  generalize us 70 = u70
  generalize us 71 = u71
  generalize us 72 = u72
  generalize us 73 = u73
  generalize us 74 = u74
  clear us
  refine wpList_cut 16 91 [76, 77, 78, 79, 80, 81, 82, 83, 84, 85, 86, 87, 88, 89, 90] x6 rfl ?rest6 ?first6
  case first6 =>
    simp only [List.take_succ_cons, List.take_zero]
    cases x5
    · cases k3
      · go_wp2_with (go_at_call 47; refine (HD _).out.mono ?_; rintro e w' ⟨rfl, rfl⟩)
        refine MidQ.meet _ rfl HX6.out.symm ?_
        simp only [putS_nil, putS_cons, nthV_zero, nthV_succ, List.set_cons_succ, List.set_cons_zero]
      · cases k24
        · go_wp2_with (go_at_call 47; refine (HD _).out.mono ?_; rintro e w' ⟨rfl, rfl⟩)
          refine MidQ.meet _ rfl HX6.out.symm ?_
          simp only [putS_nil, putS_cons, nthV_zero, nthV_succ, List.set_cons_succ, List.set_cons_zero]
        · go_wp2_with (go_at_call 47; refine (HD _).out.mono ?_; rintro e w' ⟨rfl, rfl⟩)
          refine MidQ.meet _ rfl HX6.out.symm ?_
          simp only [putS_nil, putS_cons, nthV_zero, nthV_succ, List.set_cons_succ, List.set_cons_zero]
    · go_wp2_with (go_at_call 47; refine (HD _).out.mono ?_; rintro e w' ⟨rfl, rfl⟩)
      refine MidQ.meet _ rfl HX6.out.symm ?_
      simp only [putS_nil, putS_cons, nthV_zero, nthV_succ, List.set_cons_succ, List.set_cons_zero]
  intro us
  simp only [putS_nil, putS_cons, List.set_cons_succ, List.set_cons_zero, List.drop_succ_cons, List.drop_zero]
  generalize us 76 = u76
  generalize us 77 = u77
  generalize us 78 = u78
  generalize us 79 = u79
  generalize us 80 = u80
  generalize us 81 = u81
  generalize us 82 = u82
  generalize us 83 = u83
  generalize us 84 = u84
  generalize us 85 = u85
  generalize us 86 = u86
  generalize us 87 = u87
  generalize us 88 = u88
  generalize us 89 = u89
  generalize us 90 = u90
  clear us
  refine wpList_cut 16 107 [92, 93, 94, 95, 96, 97, 98, 99, 100, 101, 102, 103, 104, 105, 106] x7 rfl ?rest7 ?first7
  case first7 =>
    simp only [List.take_succ_cons, List.take_zero]
    cases x6
    · cases k2
      · go_wp2_with (go_at_call 47; refine (HD _).out.mono ?_; rintro e w' ⟨rfl, rfl⟩)
        refine MidQ.meet _ rfl HX7.out.symm ?_
        simp only [putS_nil, putS_cons, nthV_zero, nthV_succ, List.set_cons_succ, List.set_cons_zero]
      · cases k3
        · go_wp2_with (go_at_call 47; refine (HD _).out.mono ?_; rintro e w' ⟨rfl, rfl⟩)
          refine MidQ.meet _ rfl HX7.out.symm ?_
          simp only [putS_nil, putS_cons, nthV_zero, nthV_succ, List.set_cons_succ, List.set_cons_zero]
        · go_wp2_with (go_at_call 47; refine (HD _).out.mono ?_; rintro e w' ⟨rfl, rfl⟩)
          refine MidQ.meet _ rfl HX7.out.symm ?_
          simp only [putS_nil, putS_cons, nthV_zero, nthV_succ, List.set_cons_succ, List.set_cons_zero]
    · go_wp2_with (go_at_call 47; refine (HD _).out.mono ?_; rintro e w' ⟨rfl, rfl⟩)
      refine MidQ.meet _ rfl HX7.out.symm ?_
      simp only [putS_nil, putS_cons, nthV_zero, nthV_succ, List.set_cons_succ, List.set_cons_zero]
  intro us
  simp only [putS_nil, putS_cons, List.set_cons_succ, List.set_cons_zero, List.drop_succ_cons, List.drop_zero]
  generalize us 92 = u92
  generalize us 93 = u93
  generalize us 94 = u94
  generalize us 95 = u95
  generalize us 96 = u96
  generalize us 97 = u97
  generalize us 98 = u98
  generalize us 99 = u99
  generalize us 100 = u100
  generalize us 101 = u101
  generalize us 102 = u102
  generalize us 103 = u103
  generalize us 104 = u104
  generalize us 105 = u105
  generalize us 106 = u106
  clear us
  clear HD hy1 hy2 hy3 hza hzb hzc hk8 hk3 hk24 hk2 hzd hzm hzl
  by_cases hx : x7 = true
  · subst hx
    go_wp2_with fail
    go_ret
    exact ⟨false, rfl, fun _ => rfl, HB.out⟩
  · obtain rfl : x7 = false := by simpa using hx
    clear hx
    clear HN HX1 HX2 HX3 HX4 HX5 HX6 HX7 e0 ea eb ec ed
    have hin : ∀ (z : Bool) (w' : World), ((k ≠ 0 ∧ k ≠ 2 ∧ k ≠ 3) → z = S) → Below W.heap.size W w' → May03Q k (!false && S) w.heap.size w (.returned (.bool z)) w' :=
      fun z w' hz hb => ⟨z, rfl, fun h => by rw [hz h]; rfl, HB.out.trans (hb.mono HB.out.size)⟩
    have HIN := Lib.hid hin
    rw [hH] at hin
    have HIN2 := Lib.hid hin
    clear hin
    by_cases hks : k = 0 ∨ k = 2 ∨ k = 3 ∨ k = 6 ∨ k = 7 ∨ k = 8 ∨ k = 18 ∨ k = 19 ∨ k = 22 ∨ k = 23 ∨ k = 24 ∨ k = 26 ∨ k = 27
    · rcases hks with rfl | rfl | rfl | rfl | rfl | rfl | rfl | rfl | rfl | rfl | rfl | rfl | rfl
      · -- kind 0
        clear HR HM
        go_wp2_with fail
        all_goals
          go_ret
          first | exact HIN.out _ _ (fun h => absurd rfl h.1) (Below.refl _ _) | exact HIN2.out _ _ (fun h => absurd rfl h.1) (Below.refl _ _)
      · -- kind 2
        clear HM
        go_wp2_with (go_at_call 48; refine HR.out.mono ?_; rintro e w' ⟨x, rfl, hb⟩)
        go_ret
        first | exact HIN.out _ _ (fun h => absurd rfl h.2.1) hb | exact HIN2.out _ _ (fun h => absurd rfl h.2.1) hb
      · -- kind 3
        go_wp2_with first | (go_at_call 48; refine HR.out.mono ?_; rintro e w' ⟨x, rfl, hb⟩; (have hk' := HK.out.below hb hHl); (have q6' := hk'.cell (k := 6) rfl); (have HV := Lib.hid hb); clear hb hk') | (go_at_call 49; refine (HM _).out.mono ?_; rintro e w' ⟨x, rfl, hb⟩; have HV2 := Lib.hid (HV.out.trans (hb.mono HV.out.size)); clear hb)
        all_goals
          go_ret
          first
            | exact HIN.out _ _ (fun h => absurd rfl h.2.2) HV2.out
            | exact HIN2.out _ _ (fun h => absurd rfl h.2.2) HV2.out
            | exact HIN.out _ _ (fun h => absurd rfl h.2.2) HV.out
            | exact HIN2.out _ _ (fun h => absurd rfl h.2.2) HV.out
      · -- kind 6
        clear HR HM
        go_wp2_with fail
        go_ret
        first | refine HIN.out _ _ (fun _ => ?_) (Below.refl _ _) | refine HIN2.out _ _ (fun _ => ?_) (Below.refl _ _)
        rw [← HS.out]
        have hf := HF.out
        simp [sw03]
        try first | omega | (rw [IntKind.wrap_u64, IntKind.wrap_u64]; omega) | (rw [Bool.eq_iff_iff]; simp; omega)
      · -- kind 7
        clear HR HM
        go_wp2_with fail
        go_ret
        first | refine HIN.out _ _ (fun _ => ?_) (Below.refl _ _) | refine HIN2.out _ _ (fun _ => ?_) (Below.refl _ _)
        rw [← HS.out]
        have hf := HF.out
        simp [sw03]
        try first | omega | (rw [IntKind.wrap_u64, IntKind.wrap_u64]; omega) | (rw [Bool.eq_iff_iff]; simp; omega)
      · -- kind 8
        clear HR HM
        go_wp2_with fail
        go_ret
        first | refine HIN.out _ _ (fun _ => ?_) (Below.refl _ _) | refine HIN2.out _ _ (fun _ => ?_) (Below.refl _ _)
        rw [← HS.out]
        have hf := HF.out
        simp [sw03]
        try first | omega | (rw [IntKind.wrap_u64, IntKind.wrap_u64]; omega) | (rw [Bool.eq_iff_iff]; simp; omega)
      · -- kind 18
        clear HR HM
        go_wp2_with fail
        go_ret
        first | refine HIN.out _ _ (fun _ => ?_) (Below.refl _ _) | refine HIN2.out _ _ (fun _ => ?_) (Below.refl _ _)
        rw [← HS.out]
        have hf := HF.out
        simp [sw03]
        try first | omega | (rw [IntKind.wrap_u64, IntKind.wrap_u64]; omega) | (rw [Bool.eq_iff_iff]; simp; omega)
      · -- kind 19
        clear HR HM
        go_wp2_with fail
        go_ret
        first | refine HIN.out _ _ (fun _ => ?_) (Below.refl _ _) | refine HIN2.out _ _ (fun _ => ?_) (Below.refl _ _)
        rw [← HS.out]
        have hf := HF.out
        simp [sw03]
        try first | omega | (rw [IntKind.wrap_u64, IntKind.wrap_u64]; omega) | (rw [Bool.eq_iff_iff]; simp; omega)
      · -- kind 22
        clear HR HM
        go_wp2_with fail
        go_ret
        first | refine HIN.out _ _ (fun _ => ?_) (Below.refl _ _) | refine HIN2.out _ _ (fun _ => ?_) (Below.refl _ _)
        rw [← HS.out]
        have hf := HF.out
        simp [sw03]
        try first | omega | (rw [IntKind.wrap_u64, IntKind.wrap_u64]; omega) | (rw [Bool.eq_iff_iff]; simp; omega)
      · -- kind 23
        clear HR HM
        go_wp2_with fail
        go_ret
        first | refine HIN.out _ _ (fun _ => ?_) (Below.refl _ _) | refine HIN2.out _ _ (fun _ => ?_) (Below.refl _ _)
        rw [← HS.out]
        have hf := HF.out
        simp [sw03]
        try first | omega | (rw [IntKind.wrap_u64, IntKind.wrap_u64]; omega) | (rw [Bool.eq_iff_iff]; simp; omega)
      · -- kind 24
        clear HR HM
        go_wp2_with fail
        all_goals
          go_ret
          first | refine HIN.out _ _ (fun _ => ?_) (Below.refl _ _) | refine HIN2.out _ _ (fun _ => ?_) (Below.refl _ _)
          rw [← HS.out]
          have hf := HF.out
          simp [sw03]
          try first | omega | (rw [IntKind.wrap_u64, IntKind.wrap_u64]; omega) | (rw [Bool.eq_iff_iff]; simp; omega)
      · -- kind 26
        clear HR HM
        go_wp2_with fail
        go_ret
        first | refine HIN.out _ _ (fun _ => ?_) (Below.refl _ _) | refine HIN2.out _ _ (fun _ => ?_) (Below.refl _ _)
        rw [← HS.out]
        have hf := HF.out
        simp [sw03]
        try first | omega | (rw [IntKind.wrap_u64, IntKind.wrap_u64]; omega) | (rw [Bool.eq_iff_iff]; simp; omega)
      · -- kind 27
        clear HR HM
        go_wp2_with fail
        go_ret
        first | refine HIN.out _ _ (fun _ => ?_) (Below.refl _ _) | refine HIN2.out _ _ (fun _ => ?_) (Below.refl _ _)
        rw [← HS.out]
        have hf := HF.out
        simp [sw03]
        try first | omega | (rw [IntKind.wrap_u64, IntKind.wrap_u64]; omega) | (rw [Bool.eq_iff_iff]; simp; omega)
    · have hS := HS.out
      unfold sw03 at hS
      rw [if_neg (by omega), if_neg (by omega), if_neg (by omega), if_neg (by omega), if_neg (by omega), if_neg (by omega)] at hS
      have e0 : ((k : Int) == 0) = false := by rw [beq_eq_false_iff_ne]; omega
      have e2 : ((k : Int) == 2) = false := by rw [beq_eq_false_iff_ne]; omega
      have e3 : ((k : Int) == 3) = false := by rw [beq_eq_false_iff_ne]; omega
      have e6 : ((k : Int) == 6) = false := by rw [beq_eq_false_iff_ne]; omega
      have e7 : ((k : Int) == 7) = false := by rw [beq_eq_false_iff_ne]; omega
      have e8 : ((k : Int) == 8) = false := by rw [beq_eq_false_iff_ne]; omega
      have e18 : ((k : Int) == 18) = false := by rw [beq_eq_false_iff_ne]; omega
      have e19 : ((k : Int) == 19) = false := by rw [beq_eq_false_iff_ne]; omega
      have e22 : ((k : Int) == 22) = false := by rw [beq_eq_false_iff_ne]; omega
      have e23 : ((k : Int) == 23) = false := by rw [beq_eq_false_iff_ne]; omega
      have e24 : ((k : Int) == 24) = false := by rw [beq_eq_false_iff_ne]; omega
      have e26 : ((k : Int) == 26) = false := by rw [beq_eq_false_iff_ne]; omega
      have e27 : ((k : Int) == 27) = false := by rw [beq_eq_false_iff_ne]; omega
      have HS2 := Lib.hid hS
      clear HR HM HF hks hS
      go_wp2_with fail
      go_ret
      first | exact HIN.out _ _ (fun _ => HS2.out) (Below.refl _ _) | exact HIN2.out _ _ (fun _ => HS2.out) (Below.refl _ _)

end Go.Proofs.Ytmnmpmiocgfalaa
