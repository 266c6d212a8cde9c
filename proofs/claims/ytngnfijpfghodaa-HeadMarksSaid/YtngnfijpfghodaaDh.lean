/- Contracts of head's Long and Read. -/
import Derived.Test.YtngnfijpfghodaaDg
import Derived.Deep.RegionWith
namespace Go.Proofs.Ytngnfijpfghodaa
open Go.ChangeShapes Go.WideShapes Go.RowKit
set_option linter.unusedVariables false

theorem Long_any (l : List UInt8) (w : World) : Calls Try.prog 14 #[.string (txt l)] w fun e w' => e = .returned (.bool (LongF l)) ∧ w = w' := by
  cases l with
  | nil =>
    have e2 : txt [] = ⟨#[]⟩ := rfl
    rw [e2]
    go_enter Try.func14, Try.ntmps14
    go_wp2_with fail
    go_ret
    exact ⟨rfl, rfl⟩
  | cons y a =>
    have e : LongF (y :: a) = decide (128 ≤ y.toNat) := rfl
    rw [e]
    have h0 : 0 < (txt (y :: a)).size := by rw [txt_size]; simp
    have hx0 : (txt (y :: a))[0].toNat = y.toNat := rfl
    have hne := not_empty _ h0
    have hb : (txt (y :: a)).toList.isEmpty = false := by simpa using hne
    generalize txt (y :: a) = s at *
    generalize y.toNat = Y at *
    obtain ⟨d, hd⟩ : ∃ d, decide (128 ≤ Y) = d := ⟨_, rfl⟩
    have hd2 : decide ((128 : Int) ≤ (Y : Int)) = d := by rw [← hd, decide_eq_decide]; omega
    rw [hd]
    clear hne hd
    go_enter Try.func14, Try.ntmps14
    go_wp2_with fail
    go_ret
    exact ⟨rfl, rfl⟩

theorem size_bounds (r : Rd) : 0 ≤ r.size.1 ∧ r.size.1 ≤ 16388 := by
  unfold Rd.size
  split
  · constructor <;> simp
  · rename_i h
    simp only [Bool.or_eq_true, Bool.not_eq_true', Bool.and_eq_false_iff, not_or, decide_eq_false_iff_not, Decidable.not_not, Bool.not_eq_true] at h
    constructor
    · simp only; omega
    · simp only; omega

theorem take_bad (r : Rd) (n : Int) (h : r.bad = true) : (r.take n).2.bad = true := by
  unfold Rd.take
  rw [if_pos (.inl h)]

/-- At a good opening there are no fewer bytes than the number has. -/
theorem open_ok (r : Rd) : ((openF r).2.2.take ((openF r).1.bytes)).2.bad = true ∨ 0 ≤ (openF r).2.1 - (openF r).1.bytes := by
  by_cases h : (openF r).1.bytes ≤ (openF r).2.1
  · right; omega
  · left
    apply take_bad
    unfold openF at h ⊢
    simp only at h ⊢
    unfold Rd.must
    simp only [decide_eq_false h, Bool.false_and, Bool.not_false, Bool.or_true]

theorem read_arg (l : List UInt8) (cid : Int) (f : Value) (w : World) (h : cid < 0 ∨ 20 < cid) :
    Calls Try.prog 16 #[.string (txt l), .int .i64 cid, f] w fun e w' => e = .returned (.tuple #[Hd.zero.v, .string ⟨#[]⟩, .int .i64 1]) ∧ Below w.heap.size w w' := by
  have hz := blk.new w 24 zeroH
  have hb : Below w.heap.size w (w.alloc (.cells zeroH.toArray 24)) := (Below.refl _ _).alloc (Nat.le_refl _) _
  unfold zeroH at hz hb
  have HB := Lib.hid hb
  clear hb hz
  unfold Hd.v Hd.zero
  have e0 : txt [] = ⟨#[]⟩ := rfl
  simp only [e0]
  rcases h with h | h
  all_goals
    go_enter Try.func16, Try.ntmps16
    go_wp2_with fail
    refine bodyPost_ret (v := .tuple #[.agg #[.int .i64 0, .string ⟨#[]⟩, .string ⟨#[]⟩, .int .u64 0, .int .i64 0, .int .i64 0, .bool false], .string ⟨#[]⟩, .int .i64 1]) (by simp [results, Try.results16, go_sem]) rfl ⟨rfl, ?_⟩
    exact HB.out

theorem below_put7 {B : Nat} {w w' : World} (h : Below B w w') (b : Nat) (hb : B ≤ b) (v0 v1 v2 v3 v4 v5 v6 : Value) : Below B w (put7 w' b v0 v1 v2 v3 v4 v5 v6) :=
  ((((((h.setCell (p := ⟨b, 0, none⟩) hb _).setCell (p := ⟨b, 1, none⟩) hb _).setCell (p := ⟨b, 2, none⟩) hb _).setCell (p := ⟨b, 3, none⟩) hb _).setCell (p := ⟨b, 4, none⟩) hb _).setCell (p := ⟨b, 5, none⟩) hb _).setCell (p := ⟨b, 6, none⟩) hb _
theorem blk_put7 {w : World} {b : Nat} {T : TypeId} (h : blk w b T zeroH) (v0 v1 v2 v3 v4 v5 v6 : Value) : blk (put7 w b v0 v1 v2 v3 v4 v5 v6) b T [v0, v1, v2, v3, v4, v5, v6] :=
  (((((((h.set 0 v0).set 1 v1).set 2 v2).set 3 v3).set 4 v4).set 5 v5).set 6 v6)

set_option maxRecDepth 100000 in
set_option maxHeartbeats 4000000 in
theorem read_long (l : List UInt8) (cid c : Int) (bl : Nat) (w : World) (hcid : 0 ≤ cid ∧ cid ≤ 20) (hlong : LongF l = true) (hlen : l.length ≤ 100000) (hL : blk w bl 40 (askL c)) (hc : -9223372036854775808 ≤ c) :
    Calls Try.prog 16 #[.string (txt l), .int .i64 cid, askV bl] w fun e w' =>
      e = .returned (.tuple #[(endF (openF ⟨l, false⟩).2.2 (openF ⟨l, false⟩).1 ((openF ⟨l, false⟩).2.1 - (openF ⟨l, false⟩).1.bytes) c).1.1.v, .string (txt (endF (openF ⟨l, false⟩).2.2 (openF ⟨l, false⟩).1 ((openF ⟨l, false⟩).2.1 - (openF ⟨l, false⟩).1.bytes) c).1.2.1), .int .i64 (endF (openF ⟨l, false⟩).2.2 (openF ⟨l, false⟩).1 ((openF ⟨l, false⟩).2.1 - (openF ⟨l, false⟩).1.bytes) c).1.2.2]) ∧ Below w.heap.size w w' := by
  have hok := open_ok ⟨l, false⟩
  have hn : 0 ≤ (openF ⟨l, false⟩).2.1 ∧ (openF ⟨l, false⟩).2.1 ≤ 16388 := size_bounds _
  obtain ⟨t, dst, src, m, h1, ht, hm⟩ : ∃ (t : Nat) (dst src : List UInt8) (m : Nat), (openF ⟨l, false⟩).1 = ⟨(t : Int), dst, src, 0, (m : Int), 0, false⟩ ∧ t < 4 ∧ m ≤ 4 :=
    ⟨_, _, _, _, rfl, Nat.mod_lt _ (by omega), by have := Nat.mod_lt (⟨l, false⟩ : Rd).one.1 (show 4 > 0 by omega); omega⟩
  have ho := fun w' h => open_any (w.heap.size + 1) ⟨l, false⟩ w' h hlen
  rw [h1] at hok ho ⊢
  simp only at hok ⊢
  generalize (openF ⟨l, false⟩).2.1 = n at *
  generalize (openF ⟨l, false⟩).2.2 = r1 at *
  have he := fun w' h hl => end_any (w.heap.size + 1) bl t dst src m false r1 (n - (m : Int)) c w' h hl (by have := hL.lt; omega) ht hok hc
  generalize endF r1 ⟨(t : Int), dst, src, 0, (m : Int), 0, false⟩ (n - (m : Int)) c = q at *
  obtain ⟨⟨⟨ty', dst', src', num', bytes', size', spin'⟩, pay, E⟩, r2⟩ := q
  have hlg := fun w => Long_any l w
  rw [hlong] at hlg
  simp only at he ⊢
  unfold Hd.v at ho he ⊢
  simp only at ho he ⊢
  have HO := Lib.hid ho
  have HE := Lib.hid he
  have HLG := Lib.hid hlg
  -- the world at the start
  have g0 : RdIs ((w.alloc (.cells zeroH.toArray 24)).alloc (.cells #[.string (txt l), .bool false] 54)) (w.heap.size + 1) ⟨l, false⟩ := by
    have h := blk.new (w.alloc (.cells zeroH.toArray 24)) 54 [.string (txt l), .bool false]
    rw [show (w.alloc (.cells zeroH.toArray 24)).heap.size = w.heap.size + 1 by simp] at h
    exact h
  have z0 : blk ((w.alloc (.cells zeroH.toArray 24)).alloc (.cells #[.string (txt l), .bool false] 54)) w.heap.size 24 zeroH := (blk.new w _ _).alloc _
  have o0 : Below w.heap.size w ((w.alloc (.cells zeroH.toArray 24)).alloc (.cells #[.string (txt l), .bool false] 54)) := ((Below.refl _ _).alloc (Nat.le_refl _) _).alloc (by simp) _
  have G0 := Lib.hid g0
  have Z0 := Lib.hid z0
  have O0 := Lib.hid o0
  have HL := Lib.hid hL
  clear ho he hlg g0 z0 o0 h1 hok hlong hL
  go_enter Try.func16, Try.ntmps16
  go_wp2_with fail
  refine (HLG.out _).mono ?_
  rintro e w1 ⟨rfl, rfl⟩
  go_wp2_with fail
  refine (HO.out _ G0.out).mono ?_
  rintro e w1 ⟨rfl, g1, o1⟩
  have Z1 := Lib.hid (Z0.out.only o1 (by omega))
  have O1 := Lib.hid (O0.out.trans (o1.below (B := w.heap.size) (by simp; omega) (fun k hk => by omega)))
  have G1 := Lib.hid g1
  have hw1 : w.heap.size + 1 < w1.heap.size := g1.lt
  clear g1 o1 G0 Z0 O0
  go_wp2_with fail
  refine (HE.out _ (blk.alloc G1.out _) ((HL.out.below O1.out HL.out.lt).alloc _)).mono ?_
  rintro e w2 ⟨rfl, g2, o2⟩
  have Z2 := (Z1.out.alloc _).only o2 (by omega)
  have O2 := Lib.hid ((O1.out.alloc O1.out.size _).trans (o2.below (B := w.heap.size) (by simp; omega) (fun k hk => by omega)))
  obtain ⟨z0, z1, z2, z3, z4, z5, z6⟩ := hd_cells Z2
  have zf := fun k => Z2.free k
  have HZ2 := Lib.hid Z2
  clear g2 o2 Z1 O1 G1 Z2 hw1
  go_wp2_with fail
  have BZ := blk_put7 HZ2.out (.int .i64 ty') (.string (txt dst')) (.string (txt src')) (.int .u64 (num' : Int)) (.int .i64 bytes') (.int .i64 size') (.bool spin')
  have BO := below_put7 O2.out w.heap.size (Nat.le_refl _) (.int .i64 ty') (.string (txt dst')) (.string (txt src')) (.int .u64 (num' : Int)) (.int .i64 bytes') (.int .i64 size') (.bool spin')
  change bodyPost _ _ _ _ _ (put7 w2 w.heap.size (.int .i64 ty') (.string (txt dst')) (.string (txt src')) (.int .u64 (num' : Int)) (.int .i64 bytes') (.int .i64 size') (.bool spin'))
  generalize put7 w2 w.heap.size (.int .i64 ty') (.string (txt dst')) (.string (txt src')) (.int .u64 (num' : Int)) (.int .i64 bytes') (.int .i64 size') (.bool spin') = F at BZ BO ⊢
  obtain ⟨x0, x1, x2, x3, x4, x5, x6⟩ := hd_cells BZ
  refine bodyPost_ret (v := .tuple #[.agg #[.int .i64 ty', .string (txt dst'), .string (txt src'), .int .u64 (num' : Int), .int .i64 bytes', .int .i64 size', .bool spin'], .string (txt pay), .int .i64 E]) (by simp [results, Try.results16, go_sem, x0, x1, x2, x3, x4, x5, x6]) rfl ⟨rfl, BO⟩

end Go.Proofs.Ytngnfijpfghodaa
