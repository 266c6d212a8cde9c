/- space: contracts of the program's May and Asks; of ContainsFunc over frames. -/
import Derived.Test.YtmnmpmiocgfalaaSf
namespace Go.Proofs.Ytmnmpmiocgfalaa
open Go.ChangeShapes Go.WideShapes Go.RowKit
set_option linter.unusedVariables false
set_option linter.unusedSimpArgs false

def restF (n : Nat) (tx : Bool) (f : Frm) : Bool :=
  decide ((if 0 < n then 0 else f.a) = 0) && decide ((if 1 < n then 0 else f.b) = 0) && decide ((if 2 < n then 0 else f.c) = 0) && !f.fin && decide ((if tx = true then (⟨#[]⟩ : ByteArray) else f.data).size = 0) && decide (f.more.size = 0) && decide (f.rs.length = 0)
def mayF (f : Frm) : Bool :=
  if 4611686018427387903 < f.a ∨ 4611686018427387903 < f.b ∨ 4611686018427387903 < f.c then false
  else match shapesF f.kind with
    | none => ownF f
    | some (n, t, x) => restF n (t || decide (0 < x)) f && (decide (x = 0) || decide (f.data.size = x)) && limitsF f

theorem shapes_le {k n x : Nat} {t : Bool} (h : shapesF k = some (n, t, x)) : n ≤ 3 ∧ x ≤ 8 := by
  unfold shapesF at h
  repeat' split at h
  all_goals first | (injection h with h; injection h with h1 h; injection h with h2 h3; omega) | cases h

set_option maxRecDepth 100000 in
set_option maxHeartbeats 4000000 in
theorem may_any (f : Frm) (w : World) (hf : f.fit) (hk0 : f.kind ≠ 0) (hk2 : f.kind ≠ 2) (hk3 : f.kind ≠ 3) : Calls Try.prog 73 #[frmV f] w fun e w' => e = .returned (.bool (mayF f)) ∧ Below w.heap.size w w' := by
  have hf0 := hf
  have HL := fun (ha : f.a ≤ 4611686018427387903) w => Lib.hid (limits_any f w hf0 ha)
  have HO := fun (hb : f.b ≤ 4611686018427387903) w => Lib.hid (own_any f w hf0 hk0 hk2 hk3 hb)
  obtain ⟨k, a, b, c, fin, data, more, lp, rs, lc⟩ := f
  obtain ⟨n0, n1, n2, n3, hd, hm, hl⟩ := hf
  simp only at n0 n1 n2 n3 hd hm hl hk0 hk2 hk3 HL HO
  clear hf0 hk0 hk2 hk3
  unfold frmV at HL HO ⊢
  simp only at HL HO ⊢
  unfold mayF
  simp only
  by_cases hbig : 4611686018427387903 < a ∨ 4611686018427387903 < b ∨ 4611686018427387903 < c
  · rw [if_pos hbig]
    have HB := Lib.hid hbig
    clear HL HO hbig n0 n1 n2 n3
    go_enter Try.func73, Try.ntmps73
    go_wp2_with fail
    all_goals
      have hbig := HB.out
      clear HB
      first
        | (exfalso; omega)
        | (go_ret; exact ⟨rfl, (Below.refl _ _).alloc (Nat.le_refl _) _⟩)
  · rw [if_neg hbig]
    have hla : a ≤ 4611686018427387903 := by omega
    have hlb : b ≤ 4611686018427387903 := by omega
    have HL := HL hla
    have HO := HO hlb
    have ea : ¬ (4611686018427387903 : Int) < (a : Int) := by omega
    have eb : ¬ (4611686018427387903 : Int) < (b : Int) := by omega
    have ec : ¬ (4611686018427387903 : Int) < (c : Int) := by omega
    have ed : ¬ (16384 : Int) < (data.size : Int) := by omega
    have HS := fun w => Lib.hid (shapes_any k w)
    unfold shapeV at HS
    clear hbig hla hlb n0 n1 n2 n3
    obtain ⟨N, hN⟩ : ∃ N, rs.length = N := ⟨_, rfl⟩
    have HK := Lib.hid (blk.new w 43 [.int .u64 (k : Int), .int .u64 (a : Int), .int .u64 (b : Int), .int .u64 (c : Int), .bool fin, .string data, .string more, .slice lp rs.length lc])
    rw [hN] at hl HL HO HK ⊢
    have HN := Lib.hid hN
    clear hN
    rcases hsh : shapesF k with _ | ⟨n, t, x⟩
    · rw [hsh] at HS
      simp only at HS ⊢
      clear hsh
      go_enter Try.func73, Try.ntmps73
      go_wp2_with fail
      all_goals
        refine (HS _).out.mono ?_
        rintro e w1 ⟨rfl, hb1⟩
        have k0 := HK.out.below hb1 (by simp)
        have HW := Lib.hid (((Below.refl w.heap.size w).alloc (Nat.le_refl _) _).trans (hb1.mono (by simp)))
        have hlt := k0.lt
        have d0 := k0.cell (k := 0) rfl
        have d1 := k0.cell (k := 1) rfl
        have d2 := k0.cell (k := 2) rfl
        have d3 := k0.cell (k := 3) rfl
        have d4 := k0.cell (k := 4) rfl
        have d5 := k0.cell (k := 5) rfl
        have d6 := k0.cell (k := 6) rfl
        have d7 := k0.cell (k := 7) rfl
        clear hb1 k0
        go_wp2_with fail
        refine (HO _).out.mono ?_
        rintro e w2 ⟨rfl, hb2⟩
        have HW2 := Lib.hid ((HW.out.alloc HW.out.size _).trans (hb2.mono (by have := HW.out.size; simp; omega)))
        clear hb2
        go_wp2_with fail
        go_ret
        exact ⟨rfl, HW2.out⟩
    · obtain ⟨hn3, hx8⟩ := shapes_le hsh
      rw [hsh] at HS
      simp only at HS ⊢
      clear hsh
      have HC := fun w => Lib.hid (clear_any n t x k a b c fin data more lp N lc w hn3 hx8)
      have hz := fun w => sameZ_any (if 0 < n then 0 else a) (if 1 < n then 0 else b) (if 2 < n then 0 else c) fin (if (t || decide (0 < x)) = true then ⟨#[]⟩ else data) more lp N lc w hl
      obtain ⟨R, hR⟩ : ∃ R, restF n (t || decide (0 < x)) ⟨k, a, b, c, fin, data, more, lp, rs, lc⟩ = R := ⟨_, rfl⟩
      rw [hR]
      unfold restF at hR
      simp only at hR
      rw [HN.out] at hR
      rw [hR] at hz
      have HZ := fun w => Lib.hid (hz w)
      obtain ⟨F, hF⟩ : ∃ F, limitsF ⟨k, a, b, c, fin, data, more, lp, rs, lc⟩ = F := ⟨_, rfl⟩
      rw [hF] at HL ⊢
      generalize (if 0 < n then 0 else a) = A1 at *
      generalize (if 1 < n then 0 else b) = B1 at *
      generalize (if 2 < n then 0 else c) = C1 at *
      generalize (if (t || decide (0 < x)) = true then (⟨#[]⟩ : ByteArray) else data) = D1 at *
      obtain ⟨G, hG⟩ : ∃ G, (R && (decide (x = 0) || decide (data.size = x)) && F) = G := ⟨_, rfl⟩
      rw [hG]
      have HG := Lib.hid hG
      clear hR hF hG hz HO
      go_enter Try.func73, Try.ntmps73
      go_wp2_with fail
      all_goals
        refine (HS _).out.mono ?_
        rintro e w1 ⟨rfl, hb1⟩
        have k0 := HK.out.below hb1 (by simp)
        have hw1 : Below w.heap.size w w1 := ((Below.refl w.heap.size w).alloc (Nat.le_refl _) _).trans (hb1.mono (by simp))
        have HW := Lib.hid (hw1.alloc hw1.size (.cells #[.int .i64 (n : Int), .bool t, .int .i64 (x : Int)] 123))
        have hlt := k0.lt
        have HK1 := Lib.hid (k0.alloc (.cells #[.int .i64 (n : Int), .bool t, .int .i64 (x : Int)] 123))
        have HSh := Lib.hid (blk.new w1 123 [.int .i64 (n : Int), .bool t, .int .i64 (x : Int)])
        have d0 := k0.cell (k := 0) rfl
        have d1 := k0.cell (k := 1) rfl
        have d2 := k0.cell (k := 2) rfl
        have d3 := k0.cell (k := 3) rfl
        have d4 := k0.cell (k := 4) rfl
        have d5 := k0.cell (k := 5) rfl
        have d6 := k0.cell (k := 6) rfl
        have d7 := k0.cell (k := 7) rfl
        clear hb1 k0 hw1
        go_wp2_with fail
        refine (HC _).out.mono ?_
        rintro e w2 ⟨rfl, hb2⟩
        have HK2 := Lib.hid (HK1.out.below hb2 HK1.out.lt)
        have HSh2 := Lib.hid (HSh.out.below hb2 (by simp))
        have HW2 := Lib.hid (HW.out.trans (hb2.mono HW.out.size))
        clear hb2 d0 d1 d2 d3 d4 d5 d6 d7 HK1 HSh HW
        go_wp2_with fail
        refine (HZ _).out.mono ?_
        rintro e w3 ⟨rfl, hb3⟩
        have k3 := HK2.out.below hb3 HK2.out.lt
        have HW3 := Lib.hid (HW2.out.trans (hb3.mono HW2.out.size))
        have s3 := HSh2.out.below hb3 HSh2.out.lt
        have d0 := k3.cell (k := 0) rfl
        have d1 := k3.cell (k := 1) rfl
        have d2 := k3.cell (k := 2) rfl
        have d3 := k3.cell (k := 3) rfl
        have d4 := k3.cell (k := 4) rfl
        have d5 := k3.cell (k := 5) rfl
        have d6 := k3.cell (k := 6) rfl
        have d7 := k3.cell (k := 7) rfl
        have e2 := s3.cell (k := 2) rfl
        have l1 := k3.lt
        have l2 := s3.lt
        clear hb3 k3 s3 HK2 HSh2 HW2
        cases R
        · go_wp2_with fail
          go_ret
          exact ⟨ret_bool (by rw [← HG.out]; rfl), HW3.out⟩
        · by_cases hx0 : x = 0
          · subst hx0
            go_wp2_with fail
            refine (HL _).out.mono ?_
            rintro e w4 ⟨rfl, hb4⟩
            have HW4 := Lib.hid (HW3.out.trans (hb4.mono HW3.out.size))
            clear hb4
            go_wp2_with fail
            go_ret
            exact ⟨ret_bool (by rw [← HG.out]; simp), HW4.out⟩
          · have hx1 : ((x : Int) == 0) = false := by rw [beq_eq_false_iff_ne]; omega
            by_cases hx2 : data.size = x
            · have hx3 : ((data.size : Int) == (x : Int)) = true := by rw [beq_iff_eq]; omega
              have hx4 : (data.size == x) = true := by rw [beq_iff_eq]; omega
              have HX := Lib.hid hx2
              clear hx2 hx0
              go_wp2_with fail
              refine (HL _).out.mono ?_
              rintro e w4 ⟨rfl, hb4⟩
              have HW4 := Lib.hid (HW3.out.trans (hb4.mono HW3.out.size))
              clear hb4
              go_wp2_with fail
              go_ret
              exact ⟨ret_bool (by rw [← HG.out, HX.out]; simp), HW4.out⟩
            · have hx3 : ((data.size : Int) == (x : Int)) = false := by rw [beq_eq_false_iff_ne]; omega
              have hx4 : (data.size == x) = false := by rw [beq_eq_false_iff_ne]; omega
              have HX := Lib.hid (And.intro hx0 hx2)
              clear hx2 hx0
              go_wp2_with fail
              go_ret
              exact ⟨ret_bool (by rw [← HG.out]; simp [HX.out.1, HX.out.2]), HW3.out⟩

def asksF (f : Frm) : Bool := if f.kind = 0 ∨ f.kind = 2 ∨ f.kind = 3 ∨ f.kind = 28 ∨ f.kind = 29 then false else mayF f

set_option maxRecDepth 100000 in
set_option maxHeartbeats 1000000 in
theorem asks_any (f : Frm) (w : World) (hf : f.fit) : Calls Try.prog 41 #[frmV f] w fun e w' => e = .returned (.bool (asksF f)) ∧ Below w.heap.size w w' := by
  by_cases hk : f.kind = 0 ∨ f.kind = 2 ∨ f.kind = 3 ∨ f.kind = 28 ∨ f.kind = 29
  · have e : asksF f = false := by unfold asksF; rw [if_pos hk]
    rw [e]
    clear e
    obtain ⟨k, a, b, c, fin, data, more, lp, rs, lc⟩ := f
    simp only at hk
    unfold frmV
    simp only
    clear hf
    rcases hk with rfl | rfl | rfl | rfl | rfl
    all_goals
      go_enter Try.func41, Try.ntmps41
      go_wp2_with fail
      go_ret
      exact ⟨rfl, (Below.refl _ _).alloc (Nat.le_refl _) _⟩
  · have e : asksF f = mayF f := by unfold asksF; rw [if_neg hk]
    rw [e]
    clear e
    have HM := fun w => Lib.hid (may_any f w hf (by omega) (by omega) (by omega))
    obtain ⟨A, hA⟩ : ∃ A, mayF f = A := ⟨_, rfl⟩
    rw [hA] at HM ⊢
    clear hA
    obtain ⟨k, a, b, c, fin, data, more, lp, rs, lc⟩ := f
    unfold frmV at HM ⊢
    simp only at hk HM ⊢
    have q0 : ((k : Int) == 0) = false := by rw [beq_eq_false_iff_ne]; omega
    have q2 : ((k : Int) == 2) = false := by rw [beq_eq_false_iff_ne]; omega
    have q3 : ((k : Int) == 3) = false := by rw [beq_eq_false_iff_ne]; omega
    have q28 : ((k : Int) == 28) = false := by rw [beq_eq_false_iff_ne]; omega
    have q29 : ((k : Int) == 29) = false := by rw [beq_eq_false_iff_ne]; omega
    clear hk hf
    go_enter Try.func41, Try.ntmps41
    go_wp2_with fail
    refine (HM _).out.mono ?_
    rintro e w1 ⟨rfl, hb1⟩
    have HB := Lib.hid (((Below.refl w.heap.size w).alloc (Nat.le_refl _) _).trans (hb1.mono (by simp)))
    clear hb1
    go_wp2_with fail
    go_ret
    exact ⟨rfl, HB.out⟩

end Go.Proofs.Ytmnmpmiocgfalaa
