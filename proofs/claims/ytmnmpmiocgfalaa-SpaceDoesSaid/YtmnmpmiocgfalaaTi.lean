/- space: the reference's May and Asks tell what the program's do. -/
import Derived.Test.YtmnmpmiocgfalaaTh
namespace Go.Proofs.Ytmnmpmiocgfalaa
open Go.ChangeShapes Go.WideShapes Go.RowKit
set_option linter.unusedVariables false
set_option linter.unusedSimpArgs false

/-- Does a frame fall by what the second question asks? -/
def x7F (k a b c : Nat) (fin : Bool) (ds ms ls : Nat) : Bool :=
  (((((((decide (numsF k < 1) && ((a : Int) != 0)) || (decide (numsF k < 2) && ((b : Int) != 0))) || (decide (numsF k < 3) && ((c : Int) != 0))) || (!dataF k && decide ((0 : Int) < (ds : Int)))) || (((k : Int) != 8) && fin)) || (((k : Int) != 3) && ((k : Int) != 24) && decide ((0 : Int) < (ms : Int)))) || (((k : Int) != 2) && ((k : Int) != 3) && decide ((0 : Int) < (ls : Int))))
theorem may_plain (f : Frm) (h0 : f.kind ≠ 0) (h2 : f.kind ≠ 2) (h3 : f.kind ≠ 3) :
    mayF f = (decide (0 ≤ numsF f.kind) && decide (f.a ≤ 4611686018427387903) && decide (f.b ≤ 4611686018427387903) && decide (f.c ≤ 4611686018427387903) && (!x7F f.kind f.a f.b f.c f.fin f.data.size f.more.size f.rs.length && sw03 f.kind f.a f.b f.data.size f.more.size)) := by
  obtain ⟨k, a, b, c, fin, data, more, lp, rs, lc⟩ := f
  simp only at h0 h2 h3 ⊢
  unfold mayF
  by_cases hbig : 4611686018427387903 < a ∨ 4611686018427387903 < b ∨ 4611686018427387903 < c
  · rw [if_pos (by simpa using hbig), eq_comm, Bool.eq_false_iff]
    intro h
    simp only [Bool.and_eq_true, decide_eq_true_eq] at h
    omega
  rw [if_neg (by simpa using hbig)]
  have ha : a ≤ 4611686018427387903 := by omega
  have hb : b ≤ 4611686018427387903 := by omega
  have hc : c ≤ 4611686018427387903 := by omega
  rw [decide_eq_true ha, decide_eq_true hb, decide_eq_true hc]
  have hd0 : data.size = 0 ∨ 0 < data.size := by omega
  have he : (⟨#[]⟩ : ByteArray).size = 0 := rfl
  generalize hds : data.size = ds at *
  generalize hms : more.size = ms at *
  generalize hls : rs.length = ls at *
  clear hbig
  by_cases hk : k = 1 ∨ k = 4 ∨ k = 5 ∨ k = 6 ∨ k = 7 ∨ k = 8 ∨ k = 16 ∨ k = 17 ∨ k = 18 ∨ k = 19 ∨ k = 20 ∨ k = 21 ∨ k = 22 ∨ k = 23 ∨ k = 24 ∨ k = 25 ∨ k = 26 ∨ k = 27 ∨ k = 28 ∨ k = 29 ∨ k = 30
  · rcases hk with rfl | rfl | rfl | rfl | rfl | rfl | rfl | rfl | rfl | rfl | rfl | rfl | rfl | rfl | rfl | rfl | rfl | rfl | rfl | rfl | rfl
    all_goals
      rw [Bool.eq_iff_iff]
      simp [shapesF, restF, limitsF, ownF, x7F, sw03, numsF, dataF, hds, hms, hls, he]
      try (first | omega | (cases fin <;> simp <;> omega))
  · have h1 : shapesF k = none := by
      unfold shapesF
      repeat' rw [if_neg (by omega)]
    have h4 : ¬ (0 ≤ numsF k) := by
      unfold numsF
      repeat' rw [if_neg (by omega)]
      omega
    have h5 : ownF ⟨k, a, b, c, fin, data, more, lp, rs, lc⟩ = false := by
      unfold ownF
      rw [if_neg (by simp only; omega), if_neg (by simp only; omega)]
    simp only [h1, h5]
    rw [decide_eq_false h4]
    simp


set_option maxRecDepth 100000 in
set_option maxHeartbeats 4000000 in
theorem may03_early (k a b c : Nat) (fin : Bool) (data more : ByteArray) (lp : Option Addr) (l lc : Nat) (w : World) (n : Int) (hn : numsF k = n)
    (hc : n < 0 ∨ 4611686018427387903 < a ∨ 4611686018427387903 < b ∨ 4611686018427387903 < c) :
    Calls Try.prog 14 #[.agg #[.int .u64 (k : Int), .int .u64 (a : Int), .int .u64 (b : Int), .int .u64 (c : Int), .bool fin, .string data, .string more, .slice lp l lc]] w (May03Q k false w.heap.size w) := by
  have HN : ∀ w, RowKit.Hid (Calls Try.prog 46 #[.int .u64 (k : Int)] w fun e w' => e = .returned (.int .i64 n) ∧ w = w') := fun w => Lib.hid (hn ▸ numbers_any k w)
  obtain ⟨s0, h0⟩ : ∃ s, decide (n < 0) = s := ⟨_, rfl⟩
  obtain ⟨s1, h1⟩ : ∃ s, decide ((4611686018427387904 : Int) ≤ (a : Int)) = s := ⟨_, rfl⟩
  obtain ⟨s2, h2⟩ : ∃ s, decide ((4611686018427387904 : Int) ≤ (b : Int)) = s := ⟨_, rfl⟩
  obtain ⟨s3, h3⟩ : ∃ s, decide ((4611686018427387904 : Int) ≤ (c : Int)) = s := ⟨_, rfl⟩
  have hs : (s0 || s1 || s2 || s3) = true := by
    rw [← h0, ← h1, ← h2, ← h3]
    simp only [Bool.or_eq_true, decide_eq_true_eq]
    omega
  have HQ : RowKit.Hid (∀ w', Below (w.heap.size) w w' → May03Q k false w.heap.size w (.returned (.bool false)) w') := Lib.hid fun w' hb => ⟨false, rfl, fun _ => rfl, hb⟩
  have HB : RowKit.Hid (∀ o, Below w.heap.size w (w.alloc o)) := Lib.hid fun o => (Below.refl _ _).alloc (Nat.le_refl _) _
  generalize hQ : May03Q k false w.heap.size w = Q at *
  clear hn hc
  cases s0
  · cases s1
    · cases s2
      · cases s3
        · exact absurd hs (by decide)
        all_goals
          clear hs
          go_enter Try.func14, Try.ntmps14
          go_wp2_with (go_at_call 46; refine (HN _).out.mono ?_; rintro e w' ⟨rfl, rfl⟩)
          try go_ret
          exact HQ.out _ (HB.out _)
      all_goals
        clear hs
        go_enter Try.func14, Try.ntmps14
        go_wp2_with (go_at_call 46; refine (HN _).out.mono ?_; rintro e w' ⟨rfl, rfl⟩)
        try go_ret
        exact HQ.out _ (HB.out _)
    all_goals
      clear hs
      go_enter Try.func14, Try.ntmps14
      go_wp2_with (go_at_call 46; refine (HN _).out.mono ?_; rintro e w' ⟨rfl, rfl⟩)
      try go_ret
      exact HQ.out _ (HB.out _)
  all_goals
    clear hs
    go_enter Try.func14, Try.ntmps14
    go_wp2_with (go_at_call 46; refine (HN _).out.mono ?_; rintro e w' ⟨rfl, rfl⟩)
    try go_ret
    exact HQ.out _ (HB.out _)

theorem may03_any (f : Frm) (w : World) (hf : f.fit) (hr : RgAt w f.lp f.rs) : Calls Try.prog 14 #[frmV f] w (May03Q f.kind (mayF f) w.heap.size w) := by
  have hp := may_plain f
  by_cases he : numsF f.kind < 0 ∨ 4611686018427387903 < f.a ∨ 4611686018427387903 < f.b ∨ 4611686018427387903 < f.c
  · refine (may03_early f.kind f.a f.b f.c f.fin f.data f.more f.lp f.rs.length f.lc w _ rfl he).mono ?_
    rintro e w' ⟨z, h1, h2, h3⟩
    refine ⟨z, h1, fun h => ?_, h3⟩
    rw [h2 h, hp h.1 h.2.1 h.2.2, eq_comm, Bool.eq_false_iff]
    intro hh
    simp only [Bool.and_eq_true, decide_eq_true_eq] at hh
    omega
  · have ha : f.a ≤ 4611686018427387903 := by omega
    have hb : f.b ≤ 4611686018427387903 := by omega
    have hc : f.c ≤ 4611686018427387903 := by omega
    have hn : 0 ≤ numsF f.kind := by omega
    refine (may03_main f.kind f.a f.b f.c f.fin f.data f.more f.lp f.rs f.lc w hf.d hf.m hf.l hr _ rfl hn ha hb hc _ _ _ _ _ _ _ _ _ _ _ _ _ _ _ _ _ _ _ _ _ rfl rfl rfl rfl rfl rfl rfl rfl rfl rfl rfl rfl rfl rfl rfl rfl rfl rfl rfl rfl rfl).mono ?_
    rintro e w' ⟨z, h1, h2, h3⟩
    refine ⟨z, h1, fun h => ?_, h3⟩
    rw [h2 h, hp h.1 h.2.1 h.2.2, decide_eq_true hn, decide_eq_true ha, decide_eq_true hb, decide_eq_true hc]
    simp [x7F]

set_option maxRecDepth 100000 in
set_option maxHeartbeats 4000000 in
theorem asks03 (f : Frm) (w : World) (hf : f.fit) (hrg : RgAt w f.lp f.rs) : Calls Try.prog 59 #[frmV f] w fun e w' => e = .returned (.bool (asksF f)) ∧ Below w.heap.size w w' := by
  have HM := fun w hr => Lib.hid (may03_any f w hf hr)
  have hA : asksF f = if f.kind = 0 ∨ f.kind = 2 ∨ f.kind = 3 ∨ f.kind = 28 ∨ f.kind = 29 then false else mayF f := rfl
  obtain ⟨A, hA2⟩ : ∃ A, mayF f = A := ⟨_, rfl⟩
  rw [hA2] at HM hA
  rw [hA]
  clear hA2 hA
  obtain ⟨k, a, b, c, fin, data, more, lp, rs, lc⟩ := f
  simp only at hrg
  unfold frmV at HM ⊢
  simp only at HM ⊢
  clear hf
  obtain ⟨W, hW⟩ : ∃ W, w.alloc (.cells #[.int .u64 (k : Int), .int .u64 (a : Int), .int .u64 (b : Int), .int .u64 (c : Int), .bool fin, .string data, .string more, .slice lp rs.length lc] 43) = W := ⟨_, rfl⟩
  have hbW : Below w.heap.size w W := by rw [← hW]; exact (Below.refl _ _).alloc (Nat.le_refl _) _
  have hk : blk W w.heap.size 43 [.int .u64 (k : Int), .int .u64 (a : Int), .int .u64 (b : Int), .int .u64 (c : Int), .bool fin, .string data, .string more, .slice lp rs.length lc] := by rw [← hW]; exact blk.new w _ _
  have HM := HM W (hrg.below hbW)
  have HB := Lib.hid hbW
  have HK := Lib.hid hk
  have hHl := Lib.hid hk.lt
  obtain ⟨N, hN⟩ : ∃ N, rs.length = N := ⟨_, rfl⟩
  rw [hN] at HM HK hk hW ⊢
  clear hbW hN hrg
  have q0 := hk.cell (k := 0) rfl
  have q1 := hk.cell (k := 1) rfl
  have q2 := hk.cell (k := 2) rfl
  have q3 := hk.cell (k := 3) rfl
  have q4 := hk.cell (k := 4) rfl
  have q5 := hk.cell (k := 5) rfl
  have q6 := hk.cell (k := 6) rfl
  have q7 := hk.cell (k := 7) rfl
  clear hk
  by_cases hks : k = 0 ∨ k = 2 ∨ k = 3 ∨ k = 28 ∨ k = 29
  · rw [if_pos hks]
    rcases hks with hkk | hkk | hkk | hkk | hkk
    · have e0 : ((k : Int) != 0) = false := by rw [hkk]; rfl
      have e2 : ((k : Int) != 2) = true := by rw [hkk]; rfl
      have e3 : ((k : Int) != 3) = true := by rw [hkk]; rfl
      have e28 : ((k : Int) != 28) = true := by rw [hkk]; rfl
      have e29 : ((k : Int) != 29) = true := by rw [hkk]; rfl
      clear hkk
      go_enter Try.func59, Try.ntmps59
      go_wp2_with (go_at_call 14; refine HM.out.mono ?_; rintro e w' ⟨z, rfl, hz, hb⟩; (have q0' := (HK.out.below hb hHl.out).cell (k := 0) rfl); (have HV := Lib.hid (HB.out.trans (hb.mono HB.out.size))); clear hb hz; cases z)
      all_goals
        go_ret
        exact ⟨rfl, HV.out⟩
    · have e0 : ((k : Int) != 0) = true := by rw [hkk]; rfl
      have e2 : ((k : Int) != 2) = false := by rw [hkk]; rfl
      have e3 : ((k : Int) != 3) = true := by rw [hkk]; rfl
      have e28 : ((k : Int) != 28) = true := by rw [hkk]; rfl
      have e29 : ((k : Int) != 29) = true := by rw [hkk]; rfl
      clear hkk
      go_enter Try.func59, Try.ntmps59
      go_wp2_with (go_at_call 14; refine HM.out.mono ?_; rintro e w' ⟨z, rfl, hz, hb⟩; (have q0' := (HK.out.below hb hHl.out).cell (k := 0) rfl); (have HV := Lib.hid (HB.out.trans (hb.mono HB.out.size))); clear hb hz; cases z)
      all_goals
        go_ret
        exact ⟨rfl, HV.out⟩
    · have e0 : ((k : Int) != 0) = true := by rw [hkk]; rfl
      have e2 : ((k : Int) != 2) = true := by rw [hkk]; rfl
      have e3 : ((k : Int) != 3) = false := by rw [hkk]; rfl
      have e28 : ((k : Int) != 28) = true := by rw [hkk]; rfl
      have e29 : ((k : Int) != 29) = true := by rw [hkk]; rfl
      clear hkk
      go_enter Try.func59, Try.ntmps59
      go_wp2_with (go_at_call 14; refine HM.out.mono ?_; rintro e w' ⟨z, rfl, hz, hb⟩; (have q0' := (HK.out.below hb hHl.out).cell (k := 0) rfl); (have HV := Lib.hid (HB.out.trans (hb.mono HB.out.size))); clear hb hz; cases z)
      all_goals
        go_ret
        exact ⟨rfl, HV.out⟩
    · have e0 : ((k : Int) != 0) = true := by rw [hkk]; rfl
      have e2 : ((k : Int) != 2) = true := by rw [hkk]; rfl
      have e3 : ((k : Int) != 3) = true := by rw [hkk]; rfl
      have e28 : ((k : Int) != 28) = false := by rw [hkk]; rfl
      have e29 : ((k : Int) != 29) = true := by rw [hkk]; rfl
      clear hkk
      go_enter Try.func59, Try.ntmps59
      go_wp2_with (go_at_call 14; refine HM.out.mono ?_; rintro e w' ⟨z, rfl, hz, hb⟩; (have q0' := (HK.out.below hb hHl.out).cell (k := 0) rfl); (have HV := Lib.hid (HB.out.trans (hb.mono HB.out.size))); clear hb hz; cases z)
      all_goals
        go_ret
        exact ⟨rfl, HV.out⟩
    · have e0 : ((k : Int) != 0) = true := by rw [hkk]; rfl
      have e2 : ((k : Int) != 2) = true := by rw [hkk]; rfl
      have e3 : ((k : Int) != 3) = true := by rw [hkk]; rfl
      have e28 : ((k : Int) != 28) = true := by rw [hkk]; rfl
      have e29 : ((k : Int) != 29) = false := by rw [hkk]; rfl
      clear hkk
      go_enter Try.func59, Try.ntmps59
      go_wp2_with (go_at_call 14; refine HM.out.mono ?_; rintro e w' ⟨z, rfl, hz, hb⟩; (have q0' := (HK.out.below hb hHl.out).cell (k := 0) rfl); (have HV := Lib.hid (HB.out.trans (hb.mono HB.out.size))); clear hb hz; cases z)
      all_goals
        go_ret
        exact ⟨rfl, HV.out⟩
  · rw [if_neg hks]
    have e0 : ((k : Int) != 0) = true := by rw [bne_iff_ne]; omega
    have e2 : ((k : Int) != 2) = true := by rw [bne_iff_ne]; omega
    have e3 : ((k : Int) != 3) = true := by rw [bne_iff_ne]; omega
    have e28 : ((k : Int) != 28) = true := by rw [bne_iff_ne]; omega
    have e29 : ((k : Int) != 29) = true := by rw [bne_iff_ne]; omega
    have HKS := Lib.hid (show k ≠ 0 ∧ k ≠ 2 ∧ k ≠ 3 by omega)
    clear hks
    go_enter Try.func59, Try.ntmps59
    go_wp2_with (go_at_call 14; refine HM.out.mono ?_; rintro e w' ⟨z, rfl, hz, hb⟩; (have q0' := (HK.out.below hb hHl.out).cell (k := 0) rfl); (have HV := Lib.hid (HB.out.trans (hb.mono HB.out.size))); (have HZ := Lib.hid (hz HKS.out)); clear hb hz; cases z)
    all_goals
      go_ret
      exact ⟨by rw [← HZ.out]; rfl, HV.out⟩

end Go.Proofs.Ytmnmpmiocgfalaa
