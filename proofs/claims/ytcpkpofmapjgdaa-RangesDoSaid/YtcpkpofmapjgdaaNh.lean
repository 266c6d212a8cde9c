/- ranges: contract of Drop. -/
import Derived.Test.YtcpkpofmapjgdaaNg
namespace Go.Proofs.Ytcpkpofmapjgdaa
open Go.ChangeShapes Go.WideShapes Go.RowKit
set_option linter.unusedVariables false

theorem Try.rg_underlying : Try.prog.underlying 25 = some (.slice 45) := by kernel_rfl
theorem Try.rg_zero (w : World) : (zeroValue 45).run Try.prog w = .ok (.agg #[.int .u64 0, .int .u64 0]) w := by rfl

theorem run_clear_empty {P : Program} (w : World) (t e ty : TypeId) (ht : P.underlying t = some (.slice e)) (p : Option Addr) (c : Nat) :
    (Builtin.clear_ #[t] ty #[.slice p 0 c]).run P w = .ok (.tuple #[]) w := by
  cases p <;> simp [Builtin.clear_, run_underlying ht]

theorem zero_one {n : Nat} : ∀ v ∈ (Builtin.zeroCells (Value.agg #[.int .u64 0, .int .u64 0]).cells n).toList, v.oneCell' = true := by
  intro v hv
  simp [Builtin.zeroCells, Value.cells] at hv
  obtain ⟨i, hi, rfl⟩ := hv
  rcases Nat.mod_two_eq_zero_or_one i with h | h <;> simp [h, Value.oneCell']

set_option maxRecDepth 100000 in
set_option maxHeartbeats 4000000 in
theorem drop_nil (b B : Nat) (p : Option Addr) (cap : Nat) (w : World) (below : Nat) (hp : p = none ∧ cap = 0 ∨ ∃ g, p = some ⟨g, 0, none⟩) (hcap : cap ≤ maxLen) (h : SetIs w b B (.slice p 0 cap) []) :
    Calls Try.prog 13 #[.pointer (some ⟨b, 0, none⟩), .int .u64 (below : Int)] w fun e w' => e = .returned (.tuple #[]) ∧ ∃ v', SetTo b B (.slice p 0 cap) w v' [] w' := by
  have hbl := h.lt
  have c0 : w.cell? ⟨b, 0, none⟩ = some (.slice p 0 cap) := h.at_.cell rfl
  have f0 : w.frozen? ⟨b, 0, none⟩ = false := h.at_.free 0
  have hto : ∃ v', SetTo b B (.slice p 0 cap) w v' [] (w.setCell ⟨b, 0, none⟩ (.slice p 0 cap)) := by
    have hne : (Value.slice p 0 cap).ownBlock ≠ some b := own_ne h.own h.at_ (by decide)
    refine ⟨_, ⟨blk.set h.at_ 0 _, ownsRow_setCell_other (a := ⟨b, 0, none⟩) h.own hne _, ?_, h.bb⟩, Only.setCell (p := ⟨b, 0, none⟩) (Only.refl _ w) (.inl (.inl rfl)) _, .inl rfl⟩
    simpa [World.setCell] using h.bw
  have HT := Lib.hid hto
  have hcl := fun W p c ty => run_clear_empty (P := Try.prog) W 25 45 ty Try.rg_underlying p c
  clear h hto
  rcases hp with ⟨rfl, rfl⟩ | ⟨g, rfl⟩
  · go_enter Try.func13, Try.ntmps13
    go_wp2_with fail
    go_loopw [4] (fun v4 wr => v4 = .int .i64 0 ∧ wr = w) (fun _ _ => 0)
    case atStart => exact ⟨rfl, rfl⟩
    case round =>
      obtain ⟨rfl, rfl⟩ := hrel
      go_wp2_with fail
      go_end0
      exact ⟨rfl, HT.out⟩
  · go_enter Try.func13, Try.ntmps13
    go_wp2_with fail
    go_loopw [4] (fun v4 wr => v4 = .int .i64 0 ∧ wr = w) (fun _ _ => 0)
    case atStart => exact ⟨rfl, rfl⟩
    case round =>
      obtain ⟨rfl, rfl⟩ := hrel
      go_wp2_with fail
      go_end0
      exact ⟨rfl, HT.out⟩

theorem keep_none (L : List Rg) (n : Nat) (h : OkR L) (h0 : keepN L n = 0) : dropR L n = [] := List.eq_nil_of_length_eq_zero (by rw [drop_len, h0])

theorem set_at {w : World} {b B g n cap : Nat} {L : List Rg} (h : SetIs w b B (.slice (some ⟨g, 0, none⟩) n cap) L) {i : Nat} {r : Rg} (hr : L[i]? = some r) :
    w.cell? ⟨g, i * 2, none⟩ = some (.int .u64 (r.1 : Int)) ∧ w.cell? ⟨g, i * 2 + 1, none⟩ = some (.int .u64 (r.2 : Int)) ∧ ∀ j, w.frozen? ⟨g, j, none⟩ = false := by
  obtain ⟨g1, cap1, hv, _, _, k1, k2⟩ := rg_cells h.own i r hr
  injection hv with hv1 hv2 hv3
  injection hv1 with hv1
  injection hv1 with hv1
  subst hv1
  subst hv2
  exact ⟨k1, k2, fun j => h.own.frozenAt j⟩

set_option maxRecDepth 100000 in
set_option maxHeartbeats 4000000 in
theorem drop_some (b B g : Nat) (cap : Nat) (L : List Rg) (w : World) (below : Nat) (h : SetIs w b B (.slice (some ⟨g, 0, none⟩) L.length cap) L) (hn : L.length ≤ 1000000) (hcap : L.length ≤ cap ∧ cap ≤ maxLen) (hOk : OkR L) (h0 : 0 < L.length) :
    Calls Try.prog 13 #[.pointer (some ⟨b, 0, none⟩), .int .u64 (below : Int)] w fun e w' => e = .returned (.tuple #[]) ∧ ∃ v', SetTo b B (.slice (some ⟨g, 0, none⟩) L.length cap) w v' (dropR L below) w' := by
  have hbl := h.lt
  have c0 : w.cell? ⟨b, 0, none⟩ = some (.slice (some ⟨g, 0, none⟩) L.length cap) := h.at_.cell rfl
  obtain ⟨hc1, hc2⟩ := hcap
  obtain ⟨K, hK⟩ : ∃ K, keepN L below = K := ⟨_, rfl⟩
  have hKle : K ≤ L.length := by rw [← hK]; exact keep_le L below
  have hki := fun i r hr => keep_iff L _ below hOk i r hr
  have hgw : g < w.heap.size := by
    obtain ⟨g1, cap1, hv, hgB, hg1, _⟩ := own_view h.own h0
    injection hv with hv1 hv2 hv3
    injection hv1 with hv1
    injection hv1 with hv1
    omega
  have hcells := fun i r hr => rg_cells h.own i r hr
  have hgb : g ≠ b := fun e => own_ne h.own h.at_ (by decide) (by rw [e]; rfl)
  obtain ⟨N, hN⟩ : ∃ N, L.length = N := ⟨_, rfl⟩
  have hcl : ∀ i r, L[i]? = some r → w.cell? ⟨g, i * 2, none⟩ = some (.int .u64 (r.1 : Int)) ∧ w.cell? ⟨g, i * 2 + 1, none⟩ = some (.int .u64 (r.2 : Int)) := fun i r hr => by
    obtain ⟨g1, cap1, hv, _, _, k1, k2⟩ := hcells i r hr
    injection hv with hv1 hv2 hv3
    injection hv1 with hv1
    injection hv1 with hv1
    subst hv1
    exact ⟨k1, k2⟩
  have HC := Lib.hid hcl
  clear hcl
  have HN := Lib.hid hN
  have HK := Lib.hid hK
  have HI := Lib.hid hki
  have HO := Lib.hid hOk
  rw [hN] at c0 hn hc1 hKle h0 h ⊢
  have H := Lib.hid h
  rw [hK] at hki
  clear h hOk hN hcells hK hki
  go_enter Try.func13, Try.ntmps13
  go_wp2_with fail
  go_loopw [4] (fun v4 wr => ∃ j : Nat, K ≤ j ∧ j ≤ N ∧ v4 = .int .i64 j ∧ Below w.heap.size w wr) (fun v4 _ => (intOf v4).toNat)
  case atStart => exact ⟨N, by omega, by omega, rfl, Below.refl _ _⟩
  case round =>
    obtain ⟨j, hj1, hj2, rfl, hbw⟩ := hrel
    have d0 := (hbw.cell (p := ⟨b, 0, none⟩) hbl).trans c0
    by_cases hjK : K < j
    · obtain ⟨m, rfl⟩ : ∃ m, j = m + 1 := ⟨j - 1, by omega⟩
      obtain ⟨⟨r1, r2⟩, hq⟩ : ∃ q, L[m]? = some q := ⟨_, List.getElem?_eq_getElem (by rw [HN.out]; omega)⟩
      have hlt := (HI.out m _ hq).2 (by rw [HK.out]; omega)
      simp only at hlt
      have d1 := (hbw.cell (p := ⟨g, m * 2 + 1, none⟩) hgw).trans (HC.out m _ hq).2
      have HQ := Lib.hid hq
      have Hbw := Lib.hid hbw
      have hm1 : ((m + 1 : Nat) : Int) - 1 = (m : Int) := by omega
      clear hq hbw
      go_wp2_with fail
      go_roundw
      case rel => exact ⟨m, by omega, by omega, by go_num, Hbw.out⟩
      case measure => simp [intOf]
    · obtain rfl : K = j := by omega
      have hcl0 := fun W p c ty => run_clear_empty (P := Try.prog) W 25 45 ty Try.rg_underlying p c
      have hbs := hbw.size
      have hcw : ∀ i, i < N * 2 → (wr.cell? ⟨g, i, none⟩).isSome = true := by
        intro i hi
        obtain ⟨q, hq⟩ : ∃ q, L[i / 2]? = some q := ⟨_, List.getElem?_eq_getElem (by rw [HN.out]; omega)⟩
        rw [hbw.cell (p := ⟨g, i, none⟩) hgw]
        have := HC.out _ q hq
        rcases Nat.mod_two_eq_zero_or_one i with h1 | h1
        · rw [show i = i / 2 * 2 by omega, this.1]; rfl
        · rw [show i = i / 2 * 2 + 1 by omega, this.2]; rfl
      have hfw : ∀ i, wr.frozen? ⟨g, i, none⟩ = false := fun i => by
        have h9 := (H.out.next hbw).own
        rw [HN.out] at h9
        exact h9.frozenAt i
      have f0 : wr.frozen? ⟨b, 0, none⟩ = false := (H.out.next hbw).at_.free 0
      have hto := fun vs => dropped H.out HN.out hbw K hKle vs
      have hlast : ∀ m, K = m + 1 → ∃ r1 r2 : Nat, L[K - 1]? = some (r1, r2) ∧ wr.cell? ⟨g, m * 2, none⟩ = some (.int .u64 (r1 : Int)) ∧ wr.cell? ⟨g, m * 2 + 1, none⟩ = some (.int .u64 (r2 : Int)) ∧ ¬ r2 < below ∧ r1 ≤ r2 ∧ r2 < 4611686018427387904 := by
        intro m hm
        subst hm
        obtain ⟨⟨r1, r2⟩, hq⟩ : ∃ q, L[m]? = some q := ⟨_, List.getElem?_eq_getElem (by rw [HN.out]; omega)⟩
        have := OkB.below HO.out _ (List.mem_of_getElem? hq)
        simp only at this
        have hnl : ¬ r2 < below := fun hl => by
          have := (HI.out m _ hq).1 hl
          rw [HK.out] at this
          omega
        exact ⟨r1, r2, hq, (hbw.cell (p := ⟨g, m * 2, none⟩) hgw).trans (HC.out m _ hq).1, (hbw.cell (p := ⟨g, m * 2 + 1, none⟩) hgw).trans (HC.out m _ hq).2, hnl, this.1, by omega⟩
      have HL := Lib.hid hlast
      clear hlast
      by_cases hKN : K = N
      · subst hKN
        have hcl := fun c => hcl0 wr (some ⟨g, K * 2, none⟩) c 0
        have hcl1 := fun o c => hcl0 wr (some ⟨g, o, none⟩) c 0
        have HT := Lib.hid (hto [])
        obtain ⟨m, rfl⟩ : ∃ m, K = m + 1 := ⟨K - 1, by omega⟩
        obtain ⟨r1, r2, hq, d1, e1, hnl, hr1, hr2⟩ := HL.out m rfl
        have HQ := Lib.hid hq
        have Hbw := Lib.hid hbw
        have f1 := hfw (m * 2)
        clear hto hbw hcw hfw hcl0 hq
        by_cases hcm : cap = m + 1
        · subst hcm
          go_wp2_with fail
          obtain ⟨W2, hW2⟩ : ∃ W2, wr.setCell ⟨b, 0, none⟩ (.slice (some ⟨g, 0, none⟩) (m + 1) (m + 1)) = W2 := ⟨_, rfl⟩
          have HT2 : Hid (SetTo b B (Value.slice (some ⟨g, 0, none⟩) (m + 1) (m + 1)) w (Value.slice (some ⟨g, 0, none⟩) (m + 1) (m + 1)) (List.take (m + 1) L) W2) := Lib.hid (by rw [← hW2]; exact HT.out)
          rw [hW2]
          have g0 : W2.cell? ⟨b, 0, none⟩ = some (.slice (some ⟨g, 0, none⟩) (m + 1) (m + 1)) := HT2.out.1.at_.cell rfl
          obtain ⟨g1, _, g3⟩ := set_at HT2.out.1 (i := m) (r := (r1, r2)) (by rw [List.getElem?_take_of_lt (by omega)]; exact HQ.out)
          have g2 := g3 (m * 2)
          have hm1 : ((m + 1 : Nat) : Int) - 1 = (m : Int) := by omega
          clear hW2 HT hcl
          go_region
          all_goals
            go_end0
            refine ⟨rfl, ?_⟩
            rw [drop_set L _ below (m + 1) HO.out HK.out (by omega) (r1, r2) HQ.out]
            have := dropped_cut HT2.out rfl (by omega) (by rw [List.length_take, HN.out]; omega) (r1, r2) (max r1 below, r2) (by rw [List.getElem?_take_of_lt (by omega)]; exact HQ.out) rfl
            simp only [show ((max r1 below : Nat) : Int) = max (r1 : Int) (below : Int) by omega, Nat.add_sub_cancel] at this
            exact ⟨_, this⟩
        · go_wp2_with fail
          obtain ⟨W2, hW2⟩ : ∃ W2, wr.setCell ⟨b, 0, none⟩ (.slice (some ⟨g, 0, none⟩) (m + 1) cap) = W2 := ⟨_, rfl⟩
          have HT2 : Hid (SetTo b B (Value.slice (some ⟨g, 0, none⟩) (m + 1) cap) w (Value.slice (some ⟨g, 0, none⟩) (m + 1) cap) (List.take (m + 1) L) W2) := Lib.hid (by rw [← hW2]; exact HT.out)
          rw [hW2]
          have g0 : W2.cell? ⟨b, 0, none⟩ = some (.slice (some ⟨g, 0, none⟩) (m + 1) cap) := HT2.out.1.at_.cell rfl
          obtain ⟨g1, _, g3⟩ := set_at HT2.out.1 (i := m) (r := (r1, r2)) (by rw [List.getElem?_take_of_lt (by omega)]; exact HQ.out)
          have g2 := g3 (m * 2)
          have hm1 : ((m + 1 : Nat) : Int) - 1 = (m : Int) := by omega
          clear hW2 HT hcl
          go_region
          all_goals
            go_end0
            refine ⟨rfl, ?_⟩
            rw [drop_set L _ below (m + 1) HO.out HK.out (by omega) (r1, r2) HQ.out]
            have := dropped_cut HT2.out rfl (by omega) (by rw [List.length_take, HN.out]; omega) (r1, r2) (max r1 below, r2) (by rw [List.getElem?_take_of_lt (by omega)]; exact HQ.out) rfl
            simp only [show ((max r1 below : Nat) : Int) = max (r1 : Int) (below : Int) by omega, Nat.add_sub_cancel] at this
            exact ⟨_, this⟩
      · have hcl : (Builtin.clear_ #[25] 0 #[.slice (some ⟨g, K * 2, none⟩) (N - K) (cap - K)]).run Try.prog wr = .ok (.tuple #[]) (wr.setCells g (K * 2) (Builtin.zeroCells (Value.agg #[.int .u64 0, .int .u64 0]).cells (N - K)).toList) :=
          run_clear_any (P := Try.prog) wr 25 45 0 _ Try.rg_underlying Try.rg_zero g (K * 2) (N - K) (cap - K) (by omega) zero_one (by
            intro k hk
            rw [zero_cells2] at hk
            exact hcw _ (by omega)) (fun k _ => hfw _)
        obtain ⟨W, hW⟩ : ∃ W, wr.setCells g (K * 2) (Builtin.zeroCells (Value.agg #[.int .u64 0, .int .u64 0]).cells (N - K)).toList = W := ⟨_, rfl⟩
        rw [hW] at hcl
        have hWO : Only (fun k => k = g) wr W := hW ▸ setCells_only g _ _ wr
        have d0w := (hWO.cell (p := ⟨b, 0, none⟩) (Nat.lt_of_lt_of_le hbl hbs) (fun e => hgb e.symm)).trans d0
        have f0w := (hWO.frozen (p := ⟨b, 0, none⟩) (Nat.lt_of_lt_of_le hbl hbs) (fun e => hgb e.symm)).trans f0
        have HT := Lib.hid (hto (Builtin.zeroCells (Value.agg #[.int .u64 0, .int .u64 0]).cells (N - K)).toList)
        rw [hW] at HT
        have Hbw := Lib.hid hbw
        have hk1 : ∀ m x, K = m + 1 → wr.cell? ⟨g, m * 2, none⟩ = some x → W.cell? ⟨g, m * 2, none⟩ = some x := by
          intro m x hm hx
          rw [← hW, World.cell?_setCells_out _ _ _ _ _ (fun _ _ => .inl (by show m * 2 < K * 2; omega))]
          exact hx
        have hk2 : ∀ i, W.frozen? ⟨g, i, none⟩ = false := by
          intro i
          rw [← hW, World.frozen?_setCells]
          exact hfw i
        clear hto hbw hcw hfw hcl0 hW hWO
        by_cases hK0 : K = 0
        · subst hK0
          simp only [Nat.zero_mul, Nat.sub_zero] at hcl
          go_wp2_with fail
          go_end0
          refine ⟨rfl, .slice (some ⟨g, 0, none⟩) 0 cap, ?_⟩
          rw [keep_none L below HO.out HK.out]
          exact HT.out
        · obtain ⟨m, rfl⟩ : ∃ m, K = m + 1 := ⟨K - 1, by omega⟩
          obtain ⟨r1, r2, hq, d1, e1, hnl, hr1, hr2⟩ := HL.out m rfl
          have d2 := hk1 m _ rfl d1
          have f2 := hk2 (m * 2)
          clear hk1 hk2
          have HQ := Lib.hid hq
          clear hq
          go_wp2_with fail
          all_goals
            obtain ⟨W2, hW2⟩ : ∃ W2, W.setCell ⟨b, 0, none⟩ (.slice (some ⟨g, 0, none⟩) (m + 1) cap) = W2 := ⟨_, rfl⟩
            have HT2 : Hid (SetTo b B (Value.slice (some ⟨g, 0, none⟩) N cap) w (Value.slice (some ⟨g, 0, none⟩) (m + 1) cap) (List.take (m + 1) L) W2) := Lib.hid (by rw [← hW2]; exact HT.out)
            rw [hW2]
            have g0 : W2.cell? ⟨b, 0, none⟩ = some (.slice (some ⟨g, 0, none⟩) (m + 1) cap) := HT2.out.1.at_.cell rfl
            obtain ⟨g1, _, g3⟩ := set_at HT2.out.1 (i := m) (r := (r1, r2)) (by rw [List.getElem?_take_of_lt (by omega)]; exact HQ.out)
            have g2 := g3 (m * 2)
            have hm1 : ((m + 1 : Nat) : Int) - 1 = (m : Int) := by omega
            clear hW2 HT hcl
            go_region
            all_goals
              go_end0
              refine ⟨rfl, ?_⟩
              rw [drop_set L _ below (m + 1) HO.out HK.out (by omega) (r1, r2) HQ.out]
              have := dropped_cut HT2.out rfl (by omega) (by rw [List.length_take, HN.out]; omega) (r1, r2) (max r1 below, r2) (by rw [List.getElem?_take_of_lt (by omega)]; exact HQ.out) rfl
              simp only [show ((max r1 below : Nat) : Int) = max (r1 : Int) (below : Int) by omega, Nat.add_sub_cancel] at this
              exact ⟨_, this⟩


/-- Drop leaves of a set what is not below. -/
theorem drop_ok (b B : Nat) (v : Value) (L : List Rg) (w : World) (below : Nat) (h : SetIs w b B v L) (hn : L.length ≤ 1000000) (hOk : OkR L) :
    Calls Try.prog 13 #[.pointer (some ⟨b, 0, none⟩), .int .u64 (below : Int)] w fun e w' => e = .returned (.tuple #[]) ∧ ∃ v', SetTo b B v w v' (dropR L below) w' := by
  rcases h.own.2 with ⟨rfl, h0⟩ | ⟨g, cap, cur, rfl, h1, h2, h3, h4, h5, h6⟩
  · obtain rfl : L = [] := List.eq_nil_of_length_eq_zero h0
    exact drop_nil b B none 0 w below (.inl ⟨rfl, rfl⟩) (by decide) h
  · rcases Nat.eq_zero_or_pos L.length with h0 | h0
    · obtain rfl : L = [] := List.eq_nil_of_length_eq_zero h0
      exact drop_nil b B (some ⟨g, 0, none⟩) cap w below (.inr ⟨g, rfl⟩) h4 h
    · exact drop_some b B g cap L w below h hn ⟨h3, h4⟩ hOk h0

end Go.Proofs.Ytcpkpofmapjgdaa
