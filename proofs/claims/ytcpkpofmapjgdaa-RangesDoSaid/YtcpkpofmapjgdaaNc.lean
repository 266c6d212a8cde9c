/- ranges: contracts of place, Covers, Has, Clone, Ranges. -/
import Derived.Test.YtcpkpofmapjgdaaNb
import Derived.Test.YtcpkpofmapjgdaaMb
import Derived.Lib.SliceRun
import Derived.Lib.Walk
namespace Go.Proofs.Ytcpkpofmapjgdaa
open Go.ChangeShapes Go.WideShapes Go.RowKit
set_option linter.unusedVariables false

set_option maxRecDepth 100000 in
set_option maxHeartbeats 1000000 in
theorem place_ok (b B : Nat) (v : Value) (L : List Rg) (w : World) (n : Nat) (h : SetIs w b B v L) (hn : L.length ≤ 1000000) (hOk : OkR L) :
    Calls Try.prog 29 #[.pointer (some ⟨b, 0, none⟩), .int .u64 (n : Int)] w fun e w' => e = .returned (.int .i64 (placeR L n : Int)) ∧ Below w.heap.size w w' := by
  have hbl := h.lt
  have hs := search_ok B v L w n _ h.own hn hOk
  obtain ⟨p, cap, rfl, hpn⟩ := own_shape h.own
  have c0 : w.cell? ⟨b, 0, none⟩ = some (.slice p L.length cap) := h.at_.cell rfl
  obtain ⟨N, hN⟩ : ∃ N, L.length = N := ⟨_, rfl⟩
  obtain ⟨P, hP⟩ : ∃ P, placeR L n = P := ⟨_, rfl⟩
  rw [hN] at c0 hs
  rw [hP] at hs ⊢
  have HS := Lib.hid hs
  clear h hOk hpn hN hP hs hn
  go_enter Try.func29, Try.ntmps29
  go_wp2_with fail
  refine HS.out.mono ?_
  rintro e w2 ⟨rfl, hb2⟩
  have hb3 := Lib.hid hb2
  clear hb2
  go_wp2_with fail
  go_ret
  exact ⟨rfl, hb3.out⟩

set_option maxRecDepth 100000 in
set_option maxHeartbeats 1000000 in
theorem covers_ok (b B : Nat) (v : Value) (L : List Rg) (w : World) (low high : Nat) (h : SetIs w b B v L) (hn : L.length ≤ 1000000) (hOk : OkR L) :
    Calls Try.prog 21 #[.pointer (some ⟨b, 0, none⟩), .int .u64 (low : Int), .int .u64 (high : Int)] w fun e w' => e = .returned (.bool (coversR L low high)) ∧ Below w.heap.size w w' := by
  have hbl := h.lt
  have hs := place_ok b B v L w low h hn hOk
  obtain ⟨p, cap, rfl, hpn⟩ := own_shape h.own
  have c0 : w.cell? ⟨b, 0, none⟩ = some (.slice p L.length cap) := h.at_.cell rfl
  obtain ⟨N, hN⟩ : ∃ N, L.length = N := ⟨_, rfl⟩
  have HO := Lib.hid h.own
  have HN := Lib.hid hN
  rw [hN] at c0 hn
  by_cases hlh : low ≤ high
  · rcases hq : L[placeR L low]? with _ | r
    · have hres : coversR L low high = false := by unfold coversR; rw [hq]; simp
      rw [hres]
      have hge : N ≤ placeR L low := by rw [← hN]; exact List.getElem?_eq_none_iff.1 hq
      obtain ⟨P, hP⟩ : ∃ P, placeR L low = P := ⟨_, rfl⟩
      rw [hP] at hs hge
      have HS := Lib.hid hs
      clear h hOk hpn hN hP hs hq hres
      go_enter Try.func21, Try.ntmps21
      go_wp2_with fail
      refine HS.out.mono ?_
      rintro e w2 ⟨rfl, hb2⟩
      have d0 := (hb2.cell (p := ⟨b, 0, none⟩) hbl).trans c0
      have hb3 := Lib.hid hb2
      clear hb2 c0
      go_wp2_with fail
      go_ret
      exact ⟨rfl, hb3.out⟩
    · have hlt : placeR L low < N := by rw [← hN]; exact (List.getElem?_eq_some_iff.1 hq).1
      obtain ⟨g1, cap1, hv, hgB, hg1, k0, k1⟩ := rg_cells h.own _ r hq
      injection hv with hv1 hv2 hv3
      subst hv1
      obtain ⟨r1, r2⟩ := r
      have hres : coversR L low high = decide (high ≤ r2) := by unfold coversR; rw [hq]; simp [hlh]
      rw [hres]
      obtain ⟨P, hP⟩ : ∃ P, placeR L low = P := ⟨_, rfl⟩
      rw [hP] at hs hlt k0 k1
      have HS := Lib.hid hs
      clear h hOk hpn hN hP hs hq hres hv2 hv3
      by_cases hc : high ≤ r2
      · rw [decide_eq_true hc]
        go_enter Try.func21, Try.ntmps21
        go_wp2_with fail
        refine HS.out.mono ?_
        rintro e w2 ⟨rfl, hb2⟩
        have d0 := (hb2.cell (p := ⟨b, 0, none⟩) hbl).trans c0
        have d1 := (hb2.cell (p := ⟨g1, P * 2 + 1, none⟩) hg1).trans k1
        have hb3 := Lib.hid hb2
        clear hb2 c0 k0 k1
        go_wp2_with fail
        go_ret
        exact ⟨rfl, hb3.out⟩
      · rw [decide_eq_false hc]
        go_enter Try.func21, Try.ntmps21
        go_wp2_with fail
        refine HS.out.mono ?_
        rintro e w2 ⟨rfl, hb2⟩
        have d0 := (hb2.cell (p := ⟨b, 0, none⟩) hbl).trans c0
        have d1 := (hb2.cell (p := ⟨g1, P * 2 + 1, none⟩) hg1).trans k1
        have hb3 := Lib.hid hb2
        clear hb2 c0 k0 k1
        go_wp2_with fail
        go_ret
        exact ⟨rfl, hb3.out⟩
  · have hres : coversR L low high = false := by unfold coversR; rw [decide_eq_false hlh]; rfl
    rw [hres]
    obtain ⟨P, hP⟩ : ∃ P, placeR L low = P := ⟨_, rfl⟩
    rw [hP] at hs
    have HS := Lib.hid hs
    clear h hOk hpn hN hP hs hres
    go_enter Try.func21, Try.ntmps21
    go_wp2_with fail
    refine HS.out.mono ?_
    rintro e w2 ⟨rfl, hb2⟩
    have d0 := (hb2.cell (p := ⟨b, 0, none⟩) hbl).trans c0
    have hb3 := Lib.hid hb2
    clear hb2 c0
    go_wp2_with fail
    go_ret
    exact ⟨rfl, hb3.out⟩

set_option maxRecDepth 100000 in
set_option maxHeartbeats 1000000 in
theorem has_ok (b B : Nat) (v : Value) (L : List Rg) (w : World) (n : Nat) (h : SetIs w b B v L) (hn : L.length ≤ 1000000) (hOk : OkR L) :
    Calls Try.prog 19 #[.pointer (some ⟨b, 0, none⟩), .int .u64 (n : Int)] w fun e w' => e = .returned (.bool (coversR L n n)) ∧ Below w.heap.size w w' := by
  have HS := Lib.hid (covers_ok b B v L w n n h hn hOk)
  obtain ⟨C, hC⟩ : ∃ C, coversR L n n = C := ⟨_, rfl⟩
  rw [hC] at HS ⊢
  clear h hOk hn hC
  go_enter Try.func19, Try.ntmps19
  go_wp2_with fail
  refine HS.out.mono ?_
  rintro e w2 ⟨rfl, hb2⟩
  have hb3 := Lib.hid hb2
  clear hb2
  go_wp2_with fail
  go_ret
  exact ⟨rfl, hb3.out⟩

set_option maxRecDepth 100000 in
set_option maxHeartbeats 1000000 in
theorem clone_ok (p : Option Addr) (N cap : Nat) (L : List Rg) (w : World) (hN : L.length = N) (hL : 0 < N → ∃ A, p = some A ∧ ∀ j u, (rgs L)[j]? = some u → w.cell? (A.add j) = some u) (hp0 : p = none → cap = 0) (hn : N ≤ 900000) :
    Calls Try.prog 28 #[.slice p N cap] w fun e w' => ∃ v, e = .returned v ∧ w'.ownsRow w.heap.size 45 2 v N (rgs L) ∧ Below w.heap.size w w' := by
  have q22 : ∀ (w : World) (a : Option Addr) (n c n' c' : Nat), (binOp .eql 25 (.slice a n c) (.slice none n' c')).run Try.prog w = .ok (.bool a.isNone) w := fun w a n c n' c' => Lib.run_eql_slice_nil w _ _ a n c n' c' Try.underlying25
  cases p with
  | none =>
    have h0 : N = 0 := by
      rcases Nat.eq_zero_or_pos N with h | h
      · exact h
      · obtain ⟨A, hA, _⟩ := hL h
        cases hA
    subst h0
    have hLe : L = [] := List.length_eq_zero_iff.1 hN
    subst hLe
    obtain rfl := hp0 rfl
    clear hL hp0 hN
    go_enter Try.func28, Try.ntmps28
    go_wp2_with fail
    go_ret
    exact ⟨_, rfl, World.ownsRow_nil _ _ _ _, Below.refl _ _⟩
  | some A =>
    have hE : (w.alloc (.cells #[] 45)).ownsRow w.heap.size 45 2 (.slice (some ⟨w.heap.size, 0, none⟩) 0 0) 0 [] :=
      ⟨rfl, .inr ⟨w.heap.size, 0, #[], rfl, Nat.le_refl _, heap_alloc_new w _, Nat.le_refl _, by decide, rfl, rfl⟩⟩
    have hb : Below w.heap.size w (w.alloc (.cells #[] 45)) := (Below.refl _ _).alloc (Nat.le_refl _) _
    have hsrc : 0 < N → ∃ A', some A = some A' ∧ ∀ j u, (rgs L)[j]? = some u → (w.alloc (.cells #[] 45)).cell? (A'.add j) = some u := by
      intro h
      obtain ⟨A', hA, hc⟩ := hL h
      refine ⟨A', hA, fun j u hu => ?_⟩
      exact Lib.cell?_alloc_some _ (hc j u hu)
    have hlen : (rgs L).length = N * 2 := by rw [rgs_length, hN]
    have h1 : ∀ u ∈ rgs L, u.oneCell' = true := by
      intro u hu
      unfold rgs at hu
      obtain ⟨r, _, hr⟩ := List.mem_flatMap.1 hu
      simp [rgVals] at hr
      rcases hr with rfl | rfl <;> rfl
    obtain ⟨i0, hi0, hz0, hz1, hz2⟩ := info_parts Try.infoR
    have HE := Lib.hid hE
    have HB := Lib.hid hb
    have HS := Lib.hid hsrc
    have HL := Lib.hid hlen
    have H1 := Lib.hid h1
    clear hE hb hsrc hlen h1 hL hp0 hN
    go_enter Try.func28, Try.ntmps28
    go_wp2_with (at_builtin; refine wpList_append_src rfl (.tmp 5) (.tmp 6) 25 rfl w.heap.size 45 i0 _ 2 16 Try.underlying25 hi0 hz0 hz1 hz2 rfl (by decide) _ 0 [] HE.out (some A) N cap (rgs L) HL.out HS.out (fun h => by cases h) H1.out (by omega) (by decide) (by simp) rfl rfl ?_)
    intro v' w' ho hon _ _
    have hb2 := Lib.hid (HB.out.trans (hon.below (by simp) (fun k hk => by simp [Value.ownBlock] at hk; omega)))
    have HO := Lib.hid ho
    clear ho hon
    go_wp2_with fail
    go_ret
    exact ⟨_, rfl, HO.out, hb2.out⟩

set_option maxRecDepth 100000 in
set_option maxHeartbeats 1000000 in
theorem ranges_ok (b B : Nat) (v : Value) (L : List Rg) (w : World) (h : SetIs w b B v L) (hn : L.length ≤ 900000) :
    Calls Try.prog 16 #[.pointer (some ⟨b, 0, none⟩)] w fun e w' => ∃ v, e = .returned v ∧ w'.ownsRow w.heap.size 45 2 v L.length (rgs L) ∧ Below w.heap.size w w' := by
  have hbl := h.lt
  obtain ⟨p, cap, rfl, hpn⟩ := own_shape h.own
  have c0 : w.cell? ⟨b, 0, none⟩ = some (.slice p L.length cap) := h.at_.cell rfl
  have hsrc := own_src h.own (Below.refl _ _)
  have HS := Lib.hid (clone_ok p L.length cap L w rfl hsrc.1 hsrc.2 hn)
  obtain ⟨N, hN⟩ : ∃ N, L.length = N := ⟨_, rfl⟩
  rw [hN] at c0 HS ⊢
  clear h hpn hN hsrc hn
  go_enter Try.func16, Try.ntmps16
  go_wp2_with fail
  refine HS.out.mono ?_
  rintro e w2 ⟨v2, rfl, ho2, hb2⟩
  have hb3 := Lib.hid (And.intro ho2 hb2)
  clear ho2 hb2
  go_wp2_with fail
  go_ret
  exact ⟨_, rfl, hb3.out.1, hb3.out.2⟩

end Go.Proofs.Ytcpkpofmapjgdaa
