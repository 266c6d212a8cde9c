/- ranges: contract of Top. -/
import Derived.Test.YtcpkpofmapjgdaaNc
import Derived.Lib.AtoiErrMem
namespace Go.Proofs.Ytcpkpofmapjgdaa
open Go.ChangeShapes Go.WideShapes Go.RowKit
set_option linter.unusedVariables false

/-- How many of the highest are told. -/
def topN (many : Int) (n : Nat) : Nat := min many.toNat n

set_option maxRecDepth 100000 in
set_option maxHeartbeats 1000000 in
theorem top_ok (b B : Nat) (v : Value) (L : List Rg) (w : World) (many : Int) (h : SetIs w b B v L) (hn : L.length ≤ 900000) (hm : -9223372036854775808 ≤ many ∧ many < 9223372036854775808) :
    Calls Try.prog 17 #[.pointer (some ⟨b, 0, none⟩), .int .i64 many] w fun e w' => ∃ v, e = .returned v ∧ w'.ownsRow w.heap.size 45 2 v (topN many L.length) (rgs (L.take (topN many L.length))) ∧ Below w.heap.size w w' := by
  have hbl := h.lt
  obtain ⟨p, cap, rfl, hpn⟩ := own_shape h.own
  have c0 : w.cell? ⟨b, 0, none⟩ = some (.slice p L.length cap) := h.at_.cell rfl
  have hsrc := own_src h.own (Below.refl _ _)
  have hcap : L.length ≤ cap := by
    rcases h.own.2 with ⟨hv, h0⟩ | ⟨g, c2, cur, hv, _, _, hle, _⟩
    · rw [h0]; exact Nat.zero_le _
    · injection hv with _ _ hv
      omega
  obtain ⟨K, hK⟩ : ∃ K, topN many L.length = K := ⟨_, rfl⟩
  have hKle : K ≤ L.length := by rw [← hK]; exact Nat.min_le_right _ _
  have hcl := fun W (hW : Below w.heap.size w W) => clone_ok p K cap (L.take K) W (by rw [List.length_take]; omega) (by
    intro h0
    obtain ⟨A, hA, hc⟩ := hsrc.1 (by omega)
    refine ⟨A, hA, fun j u hu => ?_⟩
    have h1 : (rgs L)[j]? = some u := by
      conv => lhs; rw [← List.take_append_drop K L, rgs_append]
      rw [List.getElem?_append_left (List.getElem?_eq_some_iff.1 hu).1]
      exact hu
    have h2 := hc j u h1
    exact (hW.cell (Lib.lt_of_cell h2)).trans h2) hsrc.2 (by omega)
  obtain ⟨N, hN⟩ : ∃ N, L.length = N := ⟨_, rfl⟩
  rw [hN] at c0 hK hKle hcap ⊢
  rw [hK]
  have HC := Lib.hid hcl
  unfold topN at hK
  clear h hpn hsrc hcl
  obtain ⟨h1, h2⟩ := hm
  have hKe : (min (max many 0) (N : Int)).toNat = K := by omega
  have hbd : 0 ≤ min (max many 0) (N : Int) ∧ min (max many 0) (N : Int) ≤ (cap : Int) := by omega
  go_enter Try.func17, Try.ntmps17
  go_wp2_with fail
  go_region_with (go_at_call 28; refine (HC.out w.drew ⟨rfl, rfl, rfl, Nat.le_refl _, fun _ _ => rfl⟩).mono ?_; rintro e w2 ⟨v2, rfl, ho2, hb2⟩; have hb3 := Lib.hid (And.intro ho2 (Below.trans (⟨rfl, rfl, rfl, Nat.le_refl _, fun _ _ => rfl⟩ : Below w.heap.size w w.drew) hb2)); clear ho2 hb2)
  all_goals
    go_wp2_with fail
    go_ret
    exact ⟨_, rfl, hb3.out.1, hb3.out.2⟩

end Go.Proofs.Ytcpkpofmapjgdaa
