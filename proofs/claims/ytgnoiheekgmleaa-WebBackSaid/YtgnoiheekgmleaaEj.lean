/- web: a map of bools that the call makes; right. -/
import Derived.Test.YtgnoiheekgmleaaEi
import Derived.Maps.Views
import Derived.Maps.OwnOps
namespace Go.Proofs.Ytgnoiheekgmleaa
open Go.ChangeShapes Go.WideShapes Go.RowKit Go.Maps
set_option linter.unusedVariables false

set_option maxRecDepth 100000 in
theorem Try.lawU : Keyed Try.prog 40 := int_keyed Try.underlying40
theorem Try.zeroB (w : World) : (zeroValue 4).run Try.prog w = .ok (.bool false) w := by kernel_rfl

/-- A set of numbers, kept in a map of bools. -/
def SeenMap (w : World) (b n : Nat) (K : List Nat) : Prop :=
  ∃ D : DataW Unit, w.ownsMap Try.prog 40 (plainElem Try.prog 4) b n D ∧ IsMap D ∧ ∀ k : Nat, D.atKey (.int .u64 (k : Int)) (.lit (.bool false)) = .lit (.bool (decide (k ∈ K)))

theorem SeenMap.made (w : World) : SeenMap (w.alloc (.map #[] 0)) w.heap.size 0 [] :=
  ⟨.map [], World.ownsMap_made _ _ _ _, isMap_empty, fun k => by simp [DataW.atKey]⟩
theorem SeenMap.alloc {w : World} {b n : Nat} {K : List Nat} (h : SeenMap w b n K) (o : Obj) : SeenMap (w.alloc o) b n K := by
  obtain ⟨D, h1, h2, h3⟩ := h
  exact ⟨D, h1.alloc o, h2, h3⟩
theorem SeenMap.lt {w : World} {b n : Nat} {K : List Nat} (h : SeenMap w b n K) : b < w.heap.size := by
  obtain ⟨D, h1, h2, h3⟩ := h
  exact h1.lt
set_option maxRecDepth 100000 in
theorem SeenMap.look {w : World} {b n : Nat} {K : List Nat} (h : SeenMap w b n K) (k : Nat) (hk : k < 18446744073709551616) :
    (Instr.lookup 110 (.map (some b)) (.int .u64 (k : Int)) false).run Try.prog w = .ok (.bool (decide (k ∈ K))) w := by
  obtain ⟨D, h1, h2, h3⟩ := h
  obtain ⟨v, ps, hrun, hv⟩ := h1.lookup Try.lawU Try.underlying110 (Try.zeroB w) (plainElem_bool Try.underlying4 false) (keyOf_int_mk Try.underlying40 (WalkArith.wf_u64 (n := (k : Int)) (by omega)))
  rw [h3 k] at hv
  rw [hrun]
  unfold plainElem at hv
  rw [Try.underlying4] at hv
  cases v <;> simp at hv
  rw [hv.1]
set_option maxRecDepth 100000 in
theorem SeenMap.update {w : World} {b n : Nat} {K : List Nat} (h : SeenMap w b n K) (k : Nat) (hk : k < 18446744073709551616) (hn : n < 1000000) :
    ∃ w', (Instr.mapUpdate 110 (.map (some b)) (.int .u64 (k : Int)) (.bool true)).run Try.prog w = .ok () w' ∧ SeenMap w' b (n + 1) (k :: K) ∧ w.grownBy w' (some b) := by
  obtain ⟨D, h1, h2, h3⟩ := h
  obtain ⟨w', hrun, r1, r2⟩ := h1.update Try.lawU Try.underlying110 (by unfold maxLen; omega) (keyOf_int_mk Try.underlying40 (WalkArith.wf_u64 (n := (k : Int)) (by omega))) (plainElem_bool Try.underlying4 true)
  refine ⟨w', hrun, ⟨_, r1, h2.put _ _, fun k' => ?_⟩, r2⟩
  by_cases hkk : k' = k
  · subst hkk
    rw [atKey_put_same h2 (by trivial)]
    simp
  · rw [atKey_put_other (by intro e; injection e with _ e; omega), h3 k']
    simp [hkk]

/-- May these settings be. -/
def rightL : List Nat → List (Nat × Nat) → Bool
  | _, [] => true
  | K, (k, v) :: l => if k ∈ K ∨ k = 0 ∨ (2 ≤ k ∧ k ≤ 5) ∨ 4611686018427387903 < max k v then false else rightL (k :: K) l

/-- A row of pairs as it comes in. -/
def PV (w : World) (p : Option Addr) (l : List (Nat × Nat)) : Prop :=
  0 < l.length → ∃ g o, p = some ⟨g, o, none⟩ ∧ g < w.heap.size ∧ ∀ (i : Nat) r, l[i]? = some r → w.cell? ⟨g, o + i * 2, none⟩ = some (.int .u64 (r.1 : Int)) ∧ w.cell? ⟨g, o + i * 2 + 1, none⟩ = some (.int .u64 (r.2 : Int))
def Num2 (l : List (Nat × Nat)) : Prop := ∀ r ∈ l, r.1 < 18446744073709551616 ∧ r.2 < 18446744073709551616
theorem PV.below {w w' : World} {p : Option Addr} {l : List (Nat × Nat)} (h : PV w p l) (hb : Below w.heap.size w w') : PV w' p l := by
  intro hl
  obtain ⟨g, o, hp, hg, hc⟩ := h hl
  exact ⟨g, o, hp, Nat.lt_of_lt_of_le hg hb.size, fun i r hr => ⟨(hb.cell hg).trans (hc i r hr).1, (hb.cell hg).trans (hc i r hr).2⟩⟩

set_option maxRecDepth 100000 in
set_option maxHeartbeats 4000000 in
theorem right_any (l : List (Nat × Nat)) (p : Option Addr) (cap : Nat) (w : World) (hL : PV w p l) (hN2 : Num2 l) (hlen : l.length ≤ 10000) :
    Calls Try.prog 32 #[.slice p l.length cap] w fun e w' => e = .returned (.bool (rightL [] l)) ∧ Below w.heap.size w w' := by
  have hmm := @run_makeMap Try.prog
  obtain ⟨N, hN⟩ : ∃ N, l.length = N := ⟨_, rfl⟩
  rw [hN]
  have HN := Lib.hid hN
  have HL := Lib.hid hL
  have HM := Lib.hid hN2
  obtain ⟨R, hR⟩ : ∃ R, rightL [] l = R := ⟨_, rfl⟩
  rw [hR]
  have HR := Lib.hid hR
  have HS0 := Lib.hid (SeenMap.made w)
  have HB0 := Lib.hid (show Below w.heap.size w (w.alloc (.map #[] 0)) from (Below.refl _ _).alloc (Nat.le_refl _) _)
  rw [hN] at hlen
  clear hL hN2 hN hR
  go_enter Try.func32, Try.ntmps32
  go_wp2_with fail
  go_loopg [5, 9] N (fun gk _ i wr => ∃ (j : Nat) (K : List Nat), j + gk = N ∧ i = .int .i64 j ∧ SeenMap wr w.heap.size j K ∧ rightL K (l.drop j) = R ∧ Below w.heap.size w wr)
  case atStart => exact ⟨0, [], by omega, rfl, HS0.out, HR.out, HB0.out⟩
  case round =>
    obtain ⟨j, K, hj, rfl, hS, hRj, hB⟩ := hrel
    by_cases hlt : j < N
    · have hjl : j < l.length := by rw [HN.out]; exact hlt
      obtain ⟨⟨k, v⟩, hq⟩ : ∃ q, l[j]? = some q := ⟨_, List.getElem?_eq_getElem hjl⟩
      obtain ⟨g, o, rfl, hg, hc⟩ := HL.out.below hB (by omega)
      obtain ⟨k1, k2⟩ := hc j _ hq
      obtain ⟨b1, b2⟩ := HM.out _ (List.mem_of_getElem? hq)
      simp only at k1 k2 b1 b2
      have hlook := (hS.alloc (.cells #[.int .u64 (k : Int), .int .u64 (v : Int)] 46)).look k b1
      obtain ⟨w1, hup, hS1, hg1⟩ := (hS.alloc (.cells #[.int .u64 (k : Int), .int .u64 (v : Int)] 46)).update k b1 (by omega)
      have hst : rightL K (l.drop j) = if k ∈ K ∨ k = 0 ∨ (2 ≤ k ∧ k ≤ 5) ∨ 4611686018427387903 < max k v then false else rightL (k :: K) (l.drop (j + 1)) := by
        rw [List.drop_eq_getElem_cons hjl, (List.getElem?_eq_some_iff.1 hq).2]
        rfl
      rw [hRj] at hst
      have hB1 : Below w.heap.size w w1 := (hB.alloc (Nat.le_trans (Nat.le_refl _) hB.size) _).grown hg1 (Nat.le_trans hB.size (by rw [World.size_alloc]; omega)) (fun j hj => by cases hj; exact Nat.le_refl _)
      have HS1 := Lib.hid hS1
      have HB1 := Lib.hid hB1
      have HB := Lib.hid (show Below w.heap.size w (wr.alloc (.cells #[.int .u64 (k : Int), .int .u64 (v : Int)] 46)) from hB.alloc hB.size _)
      have HST := Lib.hid hst
      clear hS hRj hB hc hq hst hS1 hB1 hg1 hjl
      by_cases c1 : k ∈ K
      · have d1 : decide (k ∈ K) = true := decide_eq_true c1
        rw [d1] at hlook
        have HE := Lib.hid (HST.out.trans (if_pos (.inl c1)))
        clear c1 d1
        go_wp2_with fail
        go_ret
        rw [HE.out]
        exact ⟨rfl, HB.out⟩
      · have d1 : decide (k ∈ K) = false := decide_eq_false c1
        rw [d1] at hlook
        have HC1 := Lib.hid c1
        clear c1 d1
        by_cases c2 : k = 0
        · have HE := Lib.hid (HST.out.trans (if_pos (.inr (.inl c2))))
          have d2 : ((k : Int) == 0) = true := by rw [beq_iff_eq]; omega
          clear c2
          go_wp2_with fail
          go_ret
          rw [HE.out]
          exact ⟨rfl, HB.out⟩
        · have d2 : ((k : Int) == 0) = false := by rw [beq_eq_false_iff_ne]; omega
          by_cases c3 : 2 ≤ k ∧ k ≤ 5
          · have HE := Lib.hid (HST.out.trans (if_pos (.inr (.inr (.inl c3)))))
            have d3 : (2 : Int) ≤ (k : Int) := by omega
            have d4 : (k : Int) ≤ 5 := by omega
            clear c3 c2
            go_wp2_with fail
            go_ret
            rw [HE.out]
            exact ⟨rfl, HB.out⟩
          · by_cases c4 : 4611686018427387903 < max k v
            · have HE := Lib.hid (HST.out.trans (if_pos (.inr (.inr (.inr c4)))))
              have d5 : (4611686018427387903 : Int) < max (k : Int) (v : Int) := by omega
              by_cases c6 : 2 ≤ k
              · have d3 : (2 : Int) ≤ (k : Int) := by omega
                have d4 : ¬ (k : Int) ≤ 5 := by omega
                clear c2 c3 c4 c6
                go_wp2_with fail
                go_ret
                rw [HE.out]
                exact ⟨rfl, HB.out⟩
              · have d3 : ¬ (2 : Int) ≤ (k : Int) := by omega
                clear c2 c3 c4 c6
                go_wp2_with fail
                go_ret
                rw [HE.out]
                exact ⟨rfl, HB.out⟩
            · have HE := Lib.hid (HST.out.trans (if_neg (fun h => by rcases h with h | h | h | h; exact HC1.out h; exact c2 h; exact c3 h; exact c4 h)))
              have d5 : ¬ (4611686018427387903 : Int) < max (k : Int) (v : Int) := by omega
              by_cases c6 : 2 ≤ k
              · have d3 : (2 : Int) ≤ (k : Int) := by omega
                have d4 : ¬ (k : Int) ≤ 5 := by omega
                clear c2 c3 c4 c6
                go_wp2_with fail
                go_roundg (gk - 1)
                case measure => omega
                case rel => exact ⟨j + 1, k :: K, by omega, by go_num, HS1.out, HE.out.symm, HB1.out⟩
              · have d3 : ¬ (2 : Int) ≤ (k : Int) := by omega
                clear c2 c3 c4 c6
                go_wp2_with fail
                go_roundg (gk - 1)
                case measure => omega
                case rel => exact ⟨j + 1, k :: K, by omega, by go_num, HS1.out, HE.out.symm, HB1.out⟩
    · have hjN : j = N := by omega
      subst hjN
      have he : l.drop j = [] := by rw [List.drop_eq_nil_iff]; have := HN.out; omega
      rw [he] at hRj
      have HE := Lib.hid hRj
      have HB := Lib.hid hB
      clear hRj hB hS he
      go_wp2_with fail
      go_ret
      rw [← HE.out]
      exact ⟨rfl, HB.out⟩

end Go.Proofs.Ytgnoiheekgmleaa
