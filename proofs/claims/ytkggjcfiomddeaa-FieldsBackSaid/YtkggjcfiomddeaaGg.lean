/- fields: lists of fields, as they come in; the law's large. -/
import Derived.Test.YtkggjcfiomddeaaGd
import Derived.Test.YtkggjcfiomddeaaGp
import Derived.Test.YtkggjcfiomddeaaMv
namespace Go.Proofs.Ytkggjcfiomddeaa
open Go.ChangeShapes Go.WideShapes Go.RowKit
set_option linter.unusedVariables false
set_option linter.unusedSimpArgs false

section
variable {H : Type} {enc : TypeId × Value → H} {w : World} {base : Nat} {spare : Nat → Bool} {held : Bool}

/-- Fields that came in: they lie in the slice; each text is no longer than may be. -/
def InFl (w : World) (p : Option Addr) (L : List Fl) : Prop := FV w p L ∧ (∀ f ∈ L, f.1.size ≤ maxLen ∧ f.2.size ≤ maxLen) ∧ L.length ≤ maxLen ∧ ∀ g o, 0 < L.length → p = some ⟨g, o, none⟩ → g < w.heap.size

theorem InFl.below {w w' : World} {p : Option Addr} {L : List Fl} (h : InFl w p L) (hb : Below w.heap.size w w') : InFl w' p L :=
  ⟨h.1.below hb, h.2.1, h.2.2.1, fun g o hl e => Nat.lt_of_lt_of_le (h.2.2.2 g o hl e) hb.size⟩

theorem fields_view {a : Option Addr} {len cap : Nat} {fuel : Nat} {x : DataW H × List MemPlace} (h : DataW.trod enc Try.prog w base spare held fuel 30 [.slice a len cap] = some x) :
    ∃ L : List Fl, L.length = len ∧ InFl w a L := by
  obtain ⟨hm, hv⟩ := rows_view (C := 2) Try.underlying30 (by kernel_rfl) (by omega) h
  rcases Nat.eq_zero_or_pos len with h0 | h0
  · subst h0
    exact ⟨[], rfl, fun h => by simp at h, fun f hf => (by cases hf), Nat.zero_le _, fun g o h => by simp at h⟩
  · obtain ⟨g, o, n, rfl, hg, hi⟩ := hv h0
    obtain ⟨L, hl, hp⟩ := list_of (α := Fl) (p := fun i f => (w.cell? ⟨g, o + i * 2, none⟩ = some (.string f.1) ∧ w.cell? ⟨g, o + i * 2 + 1, none⟩ = some (.string f.2)) ∧ f.1.size ≤ maxLen ∧ f.2.size ≤ maxLen) (n := len) (by
      intro i hil
      obtain ⟨cs, y, h1, h2, h3⟩ := hi i hil
      match cs, h1 with
      | [c0, c1], _ =>
        obtain ⟨_, _, z0⟩ := field_one Try.underlying54 h3 0 _ c0 rfl rfl (by kernel_rfl) rfl
        obtain ⟨_, _, z1⟩ := field_one Try.underlying54 h3 1 _ c1 rfl rfl (by kernel_rfl) rfl
        obtain ⟨s0, e0, _, f0⟩ := DataW.trod_string Try.underlying9 z0
        obtain ⟨s1, e1, _, f1⟩ := DataW.trod_string Try.underlying9 z1
        simp at e0 e1
        subst e0
        subst e1
        exact ⟨(s0, s1), ⟨h2 0 _ rfl, h2 1 _ rfl⟩, f0, f1⟩)
    refine ⟨L, hl, fun _ => ⟨g, o, rfl, hg, fun i f hf => (hp i f hf).1⟩, fun f hf => ?_, by rw [hl]; exact hm, fun g' o' _ e => ?_⟩
    · obtain ⟨i, hi', rfl⟩ := List.getElem_of_mem hf
      exact (hp i _ (List.getElem?_eq_getElem hi')).2
    · injection e with e
      injection e with e1 e2
      subst e1
      exact hg
end

def flSum (L : List Fl) : Nat := (L.map fun f => f.1.size + f.2.size).sum
theorem flSum_snoc (L : List Fl) (f : Fl) : flSum (L ++ [f]) = flSum L + (f.1.size + f.2.size) := by
  unfold flSum
  rw [List.map_append, List.sum_append]
  simp
/-- A list that isn't large. -/
def Small (L : List Fl) : Prop := L.length ≤ 110 ∧ (∀ f ∈ L, f.1.size ≤ 150 ∧ f.2.size ≤ 250) ∧ flSum L ≤ 3000

/-- large's answer. -/
def LEnd (L : List Fl) (w : World) (e : Ending) (w' : World) : Prop := ∃ b, e = .returned (.bool b) ∧ (b = false → Small L) ∧ Below w.heap.size w w'

theorem flSum_le : ∀ (L : List Fl), (∀ f ∈ L, f.1.size ≤ 150 ∧ f.2.size ≤ 250) → flSum L ≤ 400 * L.length
  | [], _ => Nat.zero_le _
  | f :: L, h => by
    have h1 := h f (List.mem_cons_self ..)
    have h2 := flSum_le L (fun g hg => h g (List.mem_cons_of_mem _ hg))
    have e : flSum (f :: L) = (f.1.size + f.2.size) + flSum L := by unfold flSum; simp
    rw [e, List.length_cons]
    omega

set_option maxRecDepth 100000 in
set_option maxHeartbeats 4000000 in
theorem large_any (L : List Fl) (p : Option Addr) (cap : Nat) (w : World) (hL : InFl w p L) :
    Calls Try.prog 20 #[.slice p L.length cap] w (LEnd L w) := by
  obtain ⟨N, hN⟩ : ∃ N, L.length = N := ⟨_, rfl⟩
  have hlen := hL.2.2.1
  unfold maxLen at hlen
  rw [hN] at hlen ⊢
  by_cases h110 : N ≤ 110
  case neg =>
    have hd : decide ((110 : Int) < (N : Int)) = true := by rw [decide_eq_true_iff]; omega
    clear hL hN
    go_enter Try.func20, Try.ntmps20
    go_wp2_with fail
    go_ret
    exact ⟨true, rfl, (fun h => by cases h), Below.refl _ _⟩
  case pos =>
    have hd : decide ((110 : Int) < (N : Int)) = false := by rw [decide_eq_false_iff_not]; omega
    have HN := Lib.hid hN
    have HL := Lib.hid hL
    clear hN hL hlen
    go_enter Try.func20, Try.ntmps20
    go_wp2_with fail
    go_loopw [2, 3, 4, 10] (fun _ nv _ i wr => ∃ j : Nat, j ≤ N ∧ i = .int .i64 j ∧ nv = .int .i64 ((flSum (L.take j) : Nat) : Int) ∧ (∀ f ∈ L.take j, f.1.size ≤ 150 ∧ f.2.size ≤ 250) ∧ Below w.heap.size w wr) (fun _ _ _ i _ => N - (intOf i).toNat)
    case atStart => exact ⟨0, by omega, rfl, rfl, fun f hf => by simp at hf, Below.refl _ _⟩
    case round =>
      obtain ⟨j, hj, rfl, rfl, hsm, hbw⟩ := hrel
      have hle := flSum_le _ hsm
      rw [List.length_take] at hle
      have HBW := Lib.hid hbw
      by_cases hlt : j < N
      · have hjl : j < L.length := by rw [HN.out]; exact hlt
        obtain ⟨q, hq⟩ : ∃ q, L[j]? = some q := ⟨_, List.getElem?_eq_getElem hjl⟩
        have hqm := HL.out.2.1 q (List.mem_of_getElem? hq)
        unfold maxLen at hqm
        have htk := take_fl L j q hq
        have hss := flSum_snoc (L.take j) q
        rw [← htk] at hss
        obtain ⟨g, o, rfl, hg, hc⟩ := (HL.out.1.below hbw) (by omega)
        obtain ⟨k1, k2⟩ := hc j q hq
        have HSM : Hid (q.1.size ≤ 150 → q.2.size ≤ 250 → ∀ f ∈ L.take (j + 1), f.1.size ≤ 150 ∧ f.2.size ≤ 250) := Lib.hid (fun a b f hf => by
          rw [htk] at hf
          rcases List.mem_append.1 hf with hf | hf
          · exact hsm f hf
          · obtain rfl := List.mem_singleton.1 hf
            exact ⟨a, b⟩)
        obtain ⟨n0, v0⟩ := q
        simp only at k1 k2 hss hqm
        have HSS := Lib.hid hss
        generalize flSum (L.take j) = sm at *
        have hle2 : sm ≤ 44000 := by omega
        clear hc hq hjl hbw hsm htk hss hle
        by_cases c1 : n0.size ≤ 150
        case neg =>
          have d1 : decide ((150 : Int) < (n0.size : Int)) = true := by rw [decide_eq_true_iff]; omega
          go_wp2_with fail
          go_ret
          exact ⟨true, rfl, (fun h => by cases h), HBW.out⟩
        case pos =>
          have d1 : decide ((150 : Int) < (n0.size : Int)) = false := by rw [decide_eq_false_iff_not]; omega
          by_cases c2 : v0.size ≤ 250
          case neg =>
            have d2 : decide ((250 : Int) < (v0.size : Int)) = true := by rw [decide_eq_true_iff]; omega
            go_wp2_with fail
            go_ret
            exact ⟨true, rfl, (fun h => by cases h), HBW.out⟩
          case pos =>
            have d2 : decide ((250 : Int) < (v0.size : Int)) = false := by rw [decide_eq_false_iff_not]; omega
            obtain ⟨s2, hs2⟩ : ∃ q, sm + (n0.size + v0.size) = q := ⟨_, rfl⟩
            have hw1 : IntKind.i64.wrap ((n0.size : Int) + (v0.size : Int)) = (n0.size : Int) + (v0.size : Int) := IntWalk.i64_in _ (by omega)
            have hw2 : IntKind.i64.wrap ((sm : Int) + ((n0.size : Int) + (v0.size : Int))) = (s2 : Int) := by rw [IntWalk.i64_in _ (by omega)]; omega
            rw [hs2] at HSS
            clear hs2
            go_wp2_with fail
            go_quiet (fail)
            go_wp2_with fail
            go_roundw
            case rel => exact ⟨j + 1, by omega, by go_num, by rw [HSS.out], HSM.out c1 c2, below_drewN HBW.out _⟩
            case measure => simp [intOf]; omega
      · have hjN : j = N := by omega
        subst hjN
        have htk : L.take j = L := by rw [← HN.out, List.take_length]
        rw [htk] at hsm hle ⊢
        have HS : Hid (flSum L ≤ 3000 → Small L) := Lib.hid (fun h => ⟨by rw [HN.out]; exact h110, hsm, h⟩)
        obtain ⟨sm, hsm2⟩ : ∃ q, flSum L = q := ⟨_, rfl⟩
        rw [hsm2] at HS ⊢
        by_cases c3 : sm ≤ 3000
        · have d3 : decide ((3000 : Int) < (sm : Int)) = false := by rw [decide_eq_false_iff_not]; omega
          clear hsm2 hsm hle hbw htk
          go_wp2_with fail
          go_ret
          exact ⟨false, rfl, fun _ => HS.out c3, HBW.out⟩
        · have d3 : decide ((3000 : Int) < (sm : Int)) = true := by rw [decide_eq_true_iff]; omega
          clear hsm2 hsm hle hbw htk
          go_wp2_with fail
          go_ret
          exact ⟨true, rfl, (fun h => by cases h), HBW.out⟩

end Go.Proofs.Ytkggjcfiomddeaa
