/- space: frames and acts as they come in; large. -/
import Derived.Test.YtmnmpmiocgfalaaSo
import Derived.Test.YtmnmpmiocgfalaaMv
namespace Go.Proofs.Ytmnmpmiocgfalaa
open Go.ChangeShapes Go.WideShapes Go.RowKit
set_option linter.unusedVariables false
set_option linter.unusedSimpArgs false

/-- A frame that came in. -/
structure Frm.came (w : World) (f : Frm) : Prop where
  n0 : f.kind < 2 ^ 64
  n1 : f.a < 2 ^ 64
  n2 : f.b < 2 ^ 64
  n3 : f.c < 2 ^ 64
  d : f.data.size ≤ 9223372036854775807
  m : f.more.size ≤ 9223372036854775807
  l : f.rs.length ≤ 9223372036854775807
  rg : RgAt w f.lp f.rs

section
variable {H : Type} {enc : TypeId × Value → H} {w : World} {base : Nat} {spare : Nat → Bool} {held : Bool}
theorem ranges_view {a : Option Addr} {len cap : Nat} {fuel : Nat} {x : DataW H × List MemPlace} (h : DataW.trod enc Try.prog w base spare held fuel 30 [.slice a len cap] = some x) :
    ∃ rs : List (Nat × Nat), rs.length = len ∧ RgAt w a rs ∧ len ≤ maxLen := by
  obtain ⟨hm, hv⟩ := rows_view (C := 2) Try.underlying30 (by kernel_rfl) (by omega) h
  rcases Nat.eq_zero_or_pos len with h0 | h0
  · subst h0
    exact ⟨[], rfl, fun h => by simp at h, hm⟩
  · obtain ⟨g, o, n, rfl, hg, hi⟩ := hv h0
    obtain ⟨rs, hl, hp⟩ := list_of (α := Nat × Nat) (p := fun i r => w.cell? ⟨g, o + i * 2, none⟩ = some (.int .u64 (r.1 : Int)) ∧ w.cell? ⟨g, o + i * 2 + 1, none⟩ = some (.int .u64 (r.2 : Int))) (n := len) (by
      intro i hil
      obtain ⟨cs, y, h1, h2, h3⟩ := hi i hil
      match cs, h1 with
      | [c0, c1], _ =>
        obtain ⟨_, _, z0⟩ := field_one Try.underlying47 h3 0 _ c0 rfl rfl (by kernel_rfl) rfl
        obtain ⟨_, _, z1⟩ := field_one Try.underlying47 h3 1 _ c1 rfl rfl (by kernel_rfl) rfl
        obtain ⟨n0, e0, _, f0⟩ := DataW.trod_int Try.underlying25 z0
        obtain ⟨n1, e1, _, f1⟩ := DataW.trod_int Try.underlying25 z1
        obtain ⟨k0, rfl, _⟩ := nat_of_u64 f0
        obtain ⟨k1, rfl, _⟩ := nat_of_u64 f1
        simp at e0 e1
        subst e0
        subst e1
        exact ⟨(k0, k1), h2 0 _ rfl, h2 1 _ rfl⟩)
    exact ⟨rs, hl, fun _ => ⟨g, o, rfl, hg, hp⟩, hm⟩

theorem slice_shape {t e : TypeId} {fuel : Nat} {c : Value} {x : DataW H × List MemPlace} (ht : Try.prog.underlying t = some (.slice e)) (z : DataW.trod enc Try.prog w base spare held fuel t [c] = some x) : ∃ a l p, c = .slice a l p := by
  rcases DataW.trod_slice ht z with ⟨hcs, _⟩ | ⟨A, l, c, _, _, _, _, hcs, _⟩
  · simp at hcs
    exact ⟨_, _, _, hcs⟩
  · simp at hcs
    exact ⟨_, _, _, hcs⟩

theorem frames_view {a : Option Addr} {len cap : Nat} {fuel : Nat} {x : DataW H × List MemPlace} (h : DataW.trod enc Try.prog w base spare held fuel 36 [.slice a len cap] = some x) :
    ∃ fs : List Frm, fs.length = len ∧ FrsAt w a fs ∧ (∀ f ∈ fs, f.came w) ∧ len ≤ maxLen ∧ (0 < len → ∀ g o, a = some ⟨g, o, none⟩ → g < w.heap.size) := by
  obtain ⟨hm, hv⟩ := rows_view (C := 8) Try.underlying36 (by kernel_rfl) (by omega) h
  rcases Nat.eq_zero_or_pos len with h0 | h0
  · subst h0
    exact ⟨[], rfl, fun h => by simp at h, fun f hf => (by cases hf), hm, fun h => by omega⟩
  · obtain ⟨g, o, n, rfl, hg, hi⟩ := hv h0
    obtain ⟨fs, hl, hp⟩ := list_of (α := Frm) (p := fun i f => (∀ j v, f.vals[j]? = some v → w.cell? ⟨g, o + i * 8 + j, none⟩ = some v) ∧ f.came w) (n := len) (by
      intro i hil
      obtain ⟨cs, y, h1, h2, h3⟩ := hi i hil
      match cs, h1 with
      | [c0, c1, c2, c3, c4, c5, c6, c7], _ =>
        obtain ⟨_, _, z0⟩ := field_one Try.underlying43 h3 0 _ c0 rfl rfl (by kernel_rfl) rfl
        obtain ⟨_, _, z1⟩ := field_one Try.underlying43 h3 1 _ c1 rfl rfl (by kernel_rfl) rfl
        obtain ⟨_, _, z2⟩ := field_one Try.underlying43 h3 2 _ c2 rfl rfl (by kernel_rfl) rfl
        obtain ⟨_, _, z3⟩ := field_one Try.underlying43 h3 3 _ c3 rfl rfl (by kernel_rfl) rfl
        obtain ⟨_, _, z4⟩ := field_one Try.underlying43 h3 4 _ c4 rfl rfl (by kernel_rfl) rfl
        obtain ⟨_, _, z5⟩ := field_one Try.underlying43 h3 5 _ c5 rfl rfl (by kernel_rfl) rfl
        obtain ⟨_, _, z6⟩ := field_one Try.underlying43 h3 6 _ c6 rfl rfl (by kernel_rfl) rfl
        obtain ⟨_, _, z7⟩ := field_one Try.underlying43 h3 7 _ c7 rfl rfl (by kernel_rfl) rfl
        obtain ⟨n0, e0, _, f0⟩ := DataW.trod_int Try.underlying25 z0
        obtain ⟨n1, e1, _, f1⟩ := DataW.trod_int Try.underlying25 z1
        obtain ⟨n2, e2, _, f2⟩ := DataW.trod_int Try.underlying25 z2
        obtain ⟨n3, e3, _, f3⟩ := DataW.trod_int Try.underlying25 z3
        obtain ⟨n4, e4, _⟩ := DataW.trod_bool Try.underlying4 z4
        obtain ⟨s5, e5, _, f5⟩ := DataW.trod_string Try.underlying9 z5
        obtain ⟨s6, e6, _, f6⟩ := DataW.trod_string Try.underlying9 z6
        obtain ⟨a7, l7, p7, rfl⟩ := slice_shape Try.underlying30 z7
        obtain ⟨rs, r1, r2, r3⟩ := ranges_view z7
        obtain ⟨k0, rfl, b0⟩ := nat_of_u64 f0
        obtain ⟨k1, rfl, b1⟩ := nat_of_u64 f1
        obtain ⟨k2, rfl, b2⟩ := nat_of_u64 f2
        obtain ⟨k3, rfl, b3⟩ := nat_of_u64 f3
        simp at e0 e1 e2 e3 e4 e5 e6
        subst e0
        subst e1
        subst e2
        subst e3
        subst e4
        subst e5
        subst e6
        subst r1
        exact ⟨⟨k0, k1, k2, k3, n4, s5, s6, a7, rs, p7⟩, fun j v hv => h2 j v hv, b0, b1, b2, b3, f5, f6, r3, r2⟩)
    refine ⟨fs, hl, fun _ => ⟨g, o, rfl, hg, fun i f hf => (hp i f hf).1⟩, fun f hf => ?_, hm, fun _ g' o' e => ?_⟩
    · obtain ⟨i, hi', rfl⟩ := List.getElem_of_mem hf
      exact (hp i _ (List.getElem?_eq_getElem hi')).2
    · injection e with e
      injection e with e _
      subst e
      exact hg

/-- An act. -/
structure Act1 where
  kind : Int
  num : Nat
  now : Nat
  size : Nat
  fp : Option Addr
  fs : List Frm
  fcap : Nat
def Act1.v (a : Act1) : Value := .agg #[.int .i64 a.kind, .int .u64 (a.num : Int), .int .u64 (a.now : Int), .int .u64 (a.size : Int), .slice a.fp a.fs.length a.fcap]
def Act1.vals (a : Act1) : List Value := [.int .i64 a.kind, .int .u64 (a.num : Int), .int .u64 (a.now : Int), .int .u64 (a.size : Int), .slice a.fp a.fs.length a.fcap]
/-- What is known of an act that came in. -/
structure Act1.came (w : World) (a : Act1) : Prop where
  n1 : a.num < 2 ^ 64
  n2 : a.now < 2 ^ 64
  n3 : a.size < 2 ^ 64
  frs : FrsAt w a.fp a.fs
  all : ∀ f ∈ a.fs, f.came w
  len : a.fs.length ≤ 9223372036854775807
  old : 0 < a.fs.length → ∀ g o, a.fp = some ⟨g, o, none⟩ → g < w.heap.size
def ActsAt (w : World) (p : Option Addr) (xs : List Act1) : Prop :=
  0 < xs.length → ∃ g o, p = some ⟨g, o, none⟩ ∧ g < w.heap.size ∧ ∀ i a, xs[i]? = some a → a.came w ∧ ∀ j v, a.vals[j]? = some v → w.cell? ⟨g, o + i * 5 + j, none⟩ = some v
theorem acts_view {a : Option Addr} {len cap : Nat} {fuel : Nat} {x : DataW H × List MemPlace} (h : DataW.trod enc Try.prog w base spare held fuel 22 [.slice a len cap] = some x) :
    ∃ xs : List Act1, xs.length = len ∧ ActsAt w a xs ∧ len ≤ maxLen := by
  obtain ⟨hm, hv⟩ := rows_view (C := 5) Try.underlying22 (by kernel_rfl) (by omega) h
  rcases Nat.eq_zero_or_pos len with h0 | h0
  · subst h0
    exact ⟨[], rfl, fun h => by simp at h, hm⟩
  · obtain ⟨g, o, n, rfl, hg, hi⟩ := hv h0
    obtain ⟨xs, hl, hp⟩ := list_of (α := Act1) (p := fun i a => a.came w ∧ ∀ j v, a.vals[j]? = some v → w.cell? ⟨g, o + i * 5 + j, none⟩ = some v) (n := len) (by
      intro i hil
      obtain ⟨cs, y, h1, h2, h3⟩ := hi i hil
      match cs, h1 with
      | [c0, c1, c2, c3, c4], _ =>
        obtain ⟨_, _, z0⟩ := field_one Try.underlying38 h3 0 _ c0 rfl rfl (by kernel_rfl) rfl
        obtain ⟨_, _, z1⟩ := field_one Try.underlying38 h3 1 _ c1 rfl rfl (by kernel_rfl) rfl
        obtain ⟨_, _, z2⟩ := field_one Try.underlying38 h3 2 _ c2 rfl rfl (by kernel_rfl) rfl
        obtain ⟨_, _, z3⟩ := field_one Try.underlying38 h3 3 _ c3 rfl rfl (by kernel_rfl) rfl
        obtain ⟨_, _, z4⟩ := field_one Try.underlying38 h3 4 _ c4 rfl rfl (by kernel_rfl) rfl
        obtain ⟨n0, e0, _, f0⟩ := DataW.trod_int Try.underlying3 z0
        obtain ⟨n1, e1, _, f1⟩ := DataW.trod_int Try.underlying25 z1
        obtain ⟨n2, e2, _, f2⟩ := DataW.trod_int Try.underlying25 z2
        obtain ⟨n3, e3, _, f3⟩ := DataW.trod_int Try.underlying25 z3
        obtain ⟨a4, l4, p4, rfl⟩ := slice_shape Try.underlying36 z4
        obtain ⟨fs, r1, r2, r3, r4, r5⟩ := frames_view z4
        obtain ⟨k1, rfl, b1⟩ := nat_of_u64 f1
        obtain ⟨k2, rfl, b2⟩ := nat_of_u64 f2
        obtain ⟨k3, rfl, b3⟩ := nat_of_u64 f3
        simp at e0 e1 e2 e3
        subst e0
        subst e1
        subst e2
        subst e3
        subst r1
        exact ⟨⟨n0, k1, k2, k3, a4, fs, p4⟩, ⟨b1, b2, b3, r2, r3, r4, r5⟩, fun j v hv => h2 j v hv⟩)
    exact ⟨xs, hl, fun _ => ⟨g, o, rfl, hg, hp⟩, hm⟩
end

def bigF (f : Frm) : Bool := decide (200 < f.data.size) || decide (70 < f.rs.length) || decide (200 < f.more.size)
def largeF (a : Act1) : Bool := decide (10 < a.fs.length) || a.fs.any bigF
theorem large_fit {w : World} {a : Act1} (h : largeF a = false) (hc : a.came w) : a.fs.length ≤ 10 ∧ ∀ f ∈ a.fs, f.fit := by
  unfold largeF at h
  rw [Bool.or_eq_false_iff, decide_eq_false_iff_not, List.any_eq_false] at h
  refine ⟨by omega, fun f hf => ?_⟩
  have h1 := h.2 f hf
  have h2 := hc.all f hf
  unfold bigF at h1
  simp only [Bool.or_eq_true, decide_eq_true_eq, not_or] at h1
  exact ⟨h2.n0, h2.n1, h2.n2, h2.n3, by omega, by omega, by omega⟩

set_option maxRecDepth 100000 in
set_option maxHeartbeats 4000000 in
theorem large_any (a : Act1) (w w0 : World) (hb : Below w0.heap.size w0 w) (hc : a.came w0) :
    Calls Try.prog 10 #[a.v] w fun e w' => e = .returned (.bool (largeF a)) ∧ Below w.heap.size w w' := by
  obtain ⟨kind, num, now, size, fp, fs, fcap⟩ := a
  unfold Act1.v
  simp only
  have hfr : FrsAt w fp fs := hc.frs.below hb
  have hall : ∀ f ∈ fs, f.data.size ≤ 9223372036854775807 ∧ f.more.size ≤ 9223372036854775807 ∧ f.rs.length ≤ 9223372036854775807 := fun f hf => ⟨(hc.all f hf).d, (hc.all f hf).m, (hc.all f hf).l⟩
  have hlen : fs.length ≤ 9223372036854775807 := hc.len
  unfold largeF
  simp only
  obtain ⟨N, hN⟩ : ∃ N, fs.length = N := ⟨_, rfl⟩
  have hb1 : Below w.heap.size w (w.alloc (.cells #[.int .i64 kind, .int .u64 (num : Int), .int .u64 (now : Int), .int .u64 (size : Int), .slice fp fs.length fcap] 38)) := (Below.refl _ _).alloc (Nat.le_refl _) _
  have hk := blk.new w 38 [.int .i64 kind, .int .u64 (num : Int), .int .u64 (now : Int), .int .u64 (size : Int), .slice fp fs.length fcap]
  rw [hN] at hlen hb1 hk ⊢
  have HFR := Lib.hid (hfr.below hb1)
  have HK := Lib.hid hk
  have HB1 := Lib.hid hb1
  have HALL := Lib.hid hall
  have HN := Lib.hid hN
  clear hc hfr hall hb1 hk hN hb
  by_cases h10 : 10 < N
  · have e1 : (decide (10 < N) || fs.any bigF) = true := by simp [h10]
    rw [e1]
    clear e1
    have h10i : (10 : Int) < (N : Int) := by omega
    go_enter Try.func10, Try.ntmps10
    go_wp2_with fail
    go_ret
    exact ⟨rfl, HB1.out⟩
  · have e1 : (decide (10 < N) || fs.any bigF) = fs.any bigF := by simp [h10]
    rw [e1]
    have h10i : ¬ (10 : Int) < (N : Int) := by omega
    have hN10 : N ≤ 10 := by omega
    obtain ⟨R, hR⟩ : ∃ R, fs.any bigF = R := ⟨_, rfl⟩
    rw [hR]
    have HR := Lib.hid hR
    clear e1 h10 hR
    go_enter Try.func10, Try.ntmps10
    go_wp2_with fail
    go_loop [3, 11] (fun _ i => ∃ j : Nat, j ≤ N ∧ i = .int .i64 j ∧ (fs.take j).any bigF = false) (fun _ i => N - (intOf i).toNat)
    case atStart => exact ⟨0, by omega, rfl, rfl⟩
    case round =>
      obtain ⟨j, hj, rfl, hno⟩ := hrel
      by_cases hlt : j < N
      · have hjl : j < fs.length := by rw [HN.out]; exact hlt
        obtain ⟨f, hf⟩ : ∃ f, fs[j]? = some f := ⟨_, List.getElem?_eq_getElem hjl⟩
        obtain ⟨g, o, rfl, hg, hc⟩ := HFR.out (by omega)
        have c5 := hc j f hf 5 _ rfl
        have c6 := hc j f hf 6 _ rfl
        have c7 := hc j f hf 7 _ rfl
        have hmem := List.mem_of_getElem? hf
        obtain ⟨s1, s2, s3⟩ := HALL.out f hmem
        have htk : (fs.take (j + 1)).any bigF = ((fs.take j).any bigF || bigF f) := by rw [List.take_add_one, hf, List.any_append]; simp
        rw [hno, Bool.false_or] at htk
        have HTK := Lib.hid htk
        have HBG : Hid (bigF f = true → R = true) := Lib.hid (fun h => by rw [← HR.out, List.any_eq_true]; exact ⟨f, hmem, h⟩)
        clear hc hf hmem htk hno hjl
        obtain ⟨kd, a, b, c, fin, data, more, lp, rs, lc⟩ := f
        simp only at c5 c6 c7 s1 s2 s3
        obtain ⟨nr, hnr⟩ : ∃ nr, rs.length = nr := ⟨_, rfl⟩
        rw [hnr] at c7 s3
        have HNR := Lib.hid hnr
        clear hnr
        by_cases b1 : (200 : Int) < (data.size : Int)
        · obtain rfl := HBG.out (by unfold bigF; simp only [Bool.or_eq_true, decide_eq_true_eq]; left; left; omega)
          go_wp2_with fail
          go_ret
          exact ⟨rfl, HB1.out⟩
        · by_cases b2 : (70 : Int) < (nr : Int)
          · obtain rfl := HBG.out (by unfold bigF; simp only [Bool.or_eq_true, decide_eq_true_eq]; left; right; rw [HNR.out]; omega)
            go_wp2_with fail
            go_ret
            exact ⟨rfl, HB1.out⟩
          · by_cases b3 : (200 : Int) < (more.size : Int)
            · obtain rfl := HBG.out (by unfold bigF; simp only [Bool.or_eq_true, decide_eq_true_eq]; right; omega)
              go_wp2_with fail
              go_ret
              exact ⟨rfl, HB1.out⟩
            · have hf0 : bigF ⟨kd, a, b, c, fin, data, more, lp, rs, lc⟩ = false := by
                unfold bigF
                simp only [Bool.or_eq_false_iff, decide_eq_false_iff_not]
                rw [HNR.out]
                omega
              have HF0 := Lib.hid hf0
              clear hf0
              go_wp2_with fail
              go_round
              case rel => exact ⟨j + 1, by omega, by go_num, by rw [HTK.out, HF0.out]⟩
              case measure => simp [intOf]; omega
      · obtain rfl : j = N := by omega
        rw [List.take_of_length_le (by rw [HN.out]; exact Nat.le_refl _), HR.out] at hno
        subst hno
        go_wp2_with fail
        go_ret
        exact ⟨rfl, HB1.out⟩

end Go.Proofs.Ytmnmpmiocgfalaa
