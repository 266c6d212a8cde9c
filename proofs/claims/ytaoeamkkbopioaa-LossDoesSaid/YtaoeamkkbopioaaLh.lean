/- Contracts of Acked's closures. -/
import Derived.Test.YtaoeamkkbopioaaLg
namespace Go.Proofs.Ytaoeamkkbopioaa
open Go.ChangeShapes Go.WideShapes Go.RowKit
set_option linter.unusedVariables false

/-- Ranges lie there, two cells each. -/
def RgAt (w : World) (p : Option Addr) (rs : List (Nat × Nat)) : Prop :=
  0 < rs.length → ∃ g o, p = some ⟨g, o, none⟩ ∧ g < w.heap.size ∧ ∀ i r, rs[i]? = some r → w.cell? ⟨g, o + i * 2, none⟩ = some (.int .u64 (r.1 : Int)) ∧ w.cell? ⟨g, o + i * 2 + 1, none⟩ = some (.int .u64 (r.2 : Int))

theorem RgAt.below {w w' : World} {p : Option Addr} {rs : List (Nat × Nat)} (h : RgAt w p rs) (hb : Below w.heap.size w w') : RgAt w' p rs := by
  intro hn
  obtain ⟨g, o, hp, hg, hc⟩ := h hn
  exact ⟨g, o, hp, Nat.lt_of_lt_of_le hg hb.size, fun i r hr => ⟨(hb.cell (p := ⟨g, o + i * 2, none⟩) hg).trans (hc i r hr).1, (hb.cell (p := ⟨g, o + i * 2 + 1, none⟩) hg).trans (hc i r hr).2⟩⟩

def inR (num : Nat) (r : Nat × Nat) : Bool := decide (r.1 ≤ num) && decide (num ≤ r.2)

set_option maxRecDepth 100000 in
theorem in_fn (pb num : Nat) (r : Nat × Nat) (w : World) (hb : pb < w.heap.size) (hc : w.cell? ⟨pb, 0, none⟩ = some (.int .u64 (num : Int))) :
    Calls Try.prog 35 (#[.agg #[.int .u64 (r.1 : Int), .int .u64 (r.2 : Int)]] ++ #[.pointer (some ⟨pb, 0, none⟩)]) w fun e w' => e = .returned (.bool (inR num r)) ∧ Below w.heap.size w w' := by
  obtain ⟨lo, hi⟩ := r
  unfold inR
  simp only
  by_cases h1 : lo ≤ num
  · have d1 : decide (lo ≤ num) = true := by simpa using h1
    obtain ⟨d, hd⟩ : ∃ d, decide (num ≤ hi) = d := ⟨_, rfl⟩
    rw [d1, hd, Bool.true_and]
    go_enter Try.func35, Try.ntmps35
    go_wp2_with fail
    go_ret
    exact ⟨rfl, (Below.refl _ _).alloc (Nat.le_refl _) _⟩
  · have d1 : decide (lo ≤ num) = false := by simpa using h1
    rw [d1, Bool.false_and]
    go_enter Try.func35, Try.ntmps35
    go_wp2_with fail
    go_ret
    exact ⟨rfl, (Below.refl _ _).alloc (Nat.le_refl _) _⟩

set_option maxRecDepth 100000 in
set_option maxHeartbeats 1000000 in
theorem index_any (p : Option Addr) (n cap : Nat) (rs : List (Nat × Nat)) (w : World) (f : Nat × Nat → Bool) (g : Nat) (lb : Array Value)
    (eg : ∀ args w, (callFunc g args).run Try.prog w = .ok (.enter g args) w)
    (hp : ∀ W r, Below w.heap.size w W → Calls Try.prog g (#[.agg #[.int .u64 ((r : Nat × Nat).1 : Int), .int .u64 (r.2 : Int)]] ++ lb) W fun e w' => e = .returned (.bool (f r)) ∧ Below W.heap.size W w')
    (hn : rs.length = n) (hr : RgAt w p rs) (hlen : n ≤ 1000000) :
    Calls Try.prog 40 #[.slice p n cap, .func (.func g) #[] lb] w fun e w' => ∃ k : Int, e = .returned (.int .i64 k) ∧ decide (0 ≤ k) = rs.any f ∧ Below w.heap.size w w' := by
  have HN := Lib.hid hn
  have HR := Lib.hid hr
  have HP := Lib.hid hp
  clear hn hr hp
  go_enter Try.func40, Try.ntmps40
  go_wp2_with fail
  go_loopw [5, 8] (fun _ i wr => ∃ j : Nat, j ≤ n ∧ i = .int .i64 j ∧ (rs.take j).any f = false ∧ Below w.heap.size w wr) (fun _ i _ => n - (intOf i).toNat)
  case atStart => exact ⟨0, by omega, rfl, rfl, Below.refl _ _⟩
  case round =>
    obtain ⟨j, hj, rfl, hno, hbw⟩ := hrel
    by_cases hlt : j < n
    · have hjl : j < rs.length := by rw [HN.out]; exact hlt
      obtain ⟨r, hq⟩ : ∃ r, rs[j] = r := ⟨_, rfl⟩
      have hq2 : rs[j]? = some r := by rw [List.getElem?_eq_getElem hjl, hq]
      obtain ⟨gb, o, hpe, hg, hc⟩ := (HR.out.below hbw) (by omega)
      obtain ⟨c0, c1⟩ := hc j r hq2
      have hcall := HP.out wr r hbw
      obtain ⟨fr, hfr⟩ : ∃ x, f r = x := ⟨_, rfl⟩
      rw [hfr] at hcall
      have htk : (rs.take (j + 1)).any f = ((rs.take j).any f || fr) := by rw [List.take_succ_eq_append_getElem hjl, hq, List.any_append, List.any_cons, List.any_nil, hfr, Bool.or_false]
      rw [hno, Bool.false_or] at htk
      have hany : fr = true → rs.any f = true := by
        intro h
        rw [List.any_eq_true]
        exact ⟨r, by rw [← hq]; exact List.getElem_mem _, by rw [hfr, h]⟩
      have HC := Lib.hid hcall
      have Htk := Lib.hid htk
      have Hany := Lib.hid hany
      have Hbw := Lib.hid hbw
      subst hpe
      clear hcall htk hany hbw hc hq hq2 hno hfr HP HR
      cases fr
      · go_wp2_with fail
        refine HC.out.mono ?_
        rintro e w2 ⟨rfl, hb2⟩
        have Hb2 := Lib.hid (Hbw.out.trans (hb2.mono Hbw.out.size))
        clear hb2
        go_wp2_with fail
        go_roundw
        case rel => exact ⟨j + 1, by omega, by go_num, Htk.out, Hb2.out⟩
        case measure => simp [intOf]; omega
      · go_wp2_with fail
        refine HC.out.mono ?_
        rintro e w2 ⟨rfl, hb2⟩
        have Hb2 := Lib.hid (Hbw.out.trans (hb2.mono Hbw.out.size))
        clear hb2
        go_wp2_with fail
        go_ret
        refine ⟨_, rfl, ?_, Hb2.out⟩
        rw [Hany.out (by trivial)]
        simp
    · obtain rfl : j = n := by omega
      rw [List.take_of_length_le (by rw [HN.out]; exact Nat.le_refl _)] at hno
      have Hno := Lib.hid hno
      have Hbw := Lib.hid hbw
      clear hno hbw
      go_wp2_with fail
      go_ret
      refine ⟨_, rfl, ?_, Hbw.out⟩
      rw [Hno.out]
      rfl

set_option maxRecDepth 100000 in
theorem contains_any (p : Option Addr) (n cap : Nat) (rs : List (Nat × Nat)) (w : World) (f : Nat × Nat → Bool) (g : Nat) (lb : Array Value)
    (eg : ∀ args w, (callFunc g args).run Try.prog w = .ok (.enter g args) w)
    (hp : ∀ W r, Below w.heap.size w W → Calls Try.prog g (#[.agg #[.int .u64 ((r : Nat × Nat).1 : Int), .int .u64 (r.2 : Int)]] ++ lb) W fun e w' => e = .returned (.bool (f r)) ∧ Below W.heap.size W w')
    (hn : rs.length = n) (hr : RgAt w p rs) (hlen : n ≤ 1000000) :
    Calls Try.prog 34 #[.slice p n cap, .func (.func g) #[] lb] w fun e w' => e = .returned (.bool (rs.any f)) ∧ Below w.heap.size w w' := by
  have hi := index_any p n cap rs w f g lb eg hp hn hr hlen
  have HI := Lib.hid hi
  clear hi hp hn hr
  go_enter Try.func34, Try.ntmps34
  go_wp2_with fail
  refine HI.out.mono ?_
  rintro e w2 ⟨k, rfl, hk, hb2⟩
  have Hb2 := Lib.hid hb2
  have Hk := Lib.hid hk
  clear hb2 hk
  go_wp2_with fail
  go_ret
  exact ⟨by rw [← Hk.out]; rfl, Hb2.out⟩

set_option maxRecDepth 100000 in
theorem acked_fn (rb : Nat) (q : Pk) (p : Option Addr) (cap : Nat) (rs : List (Nat × Nat)) (w : World) (hb : rb < w.heap.size) (hc : w.cell? ⟨rb, 0, none⟩ = some (.slice p rs.length cap)) (hr : RgAt w p rs) (hlen : rs.length ≤ 1000000) :
    Calls Try.prog 33 (#[pkV q] ++ #[.pointer (some ⟨rb, 0, none⟩)]) w fun e w' => e = .returned (.bool (rs.any (inR q.num))) ∧ Below w.heap.size w w' := by
  have eg : ∀ args w, (callFunc 35 args).run Try.prog w = .ok (.enter 35 args) w := enters_of Try.func35 (by kernel_rfl) rfl
  obtain ⟨num, time, size, asks, fa, fl, fc⟩ := q
  unfold pkV
  simp only
  obtain ⟨W, hWe⟩ : ∃ W, w.alloc (.cells #[.int .u64 (num : Int), .int .u64 (time : Int), .int .u64 (size : Int), .bool asks, .slice fa fl fc] 38) = W := ⟨_, rfl⟩
  have hW : Below w.heap.size w W := by rw [← hWe]; exact (Below.refl _ _).alloc (Nat.le_refl _) _
  have hnw : blk W w.heap.size 38 [.int .u64 (num : Int), .int .u64 (time : Int), .int .u64 (size : Int), .bool asks, .slice fa fl fc] := by rw [← hWe]; exact blk.new w _ _
  have hcn := contains_any p rs.length cap rs W (inR num) 35 #[.pointer (some ⟨w.heap.size, 0, none⟩)] eg (fun W2 r hb2 => by
    have h := hnw.below hb2 hnw.lt
    exact in_fn w.heap.size num r W2 h.lt (h.cell rfl)) rfl (hr.below hW) hlen
  have hc2 := (hW.cell (p := ⟨rb, 0, none⟩) hb).trans hc
  obtain ⟨z, hz⟩ : ∃ z, rs.any (inR num) = z := ⟨_, rfl⟩
  obtain ⟨n, hn⟩ : ∃ n, rs.length = n := ⟨_, rfl⟩
  rw [hz] at hcn ⊢
  rw [hn] at hcn hc2 hc
  have HC := Lib.hid hcn
  have HW := Lib.hid hW
  clear hcn hW hnw hr hn hz hlen
  go_enter Try.func33, Try.ntmps33
  go_wp2_with fail
  refine HC.out.mono ?_
  rintro e w2 ⟨rfl, hb2⟩
  have Hb2 := Lib.hid (HW.out.trans (hb2.mono HW.out.size))
  clear hb2
  go_wp2_with fail
  go_ret
  exact ⟨rfl, Hb2.out⟩

end Go.Proofs.Ytaoeamkkbopioaa
