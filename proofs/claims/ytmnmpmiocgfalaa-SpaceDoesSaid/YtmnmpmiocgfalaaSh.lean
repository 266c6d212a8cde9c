/- space: lists of frames; what searches them; their clone; since and signed. Printed by tools/mkSh.py. -/
import Derived.Test.YtmnmpmiocgfalaaSg
import Derived.Test.YtmnmpmiocgfalaaSb
namespace Go.Proofs.Ytmnmpmiocgfalaa
open Go.ChangeShapes Go.WideShapes Go.RowKit
set_option linter.unusedVariables false
set_option linter.unusedSimpArgs false

/-- Frames that lie in a slice. -/
def FrsAt (w : World) (p : Option Addr) (fs : List Frm) : Prop :=
  0 < fs.length → ∃ g o, p = some ⟨g, o, none⟩ ∧ g < w.heap.size ∧ ∀ i f, fs[i]? = some f → ∀ j v, f.vals[j]? = some v → w.cell? ⟨g, o + i * 8 + j, none⟩ = some v
theorem FrsAt.below {w w' : World} {p : Option Addr} {fs : List Frm} (h : FrsAt w p fs) (hb : Below w.heap.size w w') : FrsAt w' p fs := by
  intro h0
  obtain ⟨g, o, rfl, hg, hc⟩ := h h0
  exact ⟨g, o, rfl, Nat.lt_of_lt_of_le hg hb.size, fun i f hf j v hv => (hb.cell (p := ⟨g, o + i * 8 + j, none⟩) hg).trans (hc i f hf j v hv)⟩

set_option maxRecDepth 100000 in
set_option maxHeartbeats 1000000 in
theorem index_fr (p : Option Addr) (n cap : Nat) (rs : List Frm) (w : World) (f : Frm → Bool) (g : Nat) (lb : Array Value)
    (eg : ∀ args w, (callFunc g args).run Try.prog w = .ok (.enter g args) w)
    (hp : ∀ W r, r ∈ rs → Below w.heap.size w W → Calls Try.prog g (#[frmV r] ++ lb) W fun e w' => e = .returned (.bool (f r)) ∧ Below W.heap.size W w')
    (hn : rs.length = n) (hr : FrsAt w p rs) (hlen : n ≤ 1000000) :
    Calls Try.prog 72 #[.slice p n cap, .func (.func g) #[] lb] w fun e w' => ∃ k : Int, e = .returned (.int .i64 k) ∧ decide (0 ≤ k) = rs.any f ∧ Below w.heap.size w w' := by
  have HN := Lib.hid hn
  have HR := Lib.hid hr
  have HP := Lib.hid hp
  clear hn hr hp
  go_enter Try.func72, Try.ntmps72
  go_wp2_with fail
  go_loopw [5, 8] (fun _ i wr => ∃ j : Nat, j ≤ n ∧ i = .int .i64 j ∧ (rs.take j).any f = false ∧ Below w.heap.size w wr) (fun _ i _ => n - (intOf i).toNat)
  case atStart => exact ⟨0, by omega, rfl, rfl, Below.refl _ _⟩
  case round =>
    obtain ⟨j, hj, rfl, hno, hbw⟩ := hrel
    by_cases hlt : j < n
    · have hjl : j < rs.length := by rw [HN.out]; exact hlt
      obtain ⟨r, hq⟩ : ∃ r, rs[j] = r := ⟨_, rfl⟩
      have hq2 : rs[j]? = some r := by rw [List.getElem?_eq_getElem hjl, hq]
      obtain ⟨gb, o, hpe, hg, hc⟩ := (HR.out.below hbw) (by omega)
      have c0 := hc j r hq2 0 _ rfl
      have c1 := hc j r hq2 1 _ rfl
      have c2 := hc j r hq2 2 _ rfl
      have c3 := hc j r hq2 3 _ rfl
      have c4 := hc j r hq2 4 _ rfl
      have c5 := hc j r hq2 5 _ rfl
      have c6 := hc j r hq2 6 _ rfl
      have c7 := hc j r hq2 7 _ rfl
      rw [Nat.add_zero] at c0
      have hcall := HP.out wr r (by rw [← hq]; exact List.getElem_mem _) hbw
      unfold frmV at hcall
      obtain ⟨fr, hfr⟩ : ∃ x, f r = x := ⟨_, rfl⟩
      rw [hfr] at hcall
      have htk : (rs.take (j + 1)).any f = ((rs.take j).any f || fr) := by rw [List.take_succ_eq_append_getElem hjl, hq, List.any_append, List.any_cons, List.any_nil, hfr, Bool.or_false]
      rw [hno, Bool.false_or] at htk
      have hany : fr = true → rs.any f = true := by
        intro h
        rw [List.any_eq_true]
        exact ⟨r, by rw [← hq]; exact List.getElem_mem _, by rw [hfr, h]⟩
      have HC := Lib.hid hcall
      have Htk := Lib.hid htk
      have Hany := Lib.hid hany
      have Hbw := Lib.hid hbw
      subst hpe
      clear hcall htk hany hbw hc hq hq2 hno hfr HP HR
      cases fr
      · go_wp2_with fail
        refine HC.out.mono ?_
        rintro e w2 ⟨rfl, hb2⟩
        have Hb2 := Lib.hid (Hbw.out.trans (hb2.mono Hbw.out.size))
        clear hb2
        go_wp2_with fail
        go_roundw
        case rel => exact ⟨j + 1, by omega, by go_num, Htk.out, Hb2.out⟩
        case measure => simp [intOf]; omega
      · go_wp2_with fail
        refine HC.out.mono ?_
        rintro e w2 ⟨rfl, hb2⟩
        have Hb2 := Lib.hid (Hbw.out.trans (hb2.mono Hbw.out.size))
        clear hb2
        go_wp2_with fail
        go_ret
        refine ⟨_, rfl, ?_, Hb2.out⟩
        rw [Hany.out (by trivial)]
        simp
    · obtain rfl : j = n := by omega
      rw [List.take_of_length_le (by rw [HN.out]; exact Nat.le_refl _)] at hno
      have Hno := Lib.hid hno
      have Hbw := Lib.hid hbw
      clear hno hbw
      go_wp2_with fail
      go_ret
      refine ⟨_, rfl, ?_, Hbw.out⟩
      rw [Hno.out]
      rfl

set_option maxRecDepth 100000 in
theorem contains_fr (p : Option Addr) (n cap : Nat) (rs : List Frm) (w : World) (f : Frm → Bool) (g : Nat) (lb : Array Value)
    (eg : ∀ args w, (callFunc g args).run Try.prog w = .ok (.enter g args) w)
    (hp : ∀ W r, r ∈ rs → Below w.heap.size w W → Calls Try.prog g (#[frmV r] ++ lb) W fun e w' => e = .returned (.bool (f r)) ∧ Below W.heap.size W w')
    (hn : rs.length = n) (hr : FrsAt w p rs) (hlen : n ≤ 1000000) :
    Calls Try.prog 40 #[.slice p n cap, .func (.func g) #[] lb] w fun e w' => e = .returned (.bool (rs.any f)) ∧ Below w.heap.size w w' := by
  have hi := index_fr p n cap rs w f g lb eg hp hn hr hlen
  have HI := Lib.hid hi
  clear hi hp hn hr
  go_enter Try.func40, Try.ntmps40
  go_wp2_with fail
  refine HI.out.mono ?_
  rintro e w2 ⟨k, rfl, hk, hb2⟩
  have Hb2 := Lib.hid hb2
  have Hk := Lib.hid hk
  clear hb2 hk
  go_wp2_with fail
  go_ret
  exact ⟨by rw [← Hk.out]; rfl, Hb2.out⟩
/-- The place of the first one that is so, or -1. -/
def IdxIs (l : List Pk) (f : Pk → Bool) (k : Int) : Prop := (k = -1 ∧ l.any f = false) ∨ ∃ (i : Nat) (p : Pk), k = (i : Int) ∧ l[i]? = some p ∧ f p = true

set_option maxRecDepth 100000 in
set_option maxHeartbeats 1000000 in
theorem index_pk (n : Nat) (rs : List Pk) (B : Nat) (v : Value) (w : World) (f : Pk → Bool) (g : Nat) (lb : Array Value)
    (eg : ∀ args w, (callFunc g args).run Try.prog w = .ok (.enter g args) w)
    (hp : ∀ W r, Below w.heap.size w W → Calls Try.prog g (#[pkV r] ++ lb) W fun e w' => e = .returned (.bool (f r)) ∧ Below W.heap.size W w')
    (hn : rs.length = n) (hr : w.ownsRow B 57 5 v n (pks rs)) (hlen : n ≤ 1000000) :
    Calls Try.prog 53 #[v, .func (.func g) #[] lb] w fun e w' => ∃ k : Int, e = .returned (.int .i64 k) ∧ IdxIs rs f k ∧ Below w.heap.size w w' := by
  obtain ⟨p, cap, rfl, -⟩ := own_shape hr
  have HN := Lib.hid hn
  have HR := Lib.hid hr
  have HP := Lib.hid hp
  clear hn hr hp
  go_enter Try.func53, Try.ntmps53
  go_wp2_with fail
  go_loopw [5, 8] (fun _ i wr => ∃ j : Nat, j ≤ n ∧ i = .int .i64 j ∧ (rs.take j).any f = false ∧ Below w.heap.size w wr) (fun _ i _ => n - (intOf i).toNat)
  case atStart => exact ⟨0, by omega, rfl, rfl, Below.refl _ _⟩
  case round =>
    obtain ⟨j, hj, rfl, hno, hbw⟩ := hrel
    by_cases hlt : j < n
    · have hjl : j < rs.length := by rw [HN.out]; exact hlt
      obtain ⟨r, hq⟩ : ∃ r, rs[j] = r := ⟨_, rfl⟩
      have hq2 : rs[j]? = some r := by rw [List.getElem?_eq_getElem hjl, hq]
      obtain ⟨gb, cap1, hpe, -, hg, c0, c1, c2, c3, c4⟩ := pk_cells (own_below HR.out hbw) j r hq2
      injection hpe with hpe hpe2 hpe3
      have hcall := HP.out wr r hbw
      unfold pkV at hcall
      obtain ⟨fr, hfr⟩ : ∃ x, f r = x := ⟨_, rfl⟩
      rw [hfr] at hcall
      have htk : (rs.take (j + 1)).any f = ((rs.take j).any f || fr) := by rw [List.take_succ_eq_append_getElem hjl, hq, List.any_append, List.any_cons, List.any_nil, hfr, Bool.or_false]
      rw [hno, Bool.false_or] at htk
      have hany : fr = true → IdxIs rs f (j : Int) := by
        intro h
        exact .inr ⟨j, r, rfl, hq2, by rw [hfr, h]⟩
      have HC := Lib.hid hcall
      have Htk := Lib.hid htk
      have Hany := Lib.hid hany
      have Hbw := Lib.hid hbw
      subst hpe
      clear hcall htk hany hbw hq hq2 hno hfr HP HR hpe2 hpe3
      cases fr
      · go_wp2_with fail
        refine HC.out.mono ?_
        rintro e w2 ⟨rfl, hb2⟩
        have Hb2 := Lib.hid (Hbw.out.trans (hb2.mono Hbw.out.size))
        clear hb2
        go_wp2_with fail
        go_roundw
        case rel => exact ⟨j + 1, by omega, by go_num, Htk.out, Hb2.out⟩
        case measure => simp [intOf]; omega
      · go_wp2_with fail
        refine HC.out.mono ?_
        rintro e w2 ⟨rfl, hb2⟩
        have Hb2 := Lib.hid (Hbw.out.trans (hb2.mono Hbw.out.size))
        clear hb2
        go_wp2_with fail
        go_ret
        exact ⟨_, rfl, Hany.out (by trivial), Hb2.out⟩
    · obtain rfl : j = n := by omega
      rw [List.take_of_length_le (by rw [HN.out]; exact Nat.le_refl _)] at hno
      have Hno := Lib.hid hno
      have Hbw := Lib.hid hbw
      clear hno hbw
      go_wp2_with fail
      go_ret
      exact ⟨_, rfl, .inl ⟨rfl, Hno.out⟩, Hbw.out⟩


def frs (l : List Frm) : List Value := l.flatMap Frm.vals
theorem frs_length (l : List Frm) : (frs l).length = l.length * 8 := by
  induction l with
  | nil => rfl
  | cons p l ih =>
    have : frs (p :: l) = p.vals ++ frs l := rfl
    rw [this, List.length_append, ih, List.length_cons]
    simp [Frm.vals]
    omega
theorem frs_get : ∀ (l : List Frm) (j : Nat), (frs l)[j]? = (l[j / 8]?).bind (fun f => f.vals[j % 8]?) := by
  intro l
  induction l with
  | nil => intro j; rfl
  | cons p l ih =>
    intro j
    have e : frs (p :: l) = p.vals ++ frs l := rfl
    have e8 : p.vals.length = 8 := rfl
    rw [e]
    by_cases hj : j < 8
    · rw [List.getElem?_append_left (by omega), Nat.div_eq_of_lt hj, Nat.mod_eq_of_lt hj]
      rfl
    · obtain ⟨k, rfl⟩ : ∃ k, j = k + 8 := ⟨j - 8, by omega⟩
      rw [List.getElem?_append_right (by omega), e8, Nat.add_sub_cancel, ih, show (k + 8) / 8 = k / 8 + 1 by omega, show (k + 8) % 8 = k % 8 by omega, List.getElem?_cons_succ]
theorem FrsAt.src {w : World} {p : Option Addr} {fs : List Frm} (h : FrsAt w p fs) (h0 : 0 < fs.length) : ∃ A, p = some A ∧ ∀ j u, (frs fs)[j]? = some u → w.cell? (A.add j) = some u := by
  obtain ⟨g, o, rfl, hg, hc⟩ := h h0
  refine ⟨_, rfl, fun j u hu => ?_⟩
  rw [frs_get] at hu
  obtain ⟨f, hf, hv⟩ := Option.bind_eq_some_iff.1 hu
  have := hc (j / 8) f hf (j % 8) u hv
  rw [show o + j / 8 * 8 + j % 8 = o + j by omega] at this
  have e : (⟨g, o, none⟩ : Addr).add j = ⟨g, o + j, none⟩ := by unfold Addr.add; split <;> simp_all
  rw [e]
  exact this
theorem Try.infoF : (Try.prog.info? 43).map (fun i => (i.zero, i.size, i.bytes)) = some (some (.agg #[.int .u64 0, .int .u64 0, .int .u64 0, .int .u64 0, .bool false, .string ⟨#[]⟩, .string ⟨#[]⟩, .slice none 0 0]), 8, 96) := by kernel_rfl

set_option maxRecDepth 100000 in
set_option maxHeartbeats 1000000 in
theorem clone_fr (p : Option Addr) (N cap : Nat) (fs : List Frm) (w : World) (hN : fs.length = N) (hA : FrsAt w p fs) (h0 : 0 < N) (hn : N ≤ 1000) :
    Calls Try.prog 75 #[.slice p N cap] w fun e w' => ∃ v, e = .returned v ∧ w'.ownsRow w.heap.size 43 8 v N (frs fs) ∧ Below w.heap.size w w' := by
  have q22 : ∀ (w : World) (a : Option Addr) (n c n' c' : Nat), (binOp .eql 36 (.slice a n c) (.slice none n' c')).run Try.prog w = .ok (.bool a.isNone) w := fun w a n c n' c' => Lib.run_eql_slice_nil w _ _ a n c n' c' Try.underlying36
  obtain ⟨A, rfl, hs⟩ := hA.src (by omega)
  have hE : (w.alloc (.cells #[] 43)).ownsRow w.heap.size 43 8 (.slice (some ⟨w.heap.size, 0, none⟩) 0 0) 0 [] :=
    ⟨rfl, .inr ⟨w.heap.size, 0, #[], rfl, Nat.le_refl _, heap_alloc_new w _, Nat.le_refl _, by decide, rfl, rfl⟩⟩
  have hb : Below w.heap.size w (w.alloc (.cells #[] 43)) := (Below.refl _ _).alloc (Nat.le_refl _) _
  have hsrc : 0 < N → ∃ A', some A = some A' ∧ ∀ j u, (frs fs)[j]? = some u → (w.alloc (.cells #[] 43)).cell? (A'.add j) = some u := by
    intro h
    exact ⟨A, rfl, fun j u hu => Lib.cell?_alloc_some _ (hs j u hu)⟩
  have hlen : (frs fs).length = N * 8 := by rw [frs_length, hN]
  have h1 : ∀ u ∈ frs fs, u.oneCell' = true := by
    intro u hu
    unfold frs at hu
    obtain ⟨r, _, hr⟩ := List.mem_flatMap.1 hu
    simp [Frm.vals] at hr
    rcases hr with rfl | rfl | rfl | rfl | rfl | rfl | rfl | rfl <;> rfl
  obtain ⟨i0, hi0, hz0, hz1, hz2⟩ := info_parts Try.infoF
  have HE := Lib.hid hE
  have HB := Lib.hid hb
  have HS := Lib.hid hsrc
  have HL := Lib.hid hlen
  have H1 := Lib.hid h1
  clear hE hb hsrc hlen h1 hA hN hs
  go_enter Try.func75, Try.ntmps75
  go_wp2_with (at_builtin; refine wpList_append_src rfl (.tmp 5) (.tmp 6) 36 rfl w.heap.size 43 i0 _ 8 96 Try.underlying36 hi0 hz0 hz1 hz2 rfl (by decide) _ 0 [] HE.out (some A) N cap (frs fs) HL.out HS.out (fun h => by cases h) H1.out (by omega) (by decide) (by simp) rfl rfl ?_)
  intro v' w' ho hon _ _
  have hb2 := Lib.hid (HB.out.trans (hon.below (by simp) (fun k hk => by simp [Value.ownBlock] at hk; omega)))
  have HO := Lib.hid ho
  clear ho hon
  go_wp2_with fail
  go_ret
  exact ⟨_, rfl, HO.out, hb2.out⟩

/-- Clone, as Sent asks for it. -/
theorem clone_sent (p : Option Addr) (N cap : Nat) (fs : List Frm) (w : World) (hN : fs.length = N) (hA : FrsAt w p fs) (h0 : 0 < N) (hn : N ≤ 1000) :
    ∀ W, Below w.heap.size w W → Calls Try.prog 75 #[.slice p N cap] W fun e w' => ∃ fa fc, e = .returned (.slice fa N fc) ∧ Below W.heap.size W w' ∧ w'.ownsRow W.heap.size 43 8 (.slice fa N fc) N (frs fs) := by
  intro W hW
  refine (clone_fr p N cap fs W hN (hA.below hW) h0 hn).mono ?_
  rintro e w' ⟨v, rfl, ho, hb⟩
  obtain ⟨fa, fc, rfl, -⟩ := own_shape ho
  exact ⟨fa, fc, rfl, hb, ho⟩

def sinceF (then_ now : Nat) : Nat := now - then_
theorem since_any (a b : Nat) (w : World) (ha : a < 2 ^ 64) (hb : b < 2 ^ 64) : Calls Try.prog 43 #[.int .u64 (a : Int), .int .u64 (b : Int)] w fun e w' => e = .returned (.int .u64 (sinceF a b : Int)) ∧ w = w' := by
  unfold sinceF
  by_cases h : b < a
  · go_enter Try.func43, Try.ntmps43
    go_wp2_with fail
    go_ret
    exact ⟨by simp; omega, rfl⟩
  · have e : IntKind.u64.wrap ((b : Int) - (a : Int)) = ((b - a : Nat) : Int) := u64_sub b a (by omega) hb
    go_enter Try.func43, Try.ntmps43
    go_wp2_with fail
    go_ret
    exact ⟨by simp; omega, rfl⟩

theorem signed_any (n : Nat) (is : Bool) (w : World) (hn : n < 2 ^ 63) : Calls Try.prog 44 #[.int .u64 (n : Int), .bool is] w fun e w' => e = .returned (.int .i64 (sg is n)) ∧ w = w' := by
  cases is
  · go_enter Try.func44, Try.ntmps44
    go_wp2_with fail
    go_ret
    exact ⟨rfl, rfl⟩
  · have e : IntKind.i64.wrap (n : Int) = (n : Int) := IntWalk.i64_in _ (by omega)
    go_enter Try.func44, Try.ntmps44
    go_wp2_with fail
    go_ret
    exact ⟨rfl, rfl⟩

end Go.Proofs.Ytmnmpmiocgfalaa
