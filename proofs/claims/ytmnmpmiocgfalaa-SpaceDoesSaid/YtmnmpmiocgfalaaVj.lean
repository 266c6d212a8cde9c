/- space: the reference's Sent, LastAsk. -/
import Derived.Test.YtmnmpmiocgfalaaVg
import Derived.Deep.RegionHeld3
import Derived.Deep.RegionHeldLaw
namespace Go.Proofs.Ytmnmpmiocgfalaa
open Go.ChangeShapes Go.WideShapes Go.RowKit
set_option linter.unusedVariables false
set_option linter.unusedSimpArgs false

/-- The reference's Sent's end. -/
def RSentEnd (B b bl : Nat) (v u : Value) (s : Sp) (now size : Nat) (asks : Bool) (p : Option Addr) (n cap : Nat) (w : World) (e : Ending) (w' : World) : Prop :=
  ∃ v', e = .returned (.tuple #[.int .u64 ((sentSp s now size asks p n cap).2.1 : Int), .int .i64 (sentSp s now size asks p n cap).2.2]) ∧ RsTo B b bl v u w (sentSp s now size asks p n cap).1 v' u w'

set_option maxRecDepth 100000 in
set_option maxHeartbeats 4000000 in
theorem rSent15 (B b bl : Nat) (v u : Value) (s : Sp) (w : World) (now size : Nat) (p : Option Addr) (cap : Nat) (fs : List Frm) (h : RsIs B b bl v u s w) (hfine : s.fine) (hf : FrsAt w p fs) (hfit : ∀ f ∈ fs, f.fit) (hrg : ∀ f ∈ fs, RgAt w f.lp f.rs) (hl : fs.length ≤ 1000) :
    Calls Try.prog 24 #[.pointer (some ⟨b, 0, none⟩), .int .u64 (now : Int), .int .u64 (size : Int), .slice p fs.length cap] w (RSentEnd B b bl v u s now size (fs.any asksF) p fs.length cap w) := by
  have hb := h.lt
  have hnx := hfine.le h.inv
  have HA := Lib.hid (ask15 asks03 p cap fs w hf hfit hrg hl)
  obtain ⟨A, hA⟩ : ∃ A, fs.any asksF = A := ⟨_, rfl⟩
  rw [hA] at HA ⊢
  have HN1 : Hid (∀ y, Below w.heap.size w y → RsIs B b bl v u s y) := Lib.hid (fun y hy => h.next hy)
  obtain ⟨N, hN⟩ : ∃ N, fs.length = N := ⟨_, rfl⟩
  obtain ⟨nx, hx⟩ : ∃ nx, s.next = nx := ⟨_, rfl⟩
  have HX := Lib.hid hx
  rw [hx] at hnx
  rw [hN] at hl HA ⊢
  have HH := Lib.hid h
  have hwr : IntKind.u64.wrap ((nx : Int) + 1) = ((nx + 1 : Nat) : Int) := by rw [IntKind.wrap_u64]; omega
  have hwr2 : IntKind.u64.wrap (((nx + 1 : Nat) : Int) - 1) = (nx : Int) := by rw [IntKind.wrap_u64]; omega
  clear h hfine hf hfit hrg hA hx hN
  go_enter Try.func24, Try.ntmps24
  go_wp2_with fail
  refine HA.out.mono ?_
  rintro e w1 ⟨rfl, hb1⟩
  have H1 := Lib.hid (HN1.out _ hb1)
  have HB1 := Lib.hid hb1
  have hb1l := H1.out.lt
  have c0 : w1.cell? ⟨b, 0, none⟩ = some (.int .u64 (nx : Int)) := by rw [← HX.out]; exact H1.out.at_.cell (k := 0) rfl
  have c1 : w1.cell? ⟨b, 1, none⟩ = some (.pointer (some ⟨bl, 0, none⟩)) := H1.out.at_.cell (k := 1) rfl
  clear HA HN1 hb1
  cases A
  · have HS := Lib.hid (rSkip_any B bl v s.L w1.drew nx (H1.out.next (Below.refl _ _).drew).led H1.out.inv (by omega))
    obtain ⟨r, hr⟩ : ∃ r, skipF s.L nx = r := ⟨_, rfl⟩
    rw [hr] at HS
    have HR := Lib.hid hr
    clear hr
    go_wp2_with fail
    go_region_held3 (fun w' => w'.cell? ⟨b, 0, none⟩ = some (.int .u64 (nx : Int)) ∧ w'.cell? ⟨b, 1, none⟩ = some (.pointer (some ⟨bl, 0, none⟩))) (first | exact ⟨c0, c1⟩ | exact HC2.out)
      (first | (go_at_call 62; refine HS.out.mono ?_; rintro e w2 ⟨rfl, v', hcv⟩; (have HT := Lib.hid ((H1.out.next (Below.refl _ _).drew).came hcv (by rw [← HR.out]; exact H1.out.inv.skip _))); have HC2 := Lib.hid (And.intro (show w2.cell? ⟨b, 0, none⟩ = some (.int .u64 (nx : Int)) by rw [← HX.out]; exact HT.out.is.at_.cell (k := 0) rfl) (show w2.cell? ⟨b, 1, none⟩ = some (.pointer (some ⟨bl, 0, none⟩)) from HT.out.is.at_.cell (k := 1) rfl))))
    clear HS hcv
    have hr0 : w2.frozen? ⟨b, 0, none⟩ = false := HT.out.is.at_.free 0
    have hb2l := HT.out.is.lt
    obtain ⟨d0, d1⟩ := HC2.out
    clear HC2 c0 c1
    by_cases h0 : r.2 = 0
    · rw [h0]
      have H0 := Lib.hid h0
      have HF := Lib.hid (HT.out.cells (s2 := { s with L := r.1, next := nx + 1 }) 0 (.int .u64 ((nx + 1 : Nat) : Int)) rfl rfl rfl rfl HH.out.wh)
      clear h0
      go_wp2_with fail
      go_ret2
      refine ⟨v', ?_, ?_⟩
      · unfold sentSp
        simp only [Bool.false_eq_true, if_false, HX.out, HR.out, H0.out, if_true]
        rfl
      · unfold sentSp
        simp only [Bool.false_eq_true, if_false, HX.out, HR.out, H0.out, if_true]
        exact RsTo.ahead (HB1.out.trans ((Below.refl _ _).drew.mono HB1.out.size)) HF.out
    · have hne : (r.2 == 0) = false := by rw [beq_eq_false_iff_ne]; exact h0
      have hne2 : (r.2 != 0) = true := by rw [bne_iff_ne]; exact h0
      have hs : r.1 = s.L := by rw [← HR.out]; exact skipF_err (by rw [HR.out]; exact h0)
      have H0 := Lib.hid h0
      have HS1 := Lib.hid hs
      clear h0 hs
      go_wp2_with fail
      go_ret2
      refine ⟨v', ?_, ?_⟩
      · unfold sentSp
        simp only [Bool.false_eq_true, if_false, HX.out, HR.out, if_neg H0.out]
        rfl
      · unfold sentSp
        simp only [Bool.false_eq_true, if_false, HX.out, HR.out, if_neg H0.out]
        have := RsTo.ahead (HB1.out.trans ((Below.refl _ _).drew.mono HB1.out.size)) HT.out
        rw [HS1.out] at this
        exact this
  · have HS := Lib.hid (rSent_any B bl v s.L w1.drew nx now size true p N cap (H1.out.next (Below.refl _ _).drew).led H1.out.inv (by omega))
    obtain ⟨r, hr⟩ : ∃ r, sentF s.L ⟨nx, now, size, true, p, N, cap⟩ = r := ⟨_, rfl⟩
    rw [hr] at HS
    have HR := Lib.hid hr
    clear hr
    go_wp2_with fail
    go_region_held3 (fun w' => w'.cell? ⟨b, 0, none⟩ = some (.int .u64 (nx : Int)) ∧ w'.cell? ⟨b, 1, none⟩ = some (.pointer (some ⟨bl, 0, none⟩))) (first | exact ⟨c0, c1⟩ | exact HC2.out)
      (first | (go_at_call 61; refine HS.out.mono ?_; rintro e w2 ⟨rfl, v', hcv⟩; (have HT := Lib.hid ((H1.out.next (Below.refl _ _).drew).came hcv (by rw [← HR.out]; exact H1.out.inv.sent _))); have HC2 := Lib.hid (And.intro (show w2.cell? ⟨b, 0, none⟩ = some (.int .u64 (nx : Int)) by rw [← HX.out]; exact HT.out.is.at_.cell (k := 0) rfl) (show w2.cell? ⟨b, 1, none⟩ = some (.pointer (some ⟨bl, 0, none⟩)) from HT.out.is.at_.cell (k := 1) rfl))))
    clear HS hcv
    have hr0 : w2.frozen? ⟨b, 0, none⟩ = false := HT.out.is.at_.free 0
    have hb2l := HT.out.is.lt
    obtain ⟨d0, d1⟩ := HC2.out
    clear HC2 c0 c1
    by_cases h0 : r.2 = 0
    · rw [h0]
      have H0 := Lib.hid h0
      have HF := Lib.hid (HT.out.cells (s2 := { s with L := r.1, next := nx + 1 }) 0 (.int .u64 ((nx + 1 : Nat) : Int)) rfl rfl rfl rfl HH.out.wh)
      clear h0
      go_wp2_with fail
      go_ret2
      refine ⟨v', ?_, ?_⟩
      · unfold sentSp
        simp only [if_true, HX.out, HR.out, H0.out, if_true]
        rfl
      · unfold sentSp
        simp only [if_true, HX.out, HR.out, H0.out, if_true]
        exact RsTo.ahead (HB1.out.trans ((Below.refl _ _).drew.mono HB1.out.size)) HF.out
    · have hne : (r.2 == 0) = false := by rw [beq_eq_false_iff_ne]; exact h0
      have hne2 : (r.2 != 0) = true := by rw [bne_iff_ne]; exact h0
      have hs : r.1 = s.L := by rw [← HR.out]; exact sentF_err (by rw [HR.out]; exact h0)
      have H0 := Lib.hid h0
      have HS1 := Lib.hid hs
      clear h0 hs
      go_wp2_with fail
      go_ret2
      refine ⟨v', ?_, ?_⟩
      · unfold sentSp
        simp only [if_true, HX.out, HR.out, if_neg H0.out]
        rfl
      · unfold sentSp
        simp only [if_true, HX.out, HR.out, if_neg H0.out]
        have := RsTo.ahead (HB1.out.trans ((Below.refl _ _).drew.mono HB1.out.size)) HT.out
        rw [HS1.out] at this
        exact this

set_option maxRecDepth 100000 in
set_option maxHeartbeats 1000000 in
theorem rLastAsk_any (B b bl : Nat) (v u : Value) (s : Sp) (w : World) (h : RsIs B b bl v u s w) : Calls Try.prog 32 #[.pointer (some ⟨b, 0, none⟩)] w fun e w' => e = .returned (.tuple #[.int .u64 (lastF s.L.op : Int), .bool (!s.L.op.isEmpty)]) ∧ Below w.heap.size w w' := by
  have hb := h.lt
  have hl := h.inv.len1
  have HT := Lib.hid (fun p hp => (h.inv.le p hp).2.1)
  have c1 : w.cell? ⟨b, 1, none⟩ = some (.pointer (some ⟨bl, 0, none⟩)) := h.at_.cell (k := 1) rfl
  have hbl := h.led.led.lt
  obtain ⟨p, cap, hv, -⟩ := own_shape h.led.own
  subst hv
  have d0 := h.led.led.cell (k := 0) rfl
  have HO := Lib.hid h.led.own
  obtain ⟨N, hN⟩ : ∃ N, s.L.op.length = N := ⟨_, rfl⟩
  rw [hN] at hl HO d0
  have HN := Lib.hid hN
  clear h hN
  go_enter Try.func32, Try.ntmps32
  go_wp2_with fail
  go_loopw [4, 5, 6] (fun a is i wr => ∃ j : Nat, j ≤ N ∧ i = .int .i64 j ∧ a = .int .u64 (lastF (s.L.op.take j) : Int) ∧ is = .bool (decide (0 < j)) ∧ lastF (s.L.op.take j) ≤ 1099511627776 ∧ Below w.heap.size w wr) (fun _ _ i _ => N - (intOf i).toNat)
  case atStart => exact ⟨0, by omega, rfl, rfl, rfl, by simp [lastF], Below.refl _ _⟩
  case round =>
    obtain ⟨j, hj, rfl, rfl, rfl, hle, hbw⟩ := hrel
    have e1 := (hbw.cell (p := ⟨b, 1, none⟩) hb).trans c1
    have e0 := (hbw.cell (p := ⟨bl, 0, none⟩) hbl).trans d0
    have hbr := Nat.lt_of_lt_of_le hb hbw.size
    have hblr := Nat.lt_of_lt_of_le hbl hbw.size
    by_cases hlt : j < N
    · have hjl : j < s.L.op.length := by rw [HN.out]; exact hlt
      obtain ⟨q, hq⟩ : ∃ q, s.L.op[j]? = some q := ⟨_, List.getElem?_eq_getElem hjl⟩
      obtain ⟨g, cap1, hpe, -, hg, m0, m1, m2, m3, m4⟩ := rpk_cells (own_below HO.out hbw) j q hq
      injection hpe with hpe hpe2 hpe3
      have htk := lastF_take hq
      have hqt : q.time ≤ 1099511627776 := HT.out q (List.mem_of_getElem? hq)
      obtain ⟨m, hm⟩ : ∃ m, lastF (s.L.op.take j) = m := ⟨_, rfl⟩
      rw [hm] at hle htk ⊢
      have Htk := Lib.hid htk
      have Hbw := Lib.hid hbw
      subst hpe
      clear hq htk hbw hm hjl hpe2 hpe3 HO m0 m2 m3 m4
      go_wp2_with fail
      all_goals
        go_roundw
        case rel => exact ⟨j + 1, by omega, by go_num, by rw [Htk.out]; congr 1; omega, by simp, by rw [Htk.out]; omega, Hbw.out⟩
        case measure => simp [intOf]; omega
    · obtain rfl : j = N := by omega
      rw [List.take_of_length_le (by rw [HN.out]; exact Nat.le_refl _)]
      have Hbw := Lib.hid hbw
      have he : decide (0 < j) = !s.L.op.isEmpty := by
        rw [← HN.out]
        cases s.L.op with
        | nil => rfl
        | cons x l => simp
      rw [he]
      clear hbw
      go_wp2_with fail
      go_ret2
      exact ⟨rfl, Hbw.out⟩

end Go.Proofs.Ytmnmpmiocgfalaa
