/- space: Take. -/
import Derived.Test.YtmnmpmiocgfalaaSk
import Derived.Deep.RegionHeld3
import Derived.Deep.RegionHeldLaw
namespace Go.Proofs.Ytmnmpmiocgfalaa
open Go.ChangeShapes Go.WideShapes Go.RowKit
set_option linter.unusedVariables false
set_option linter.unusedSimpArgs false

def ackE (S : Lg) (rs : List (Nat × Nat)) : Int := if rs.any formB = true then 2 else if rs.any (rangeB S.li S.ln) = true then 3 else 0
/-- When the greatest one that is told was sent, if it is among them. -/
def tF (l : List Pk) (top now : Nat) : Nat × Bool := match l.find? (fun p => decide (p.num = top)) with
  | none => (0, false)
  | some p => (sinceF p.time now, true)
theorem tF_at {l : List Pk} {top now : Nat} {i : Nat} {p : Pk} (hu : l.Pairwise (fun p q => p.num < q.num)) (hp : l[i]? = some p) (h : p.num = top) : tF l top now = (sinceF p.time now, true) := by
  have hf : l.find? (fun p => decide (p.num = top)) = some p := by
    induction l generalizing i with
    | nil => simp at hp
    | cons x l ih =>
      rw [List.pairwise_cons] at hu
      cases i with
      | zero =>
        simp at hp
        subst hp
        rw [List.find?_cons_of_pos (by simpa using h)]
      | succ i =>
        simp only [List.getElem?_cons_succ] at hp
        have hlt := hu.1 p (List.mem_of_getElem? hp)
        rw [List.find?_cons_of_neg (by simp; omega)]
        exact ih hu.2 hp
  unfold tF
  rw [hf]
theorem tF_none {l : List Pk} {top now : Nat} (h : l.any (fun p => decide (p.num = top)) = false) : tF l top now = (0, false) := by
  have : l.find? (fun p => decide (p.num = top)) = none := by
    rw [List.find?_eq_none]
    intro x hx
    rw [List.any_eq_false] at h
    exact h x hx
  unfold tF
  rw [this]
theorem ackT_up {S : Lg} (h : Inv S) (rs : List (Nat × Nat)) : (ackT S rs).Pairwise (fun p q => p.num < q.num) := by
  unfold ackT
  split
  · exact List.Pairwise.nil
  · exact h.up.filter _

theorem RgAt.only {P : Nat → Prop} {w w' : World} {p : Option Addr} {rs : List (Nat × Nat)} (h : RgAt w p rs) (ho : Only P w w') (hp : 0 < rs.length → ∀ a, p = some a → ¬ P a.block) : RgAt w' p rs := by
  intro h0
  obtain ⟨g, o, rfl, hg, hc⟩ := h h0
  refine ⟨g, o, rfl, Nat.lt_of_lt_of_le hg ho.size, fun i r hr => ?_⟩
  obtain ⟨c1, c2⟩ := hc i r hr
  exact ⟨(ho.cell (p := ⟨g, o + i * 2, none⟩) hg (hp h0 ⟨g, o, none⟩ rfl)).trans c1, (ho.cell (p := ⟨g, o + i * 2 + 1, none⟩) hg (hp h0 ⟨g, o, none⟩ rfl)).trans c2⟩

section
variable {B b : Nat} {v u : Value} {s : Sp} {w : World} {p : Option Addr} {cap : Nat} {rs : List (Nat × Nat)}
theorem acked_bad (h : SpIs B b v u s w) (hr : RgAt w p rs) (hrl : rs.length ≤ 1000000) (hrb : 0 < rs.length → ∀ a, p = some a → a.block ≠ b) (hE : ackE s.L rs ≠ 0) :
    Calls Try.prog 52 #[.pointer (some ⟨b, 0, none⟩), .slice p rs.length cap] w fun e w' => e = .returned (.tuple #[.slice none 0 0, .int .i64 (ackE s.L rs)]) ∧ Below w.heap.size w w' := by
  refine (Acked_any B b _ _ v s.L w p cap rs h.led h.inv.len1 h.inv.bnb h.inv.lnb hr hrl hrb).mono ?_
  rintro e w' (⟨h1, h2, h3⟩ | ⟨h0, h1, h2, h3⟩ | ⟨h0, h1, _⟩)
  · unfold ackE; rw [if_pos h1]; exact ⟨h2, h3⟩
  · unfold ackE; rw [if_neg (by rw [h0]; simp), if_pos h1]; exact ⟨h2, h3⟩
  · exfalso; apply hE; unfold ackE; rw [if_neg (by rw [h0]; simp), if_neg (by rw [h1]; simp)]
theorem acked_good (h : SpIs B b v u s w) (hr : RgAt w p rs) (hrl : rs.length ≤ 1000000) (hrb : 0 < rs.length → ∀ a, p = some a → a.block ≠ b) (hE : ackE s.L rs = 0) :
    Calls Try.prog 52 #[.pointer (some ⟨b, 0, none⟩), .slice p rs.length cap] w fun e w' => ∃ pg cg v', e = .returned (.tuple #[.slice pg (ackT s.L rs).length cg, .int .i64 0]) ∧
      w'.ownsRow w.heap.size 57 5 (.slice pg (ackT s.L rs).length cg) (ackT s.L rs).length (pks (ackT s.L rs)) ∧ SpTo B b v u w { s with L := ackS s.L rs } v' u w' ∧ ∀ k, (Value.slice pg (ackT s.L rs).length cg).ownBlock = some k → v'.ownBlock ≠ some k := by
  refine (Acked_any B b _ _ v s.L w p cap rs h.led h.inv.len1 h.inv.bnb h.inv.lnb hr hrl hrb).mono ?_
  rintro e w' (⟨h1, h2, h3⟩ | ⟨h0, h1, h2, h3⟩ | ⟨h0, h1, vg, v', h2, h3, h4, h5⟩)
  · exfalso; unfold ackE at hE; rw [if_pos h1] at hE; exact absurd hE (by decide)
  · exfalso; unfold ackE at hE; rw [if_neg (by rw [h0]; simp), if_pos h1] at hE; exact absurd hE (by decide)
  · have hn : ¬ (rs.any formB = true ∨ rs.any (rangeB s.L.li s.L.ln) = true) := by rw [h0, h1]; simp
    have e1 : ackS s.L rs = { bestF s.L rs with op := s.L.op.filter (fun q => !ackP rs q) } := by unfold ackS; rw [if_neg hn]
    have e2 : ackT s.L rs = s.L.op.filter (ackP rs) := by unfold ackT; rw [if_neg hn]
    rw [e2]
    obtain ⟨pg, cg, rfl, -⟩ := own_shape h3
    exact ⟨pg, cg, v', h2, h3, h.came (by rw [e1]; exact h4) (h.inv.ack rs), h5⟩
end

/-- What Take comes to. -/
def TakeEnd (B b : Nat) (v u : Value) (s : Sp) (kind : Nat) (rs : List (Nat × Nat)) (now : Nat) (w : World) (e : Ending) (w' : World) : Prop :=
  (¬ (kind = 2 ∨ kind = 3) ∧ e = .returned (.tuple #[.slice none 0 0, .int .u64 0, .bool false, .int .i64 1]) ∧ Below w.heap.size w w') ∨
  ((kind = 2 ∨ kind = 3) ∧ ackE s.L rs ≠ 0 ∧ e = .returned (.tuple #[.slice none 0 0, .int .u64 0, .bool false, .int .i64 (ackE s.L rs)]) ∧ Below w.heap.size w w') ∨
  ((kind = 2 ∨ kind = 3) ∧ ackE s.L rs = 0 ∧ ∃ pg cg v', e = .returned (.tuple #[.slice pg (ackT s.L rs).length cg, .int .u64 ((tF (ackT s.L rs) (bestN 0 rs) now).1 : Int), .bool (tF (ackT s.L rs) (bestN 0 rs) now).2, .int .i64 0]) ∧
    w'.ownsRow w.heap.size 57 5 (.slice pg (ackT s.L rs).length cg) (ackT s.L rs).length (pks (ackT s.L rs)) ∧ SpTo B b v u w { s with L := ackS s.L rs } v' u w' ∧ ∀ k, (Value.slice pg (ackT s.L rs).length cg).ownBlock = some k → v'.ownBlock ≠ some k)

set_option maxRecDepth 100000 in
set_option maxHeartbeats 4000000 in
theorem Take_sp (B b : Nat) (v u : Value) (s : Sp) (w : World) (f : Frm) (now : Nat) (h : SpIs B b v u s w) (hr : RgAt w f.lp f.rs) (hl : f.rs.length ≤ 1000) (hoff : 0 < f.rs.length → ∀ a, f.lp = some a → ¬ (a.block = b ∨ v.ownBlock = some a.block ∨ u.ownBlock = some a.block)) (hnow : now < 2 ^ 64) :
    Calls Try.prog 17 #[.pointer (some ⟨b, 0, none⟩), frmV f, .int .u64 (now : Int)] w (TakeEnd B b v u s f.kind f.rs now w) := by
  have hb := h.lt
  obtain ⟨kind, fa, fb, fcc, fin, data, more, lp, rs, lc⟩ := f
  unfold frmV
  simp only at hr hl hoff ⊢
  obtain ⟨W, hW⟩ : ∃ W, w.alloc (.cells #[.int .u64 (kind : Int), .int .u64 (fa : Int), .int .u64 (fb : Int), .int .u64 (fcc : Int), .bool fin, .string data, .string more, .slice lp rs.length lc] 43) = W := ⟨_, rfl⟩
  have hBW : Below w.heap.size w W := by rw [← hW]; exact (Below.refl _ _).alloc (Nat.le_refl _) _
  have hk : blk W w.heap.size 43 [.int .u64 (kind : Int), .int .u64 (fa : Int), .int .u64 (fb : Int), .int .u64 (fcc : Int), .bool fin, .string data, .string more, .slice lp rs.length lc] := by rw [← hW]; exact blk.new w _ _
  have hHW := h.next hBW
  have hkl := hk.lt
  have k0 := hk.cell (k := 0) rfl
  have k7 := hk.cell (k := 7) rfl
  have HH := Lib.hid h
  have HB := Lib.hid hBW
  have HK := Lib.hid hk
  have HSW := Lib.hid hHW
  have HR := Lib.hid hr
  have HOFF := Lib.hid hoff
  have HNOW := Lib.hid hnow
  obtain ⟨H, hH⟩ : ∃ H, w.heap.size = H := ⟨_, rfl⟩
  rw [hH] at hkl k0 k7 hb
  have HHE := Lib.hid hH
  by_cases hkind : kind = 2 ∨ kind = 3
  · have hHD := hHW.next ((Below.refl W.heap.size W).drew)
    have hRD := (hr.below hBW).below ((Below.refl W.heap.size W).drew)
    have hbd := hHD.lt
    have hsep : 0 < rs.length → ∀ a, lp = some a → a.block ≠ b := fun h0 a ha e => hoff h0 a ha (.inl e)
    have hkq : ∃ x y : Bool, ((kind : Int) != 2) = x ∧ (x = true → ((kind : Int) != 3) = false) := by
      rcases hkind with rfl | rfl
      · exact ⟨false, false, rfl, fun e => by cases e⟩
      · exact ⟨true, false, rfl, fun _ => rfl⟩
    obtain ⟨x, y, p2, p3⟩ := hkq
    have HKD := Lib.hid hkind
    have HT := Lib.hid (fun T (hT : T = some (Value.slice lp rs.length lc)) => hT)
    clear hkind
    by_cases hE : ackE s.L rs = 0
    · have HA := Lib.hid (acked_good (cap := lc) hHD hRD (by omega) hsep hE)
      have HE0 := Lib.hid hE
      obtain ⟨l, hLe⟩ : ∃ l, ackT s.L rs = l := ⟨_, rfl⟩
      have hup := ackT_up h.inv rs
      have htm : ∀ p ∈ ackT s.L rs, p.time ≤ 1099511627776 := by
        intro p hp
        unfold ackT at hp
        split at hp
        · cases hp
        · exact (h.inv.le p (List.mem_filter.1 hp).1).2.1
      have hll : (ackT s.L rs).length ≤ 1000 := by
        unfold ackT
        split
        · exact Nat.zero_le _
        · exact Nat.le_trans (List.length_filter_le _ _) h.inv.len1
      rw [hLe] at HA hup htm hll
      have HLE := Lib.hid hLe
      have HUP := Lib.hid hup
      have HTM := Lib.hid htm
      obtain ⟨n, hn⟩ : ∃ n, l.length = n := ⟨_, rfl⟩
      rw [hn] at HA hll
      have Hn := Lib.hid hn
      obtain ⟨N, hN⟩ : ∃ N, rs.length = N := ⟨_, rfl⟩
      rw [hN] at HA k7 hl hW ⊢
      have HNN := Lib.hid hN
      have HRD := Lib.hid hRD
      have HS0 := Lib.hid (show W.drew.cell? ⟨H, 7, none⟩ = some (.slice lp N lc) from k7)
      have hHb : ¬ (H = b ∨ v.ownBlock = some H ∨ u.ownBlock = some H) := by
        rintro (e | e | e)
        · omega
        · have := (HH.out.led.own.lt H e).2; rw [hH] at this; omega
        · have := (HH.out.set.lt H e).2; rw [hH] at this; omega
      have HHb := Lib.hid hHb
      clear h hBW hk hHW hr hoff hnow hHD hRD hsep hE hN hLe hup htm hn hHb
      cases x
      all_goals
        go_enter Try.func17, Try.ntmps17
        go_wp2_with fail
        go_region_held (fun w' => w'.cell? ⟨H, 7, none⟩ = some (.slice lp N lc))
          (first | with_reducible assumption | exact HS0.out | exact HS1.out)
          (first | (go_at_call 52; refine HA.out.mono ?_; rintro e x1 ⟨pg, cg, v', rfl, ho, hto, hap⟩; have HS1 := Lib.hid ((hto.on.cell (p := ⟨H, 7, none⟩) hkl HHb.out).trans HS0.out); have HB4 := Lib.hid (And.intro ho (And.intro hto hap)); clear ho hto hap))
        have s7 := HS1.out
        have hx1 : H < x1.heap.size := Nat.lt_of_lt_of_le hkl HB4.out.2.1.on.size
        have HR1 := Lib.hid (HRD.out.only HB4.out.2.1.on HOFF.out)
        have HT0 := Lib.hid (blk.new x1 25 [.int .u64 0])
        have HTB := Lib.hid ((Below.refl x1.heap.size x1).alloc (Nat.le_refl _) (.cells #[.int .u64 0] 25))
        clear HS1 HA HS0 k7 k0 p2 p3
        go_wp2_with fail
        go_loopw [14, 39] (fun _ i wr => ∃ j : Nat, j ≤ N ∧ i = .int .i64 j ∧ Below x1.heap.size x1 wr ∧ blk wr x1.heap.size 25 [.int .u64 (bestN 0 (rs.take j) : Int)]) (fun _ i _ => N - (intOf i).toNat)
        case atStart => exact ⟨0, by omega, rfl, HTB.out, HT0.out⟩
        case round =>
          obtain ⟨j, hj, rfl, hbw, htc⟩ := hrel
          have t0 := htc.cell (k := 0) rfl
          have tf := htc.free 0
          have htl := htc.lt
          by_cases hlt : j < N
          · have hjl : j < rs.length := by rw [HNN.out]; exact hlt
            obtain ⟨r, hq⟩ : ∃ r, rs[j]? = some r := ⟨_, List.getElem?_eq_getElem hjl⟩
            obtain ⟨gb, o, hpe, hg, hc⟩ := (HR1.out.below hbw) (by omega)
            obtain ⟨c0, c1⟩ := hc j r hq
            have hbt := bestN_take (bn := 0) hq
            obtain ⟨m, hm⟩ : ∃ m, bestN 0 (rs.take j) = m := ⟨_, rfl⟩
            rw [hm] at hbt t0 htc
            have HBT := Lib.hid hbt
            have HX := Lib.hid (And.intro ((hbw.setCell (p := ⟨x1.heap.size, 0, none⟩) (by simp) (.int .u64 (max (m : Int) (r.2 : Int)))).alloc (by simpa [World.setCell] using hbw.size) (.cells #[.int .u64 (r.1 : Int), .int .u64 (r.2 : Int)] 47)) ((htc.set 0 (.int .u64 (max (m : Int) (r.2 : Int)))).alloc (.cells #[.int .u64 (r.1 : Int), .int .u64 (r.2 : Int)] 47)))
            subst hpe
            clear hbw htc hq hc hbt hm hjl
            go_wp2_with fail
            go_roundw
            case rel => exact ⟨j + 1, by omega, by go_num, HX.out.1, by rw [HBT.out, show ((max m r.2 : Nat) : Int) = max (m : Int) (r.2 : Int) by omega]; exact HX.out.2⟩
            case measure => simp [intOf]; omega
          · obtain rfl : j = N := by omega
            rw [List.take_of_length_le (by rw [HNN.out]; exact Nat.le_refl _)] at t0 htc
            obtain ⟨top, htop⟩ : ∃ top, bestN 0 rs = top := ⟨_, rfl⟩
            rw [htop] at t0 htc
            have HTOP := Lib.hid htop
            have eg : ∀ args w, (callFunc 54 args).run Try.prog w = .ok (.enter 54 args) w := enters_of Try.func54 (by kernel_rfl) rfl
            have HIX := Lib.hid (index_pk n l W.drew.heap.size (.slice pg n cg) wr (fun p => decide (p.num = top)) 54 #[.pointer (some ⟨x1.heap.size, 0, none⟩)] eg (fun W2 r hb2 => by
              have h1 := htc.below hb2 htc.lt
              exact take1_fn x1.heap.size top r W2 h1.lt (h1.cell rfl)) Hn.out (own_below HB4.out.1 hbw) (by omega))
            have HBW := Lib.hid hbw
            clear hbw htc htop eg t0 tf
            go_wp2_with fail
            refine HIX.out.mono ?_
            rintro e w2 ⟨k, rfl, hk, hb2⟩
            have HB2 := Lib.hid (HBW.out.trans (hb2.mono HBW.out.size))
            clear hb2 HIX
            have hfin : ∀ y, Below x1.heap.size x1 y → ∀ t is, tF (ackT s.L rs) (bestN 0 rs) now = (t, is) → TakeEnd B b v u s kind rs now w (.returned (.tuple #[.slice pg n cg, .int .u64 (t : Int), .bool is, .int .i64 0])) y := by
              intro y hy t is hti
              have hn : (ackT s.L rs).length = n := by rw [HLE.out]; exact Hn.out
              refine .inr (.inr ⟨HKD.out, HE0.out, pg, cg, v', ?_, ?_, ?_, ?_⟩)
              · rw [hti, hn]
              · rw [hn, HLE.out]
                exact own_base (own_below HB4.out.1 hy) HB.out.size
              · exact SpTo.then (SpTo.ahead (HB.out.drew) HB4.out.2.1) hy
              · rw [hn]; exact HB4.out.2.2
            have HFIN := Lib.hid hfin
            clear hfin
            rcases hk with ⟨rfl, hno⟩ | ⟨i, q, rfl, hq, hqt⟩
            · have HNO := Lib.hid hno
              clear hno
              go_wp2_with fail
              exact bodyPost_ret (v := .tuple #[.slice pg n cg, .int .u64 ((0 : Nat) : Int), .bool false, .int .i64 0]) (by simp [results, Try.results17, go_sem]) rfl (HFIN.out _ HB2.out 0 false (by rw [HLE.out, HTOP.out]; exact tF_none HNO.out))
            · obtain ⟨gp, cap1, hpe, -, hgp, d0, d1, d2, d3, d4⟩ := pk_cells (own_below HB4.out.1 HB2.out) i q hq
              injection hpe with hpe hpe2 hpe3
              have hqm : q.time ≤ 1099511627776 := HTM.out q (List.mem_of_getElem? hq)
              have hil : i < n := by rw [← Hn.out]; exact (List.getElem?_eq_some_iff.1 hq).1
              have HSi := fun w => Lib.hid (since_any q.time now w (by omega) HNOW.out)
              have HTF := Lib.hid (tF_at (now := now) HUP.out hq (by simpa using hqt))
              subst hpe
              clear hq hqt hpe2 hpe3 d0 d2 d3 d4 hqm
              go_wp2_with fail
              refine (HSi _).out.mono ?_
              rintro e w3 ⟨rfl, rfl⟩
              go_wp2_with fail
              exact bodyPost_ret (v := .tuple #[.slice (some ⟨gp, 0, none⟩) n cg, .int .u64 ((sinceF q.time now : Nat) : Int), .bool true, .int .i64 0]) (by simp [results, Try.results17, go_sem]) rfl (HFIN.out _ HB2.out _ true (by rw [HLE.out, HTOP.out]; exact HTF.out))
    · have HA := Lib.hid (acked_bad (cap := lc) hHD hRD (by omega) hsep hE)
      obtain ⟨E, hEe⟩ : ∃ E, ackE s.L rs = E := ⟨_, rfl⟩
      rw [hEe] at HA
      have HEE := Lib.hid hEe
      have HE0 := Lib.hid hE
      obtain ⟨N, hN⟩ : ∃ N, rs.length = N := ⟨_, rfl⟩
      rw [hN] at HA k7 hl hW ⊢
      have e1 : (E == 0) = false := by rw [beq_eq_false_iff_ne, ← hEe]; exact hE
      have e2 : (E != 0) = true := by rw [bne_iff_ne, ← hEe]; exact hE
      have HNN := Lib.hid hN
      have HS0 := Lib.hid (show W.drew.cell? ⟨H, 7, none⟩ = some (.slice lp N lc) from k7)
      clear h hBW hk hHW hr hoff hnow hHD hRD hsep hE hEe hN
      cases x
      all_goals
        go_enter Try.func17, Try.ntmps17
        go_wp2_with fail
        go_region_held (fun w' => w'.cell? ⟨H, 7, none⟩ = some (.slice lp N lc))
          (first | with_reducible assumption | exact HS0.out | exact HS1.out)
          (first | (go_at_call 52; refine HA.out.mono ?_; rintro e x1 ⟨rfl, b4⟩; have HS1 := Lib.hid ((b4.cell (p := ⟨H, 7, none⟩) hkl).trans HS0.out); have HB4 := Lib.hid b4; clear b4))
        clear HS1 HA
        go_wp2_with fail
        refine bodyPost_ret (v := .tuple #[.slice none 0 0, .int .u64 0, .bool false, .int .i64 E]) (by simp [results, Try.results17, go_sem]) rfl (.inr (.inl ⟨HKD.out, HE0.out, by rw [HEE.out], ?_⟩))
        exact HB.out.trans ((((Below.refl W.heap.size W).drew).trans HB4.out).mono (by rw [hH]; exact Nat.le_of_lt hkl))
  · have q2 : ((kind : Int) == 2) = false := by rw [beq_eq_false_iff_ne]; omega
    have q3 : ((kind : Int) == 3) = false := by rw [beq_eq_false_iff_ne]; omega
    have p2 : ((kind : Int) != 2) = true := by rw [bne_iff_ne]; omega
    have p3 : ((kind : Int) != 3) = true := by rw [bne_iff_ne]; omega
    have HKD := Lib.hid hkind
    clear h hBW hk hHW hr hoff hnow hkind
    go_enter Try.func17, Try.ntmps17
    go_wp2_with fail
    refine bodyPost_ret (v := .tuple #[.slice none 0 0, .int .u64 0, .bool false, .int .i64 1]) (by simp [results, Try.results17, go_sem]) rfl (.inl ⟨HKD.out, rfl, HB.out⟩)

end Go.Proofs.Ytmnmpmiocgfalaa
