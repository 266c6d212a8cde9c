/- space: the reference's Take. -/
import Derived.Test.YtmnmpmiocgfalaaVl
import Derived.Deep.CutBlock
import Derived.Deep.DeepCutAuto
namespace Go.Proofs.Ytmnmpmiocgfalaa
open Go.ChangeShapes Go.WideShapes Go.RowKit
set_option linter.unusedVariables false
set_option linter.unusedSimpArgs false

/-- The reference's Take's end. -/
def RTakeEnd (B b bl : Nat) (v u : Value) (s : Sp) (kind : Nat) (rs : List (Nat × Nat)) (now : Nat) (w : World) (e : Ending) (w' : World) : Prop :=
  (¬ (kind = 2 ∨ kind = 3) ∧ e = .returned (.tuple #[.slice none 0 0, .int .u64 0, .bool false, .int .i64 1]) ∧ Below w.heap.size w w') ∨
  ((kind = 2 ∨ kind = 3) ∧ ackE s.L rs ≠ 0 ∧ e = .returned (.tuple #[.slice none 0 0, .int .u64 0, .bool false, .int .i64 (ackE s.L rs)]) ∧ ∃ v', RsTo B b bl v u w s v' u w') ∨
  ((kind = 2 ∨ kind = 3) ∧ ackE s.L rs = 0 ∧ ∃ pg cg v', e = .returned (.tuple #[.slice pg (ackT s.L rs).length cg, .int .u64 ((tF (ackT s.L rs) (bestN 0 rs) now).1 : Int), .bool (tF (ackT s.L rs) (bestN 0 rs) now).2, .int .i64 0]) ∧
    w'.ownsRow w.heap.size 103 5 (.slice pg (ackT s.L rs).length cg) (ackT s.L rs).length (pks (ackT s.L rs)) ∧ RsTo B b bl v u w { s with L := ackS s.L rs } v' u w')

theorem ack_bad {S : Lg} {rs : List (Nat × Nat)} (h : ackE S rs ≠ 0) : ackS S rs = S := by
  have hb : rs.any formB = true ∨ rs.any (rangeB S.li S.ln) = true := by
    unfold ackE at h
    by_cases h1 : rs.any formB = true
    · exact .inl h1
    · rw [if_neg h1] at h
      by_cases h2 : rs.any (rangeB S.li S.ln) = true
      · exact .inr h2
      · rw [if_neg h2] at h
        exact absurd rfl h
  unfold ackS
  rw [if_pos hb]
/-- Which place the second loop has found. -/
def AtIs (l : List Pk) (top j : Nat) (k : Int) : Prop := (k = -1 ∧ (l.take j).any (fun p => decide (p.num = top)) = false) ∨ ∃ (i : Nat) (p : Pk), k = (i : Int) ∧ l[i]? = some p ∧ p.num = top
theorem AtIs.hit {l : List Pk} {top j : Nat} {p : Pk} (hp : l[j]? = some p) (h : p.num = top) : AtIs l top (j + 1) (j : Int) := .inr ⟨j, p, rfl, hp, h⟩
theorem AtIs.miss {l : List Pk} {top j : Nat} {k : Int} {p : Pk} (a : AtIs l top j k) (hp : l[j]? = some p) (h : p.num ≠ top) : AtIs l top (j + 1) k := by
  rcases a with ⟨h1, h2⟩ | h1
  · exact .inl ⟨h1, by rw [List.take_add_one, hp, List.any_append, h2]; simp [h]⟩
  · exact .inr h1

set_option maxRecDepth 100000 in
set_option maxHeartbeats 4000000 in
theorem rTake15 (B b bl : Nat) (v u : Value) (s : Sp) (w : World) (f : Frm) (now : Nat) (h : RsIs B b bl v u s w) (hR : ∀ y, Below B w y → RgAt y f.lp f.rs) (hl : f.rs.length ≤ 1000) (hoff : 0 < f.rs.length → ∀ a, f.lp = some a → a.block ≠ bl) (hnow : now < 2 ^ 64) :
    Calls Try.prog 28 #[.pointer (some ⟨b, 0, none⟩), frmV f, .int .u64 (now : Int)] w (RTakeEnd B b bl v u s f.kind f.rs now w) := by
  have hb := h.lt
  obtain ⟨kind, fa, fb, fcc, fin, data, more, lp, rs, lc⟩ := f
  unfold frmV
  simp only at hR hl hoff ⊢
  by_cases hk : ¬ (kind = 2 ∨ kind = 3)
  · have e2 : ((kind : Int) != 2) = true := by rw [bne_iff_ne]; omega
    have e3 : ((kind : Int) != 3) = true := by rw [bne_iff_ne]; omega
    have HK := Lib.hid hk
    clear hk h hR
    go_enter Try.func28, Try.ntmps28
    go_wp2_with fail
    exact bodyPost_ret (v := .tuple #[.slice none 0 0, .int .u64 0, .bool false, .int .i64 1]) (by simp [results, Try.results28, go_sem]) rfl (.inl ⟨HK.out, rfl, (Below.refl _ _).alloc (Nat.le_refl _) _⟩)
  have hk := Decidable.not_not.1 hk
  have HKK := Lib.hid hk
  obtain ⟨x2, e2⟩ : ∃ x, ((kind : Int) != 2) = x := ⟨_, rfl⟩
  have e3 : x2 = true → ((kind : Int) != 3) = false := by
    intro e
    rw [e, bne_iff_ne] at e2
    rw [bne_eq_false_iff_eq]
    omega
  obtain ⟨n, hn⟩ : ∃ n, rs.length = n := ⟨_, rfl⟩
  obtain ⟨W, hW⟩ : ∃ W, w.alloc (.cells #[.int .u64 (kind : Int), .int .u64 (fa : Int), .int .u64 (fb : Int), .int .u64 (fcc : Int), .bool fin, .string data, .string more, .slice lp rs.length lc] 43) = W := ⟨_, rfl⟩
  have hbW : Below w.heap.size w W := by rw [← hW]; exact (Below.refl _ _).alloc (Nat.le_refl _) _
  have hkW : blk W w.heap.size 43 [.int .u64 (kind : Int), .int .u64 (fa : Int), .int .u64 (fb : Int), .int .u64 (fcc : Int), .bool fin, .string data, .string more, .slice lp rs.length lc] := by rw [← hW]; exact blk.new w _ _
  have h1 := h.next hbW
  have c1 : W.cell? ⟨b, 1, none⟩ = some (.pointer (some ⟨bl, 0, none⟩)) := h1.at_.cell (k := 1) rfl
  have HAck := Lib.hid (rAcked_any B bl v s.L W.drew lp lc rs (h1.next (Below.refl _ _).drew).led h1.inv (hR _ ((hbW.trans ((Below.refl _ _).drew.mono hbW.size)).mono h.led.bw)) hl hoff)
  obtain ⟨E, hE⟩ : ∃ E, ackE s.L rs = E := ⟨_, rfl⟩
  rw [hn] at hW hkW
  rw [hn, hE] at HAck
  have k0 := hkW.cell (k := 0) rfl
  have k7 := hkW.cell (k := 7) rfl
  have hkl := hkW.lt
  have hb1l := h1.lt
  have HH := Lib.hid h
  have H1 := Lib.hid h1
  have HbW := Lib.hid hbW
  have HkW := Lib.hid hkW
  have hnb : ¬ (w.heap.size = bl ∨ v.ownBlock = some w.heap.size) := by
    rintro (e | e)
    · have := h.led.led.lt
      omega
    · exact own_ne h1.led.own hkW (by decide) e
  have HNB := Lib.hid hnb
  clear hnb
  have HN := Lib.hid hn
  have HE := Lib.hid hE
  have HR := Lib.hid hR
  have Hl := Lib.hid hl
  have Hnow := Lib.hid hnow
  have e3' : RowKit.Hid (x2 = true → ((kind : Int) != 3) = false) := Lib.hid e3
  clear h h1 hR hl hoff hnow hbW hkW hE hn hk e3
  rw [HN.out]
  cases x2
  all_goals
    try have e3 := e3'.out rfl
    clear e3'
    go_enter Try.func28, Try.ntmps28
    go_upto_region 3 with fail
    go_region_held3 (fun w' => w'.cell? ⟨b, 1, none⟩ = some (.pointer (some ⟨bl, 0, none⟩)) ∧ w'.cell? ⟨w.heap.size, 7, none⟩ = some (.slice lp n lc)) (first | exact ⟨c1, k7⟩ | exact HC2.out)
      (first | (go_at_call 66; refine HAck.out.mono ?_; rintro e w2 ⟨vg, rfl, v', ho, hcv, hdis⟩; (have HT := Lib.hid ((H1.out.next (Below.refl _ _).drew).came hcv (H1.out.inv.ack rs))); (have hk2 := (HkW.out.drew).only hcv.2.1 HNB.out); have HC2 := Lib.hid (And.intro (show w2.cell? ⟨b, 1, none⟩ = some (.pointer (some ⟨bl, 0, none⟩)) from HT.out.is.at_.cell (k := 1) rfl) (show w2.cell? ⟨w.heap.size, 7, none⟩ = some (.slice lp n lc) from hk2.cell (k := 7) rfl))))
    obtain ⟨pg, cg, hvg, -⟩ := own_shape ho
    subst hvg
    have HT2 := Lib.hid (RsTo.ahead (HbW.out.trans ((Below.refl _ _).drew.mono HbW.out.size)) HT.out)
    have HO := Lib.hid (own_base ho (show w.heap.size ≤ W.drew.heap.size from HbW.out.size))
    have HUP := Lib.hid (ackT_up H1.out.inv rs)
    have hsz2 : w.heap.size < w2.heap.size := Nat.lt_of_lt_of_le hkl HT.out.on.size
    obtain ⟨d1, d7⟩ := HC2.out
    have hTe : ∃ t, ackT s.L rs = t := ⟨_, rfl⟩
    obtain ⟨t, ht⟩ := hTe
    rw [ht] at HUP HO
    obtain ⟨m, hm⟩ : ∃ m, t.length = m := ⟨_, rfl⟩
    rw [hm] at HO
    rw [ht, hm]
    have HM := Lib.hid hm
    have Ht := Lib.hid ht
    clear ho hcv hdis HC2 c1 k0 k7 hW HAck hm ht
    by_cases h0 : E = 0
    · subst h0
      have HFIN : RowKit.Hid (∀ (a : Nat) (z : Bool), tF t (bestN 0 rs) now = (a, z) → RTakeEnd B b bl v u s kind rs now w (.returned (.tuple #[.slice pg m cg, .int .u64 (a : Int), .bool z, .int .i64 0])) w2) := Lib.hid (by
        intro a z e
        refine .inr (.inr ⟨HKK.out, HE.out, pg, cg, v', ?_, ?_, HT2.out⟩)
        · rw [Ht.out, HM.out, e]
        · rw [Ht.out, HM.out]
          exact HO.out)
      have HRg := Lib.hid (HR.out w2 (HT2.out.below HH.out))
      have Hn2 := Lib.hid (show n ≤ 1000 by rw [← HN.out]; exact Hl.out)
      go_wp2_with fail
      go_loopw [12, 13] (fun a i wr => ∃ j : Nat, j ≤ n ∧ i = .int .i64 j ∧ a = .int .u64 (bestN 0 (rs.take j) : Int) ∧ wr = w2) (fun _ i _ => n - (intOf i).toNat)
      case atStart => exact ⟨0, by omega, rfl, rfl, rfl⟩
      case round =>
        obtain ⟨j, hj, rfl, rfl, rfl⟩ := hrel
        by_cases hlt : j < n
        · have hjl : j < rs.length := by rw [HN.out]; exact hlt
          obtain ⟨r, hr⟩ : ∃ r, rs[j]? = some r := ⟨_, List.getElem?_eq_getElem hjl⟩
          obtain ⟨g, o, rfl, hg, hc⟩ := HRg.out (by omega)
          obtain ⟨y1, y2⟩ := hc j r hr
          have htk := bestN_take (bn := 0) hr
          obtain ⟨q, hq⟩ : ∃ q, bestN 0 (rs.take j) = q := ⟨_, rfl⟩
          rw [hq] at htk ⊢
          have Htk := Lib.hid htk
          have hn2 := Hn2.out
          obtain ⟨r1, r2⟩ := r
          simp only at y1 y2 Htk
          clear htk hc hr hq hjl HRg
          go_wp2_with fail
          all_goals
            go_roundw
            case rel => exact ⟨j + 1, by omega, by go_num, by rw [Htk.out]; congr 1; omega, by first | rfl | trivial⟩
            case measure => simp [intOf]; omega
        · obtain rfl : j = n := by omega
          rw [List.take_of_length_le (by rw [HN.out]; exact Nat.le_refl _)]
          obtain ⟨top, htop⟩ : ∃ x, bestN 0 rs = x := ⟨_, rfl⟩
          rw [htop] at HFIN ⊢
          have hm1 : m ≤ 1000 := by
            have := HM.out
            rw [← this, ← Ht.out]
            unfold ackT
            split
            · exact Nat.zero_le _
            · exact Nat.le_trans (List.length_filter_le _ _) HH.out.inv.len1
          clear htop HRg
          go_wp2_with fail
          go_loopw [14, 15] (fun a i wy => ∃ j : Nat, ∃ k : Int, j ≤ m ∧ i = .int .i64 j ∧ a = .int .i64 k ∧ AtIs t top j k ∧ wy = wr) (fun _ i _ => m - (intOf i).toNat)
          case atStart => exact ⟨0, -1, by omega, rfl, rfl, .inl ⟨rfl, rfl⟩, rfl⟩
          case round =>
            obtain ⟨j2, k, hj2, rfl, rfl, hat, rfl⟩ := hrel
            by_cases hlt2 : j2 < m
            · have hjl : j2 < t.length := by rw [HM.out]; exact hlt2
              obtain ⟨q, hq⟩ : ∃ q, t[j2]? = some q := ⟨_, List.getElem?_eq_getElem hjl⟩
              obtain ⟨g, cap1, hpe, -, hg, m0, m1, m2, m3, m4⟩ := rpk_cells HO.out j2 q hq
              injection hpe with hpe hpe2 hpe3
              subst hpe
              by_cases hnum : q.num = top
              · have heq : ((q.num : Int) == (top : Int)) = true := by rw [beq_iff_eq]; omega
                have HA := Lib.hid (AtIs.hit hq hnum)
                clear hat hq hnum hjl hpe2 hpe3 m1 m2 m3 m4
                go_wp2_with fail
                go_roundw
                case rel => exact ⟨j2 + 1, (j2 : Int), by omega, by go_num, rfl, HA.out, by first | rfl | trivial⟩
                case measure => simp [intOf]; omega
              · have heq : ((q.num : Int) == (top : Int)) = false := by rw [beq_eq_false_iff_ne]; omega
                have HA := Lib.hid (hat.miss hq hnum)
                clear hat hq hnum hjl hpe2 hpe3 m1 m2 m3 m4
                go_wp2_with fail
                go_roundw
                case rel => exact ⟨j2 + 1, k, by omega, by go_num, rfl, HA.out, by first | rfl | trivial⟩
                case measure => simp [intOf]; omega
            · obtain rfl : j2 = m := by omega
              rcases hat with ⟨rfl, hno⟩ | ⟨i, q, rfl, hq, hnum⟩
              · rw [List.take_of_length_le (by rw [HM.out]; exact Nat.le_refl _)] at hno
                have HNO := Lib.hid hno
                clear hno
                go_wp2_with fail
                exact bodyPost_ret (v := .tuple #[.slice pg j2 cg, .int .u64 ((0 : Nat) : Int), .bool false, .int .i64 0]) (by simp [results, Try.results28, go_sem]) rfl (HFIN.out 0 false (tF_none HNO.out))
              · obtain ⟨g, cap1, hpe, -, hg, m0, m1, m2, m3, m4⟩ := rpk_cells HO.out i q hq
                injection hpe with hpe hpe2 hpe3
                subst hpe
                have hil : i < j2 := by rw [← HM.out]; exact (List.getElem?_eq_some_iff.1 hq).1
                have hqt : q.time < 2 ^ 64 := by
                  have hmem := List.mem_of_getElem? hq
                  rw [← Ht.out] at hmem
                  unfold ackT at hmem
                  split at hmem
                  · cases hmem
                  · have := (HH.out.inv.le q (List.mem_filter.1 hmem).1).2.1
                    omega
                have HTF := Lib.hid (tF_at HUP.out hq hnum (now := now))
                have HAGO := fun w => Lib.hid (ago_any q.time now w hqt Hnow.out)
                have hi0 : decide ((i : Int) < 0) = false := by rw [decide_eq_false_iff_not]; omega
                clear hq hnum hpe2 hpe3 m0 m2 m3 m4 hqt
                go_wp2_with (go_at_call 64; refine (HAGO _).out.mono ?_; rintro e w' ⟨rfl, rfl⟩)
                exact bodyPost_ret (v := .tuple #[.slice (some ⟨g, 0, none⟩) j2 cg, .int .u64 ((sinceF q.time now : Nat) : Int), .bool true, .int .i64 0]) (by simp [results, Try.results28, go_sem]) rfl (HFIN.out _ true HTF.out)
    · have hne : (E == 0) = false := by rw [beq_eq_false_iff_ne]; exact h0
      have hne2 : (E != 0) = true := by rw [bne_iff_ne]; exact h0
      have H0 := Lib.hid h0
      clear h0
      go_wp2_with fail
      refine bodyPost_ret (v := .tuple #[.slice none 0 0, .int .u64 0, .bool false, .int .i64 E]) (by simp [results, Try.results28, go_sem]) rfl (.inr (.inl ⟨HKK.out, by rw [HE.out]; exact H0.out, by rw [HE.out], v', ?_⟩))
      have := HT2.out
      rw [ack_bad (by rw [HE.out]; exact H0.out)] at this
      exact this

end Go.Proofs.Ytmnmpmiocgfalaa
