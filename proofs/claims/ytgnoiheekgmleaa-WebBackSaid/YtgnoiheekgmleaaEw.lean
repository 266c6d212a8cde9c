/- web: the walk of WebBack (printed by tools/mkEw.py). -/
import Derived.Test.YtgnoiheekgmleaaEv
namespace Go.Proofs.Ytgnoiheekgmleaa
open Go.ChangeShapes Go.WideShapes Go.RowKit
set_option linter.unusedVariables false
set_option linter.unusedSimpArgs false

/-- Where the bytes are parted, as it comes in. -/
def CutsIn (w : World) (p : Option Addr) (c : List Nat) : Prop :=
  (0 < c.length → ∃ g o, p = some ⟨g, o, none⟩ ∧ g < w.heap.size ∧ ∀ (i : Nat) x, c[i]? = some x → w.cell? ⟨g, o + i, none⟩ = some (.int .u16 (x : Int))) ∧ (∀ x ∈ c, x < 65536) ∧ c.length ≤ maxLen
section
variable {H : Type} {enc : TypeId × Value → H} {w : World} {base : Nat} {spare : Nat → Bool} {held : Bool}
theorem nat_of_u16 {x : Int} (h : (Lit.int .u16 x).wf = true) : ∃ n : Nat, x = (n : Int) ∧ n < 65536 := by
  have := bounds_u16 h
  obtain ⟨n, rfl⟩ := Int.eq_ofNat_of_zero_le this.1
  exact ⟨n, rfl, by omega⟩
theorem cuts_view {a : Option Addr} {len cap : Nat} {fuel : Nat} {x : DataW H × List MemPlace} (h : DataW.trod enc Try.prog w base spare held fuel 51 [.slice a len cap] = some x) (hx : Reads Try.prog 51 x.1) :
    ∃ X : List Nat, X.length = len ∧ CutsIn w a X := by
  obtain ⟨hm, hv⟩ := rows_view2 (C := 1) Try.underlying51 (by kernel_rfl) (by omega) h hx
  rcases Nat.eq_zero_or_pos len with h0 | h0
  · subst h0
    exact ⟨[], rfl, fun h => by simp at h, fun f hf => (by cases hf), Nat.zero_le _⟩
  · obtain ⟨g, o, n, rfl, hg, hi⟩ := hv h0
    obtain ⟨X, hl, hp⟩ := list_of (α := Nat) (p := fun i m => w.cell? ⟨g, o + i, none⟩ = some (.int .u16 (m : Int)) ∧ m < 65536) (n := len) (by
      intro i hil
      obtain ⟨cs, y, h1, h2, h3, h4⟩ := hi i hil
      obtain ⟨n0, e0, _, f0⟩ := DataW.trod_int Try.underlying57 h3
      obtain ⟨k0, rfl, b0⟩ := nat_of_u16 f0
      subst e0
      have := h2 0 _ rfl
      rw [Nat.mul_one, Nat.add_zero] at this
      exact ⟨k0, this, b0⟩)
    refine ⟨X, hl, fun _ => ⟨g, o, rfl, hg, fun i m hm => (hp i m hm).1⟩, fun m hm => ?_, by rw [hl]; exact hm⟩
    obtain ⟨i, hi', rfl⟩ := List.getElem_of_mem hm
    exact (hp i _ (List.getElem?_eq_getElem hi')).2
end

set_option maxRecDepth 100000 in
set_option maxHeartbeats 8000000 in
theorem back_walk (HAW0 : ∀ w, Calls Try.prog 7 #[] w fun e w' => e = .returned (.bool true) ∧ Below w.heap.size w w') (a0 : Int) (m : MIn) (a2 : Option Addr) (cap2 : Nat) (X : List Nat) (ahead : Bool) (w : World) (w0 : (Lit.int .i64 a0).wf = true) (hm : MsgIn w m) (hX : CutsIn w a2 X) :
    Calls Try.prog 5 #[.int .i64 a0, m.v, .slice a2 X.length cap2, .bool ahead] w fun e w' => e = .returned (.bool true) ∧ Below w.heap.size w w' := by
  have HCu := Lib.hid hX
  obtain ⟨N, hN⟩ : ∃ N, X.length = N := ⟨_, rfl⟩
  have HN := Lib.hid hN
  rw [hN]
  clear hX hN
  have hb0 := bounds_i64 w0
  have HAW := Lib.hid HAW0
  have HNW := Lib.hid (fun w => NewWriter_any a0 (IntWalk.i64_in _ (by omega)) w)
  have HNR := Lib.hid (fun w => NewReader_any a0 (IntWalk.i64_in _ (by omega)) w)
  obtain ⟨p, cap, L, body⟩ := m
  obtain ⟨hIn1, hIn2, hIn3⟩ := hm
  simp only at hIn1 hIn2 hIn3
  have hg : Below w.heap.size w (w.alloc (.cells #[.slice p L.length cap, .string body] 31)) := (Below.refl _ _).alloc (Nat.le_refl _) _
  have HM := Lib.hid (And.intro (blk.new w 31 [.slice p L.length cap, .string body]) hg)
  have HIN := Lib.hid hIn1
  have HIN2 := Lib.hid (And.intro hIn2 hIn3)
  have hsz0 : ((MIn.mk p cap L body).v) = .agg #[.slice p L.length cap, .string body] := rfl
  rw [hsz0]
  clear hsz0 w0 hg hIn1 hIn2 hIn3 HAW0
  go_enter Try.func5, Try.ntmps5
  go_wp2_with fail
  refine (HAW.out _).mono ?_
  rintro e x0 ⟨rfl, b0⟩
  have M0 := Lib.hid (msg_keep HM.out b0)
  obtain ⟨gm, hgm⟩ : ∃ gm, w.heap.size = gm := ⟨_, rfl⟩
  have HGM := Lib.hid hgm
  have M1 : Hid (blk x0 gm 31 [.slice p L.length cap, .string body] ∧ Below w.heap.size w x0) := Lib.hid (by rw [← hgm]; exact M0.out)
  have c0 := M1.out.1.cell (k := 0) rfl
  have c1 := M1.out.1.cell (k := 1) rfl
  rw [hgm]
  clear b0 M0 HM HAW hgm
  have hlg := wlarge_any L p cap body x0 (HIN.out.below M1.out.2) HIN2.out.1 HIN2.out.2
  unfold WLEnd at hlg
  have HLG := Lib.hid hlg
  clear hlg
  go_wp2_with fail
  refine HLG.out.mono ?_
  rintro e x1 ⟨big, rfl, hsm, b1⟩
  have M2 := Lib.hid (msg_keep M1.out b1)
  have c0 := M2.out.1.cell (k := 0) rfl
  have c1 := M2.out.1.cell (k := 1) rfl
  clear b1 M1 HLG
  cases big
  case true =>
    go_wp2_with fail
    go_ret
    exact ⟨rfl, M2.out.2⟩
  case false =>
    have HSM := Lib.hid (hsm rfl)
    clear hsm
    have hlen : L.length ≤ 10000 := by have := HSM.out.1; omega
    have hbody : body.size ≤ 5000 := by have := HSM.out.2; omega
    by_cases k1 : 40 < N
    · have d1 : (40 : Int) < (N : Int) := by omega
      clear k1
      go_wp2_with fail
      go_ret
      exact ⟨rfl, M2.out.2⟩
    · have d1 : ¬ (40 : Int) < (N : Int) := by omega
      go_wp2_with fail
      refine (HNW.out _).mono ?_
      rintro e x2 ⟨bw, rfl, hbw, hk1, b2⟩
      have W2 := Lib.hid (tab_new (B := w.heap.size) hk1)
      have M3 := Lib.hid (msg_keep M2.out b2)
      have lw := hk1.lt
      have s1 := M2.out.2.size
      have lgm := M2.out.1.lt
      clear hk1 b2 M2
      go_wp2_with fail
      refine (HNR.out _).mono ?_
      rintro e x3 ⟨br, rfl, hbr, hk2, b3⟩
      have s2 := M3.out.2.size
      have T3 : Hid (TW w x3 bw br (.slice none 0 0) (.slice none 0 0) ⟨[], mostF a0, 0⟩ ⟨[], mostF a0, 0⟩) := Lib.hid ⟨W2.out.below b3, tab_new hk2, by omega, by omega, by omega, fun k hk => by simp [Value.ownBlock] at hk, M3.out.2.trans (b3.mono M3.out.2.size)⟩
      have M4 := Lib.hid (msg_keep M3.out b3).1
      clear hk2 b3 M3 W2
      have c0 := M4.out.cell (k := 0) rfl
      have c1 := M4.out.cell (k := 1) rfl
      have hbw2 := T3.out.2.2.2.1
      have hwr := wWrite_any w.heap.size bw (.slice none 0 0) ⟨[], mostF a0, 0⟩ L p cap body x3 T3.out.1 ⟨mostF_le a0, Nat.zero_le _, Nat.le_refl _⟩ T3.out.2.2.2.2.2.2.size hbw2 (HIN.out.below T3.out.2.2.2.2.2.2).1 hlen (fun hl g o e => by
        have hg := HIN.out.2.2.2 g o hl e
        exact ⟨Nat.lt_of_lt_of_le hg T3.out.2.2.2.2.2.2.size, by omega, by simp [Value.ownBlock]⟩) hbody
      have hwe : (webF ⟨[], mostF a0, 0⟩ L (byt body)).2.2.2 = 0 ∨ (webF ⟨[], mostF a0, 0⟩ L (byt body)).2.2.2 = 4 ∨ (webF ⟨[], mostF a0, 0⟩ L (byt body)).2.2.2 = 2 := by
        have := writeF_err ⟨[], mostF a0, 0⟩ L
        unfold webF
        split
        · exact this
        · exact .inl rfl
      by_cases he : (webF ⟨[], mostF a0, 0⟩ L (byt body)).2.2.2 = 0
      case neg =>
        rcases hW : webF ⟨[], mostF a0, 0⟩ L (byt body) with ⟨S1, told, bts, E⟩
        rw [hW] at hwr hwe he
        simp only at hwr hwe he
        have hemp : told = ⟨#[]⟩ ∧ bts = [] := by
          unfold webF at hW
          split at hW
          · injection hW with _ hW
            injection hW with q1 hW
            injection hW with q2 _
            exact ⟨q1.symm, q2.symm⟩
          · injection hW with _ hW
            injection hW with _ hW
            injection hW with _ hW
            exact absurd hW.symm he
        clear hW
        obtain ⟨rfl, rfl⟩ := hemp
        rw [txt_nil] at hwr
        have HW := Lib.hid hwr
        clear hwr
        have d5 : (E == 0) = false := by rw [beq_eq_false_iff_ne]; exact he
        clear hwe he
        go_wp2_with fail
        refine HW.out.mono ?_
        rintro e x4 ⟨rfl, hto⟩
        obtain ⟨vw, hT4, _⟩ := T3.out.write hto
        have T4 := Lib.hid hT4
        clear hto hT4 HW
        go_wp2_with fail
        go_ret
        exact ⟨rfl, T4.out.2.2.2.2.2.2⟩
      case pos =>
        obtain ⟨S1, told, sec, hW, hok1, htl, hrd, hrw, hss, hts, hl100⟩ := web_facts (mostF_le a0) he ⟨HSM.out.1, by have := HSM.out.2; omega⟩
        rw [hW] at hwr
        simp only at hwr
        have hpl := pieces_le (byt body).length (byt body)
        rw [byt_length] at hpl
        have hfh := frameB_le 1 (byt sec)
        rw [byt_length] at hfh
        have hwhole := F0_whole (byt sec) (byt body) (by rw [byt_length]; omega)
        obtain ⟨sl, hsl⟩ : ∃ sl, frameB 1 (byt sec) ++ piecesF (byt body).length (byt body) = sl := ⟨_, rfl⟩
        have hZ0 : sl.length ≤ 90000 := by rw [← hsl, List.length_append, byt_length]; omega
        rw [hsl] at hwr hwhole
        obtain ⟨s, hs⟩ : ∃ s, txt sl = s := ⟨_, rfl⟩
        have hsb : byt s = sl := by rw [← hs, byt_txt]
        obtain ⟨Z, hZ⟩ : ∃ Z, sl.length = Z := ⟨_, rfl⟩
        have hsz : s.size = Z := by rw [← hs, txt_size, hZ]
        rw [hs] at hwr
        rw [hZ] at hZ0
        have HW := Lib.hid hwr
        have HWh := Lib.hid hwhole
        have HSb := Lib.hid (And.intro hsb hZ)
        have HTL := Lib.hid htl
        have HRD := Lib.hid hrd
        have HRW := Lib.hid hrw
        have HOK1 := Lib.hid hok1
        clear hwr hwhole hsb hZ htl hrd hrw hok1 hpl hfh hsl hs hW he hwe
        go_wp2_with fail
        refine HW.out.mono ?_
        rintro e x4 ⟨rfl, hto⟩
        obtain ⟨vw, hT4, hk4⟩ := T3.out.write hto
        have T4 := Lib.hid hT4
        have M5 := Lib.hid (hk4 _ _ _ M4.out (by omega) (by simp [Value.ownBlock])).1
        clear hto hT4 hk4 HW M4 c0 c1 T3
        cases ahead
        case false =>
          obtain ⟨vr, hvr⟩ : ∃ vr : Value, vr = .slice none 0 0 := ⟨_, rfl⟩
          have T6 : Hid (TW w x4 bw br vw vr S1 ⟨[], mostF a0, 0⟩) := Lib.hid (by rw [hvr]; exact T4.out)
          have M7 := M5
          have HVR := Lib.hid hvr
          clear hvr T4 M5
          go_wp2_with fail
          refine (New_any br w.heap.size _ T6.out.2.2.2.2.2.2.size).mono ?_
          rintro e x8 ⟨rfl, hib, b8⟩
          have l1 := M7.out.lt
          have l2 := T6.out.2.1.1.lt
          have l3 := T6.out.2.2.2.2.2.2.size
          obtain ⟨b, hb⟩ : ∃ b, x4.heap.size = b := ⟨_, rfl⟩
          have lbr : w.heap.size ≤ br := T6.out.2.2.2.2.1
          have V0 : Hid (WbS w x8 gm b br vr ⟨[], mostF a0, 0⟩ p cap L body emptyIB false) := Lib.hid ⟨M7.out.below b8 M7.out.lt, ⟨_, _, by rw [← hb]; exact hib⟩, T6.out.2.1.below b8, ⟨by omega, by omega, by omega⟩, T6.out.2.2.2.2.2.2.trans (b8.mono T6.out.2.2.2.2.2.2.size)⟩
          rw [hb]
          clear hib b8 T6 M7 hb l1 l2 l3
          go_wp2_with fail
          go_loopg [15, 16, 17, 61] N (fun gk fv _ _ iv wr => ∃ (j from_ : Nat), j + gk = N ∧ iv = .int .i64 j ∧ fv = .int .i64 from_ ∧ from_ ≤ Z ∧ WbS w wr gm b br vr ⟨[], mostF a0, 0⟩ p cap L body (F0 (sl.take from_)).1 false)
          case atStart => exact ⟨0, 0, by omega, rfl, rfl, by omega, by rw [List.take_zero]; exact V0.out⟩
          case round =>
            obtain ⟨j, from_, hj, rfl, rfl, hfz, hV⟩ := hrel
            have hsplit : sl.take from_ ++ sl.drop from_ = sl := List.take_append_drop _ _
            by_cases hlt : j < N
            · have hjl : j < X.length := by rw [HN.out]; exact hlt
              obtain ⟨c, hc⟩ : ∃ c, X[j]? = some c := ⟨_, List.getElem?_eq_getElem hjl⟩
              have hc16 := HCu.out.2.1 c (List.mem_of_getElem? hc)
              obtain ⟨gc, oc, rfl, hgc, hcc⟩ := HCu.out.1 (by omega)
              have kc := (hV.bel.cell (p := ⟨gc, oc + j, none⟩) hgc).trans (hcc j c hc)
              obtain ⟨D, q, r, to_, hft, htz, v0, v1, v2, v3, v4, v3b, v4b, hD0, hD1, hr1, hq1⟩ := back_numbers hc16 hfz hZ0
              have v5 : ¬ (D : Int) = 0 := by omega
              have v6 : ((D : Int) == 0) = false := by rw [beq_eq_false_iff_ne]; omega
              obtain ⟨P, hP⟩ : ∃ P, s.extract from_ to_ = P := ⟨_, rfl⟩
              have hst := back_step HSb.out.1 HSb.out.2 HWh.out hft htz hZ0 hbody
              obtain ⟨J, hJ⟩ : ∃ J, (F0 (sl.take from_)).1 = J := ⟨_, rfl⟩
              obtain ⟨J1, hJ1⟩ : ∃ J, (F0 (sl.take to_)).1 = J := ⟨_, rfl⟩
              rw [hP, hJ, hJ1] at hst
              rw [hJ] at hV
              obtain ⟨hap, hcm, hbl, hB1s, hB1e⟩ := hst
              have hadd := fun y (h : WbS w y gm b br vr ⟨[], mostF a0, 0⟩ p cap L body J false) => h.add P false hap hcm
              have hbod := fun y (h : WbS w y gm b br vr ⟨[], mostF a0, 0⟩ p cap L body J1 false) => h.bod hbl
              obtain ⟨B1, hB1⟩ : ∃ B, txt J1.body = B := ⟨_, rfl⟩
              rw [hB1] at hbod hB1s hB1e
              have hB1i : ¬ (body.size : Int) < (B1.size : Int) := by clear hadd hbod; omega
              have hB1j : decide ((body.size : Int) < (B1.size : Int)) = false := by rw [decide_eq_false_iff_not]; exact hB1i
              have hB1k : decide (body.size < B1.size) = false := by rw [decide_eq_false_iff_not]; clear hadd hbod; omega
              have HADD := Lib.hid hadd
              have HBOD := Lib.hid hbod
              have HJ1 := Lib.hid hJ1
              have HV := Lib.hid hV
              have HV1 := Lib.hid (hV.next ((Below.refl _ _).drew))
              clear hc hcc hgc hap hcm hV hbl hadd hbod hJ hJ1 hB1 hsplit hjl
              go_wp2_with fail
              refine wp_region_held_drew (S := (fun w' => w'.cell? ⟨gm, 1, none⟩ = some (.string body))) (by as_aux_lemma => kernel_rfl) (HV1.out.cell) (fun hHeld => ?_)
              refine wpAnyH_takeD (i := 0) (v := ?_) (some 77) rfl rfl (by as_aux_lemma => kernel_rfl) (by as_aux_lemma => kernel_rfl) (by as_aux_lemma => kernel_rfl) (fun _ _ _ h => h) (Or.inl ⟨by as_aux_lemma => kernel_rfl, ?_⟩) (by assumption) ?_
              rotate_left
              · (intro w hSw; (try dsimp only at hSw); go_simp); all_goals with_reducible rfl
              try simp only [Act.put, List.setIfInBounds_toArray, List.set_cons_zero, List.set_cons_succ]
              refine wpAnyH_takeD (i := 1) (v := ?_) (some 78) rfl rfl (by as_aux_lemma => kernel_rfl) (by as_aux_lemma => kernel_rfl) (by as_aux_lemma => kernel_rfl) (fun _ _ _ h => h) (Or.inl ⟨by as_aux_lemma => kernel_rfl, ?_⟩) (by assumption) ?_
              rotate_left
              · (intro w hSw; (try dsimp only at hSw); go_simp); all_goals with_reducible rfl
              try simp only [Act.put, List.setIfInBounds_toArray, List.set_cons_zero, List.set_cons_succ]
              refine wpAnyH_takeD (i := 2) (v := ?_) (some 79) rfl rfl (by as_aux_lemma => kernel_rfl) (by as_aux_lemma => kernel_rfl) (by as_aux_lemma => kernel_rfl) (fun _ _ _ h => h) (Or.inl ⟨by as_aux_lemma => kernel_rfl, ?_⟩) (by assumption) ?_
              rotate_left
              · (intro w hSw; (try dsimp only at hSw); go_simp); all_goals with_reducible rfl
              try simp only [Act.put, List.setIfInBounds_toArray, List.set_cons_zero, List.set_cons_succ]
              refine wpAnyH_takeD (i := 3) (v := ?_) (some 80) rfl rfl (by as_aux_lemma => kernel_rfl) (by as_aux_lemma => kernel_rfl) (by as_aux_lemma => kernel_rfl) (fun _ _ _ h => h) (Or.inl ⟨by as_aux_lemma => kernel_rfl, ?_⟩) (by assumption) ?_
              rotate_left
              · (intro w hSw; (try dsimp only at hSw); go_simp); all_goals with_reducible rfl
              try simp only [Act.put, List.setIfInBounds_toArray, List.set_cons_zero, List.set_cons_succ]
              refine wpAnyH_takeD (i := 4) (v := ?_) (some 81) rfl rfl (by as_aux_lemma => kernel_rfl) (by as_aux_lemma => kernel_rfl) (by as_aux_lemma => kernel_rfl) (fun _ _ _ h => h) (Or.inl ⟨by as_aux_lemma => kernel_rfl, ?_⟩) (by assumption) ?_
              rotate_left
              · (intro w hSw; (try dsimp only at hSw); go_simp); all_goals with_reducible rfl
              try simp only [Act.put, List.setIfInBounds_toArray, List.set_cons_zero, List.set_cons_succ]
              refine wpAnyH_ready (rs := [5]) (by as_aux_lemma => kernel_rfl) (by simp) ?_
              refine AllReadyH.cons rfl (fun K hK => ?_) AllReadyH.nil
              go_simp
              go_wp2_with (go_at_call 21; refine (HADD.out _ HV1.out).mono ?_; rintro e y1 ⟨rfl, s1⟩)
              refine hK.out _ _ (s1.cell) (fun hHeld => ?_)
              clear hK K
              refine wpAnyH_takeD (i := 6) (v := ?_) (some 83) rfl rfl (by as_aux_lemma => kernel_rfl) (by as_aux_lemma => kernel_rfl) (by as_aux_lemma => kernel_rfl) (fun _ _ _ h => h) (Or.inl ⟨by as_aux_lemma => kernel_rfl, ?_⟩) (by assumption) ?_
              rotate_left
              · (intro w hSw; (try dsimp only at hSw); go_simp); all_goals with_reducible rfl
              try simp only [Act.put, List.setIfInBounds_toArray, List.set_cons_zero, List.set_cons_succ]
              refine wpAnyH_takeD (i := 7) (v := ?_) (some 84) rfl rfl (by as_aux_lemma => kernel_rfl) (by as_aux_lemma => kernel_rfl) (by as_aux_lemma => kernel_rfl) (fun _ _ _ h => h) (Or.inl ⟨by as_aux_lemma => kernel_rfl, ?_⟩) (by assumption) ?_
              rotate_left
              · (intro w hSw; (try dsimp only at hSw); go_simp); all_goals with_reducible rfl
              try simp only [Act.put, List.setIfInBounds_toArray, List.set_cons_zero, List.set_cons_succ]
              refine wpAnyH_takeD (i := 8) (v := ?_) (some 85) rfl rfl (by as_aux_lemma => kernel_rfl) (by as_aux_lemma => kernel_rfl) (by as_aux_lemma => kernel_rfl) (fun _ _ _ h => h) (Or.inl ⟨by as_aux_lemma => kernel_rfl, ?_⟩) (by assumption) ?_
              rotate_left
              · (intro w hSw; (try dsimp only at hSw); go_simp); all_goals with_reducible rfl
              try simp only [Act.put, List.setIfInBounds_toArray, List.set_cons_zero, List.set_cons_succ]
              refine wpAnyH_ready (rs := [9]) (by as_aux_lemma => kernel_rfl) (by simp) ?_
              refine AllReadyH.cons rfl (fun K hK => ?_) AllReadyH.nil
              go_simp
              go_wp2_with (go_at_call 22; refine s1.done.mono ?_; rintro e y2 ⟨rfl, s2⟩)
              refine hK.out _ _ (s2.cell) (fun hHeld => ?_)
              clear hK K
              refine wpAnyH_takeD (i := 10) (v := ?_) (some 87) rfl rfl (by as_aux_lemma => kernel_rfl) (by as_aux_lemma => kernel_rfl) (by as_aux_lemma => kernel_rfl) (fun _ _ _ h => h) (Or.inl ⟨by as_aux_lemma => kernel_rfl, ?_⟩) (by assumption) ?_
              rotate_left
              · (intro w hSw; (try dsimp only at hSw); go_simp); all_goals with_reducible rfl
              try simp only [Act.put, List.setIfInBounds_toArray, List.set_cons_zero, List.set_cons_succ]
              refine wpAnyH_takeD (i := 11) (v := ?_) (some 88) rfl rfl (by as_aux_lemma => kernel_rfl) (by as_aux_lemma => kernel_rfl) (by as_aux_lemma => kernel_rfl) (fun _ _ _ h => h) (Or.inl ⟨by as_aux_lemma => kernel_rfl, ?_⟩) (by assumption) ?_
              rotate_left
              · (intro w hSw; (try dsimp only at hSw); go_simp); all_goals with_reducible rfl
              try simp only [Act.put, List.setIfInBounds_toArray, List.set_cons_zero, List.set_cons_succ]
              refine wpAnyH_takeD (i := 12) (v := ?_) (some 89) rfl rfl (by as_aux_lemma => kernel_rfl) (by as_aux_lemma => kernel_rfl) (by as_aux_lemma => kernel_rfl) (fun _ _ _ h => h) (Or.inl ⟨by as_aux_lemma => kernel_rfl, ?_⟩) (by assumption) ?_
              rotate_left
              · (intro w hSw; (try dsimp only at hSw); go_simp); all_goals with_reducible rfl
              try simp only [Act.put, List.setIfInBounds_toArray, List.set_cons_zero, List.set_cons_succ]
              refine wpAnyH_takeD (i := 15) (v := ?_) (some 92) rfl rfl (by as_aux_lemma => kernel_rfl) (by as_aux_lemma => kernel_rfl) (by as_aux_lemma => kernel_rfl) (fun _ _ _ h => h) (Or.inl ⟨by as_aux_lemma => kernel_rfl, ?_⟩) (by assumption) ?_
              rotate_left
              · (intro w hSw; (try dsimp only at hSw); go_simp); all_goals with_reducible rfl
              try simp only [Act.put, List.setIfInBounds_toArray, List.set_cons_zero, List.set_cons_succ]
              refine wpAnyH_takeD (i := 16) (v := ?_) (some 93) rfl rfl (by as_aux_lemma => kernel_rfl) (by as_aux_lemma => kernel_rfl) (by as_aux_lemma => kernel_rfl) (fun _ _ _ h => h) (Or.inl ⟨by as_aux_lemma => kernel_rfl, ?_⟩) (by assumption) ?_
              rotate_left
              · (intro w hSw; (try dsimp only at hSw); go_simp); all_goals with_reducible rfl
              try simp only [Act.put, List.setIfInBounds_toArray, List.set_cons_zero, List.set_cons_succ]
              refine wpAnyH_takeD (i := 17) (v := ?_) (some 94) rfl rfl (by as_aux_lemma => kernel_rfl) (by as_aux_lemma => kernel_rfl) (by as_aux_lemma => kernel_rfl) (fun _ _ _ h => h) (Or.inl ⟨by as_aux_lemma => kernel_rfl, ?_⟩) (by assumption) ?_
              rotate_left
              · (intro w hSw; (try dsimp only at hSw); go_simp); all_goals with_reducible rfl
              try simp only [Act.put, List.setIfInBounds_toArray, List.set_cons_zero, List.set_cons_succ]
              refine wpAnyH_ready (rs := [13]) (by as_aux_lemma => kernel_rfl) (by simp) ?_
              refine AllReadyH.cons rfl (fun K hK => ?_) AllReadyH.nil
              go_simp
              go_wp2_with (go_at_call 23; refine (HBOD.out _ s2).mono ?_; rintro e y3 ⟨rfl, s3⟩)
              refine hK.out _ _ (s3.cell) (fun hHeld => ?_)
              clear hK K
              refine wpAnyH_takeD (i := 14) (v := ?_) (some 91) rfl rfl (by as_aux_lemma => kernel_rfl) (by as_aux_lemma => kernel_rfl) (by as_aux_lemma => kernel_rfl) (fun _ _ _ h => h) (Or.inl ⟨by as_aux_lemma => kernel_rfl, ?_⟩) (by assumption) ?_
              rotate_left
              · (intro w hSw; (try dsimp only at hSw); go_simp); all_goals with_reducible rfl
              try simp only [Act.put, List.setIfInBounds_toArray, List.set_cons_zero, List.set_cons_succ]
              refine wpAnyH_takeD (i := 18) (v := ?_) (some 95) rfl rfl (by as_aux_lemma => kernel_rfl) (by as_aux_lemma => kernel_rfl) (by as_aux_lemma => kernel_rfl) (fun _ _ _ h => h) (Or.inl ⟨by as_aux_lemma => kernel_rfl, ?_⟩) (by assumption) ?_
              rotate_left
              · (intro w hSw; (try dsimp only at hSw); go_simp); all_goals with_reducible rfl
              try simp only [Act.put, List.setIfInBounds_toArray, List.set_cons_zero, List.set_cons_succ]
              refine wpAnyH_takeD (i := 19) (v := ?_) (some 96) rfl rfl (by as_aux_lemma => kernel_rfl) (by as_aux_lemma => kernel_rfl) (by as_aux_lemma => kernel_rfl) (fun _ _ _ h => h) (Or.inl ⟨by as_aux_lemma => kernel_rfl, ?_⟩) (by assumption) ?_
              rotate_left
              · (intro w hSw; (try dsimp only at hSw); go_simp); all_goals with_reducible rfl
              try simp only [Act.put, List.setIfInBounds_toArray, List.set_cons_zero, List.set_cons_succ]
              refine wpAnyH_takeD (i := 20) (v := ?_) (some 97) rfl rfl (by as_aux_lemma => kernel_rfl) (by as_aux_lemma => kernel_rfl) (by as_aux_lemma => kernel_rfl) (fun _ _ _ h => h) (Or.inl ⟨by as_aux_lemma => kernel_rfl, ?_⟩) (by assumption) ?_
              rotate_left
              · (intro w hSw; (try dsimp only at hSw); go_simp); all_goals with_reducible rfl
              try simp only [Act.put, List.setIfInBounds_toArray, List.set_cons_zero, List.set_cons_succ]
              refine wpAnyH_takeD (i := 21) (v := ?_) (some 98) rfl rfl (by as_aux_lemma => kernel_rfl) (by as_aux_lemma => kernel_rfl) (by as_aux_lemma => kernel_rfl) (fun _ _ _ h => h) (Or.inl ⟨by as_aux_lemma => kernel_rfl, ?_⟩) (by assumption) ?_
              rotate_left
              · (intro w hSw; (try dsimp only at hSw); go_simp); all_goals with_reducible rfl
              try simp only [Act.put, List.setIfInBounds_toArray, List.set_cons_zero, List.set_cons_succ]
              refine wpAnyH_takeD (i := 22) (v := ?_) (some 99) rfl rfl (by as_aux_lemma => kernel_rfl) (by as_aux_lemma => kernel_rfl) (by as_aux_lemma => kernel_rfl) (fun _ _ _ h => h) (Or.inl ⟨by as_aux_lemma => kernel_rfl, ?_⟩) (by assumption) ?_
              rotate_left
              · (intro w hSw; (try dsimp only at hSw); go_simp); all_goals with_reducible rfl
              try simp only [Act.put, List.setIfInBounds_toArray, List.set_cons_zero, List.set_cons_succ]
              refine wpAnyH_takeD (i := 23) (v := ?_) (some 100) rfl rfl (by as_aux_lemma => kernel_rfl) (by as_aux_lemma => kernel_rfl) (by as_aux_lemma => kernel_rfl) (fun _ _ _ h => h) (Or.inl ⟨by as_aux_lemma => kernel_rfl, ?_⟩) (by assumption) ?_
              rotate_left
              · (intro w hSw; (try dsimp only at hSw); go_simp); all_goals with_reducible rfl
              try simp only [Act.put, List.setIfInBounds_toArray, List.set_cons_zero, List.set_cons_succ]
              refine wpAnyH_takeD (i := 27) (v := ?_) (some 104) rfl rfl (by as_aux_lemma => kernel_rfl) (by as_aux_lemma => kernel_rfl) (by as_aux_lemma => kernel_rfl) (fun _ _ _ h => h) (Or.inl ⟨by as_aux_lemma => kernel_rfl, ?_⟩) (by assumption) ?_
              rotate_left
              · (intro w hSw; (try dsimp only at hSw); go_simp); all_goals with_reducible rfl
              try simp only [Act.put, List.setIfInBounds_toArray, List.set_cons_zero, List.set_cons_succ]
              refine wpAnyH_ready (rs := [24]) (by as_aux_lemma => kernel_rfl) (by simp) ?_
              refine AllReadyH.cons rfl (fun K hK => ?_) AllReadyH.nil
              go_simp
              go_wp2_with (go_at_call 23; refine (HBOD.out _ s3).mono ?_; rintro e y4 ⟨rfl, s4⟩)
              refine hK.out _ _ (s4.cell) (fun hHeld => ?_)
              clear hK K
              refine wpAnyH_takeD (i := 25) (v := ?_) (some 102) rfl rfl (by as_aux_lemma => kernel_rfl) (by as_aux_lemma => kernel_rfl) (by as_aux_lemma => kernel_rfl) (fun _ _ _ h => h) (Or.inl ⟨by as_aux_lemma => kernel_rfl, ?_⟩) (by assumption) ?_
              rotate_left
              · (intro w hSw; (try dsimp only at hSw); go_simp); all_goals with_reducible rfl
              try simp only [Act.put, List.setIfInBounds_toArray, List.set_cons_zero, List.set_cons_succ]
              refine wpAnyH_takeD (i := 26) (v := ?_) (some 103) rfl rfl (by as_aux_lemma => kernel_rfl) (by as_aux_lemma => kernel_rfl) (by as_aux_lemma => kernel_rfl) (fun _ _ _ h => h) (Or.inl ⟨by as_aux_lemma => kernel_rfl, ?_⟩) (by assumption) ?_
              rotate_left
              · (intro w hSw; (try dsimp only at hSw); go_simp); all_goals with_reducible rfl
              try simp only [Act.put, List.setIfInBounds_toArray, List.set_cons_zero, List.set_cons_succ]
              refine wpAnyH_ready (rs := [28]) (by as_aux_lemma => kernel_rfl) (by simp) ?_
              refine AllReadyH.cons rfl (fun K hK => ?_) AllReadyH.nil
              go_simp
              go_wp2_with (go_at_call 23; refine (HBOD.out _ s4).mono ?_; rintro e y5 ⟨rfl, s5⟩)
              refine hK.out _ _ (s5.cell) (fun hHeld => ?_)
              clear hK K
              refine wpAnyH_takeD (i := 29) (v := ?_) (some 106) rfl rfl (by as_aux_lemma => kernel_rfl) (by as_aux_lemma => kernel_rfl) (by as_aux_lemma => kernel_rfl) (fun _ _ _ h => h) (Or.inl ⟨by as_aux_lemma => kernel_rfl, ?_⟩) (by assumption) ?_
              rotate_left
              · (intro w hSw; (try dsimp only at hSw); go_simp); all_goals with_reducible rfl
              try simp only [Act.put, List.setIfInBounds_toArray, List.set_cons_zero, List.set_cons_succ]
              refine wpAnyH_takeD (i := 30) (v := ?_) (some 107) rfl rfl (by as_aux_lemma => kernel_rfl) (by as_aux_lemma => kernel_rfl) (by as_aux_lemma => kernel_rfl) (fun _ _ _ h => h) (Or.inl ⟨by as_aux_lemma => kernel_rfl, ?_⟩) (by assumption) ?_
              rotate_left
              · (intro w hSw; (try dsimp only at hSw); go_simp); all_goals with_reducible rfl
              try simp only [Act.put, List.setIfInBounds_toArray, List.set_cons_zero, List.set_cons_succ]
              refine wpAnyH_done (by as_aux_lemma => kernel_rfl) ?_ _
              have HS5 := Lib.hid s5
              clear s1 s2 s3 s4 s5
              go_wp2_with fail
              go_roundg (gk - 1)
              case measure => omega
              case rel => exact ⟨j + 1, to_, by omega, by go_num, rfl, htz, by rw [HJ1.out]; exact HS5.out⟩
            · have hjN : j = N := by omega
              subst hjN
              obtain ⟨P, hP⟩ : ∃ P, s.extract from_ Z = P := ⟨_, rfl⟩
              have hal := back_last HSb.out.1 HSb.out.2 HWh.out hfz hZ0 hbody
              rw [hP] at hal
              have hadd := hV.add P true hal.1 hal.2
              have HADD := Lib.hid hadd
              clear hadd hal hV hsplit
              go_wp2_with fail
              refine HADD.out.mono ?_
              rintro e z1 ⟨rfl, hz1⟩
              have V1 := Lib.hid hz1
              clear hz1 HADD
              obtain rfl := HVR.out
              obtain ⟨ad1, bf1, hI1⟩ := V1.out.ib
              have hfd := Fields_any w.heap.size (.slice none 0 0) ⟨[], mostF a0, 0⟩ hI1 rfl V1.out.r (by show (byt sec).length ≤ _; rw [byt_length]; omega) (Nat.zero_le _)
              rw [show txt (IB.sec ⟨[], byt sec, true, byt body⟩) = sec from txt_byt sec] at hfd
              rcases hR0 : readF [] sec with ⟨L0, E0⟩
              have hrw := HRW.out
              rw [show (⟨[], mostF a0, 0⟩ : Tbl).l = [] from rfl, hR0] at hfd
              rw [hR0] at hrw
              simp only at hrw
              have HFD := Lib.hid hfd
              clear hfd hI1 hR0
              rcases hrw with rfl | rfl
              all_goals
                go_wp2_with fail
                refine HFD.out.mono ?_
                rintro e z2 ⟨bz2, vz2, rfl, _⟩
                obtain ⟨pz, cz, rfl, _⟩ : ∃ pz cz, vz2 = .slice pz L0.length cz ∧ True := by rename_i ho; obtain ⟨p9, c9, h9, _⟩ := own_shape ho; exact ⟨p9, c9, h9, trivial⟩
                have V2 := Lib.hid (V1.out.next bz2)
                have htd := Told_any w.heap.size br (.slice none 0 0) ⟨[], mostF a0, 0⟩ told z2 V2.out.r ⟨mostF_le a0, Nat.zero_le _, Nat.le_refl _⟩ V2.out.bel.size lbr (by omega)
                rw [HTL.out] at htd
                have HTD := Lib.hid htd
                clear htd bz2 HFD V1
                go_wp2_with fail
                refine HTD.out.mono ?_
                rintro e z3 ⟨rfl, hto⟩
                obtain ⟨vr', hV3⟩ := V2.out.tell (by omega) lbr hto
                have V3 := Lib.hid hV3
                clear hto hV3 HTD V2
                obtain ⟨ad2, bf2, hI2⟩ := V3.out.ib
                have hfd := Fields_any w.heap.size vr' S1 hI2 rfl V3.out.r (by show (byt sec).length ≤ _; rw [byt_length]; omega) (by have := HOK1.out.2.1; have := HOK1.out.2.2; omega)
                rw [show txt (IB.sec ⟨[], byt sec, true, byt body⟩) = sec from txt_byt sec, HRD.out] at hfd
                have HFD2 := Lib.hid hfd
                have S11 : Hid (SkS w _ gm b br p cap L body sec) := Lib.hid ⟨V3.out.m, ⟨_, _, hI2⟩, ⟨V3.out.n.1, V3.out.n.2.1, hbody⟩, V3.out.bel⟩
                clear hfd hI2 V3
                go_wp2_with fail
                refine HFD2.out.mono ?_
                rintro e x11 ⟨b11, v20, rfl, ho⟩
                obtain ⟨pv, cv, rfl, _⟩ := own_shape ho
                have F12 := Lib.hid (OwnFl.fv ho)
                have S12 := Lib.hid (S11.out.next b11)
                clear b11 ho S11 HFD2
                have hFw : Hid (∀ y, Below w.heap.size w y → FV y p L) := Lib.hid (fun y hb => (HIN.out.below hb).1)
                have HO1 := Lib.hid (own_any L pv cv x11.drew (F12.out.below ((Below.refl _ _).drew)) hlen)
                go_wp2_with fail
                refine wp_region_held_drew (S := (fun w' => (w'.cell? ⟨gm, 0, none⟩ = some (.slice p L.length cap) ∧ w'.cell? ⟨gm, 1, none⟩ = some (.string body)) ∧ SkS w w' gm b br p cap L body sec)) (by as_aux_lemma => kernel_rfl) ((S12.out.next ((Below.refl _ _).drew)).cells) (fun hHeld => ?_)
                refine wpAnyH_takeD (i := 0) (v := ?_) (some 140) rfl rfl (by as_aux_lemma => kernel_rfl) (by as_aux_lemma => kernel_rfl) (by as_aux_lemma => kernel_rfl) (fun _ _ _ h => h) (Or.inl ⟨by as_aux_lemma => kernel_rfl, ?_⟩) (by assumption) ?_
                rotate_left
                · (intro w hSw; (try dsimp only at hSw); go_simp); all_goals with_reducible rfl
                try simp only [Act.put, List.setIfInBounds_toArray, List.set_cons_zero, List.set_cons_succ]
                refine wpAnyH_takeD (i := 1) (v := ?_) (some 141) rfl rfl (by as_aux_lemma => kernel_rfl) (by as_aux_lemma => kernel_rfl) (by as_aux_lemma => kernel_rfl) (fun _ _ _ h => h) (Or.inl ⟨by as_aux_lemma => kernel_rfl, ?_⟩) (by assumption) ?_
                rotate_left
                · (intro w hSw; (try dsimp only at hSw); go_simp); all_goals with_reducible rfl
                try simp only [Act.put, List.setIfInBounds_toArray, List.set_cons_zero, List.set_cons_succ]
                refine wpAnyH_takeD (i := 2) (v := ?_) (some 142) rfl rfl (by as_aux_lemma => kernel_rfl) (by as_aux_lemma => kernel_rfl) (by as_aux_lemma => kernel_rfl) (fun _ _ _ h => h) (Or.inl ⟨by as_aux_lemma => kernel_rfl, ?_⟩) (by assumption) ?_
                rotate_left
                · (intro w hSw; (try dsimp only at hSw); go_simp); all_goals with_reducible rfl
                try simp only [Act.put, List.setIfInBounds_toArray, List.set_cons_zero, List.set_cons_succ]
                refine wpAnyH_takeD (i := 3) (v := ?_) (some 143) rfl rfl (by as_aux_lemma => kernel_rfl) (by as_aux_lemma => kernel_rfl) (by as_aux_lemma => kernel_rfl) (fun _ _ _ h => h) (Or.inl ⟨by as_aux_lemma => kernel_rfl, ?_⟩) (by assumption) ?_
                rotate_left
                · (intro w hSw; (try dsimp only at hSw); go_simp); all_goals with_reducible rfl
                try simp only [Act.put, List.setIfInBounds_toArray, List.set_cons_zero, List.set_cons_succ]
                refine wpAnyH_takeD (i := 5) (v := ?_) (some 145) rfl rfl (by as_aux_lemma => kernel_rfl) (by as_aux_lemma => kernel_rfl) (by as_aux_lemma => kernel_rfl) (fun _ _ _ h => h) (Or.inl ⟨by as_aux_lemma => kernel_rfl, ?_⟩) (by assumption) ?_
                rotate_left
                · (intro w hSw; (try dsimp only at hSw); go_simp); all_goals with_reducible rfl
                try simp only [Act.put, List.setIfInBounds_toArray, List.set_cons_zero, List.set_cons_succ]
                refine wpAnyH_takeD (i := 6) (v := ?_) (some 146) rfl rfl (by as_aux_lemma => kernel_rfl) (by as_aux_lemma => kernel_rfl) (by as_aux_lemma => kernel_rfl) (fun _ _ _ h => h) (Or.inl ⟨by as_aux_lemma => kernel_rfl, ?_⟩) (by assumption) ?_
                rotate_left
                · (intro w hSw; (try dsimp only at hSw); go_simp); all_goals with_reducible rfl
                try simp only [Act.put, List.setIfInBounds_toArray, List.set_cons_zero, List.set_cons_succ]
                refine wpAnyH_ready (rs := [4]) (by as_aux_lemma => kernel_rfl) (by simp) ?_
                refine AllReadyH.cons rfl (fun K hK => ?_) AllReadyH.nil
                go_simp
                go_wp2_with (go_at_call 13; refine HO1.out.mono ?_; rintro e y3 ⟨v3, rfl, o3, b3⟩; obtain ⟨p3, c3, rfl, -⟩ := own_shape o3)
                refine hK.out _ _ ((hHeld.2.next b3).cells) (fun hHeld => ?_)
                clear hK K
                refine wpAnyH_ready (rs := [7]) (by as_aux_lemma => kernel_rfl) (by simp) ?_
                refine AllReadyH.cons rfl (fun K hK => ?_) AllReadyH.nil
                go_simp
                go_wp2_with (go_at_call 13; refine (own_any L p cap _ (hFw.out _ hHeld.2.bel) hlen).mono ?_; rintro e y4 ⟨v4, rfl, o4, b4⟩; obtain ⟨p4, c4, rfl, -⟩ := own_shape o4)
                refine hK.out _ _ ((hHeld.2.next b4).cells) (fun hHeld => ?_)
                clear hK K
                refine wpAnyH_ready (rs := [8]) (by as_aux_lemma => kernel_rfl) (by simp) ?_
                refine AllReadyH.cons rfl (fun K hK => ?_) AllReadyH.nil
                go_simp
                go_wp2_with (go_at_call 25; refine (Same_self L p3 p4 c3 c4 _ (o3.below b4).fv o4.fv hlen).mono ?_; rintro e y5 ⟨rfl, b5⟩)
                refine hK.out _ _ ((hHeld.2.next b5).cells) (fun hHeld => ?_)
                clear hK K
                refine wpAnyH_takeD (i := 9) (v := ?_) (some 149) rfl rfl (by as_aux_lemma => kernel_rfl) (by as_aux_lemma => kernel_rfl) (by as_aux_lemma => kernel_rfl) (fun _ _ _ h => h) (Or.inl ⟨by as_aux_lemma => kernel_rfl, ?_⟩) (by assumption) ?_
                rotate_left
                · (intro w hSw; (try dsimp only at hSw); go_simp); all_goals with_reducible rfl
                try simp only [Act.put, List.setIfInBounds_toArray, List.set_cons_zero, List.set_cons_succ]
                refine wpAnyH_takeD (i := 10) (v := ?_) (some 150) rfl rfl (by as_aux_lemma => kernel_rfl) (by as_aux_lemma => kernel_rfl) (by as_aux_lemma => kernel_rfl) (fun _ _ _ h => h) (Or.inl ⟨by as_aux_lemma => kernel_rfl, ?_⟩) (by assumption) ?_
                rotate_left
                · (intro w hSw; (try dsimp only at hSw); go_simp); all_goals with_reducible rfl
                try simp only [Act.put, List.setIfInBounds_toArray, List.set_cons_zero, List.set_cons_succ]
                refine wpAnyH_takeD (i := 11) (v := ?_) (some 151) rfl rfl (by as_aux_lemma => kernel_rfl) (by as_aux_lemma => kernel_rfl) (by as_aux_lemma => kernel_rfl) (fun _ _ _ h => h) (Or.inl ⟨by as_aux_lemma => kernel_rfl, ?_⟩) (by assumption) ?_
                rotate_left
                · (intro w hSw; (try dsimp only at hSw); go_simp); all_goals with_reducible rfl
                try simp only [Act.put, List.setIfInBounds_toArray, List.set_cons_zero, List.set_cons_succ]
                refine wpAnyH_takeD (i := 13) (v := ?_) (some 153) rfl rfl (by as_aux_lemma => kernel_rfl) (by as_aux_lemma => kernel_rfl) (by as_aux_lemma => kernel_rfl) (fun _ _ _ h => h) (Or.inl ⟨by as_aux_lemma => kernel_rfl, ?_⟩) (by assumption) ?_
                rotate_left
                · (intro w hSw; (try dsimp only at hSw); go_simp); all_goals with_reducible rfl
                try simp only [Act.put, List.setIfInBounds_toArray, List.set_cons_zero, List.set_cons_succ]
                refine wpAnyH_takeD (i := 14) (v := ?_) (some 154) rfl rfl (by as_aux_lemma => kernel_rfl) (by as_aux_lemma => kernel_rfl) (by as_aux_lemma => kernel_rfl) (fun _ _ _ h => h) (Or.inl ⟨by as_aux_lemma => kernel_rfl, ?_⟩) (by assumption) ?_
                rotate_left
                · (intro w hSw; (try dsimp only at hSw); go_simp); all_goals with_reducible rfl
                try simp only [Act.put, List.setIfInBounds_toArray, List.set_cons_zero, List.set_cons_succ]
                refine wpAnyH_ready (rs := [12]) (by as_aux_lemma => kernel_rfl) (by simp) ?_
                refine AllReadyH.cons rfl (fun K hK => ?_) AllReadyH.nil
                go_simp
                go_wp2_with (go_at_call 23; refine hHeld.2.bod.mono ?_; rintro e y6 ⟨rfl, s6⟩)
                refine hK.out _ _ (s6.cells) (fun hHeld => ?_)
                clear hK K
                refine wpAnyH_takeD (i := 15) (v := ?_) (some 155) rfl rfl (by as_aux_lemma => kernel_rfl) (by as_aux_lemma => kernel_rfl) (by as_aux_lemma => kernel_rfl) (fun _ _ _ h => h) (Or.inl ⟨by as_aux_lemma => kernel_rfl, ?_⟩) (by assumption) ?_
                rotate_left
                · (intro w hSw; (try dsimp only at hSw); go_simp); all_goals with_reducible rfl
                try simp only [Act.put, List.setIfInBounds_toArray, List.set_cons_zero, List.set_cons_succ]
                refine wpAnyH_takeD (i := 16) (v := ?_) (some 156) rfl rfl (by as_aux_lemma => kernel_rfl) (by as_aux_lemma => kernel_rfl) (by as_aux_lemma => kernel_rfl) (fun _ _ _ h => h) (Or.inl ⟨by as_aux_lemma => kernel_rfl, ?_⟩) (by assumption) ?_
                rotate_left
                · (intro w hSw; (try dsimp only at hSw); go_simp); all_goals with_reducible rfl
                try simp only [Act.put, List.setIfInBounds_toArray, List.set_cons_zero, List.set_cons_succ]
                refine wpAnyH_takeD (i := 17) (v := ?_) (some 157) rfl rfl (by as_aux_lemma => kernel_rfl) (by as_aux_lemma => kernel_rfl) (by as_aux_lemma => kernel_rfl) (fun _ _ _ h => h) (Or.inl ⟨by as_aux_lemma => kernel_rfl, ?_⟩) (by assumption) ?_
                rotate_left
                · (intro w hSw; (try dsimp only at hSw); go_simp); all_goals with_reducible rfl
                try simp only [Act.put, List.setIfInBounds_toArray, List.set_cons_zero, List.set_cons_succ]
                refine wpAnyH_takeD (i := 18) (v := ?_) (some 158) rfl rfl (by as_aux_lemma => kernel_rfl) (by as_aux_lemma => kernel_rfl) (by as_aux_lemma => kernel_rfl) (fun _ _ _ h => h) (Or.inl ⟨by as_aux_lemma => kernel_rfl, ?_⟩) (by assumption) ?_
                rotate_left
                · (intro w hSw; (try dsimp only at hSw); go_simp); all_goals with_reducible rfl
                try simp only [Act.put, List.setIfInBounds_toArray, List.set_cons_zero, List.set_cons_succ]
                refine wpAnyH_ready (rs := [19]) (by as_aux_lemma => kernel_rfl) (by simp) ?_
                refine AllReadyH.cons rfl (fun K hK => ?_) AllReadyH.nil
                go_simp
                go_wp2_with (go_at_call 22; refine hHeld.2.done.mono ?_; rintro e y7 ⟨rfl, s7⟩)
                refine hK.out _ _ (s7.cells) (fun hHeld => ?_)
                clear hK K
                refine wpAnyH_takeD (i := 20) (v := ?_) (some 160) rfl rfl (by as_aux_lemma => kernel_rfl) (by as_aux_lemma => kernel_rfl) (by as_aux_lemma => kernel_rfl) (fun _ _ _ h => h) (Or.inl ⟨by as_aux_lemma => kernel_rfl, ?_⟩) (by assumption) ?_
                rotate_left
                · (intro w hSw; (try dsimp only at hSw); go_simp); all_goals with_reducible rfl
                try simp only [Act.put, List.setIfInBounds_toArray, List.set_cons_zero, List.set_cons_succ]
                refine wpAnyH_takeD (i := 21) (v := ?_) (some 8) rfl rfl (by as_aux_lemma => kernel_rfl) (by as_aux_lemma => kernel_rfl) (by as_aux_lemma => kernel_rfl) (fun _ _ _ h => h) (Or.inl ⟨by as_aux_lemma => kernel_rfl, ?_⟩) (by assumption) ?_
                rotate_left
                · (intro w hSw; (try dsimp only at hSw); go_simp); all_goals with_reducible rfl
                try simp only [Act.put, List.setIfInBounds_toArray, List.set_cons_zero, List.set_cons_succ]
                refine wpAnyH_done (by as_aux_lemma => kernel_rfl) ?_ _
                go_wp2_with fail
                go_ret
                exact ⟨rfl, hHeld.2.bel⟩
        case true =>
          have htd := Told_any w.heap.size br (.slice none 0 0) ⟨[], mostF a0, 0⟩ told x4 T4.out.2.1 ⟨mostF_le a0, Nat.zero_le _, Nat.le_refl _⟩ T4.out.2.2.2.2.2.2.size T4.out.2.2.2.2.1 (by omega)
          rw [HTL.out] at htd
          have HTD := Lib.hid htd
          clear htd
          go_wp2_with fail
          refine HTD.out.mono ?_
          rintro e x6 ⟨rfl, hto⟩
          obtain ⟨vr, hT6, hk6⟩ := T4.out.tell hto
          have T6 := Lib.hid hT6
          have M7 := Lib.hid (hk6 _ _ _ M5.out (by omega) (by simp [Value.ownBlock])).1
          clear hto hT6 hk6 HTD M5 T4
          go_wp2_with fail
          refine (New_any br w.heap.size _ T6.out.2.2.2.2.2.2.size).mono ?_
          rintro e x8 ⟨rfl, hib, b8⟩
          have l1 := M7.out.lt
          have l2 := T6.out.2.1.1.lt
          have l3 := T6.out.2.2.2.2.2.2.size
          obtain ⟨b, hb⟩ : ∃ b, x6.heap.size = b := ⟨_, rfl⟩
          have lbr : w.heap.size ≤ br := T6.out.2.2.2.2.1
          have V0 : Hid (WbS w x8 gm b br vr S1 p cap L body emptyIB false) := Lib.hid ⟨M7.out.below b8 M7.out.lt, ⟨_, _, by rw [← hb]; exact hib⟩, T6.out.2.1.below b8, ⟨by omega, by omega, by omega⟩, T6.out.2.2.2.2.2.2.trans (b8.mono T6.out.2.2.2.2.2.2.size)⟩
          rw [hb]
          clear hib b8 T6 M7 hb l1 l2 l3
          go_wp2_with fail
          go_loopg [15, 16, 17, 61] N (fun gk fv _ _ iv wr => ∃ (j from_ : Nat), j + gk = N ∧ iv = .int .i64 j ∧ fv = .int .i64 from_ ∧ from_ ≤ Z ∧ WbS w wr gm b br vr S1 p cap L body (F0 (sl.take from_)).1 false)
          case atStart => exact ⟨0, 0, by omega, rfl, rfl, by omega, by rw [List.take_zero]; exact V0.out⟩
          case round =>
            obtain ⟨j, from_, hj, rfl, rfl, hfz, hV⟩ := hrel
            have hsplit : sl.take from_ ++ sl.drop from_ = sl := List.take_append_drop _ _
            by_cases hlt : j < N
            · have hjl : j < X.length := by rw [HN.out]; exact hlt
              obtain ⟨c, hc⟩ : ∃ c, X[j]? = some c := ⟨_, List.getElem?_eq_getElem hjl⟩
              have hc16 := HCu.out.2.1 c (List.mem_of_getElem? hc)
              obtain ⟨gc, oc, rfl, hgc, hcc⟩ := HCu.out.1 (by omega)
              have kc := (hV.bel.cell (p := ⟨gc, oc + j, none⟩) hgc).trans (hcc j c hc)
              obtain ⟨D, q, r, to_, hft, htz, v0, v1, v2, v3, v4, v3b, v4b, hD0, hD1, hr1, hq1⟩ := back_numbers hc16 hfz hZ0
              have v5 : ¬ (D : Int) = 0 := by omega
              have v6 : ((D : Int) == 0) = false := by rw [beq_eq_false_iff_ne]; omega
              obtain ⟨P, hP⟩ : ∃ P, s.extract from_ to_ = P := ⟨_, rfl⟩
              have hst := back_step HSb.out.1 HSb.out.2 HWh.out hft htz hZ0 hbody
              obtain ⟨J, hJ⟩ : ∃ J, (F0 (sl.take from_)).1 = J := ⟨_, rfl⟩
              obtain ⟨J1, hJ1⟩ : ∃ J, (F0 (sl.take to_)).1 = J := ⟨_, rfl⟩
              rw [hP, hJ, hJ1] at hst
              rw [hJ] at hV
              obtain ⟨hap, hcm, hbl, hB1s, hB1e⟩ := hst
              have hadd := fun y (h : WbS w y gm b br vr S1 p cap L body J false) => h.add P false hap hcm
              have hbod := fun y (h : WbS w y gm b br vr S1 p cap L body J1 false) => h.bod hbl
              obtain ⟨B1, hB1⟩ : ∃ B, txt J1.body = B := ⟨_, rfl⟩
              rw [hB1] at hbod hB1s hB1e
              have hB1i : ¬ (body.size : Int) < (B1.size : Int) := by clear hadd hbod; omega
              have hB1j : decide ((body.size : Int) < (B1.size : Int)) = false := by rw [decide_eq_false_iff_not]; exact hB1i
              have hB1k : decide (body.size < B1.size) = false := by rw [decide_eq_false_iff_not]; clear hadd hbod; omega
              have HADD := Lib.hid hadd
              have HBOD := Lib.hid hbod
              have HJ1 := Lib.hid hJ1
              have HV := Lib.hid hV
              have HV1 := Lib.hid (hV.next ((Below.refl _ _).drew))
              clear hc hcc hgc hap hcm hV hbl hadd hbod hJ hJ1 hB1 hsplit hjl
              go_wp2_with fail
              refine wp_region_held_drew (S := (fun w' => w'.cell? ⟨gm, 1, none⟩ = some (.string body))) (by as_aux_lemma => kernel_rfl) (HV1.out.cell) (fun hHeld => ?_)
              refine wpAnyH_takeD (i := 0) (v := ?_) (some 77) rfl rfl (by as_aux_lemma => kernel_rfl) (by as_aux_lemma => kernel_rfl) (by as_aux_lemma => kernel_rfl) (fun _ _ _ h => h) (Or.inl ⟨by as_aux_lemma => kernel_rfl, ?_⟩) (by assumption) ?_
              rotate_left
              · (intro w hSw; (try dsimp only at hSw); go_simp); all_goals with_reducible rfl
              try simp only [Act.put, List.setIfInBounds_toArray, List.set_cons_zero, List.set_cons_succ]
              refine wpAnyH_takeD (i := 1) (v := ?_) (some 78) rfl rfl (by as_aux_lemma => kernel_rfl) (by as_aux_lemma => kernel_rfl) (by as_aux_lemma => kernel_rfl) (fun _ _ _ h => h) (Or.inl ⟨by as_aux_lemma => kernel_rfl, ?_⟩) (by assumption) ?_
              rotate_left
              · (intro w hSw; (try dsimp only at hSw); go_simp); all_goals with_reducible rfl
              try simp only [Act.put, List.setIfInBounds_toArray, List.set_cons_zero, List.set_cons_succ]
              refine wpAnyH_takeD (i := 2) (v := ?_) (some 79) rfl rfl (by as_aux_lemma => kernel_rfl) (by as_aux_lemma => kernel_rfl) (by as_aux_lemma => kernel_rfl) (fun _ _ _ h => h) (Or.inl ⟨by as_aux_lemma => kernel_rfl, ?_⟩) (by assumption) ?_
              rotate_left
              · (intro w hSw; (try dsimp only at hSw); go_simp); all_goals with_reducible rfl
              try simp only [Act.put, List.setIfInBounds_toArray, List.set_cons_zero, List.set_cons_succ]
              refine wpAnyH_takeD (i := 3) (v := ?_) (some 80) rfl rfl (by as_aux_lemma => kernel_rfl) (by as_aux_lemma => kernel_rfl) (by as_aux_lemma => kernel_rfl) (fun _ _ _ h => h) (Or.inl ⟨by as_aux_lemma => kernel_rfl, ?_⟩) (by assumption) ?_
              rotate_left
              · (intro w hSw; (try dsimp only at hSw); go_simp); all_goals with_reducible rfl
              try simp only [Act.put, List.setIfInBounds_toArray, List.set_cons_zero, List.set_cons_succ]
              refine wpAnyH_takeD (i := 4) (v := ?_) (some 81) rfl rfl (by as_aux_lemma => kernel_rfl) (by as_aux_lemma => kernel_rfl) (by as_aux_lemma => kernel_rfl) (fun _ _ _ h => h) (Or.inl ⟨by as_aux_lemma => kernel_rfl, ?_⟩) (by assumption) ?_
              rotate_left
              · (intro w hSw; (try dsimp only at hSw); go_simp); all_goals with_reducible rfl
              try simp only [Act.put, List.setIfInBounds_toArray, List.set_cons_zero, List.set_cons_succ]
              refine wpAnyH_ready (rs := [5]) (by as_aux_lemma => kernel_rfl) (by simp) ?_
              refine AllReadyH.cons rfl (fun K hK => ?_) AllReadyH.nil
              go_simp
              go_wp2_with (go_at_call 21; refine (HADD.out _ HV1.out).mono ?_; rintro e y1 ⟨rfl, s1⟩)
              refine hK.out _ _ (s1.cell) (fun hHeld => ?_)
              clear hK K
              refine wpAnyH_takeD (i := 6) (v := ?_) (some 83) rfl rfl (by as_aux_lemma => kernel_rfl) (by as_aux_lemma => kernel_rfl) (by as_aux_lemma => kernel_rfl) (fun _ _ _ h => h) (Or.inl ⟨by as_aux_lemma => kernel_rfl, ?_⟩) (by assumption) ?_
              rotate_left
              · (intro w hSw; (try dsimp only at hSw); go_simp); all_goals with_reducible rfl
              try simp only [Act.put, List.setIfInBounds_toArray, List.set_cons_zero, List.set_cons_succ]
              refine wpAnyH_takeD (i := 7) (v := ?_) (some 84) rfl rfl (by as_aux_lemma => kernel_rfl) (by as_aux_lemma => kernel_rfl) (by as_aux_lemma => kernel_rfl) (fun _ _ _ h => h) (Or.inl ⟨by as_aux_lemma => kernel_rfl, ?_⟩) (by assumption) ?_
              rotate_left
              · (intro w hSw; (try dsimp only at hSw); go_simp); all_goals with_reducible rfl
              try simp only [Act.put, List.setIfInBounds_toArray, List.set_cons_zero, List.set_cons_succ]
              refine wpAnyH_takeD (i := 8) (v := ?_) (some 85) rfl rfl (by as_aux_lemma => kernel_rfl) (by as_aux_lemma => kernel_rfl) (by as_aux_lemma => kernel_rfl) (fun _ _ _ h => h) (Or.inl ⟨by as_aux_lemma => kernel_rfl, ?_⟩) (by assumption) ?_
              rotate_left
              · (intro w hSw; (try dsimp only at hSw); go_simp); all_goals with_reducible rfl
              try simp only [Act.put, List.setIfInBounds_toArray, List.set_cons_zero, List.set_cons_succ]
              refine wpAnyH_ready (rs := [9]) (by as_aux_lemma => kernel_rfl) (by simp) ?_
              refine AllReadyH.cons rfl (fun K hK => ?_) AllReadyH.nil
              go_simp
              go_wp2_with (go_at_call 22; refine s1.done.mono ?_; rintro e y2 ⟨rfl, s2⟩)
              refine hK.out _ _ (s2.cell) (fun hHeld => ?_)
              clear hK K
              refine wpAnyH_takeD (i := 10) (v := ?_) (some 87) rfl rfl (by as_aux_lemma => kernel_rfl) (by as_aux_lemma => kernel_rfl) (by as_aux_lemma => kernel_rfl) (fun _ _ _ h => h) (Or.inl ⟨by as_aux_lemma => kernel_rfl, ?_⟩) (by assumption) ?_
              rotate_left
              · (intro w hSw; (try dsimp only at hSw); go_simp); all_goals with_reducible rfl
              try simp only [Act.put, List.setIfInBounds_toArray, List.set_cons_zero, List.set_cons_succ]
              refine wpAnyH_takeD (i := 11) (v := ?_) (some 88) rfl rfl (by as_aux_lemma => kernel_rfl) (by as_aux_lemma => kernel_rfl) (by as_aux_lemma => kernel_rfl) (fun _ _ _ h => h) (Or.inl ⟨by as_aux_lemma => kernel_rfl, ?_⟩) (by assumption) ?_
              rotate_left
              · (intro w hSw; (try dsimp only at hSw); go_simp); all_goals with_reducible rfl
              try simp only [Act.put, List.setIfInBounds_toArray, List.set_cons_zero, List.set_cons_succ]
              refine wpAnyH_takeD (i := 12) (v := ?_) (some 89) rfl rfl (by as_aux_lemma => kernel_rfl) (by as_aux_lemma => kernel_rfl) (by as_aux_lemma => kernel_rfl) (fun _ _ _ h => h) (Or.inl ⟨by as_aux_lemma => kernel_rfl, ?_⟩) (by assumption) ?_
              rotate_left
              · (intro w hSw; (try dsimp only at hSw); go_simp); all_goals with_reducible rfl
              try simp only [Act.put, List.setIfInBounds_toArray, List.set_cons_zero, List.set_cons_succ]
              refine wpAnyH_takeD (i := 15) (v := ?_) (some 92) rfl rfl (by as_aux_lemma => kernel_rfl) (by as_aux_lemma => kernel_rfl) (by as_aux_lemma => kernel_rfl) (fun _ _ _ h => h) (Or.inl ⟨by as_aux_lemma => kernel_rfl, ?_⟩) (by assumption) ?_
              rotate_left
              · (intro w hSw; (try dsimp only at hSw); go_simp); all_goals with_reducible rfl
              try simp only [Act.put, List.setIfInBounds_toArray, List.set_cons_zero, List.set_cons_succ]
              refine wpAnyH_takeD (i := 16) (v := ?_) (some 93) rfl rfl (by as_aux_lemma => kernel_rfl) (by as_aux_lemma => kernel_rfl) (by as_aux_lemma => kernel_rfl) (fun _ _ _ h => h) (Or.inl ⟨by as_aux_lemma => kernel_rfl, ?_⟩) (by assumption) ?_
              rotate_left
              · (intro w hSw; (try dsimp only at hSw); go_simp); all_goals with_reducible rfl
              try simp only [Act.put, List.setIfInBounds_toArray, List.set_cons_zero, List.set_cons_succ]
              refine wpAnyH_takeD (i := 17) (v := ?_) (some 94) rfl rfl (by as_aux_lemma => kernel_rfl) (by as_aux_lemma => kernel_rfl) (by as_aux_lemma => kernel_rfl) (fun _ _ _ h => h) (Or.inl ⟨by as_aux_lemma => kernel_rfl, ?_⟩) (by assumption) ?_
              rotate_left
              · (intro w hSw; (try dsimp only at hSw); go_simp); all_goals with_reducible rfl
              try simp only [Act.put, List.setIfInBounds_toArray, List.set_cons_zero, List.set_cons_succ]
              refine wpAnyH_ready (rs := [13]) (by as_aux_lemma => kernel_rfl) (by simp) ?_
              refine AllReadyH.cons rfl (fun K hK => ?_) AllReadyH.nil
              go_simp
              go_wp2_with (go_at_call 23; refine (HBOD.out _ s2).mono ?_; rintro e y3 ⟨rfl, s3⟩)
              refine hK.out _ _ (s3.cell) (fun hHeld => ?_)
              clear hK K
              refine wpAnyH_takeD (i := 14) (v := ?_) (some 91) rfl rfl (by as_aux_lemma => kernel_rfl) (by as_aux_lemma => kernel_rfl) (by as_aux_lemma => kernel_rfl) (fun _ _ _ h => h) (Or.inl ⟨by as_aux_lemma => kernel_rfl, ?_⟩) (by assumption) ?_
              rotate_left
              · (intro w hSw; (try dsimp only at hSw); go_simp); all_goals with_reducible rfl
              try simp only [Act.put, List.setIfInBounds_toArray, List.set_cons_zero, List.set_cons_succ]
              refine wpAnyH_takeD (i := 18) (v := ?_) (some 95) rfl rfl (by as_aux_lemma => kernel_rfl) (by as_aux_lemma => kernel_rfl) (by as_aux_lemma => kernel_rfl) (fun _ _ _ h => h) (Or.inl ⟨by as_aux_lemma => kernel_rfl, ?_⟩) (by assumption) ?_
              rotate_left
              · (intro w hSw; (try dsimp only at hSw); go_simp); all_goals with_reducible rfl
              try simp only [Act.put, List.setIfInBounds_toArray, List.set_cons_zero, List.set_cons_succ]
              refine wpAnyH_takeD (i := 19) (v := ?_) (some 96) rfl rfl (by as_aux_lemma => kernel_rfl) (by as_aux_lemma => kernel_rfl) (by as_aux_lemma => kernel_rfl) (fun _ _ _ h => h) (Or.inl ⟨by as_aux_lemma => kernel_rfl, ?_⟩) (by assumption) ?_
              rotate_left
              · (intro w hSw; (try dsimp only at hSw); go_simp); all_goals with_reducible rfl
              try simp only [Act.put, List.setIfInBounds_toArray, List.set_cons_zero, List.set_cons_succ]
              refine wpAnyH_takeD (i := 20) (v := ?_) (some 97) rfl rfl (by as_aux_lemma => kernel_rfl) (by as_aux_lemma => kernel_rfl) (by as_aux_lemma => kernel_rfl) (fun _ _ _ h => h) (Or.inl ⟨by as_aux_lemma => kernel_rfl, ?_⟩) (by assumption) ?_
              rotate_left
              · (intro w hSw; (try dsimp only at hSw); go_simp); all_goals with_reducible rfl
              try simp only [Act.put, List.setIfInBounds_toArray, List.set_cons_zero, List.set_cons_succ]
              refine wpAnyH_takeD (i := 21) (v := ?_) (some 98) rfl rfl (by as_aux_lemma => kernel_rfl) (by as_aux_lemma => kernel_rfl) (by as_aux_lemma => kernel_rfl) (fun _ _ _ h => h) (Or.inl ⟨by as_aux_lemma => kernel_rfl, ?_⟩) (by assumption) ?_
              rotate_left
              · (intro w hSw; (try dsimp only at hSw); go_simp); all_goals with_reducible rfl
              try simp only [Act.put, List.setIfInBounds_toArray, List.set_cons_zero, List.set_cons_succ]
              refine wpAnyH_takeD (i := 22) (v := ?_) (some 99) rfl rfl (by as_aux_lemma => kernel_rfl) (by as_aux_lemma => kernel_rfl) (by as_aux_lemma => kernel_rfl) (fun _ _ _ h => h) (Or.inl ⟨by as_aux_lemma => kernel_rfl, ?_⟩) (by assumption) ?_
              rotate_left
              · (intro w hSw; (try dsimp only at hSw); go_simp); all_goals with_reducible rfl
              try simp only [Act.put, List.setIfInBounds_toArray, List.set_cons_zero, List.set_cons_succ]
              refine wpAnyH_takeD (i := 23) (v := ?_) (some 100) rfl rfl (by as_aux_lemma => kernel_rfl) (by as_aux_lemma => kernel_rfl) (by as_aux_lemma => kernel_rfl) (fun _ _ _ h => h) (Or.inl ⟨by as_aux_lemma => kernel_rfl, ?_⟩) (by assumption) ?_
              rotate_left
              · (intro w hSw; (try dsimp only at hSw); go_simp); all_goals with_reducible rfl
              try simp only [Act.put, List.setIfInBounds_toArray, List.set_cons_zero, List.set_cons_succ]
              refine wpAnyH_takeD (i := 27) (v := ?_) (some 104) rfl rfl (by as_aux_lemma => kernel_rfl) (by as_aux_lemma => kernel_rfl) (by as_aux_lemma => kernel_rfl) (fun _ _ _ h => h) (Or.inl ⟨by as_aux_lemma => kernel_rfl, ?_⟩) (by assumption) ?_
              rotate_left
              · (intro w hSw; (try dsimp only at hSw); go_simp); all_goals with_reducible rfl
              try simp only [Act.put, List.setIfInBounds_toArray, List.set_cons_zero, List.set_cons_succ]
              refine wpAnyH_ready (rs := [24]) (by as_aux_lemma => kernel_rfl) (by simp) ?_
              refine AllReadyH.cons rfl (fun K hK => ?_) AllReadyH.nil
              go_simp
              go_wp2_with (go_at_call 23; refine (HBOD.out _ s3).mono ?_; rintro e y4 ⟨rfl, s4⟩)
              refine hK.out _ _ (s4.cell) (fun hHeld => ?_)
              clear hK K
              refine wpAnyH_takeD (i := 25) (v := ?_) (some 102) rfl rfl (by as_aux_lemma => kernel_rfl) (by as_aux_lemma => kernel_rfl) (by as_aux_lemma => kernel_rfl) (fun _ _ _ h => h) (Or.inl ⟨by as_aux_lemma => kernel_rfl, ?_⟩) (by assumption) ?_
              rotate_left
              · (intro w hSw; (try dsimp only at hSw); go_simp); all_goals with_reducible rfl
              try simp only [Act.put, List.setIfInBounds_toArray, List.set_cons_zero, List.set_cons_succ]
              refine wpAnyH_takeD (i := 26) (v := ?_) (some 103) rfl rfl (by as_aux_lemma => kernel_rfl) (by as_aux_lemma => kernel_rfl) (by as_aux_lemma => kernel_rfl) (fun _ _ _ h => h) (Or.inl ⟨by as_aux_lemma => kernel_rfl, ?_⟩) (by assumption) ?_
              rotate_left
              · (intro w hSw; (try dsimp only at hSw); go_simp); all_goals with_reducible rfl
              try simp only [Act.put, List.setIfInBounds_toArray, List.set_cons_zero, List.set_cons_succ]
              refine wpAnyH_ready (rs := [28]) (by as_aux_lemma => kernel_rfl) (by simp) ?_
              refine AllReadyH.cons rfl (fun K hK => ?_) AllReadyH.nil
              go_simp
              go_wp2_with (go_at_call 23; refine (HBOD.out _ s4).mono ?_; rintro e y5 ⟨rfl, s5⟩)
              refine hK.out _ _ (s5.cell) (fun hHeld => ?_)
              clear hK K
              refine wpAnyH_takeD (i := 29) (v := ?_) (some 106) rfl rfl (by as_aux_lemma => kernel_rfl) (by as_aux_lemma => kernel_rfl) (by as_aux_lemma => kernel_rfl) (fun _ _ _ h => h) (Or.inl ⟨by as_aux_lemma => kernel_rfl, ?_⟩) (by assumption) ?_
              rotate_left
              · (intro w hSw; (try dsimp only at hSw); go_simp); all_goals with_reducible rfl
              try simp only [Act.put, List.setIfInBounds_toArray, List.set_cons_zero, List.set_cons_succ]
              refine wpAnyH_takeD (i := 30) (v := ?_) (some 107) rfl rfl (by as_aux_lemma => kernel_rfl) (by as_aux_lemma => kernel_rfl) (by as_aux_lemma => kernel_rfl) (fun _ _ _ h => h) (Or.inl ⟨by as_aux_lemma => kernel_rfl, ?_⟩) (by assumption) ?_
              rotate_left
              · (intro w hSw; (try dsimp only at hSw); go_simp); all_goals with_reducible rfl
              try simp only [Act.put, List.setIfInBounds_toArray, List.set_cons_zero, List.set_cons_succ]
              refine wpAnyH_done (by as_aux_lemma => kernel_rfl) ?_ _
              have HS5 := Lib.hid s5
              clear s1 s2 s3 s4 s5
              go_wp2_with fail
              go_roundg (gk - 1)
              case measure => omega
              case rel => exact ⟨j + 1, to_, by omega, by go_num, rfl, htz, by rw [HJ1.out]; exact HS5.out⟩
            · have hjN : j = N := by omega
              subst hjN
              obtain ⟨P, hP⟩ : ∃ P, s.extract from_ Z = P := ⟨_, rfl⟩
              have hal := back_last HSb.out.1 HSb.out.2 HWh.out hfz hZ0 hbody
              rw [hP] at hal
              have hadd := hV.add P true hal.1 hal.2
              have HADD := Lib.hid hadd
              clear hadd hal hV hsplit
              go_wp2_with fail
              refine HADD.out.mono ?_
              rintro e z1 ⟨rfl, hz1⟩
              have V1 := Lib.hid hz1
              clear hz1 HADD
              have V3 := V1
              obtain ⟨vr', hvr'⟩ : ∃ v, v = vr := ⟨_, rfl⟩
              subst hvr'
              clear V1
              obtain ⟨ad2, bf2, hI2⟩ := V3.out.ib
              have hfd := Fields_any w.heap.size vr' S1 hI2 rfl V3.out.r (by show (byt sec).length ≤ _; rw [byt_length]; omega) (by have := HOK1.out.2.1; have := HOK1.out.2.2; omega)
              rw [show txt (IB.sec ⟨[], byt sec, true, byt body⟩) = sec from txt_byt sec, HRD.out] at hfd
              have HFD2 := Lib.hid hfd
              have S11 : Hid (SkS w _ gm b br p cap L body sec) := Lib.hid ⟨V3.out.m, ⟨_, _, hI2⟩, ⟨V3.out.n.1, V3.out.n.2.1, hbody⟩, V3.out.bel⟩
              clear hfd hI2 V3
              go_wp2_with fail
              refine HFD2.out.mono ?_
              rintro e x11 ⟨b11, v20, rfl, ho⟩
              obtain ⟨pv, cv, rfl, _⟩ := own_shape ho
              have F12 := Lib.hid (OwnFl.fv ho)
              have S12 := Lib.hid (S11.out.next b11)
              clear b11 ho S11 HFD2
              have hFw : Hid (∀ y, Below w.heap.size w y → FV y p L) := Lib.hid (fun y hb => (HIN.out.below hb).1)
              have HO1 := Lib.hid (own_any L pv cv x11.drew (F12.out.below ((Below.refl _ _).drew)) hlen)
              go_wp2_with fail
              refine wp_region_held_drew (S := (fun w' => (w'.cell? ⟨gm, 0, none⟩ = some (.slice p L.length cap) ∧ w'.cell? ⟨gm, 1, none⟩ = some (.string body)) ∧ SkS w w' gm b br p cap L body sec)) (by as_aux_lemma => kernel_rfl) ((S12.out.next ((Below.refl _ _).drew)).cells) (fun hHeld => ?_)
              refine wpAnyH_takeD (i := 0) (v := ?_) (some 140) rfl rfl (by as_aux_lemma => kernel_rfl) (by as_aux_lemma => kernel_rfl) (by as_aux_lemma => kernel_rfl) (fun _ _ _ h => h) (Or.inl ⟨by as_aux_lemma => kernel_rfl, ?_⟩) (by assumption) ?_
              rotate_left
              · (intro w hSw; (try dsimp only at hSw); go_simp); all_goals with_reducible rfl
              try simp only [Act.put, List.setIfInBounds_toArray, List.set_cons_zero, List.set_cons_succ]
              refine wpAnyH_takeD (i := 1) (v := ?_) (some 141) rfl rfl (by as_aux_lemma => kernel_rfl) (by as_aux_lemma => kernel_rfl) (by as_aux_lemma => kernel_rfl) (fun _ _ _ h => h) (Or.inl ⟨by as_aux_lemma => kernel_rfl, ?_⟩) (by assumption) ?_
              rotate_left
              · (intro w hSw; (try dsimp only at hSw); go_simp); all_goals with_reducible rfl
              try simp only [Act.put, List.setIfInBounds_toArray, List.set_cons_zero, List.set_cons_succ]
              refine wpAnyH_takeD (i := 2) (v := ?_) (some 142) rfl rfl (by as_aux_lemma => kernel_rfl) (by as_aux_lemma => kernel_rfl) (by as_aux_lemma => kernel_rfl) (fun _ _ _ h => h) (Or.inl ⟨by as_aux_lemma => kernel_rfl, ?_⟩) (by assumption) ?_
              rotate_left
              · (intro w hSw; (try dsimp only at hSw); go_simp); all_goals with_reducible rfl
              try simp only [Act.put, List.setIfInBounds_toArray, List.set_cons_zero, List.set_cons_succ]
              refine wpAnyH_takeD (i := 3) (v := ?_) (some 143) rfl rfl (by as_aux_lemma => kernel_rfl) (by as_aux_lemma => kernel_rfl) (by as_aux_lemma => kernel_rfl) (fun _ _ _ h => h) (Or.inl ⟨by as_aux_lemma => kernel_rfl, ?_⟩) (by assumption) ?_
              rotate_left
              · (intro w hSw; (try dsimp only at hSw); go_simp); all_goals with_reducible rfl
              try simp only [Act.put, List.setIfInBounds_toArray, List.set_cons_zero, List.set_cons_succ]
              refine wpAnyH_takeD (i := 5) (v := ?_) (some 145) rfl rfl (by as_aux_lemma => kernel_rfl) (by as_aux_lemma => kernel_rfl) (by as_aux_lemma => kernel_rfl) (fun _ _ _ h => h) (Or.inl ⟨by as_aux_lemma => kernel_rfl, ?_⟩) (by assumption) ?_
              rotate_left
              · (intro w hSw; (try dsimp only at hSw); go_simp); all_goals with_reducible rfl
              try simp only [Act.put, List.setIfInBounds_toArray, List.set_cons_zero, List.set_cons_succ]
              refine wpAnyH_takeD (i := 6) (v := ?_) (some 146) rfl rfl (by as_aux_lemma => kernel_rfl) (by as_aux_lemma => kernel_rfl) (by as_aux_lemma => kernel_rfl) (fun _ _ _ h => h) (Or.inl ⟨by as_aux_lemma => kernel_rfl, ?_⟩) (by assumption) ?_
              rotate_left
              · (intro w hSw; (try dsimp only at hSw); go_simp); all_goals with_reducible rfl
              try simp only [Act.put, List.setIfInBounds_toArray, List.set_cons_zero, List.set_cons_succ]
              refine wpAnyH_ready (rs := [4]) (by as_aux_lemma => kernel_rfl) (by simp) ?_
              refine AllReadyH.cons rfl (fun K hK => ?_) AllReadyH.nil
              go_simp
              go_wp2_with (go_at_call 13; refine HO1.out.mono ?_; rintro e y3 ⟨v3, rfl, o3, b3⟩; obtain ⟨p3, c3, rfl, -⟩ := own_shape o3)
              refine hK.out _ _ ((hHeld.2.next b3).cells) (fun hHeld => ?_)
              clear hK K
              refine wpAnyH_ready (rs := [7]) (by as_aux_lemma => kernel_rfl) (by simp) ?_
              refine AllReadyH.cons rfl (fun K hK => ?_) AllReadyH.nil
              go_simp
              go_wp2_with (go_at_call 13; refine (own_any L p cap _ (hFw.out _ hHeld.2.bel) hlen).mono ?_; rintro e y4 ⟨v4, rfl, o4, b4⟩; obtain ⟨p4, c4, rfl, -⟩ := own_shape o4)
              refine hK.out _ _ ((hHeld.2.next b4).cells) (fun hHeld => ?_)
              clear hK K
              refine wpAnyH_ready (rs := [8]) (by as_aux_lemma => kernel_rfl) (by simp) ?_
              refine AllReadyH.cons rfl (fun K hK => ?_) AllReadyH.nil
              go_simp
              go_wp2_with (go_at_call 25; refine (Same_self L p3 p4 c3 c4 _ (o3.below b4).fv o4.fv hlen).mono ?_; rintro e y5 ⟨rfl, b5⟩)
              refine hK.out _ _ ((hHeld.2.next b5).cells) (fun hHeld => ?_)
              clear hK K
              refine wpAnyH_takeD (i := 9) (v := ?_) (some 149) rfl rfl (by as_aux_lemma => kernel_rfl) (by as_aux_lemma => kernel_rfl) (by as_aux_lemma => kernel_rfl) (fun _ _ _ h => h) (Or.inl ⟨by as_aux_lemma => kernel_rfl, ?_⟩) (by assumption) ?_
              rotate_left
              · (intro w hSw; (try dsimp only at hSw); go_simp); all_goals with_reducible rfl
              try simp only [Act.put, List.setIfInBounds_toArray, List.set_cons_zero, List.set_cons_succ]
              refine wpAnyH_takeD (i := 10) (v := ?_) (some 150) rfl rfl (by as_aux_lemma => kernel_rfl) (by as_aux_lemma => kernel_rfl) (by as_aux_lemma => kernel_rfl) (fun _ _ _ h => h) (Or.inl ⟨by as_aux_lemma => kernel_rfl, ?_⟩) (by assumption) ?_
              rotate_left
              · (intro w hSw; (try dsimp only at hSw); go_simp); all_goals with_reducible rfl
              try simp only [Act.put, List.setIfInBounds_toArray, List.set_cons_zero, List.set_cons_succ]
              refine wpAnyH_takeD (i := 11) (v := ?_) (some 151) rfl rfl (by as_aux_lemma => kernel_rfl) (by as_aux_lemma => kernel_rfl) (by as_aux_lemma => kernel_rfl) (fun _ _ _ h => h) (Or.inl ⟨by as_aux_lemma => kernel_rfl, ?_⟩) (by assumption) ?_
              rotate_left
              · (intro w hSw; (try dsimp only at hSw); go_simp); all_goals with_reducible rfl
              try simp only [Act.put, List.setIfInBounds_toArray, List.set_cons_zero, List.set_cons_succ]
              refine wpAnyH_takeD (i := 13) (v := ?_) (some 153) rfl rfl (by as_aux_lemma => kernel_rfl) (by as_aux_lemma => kernel_rfl) (by as_aux_lemma => kernel_rfl) (fun _ _ _ h => h) (Or.inl ⟨by as_aux_lemma => kernel_rfl, ?_⟩) (by assumption) ?_
              rotate_left
              · (intro w hSw; (try dsimp only at hSw); go_simp); all_goals with_reducible rfl
              try simp only [Act.put, List.setIfInBounds_toArray, List.set_cons_zero, List.set_cons_succ]
              refine wpAnyH_takeD (i := 14) (v := ?_) (some 154) rfl rfl (by as_aux_lemma => kernel_rfl) (by as_aux_lemma => kernel_rfl) (by as_aux_lemma => kernel_rfl) (fun _ _ _ h => h) (Or.inl ⟨by as_aux_lemma => kernel_rfl, ?_⟩) (by assumption) ?_
              rotate_left
              · (intro w hSw; (try dsimp only at hSw); go_simp); all_goals with_reducible rfl
              try simp only [Act.put, List.setIfInBounds_toArray, List.set_cons_zero, List.set_cons_succ]
              refine wpAnyH_ready (rs := [12]) (by as_aux_lemma => kernel_rfl) (by simp) ?_
              refine AllReadyH.cons rfl (fun K hK => ?_) AllReadyH.nil
              go_simp
              go_wp2_with (go_at_call 23; refine hHeld.2.bod.mono ?_; rintro e y6 ⟨rfl, s6⟩)
              refine hK.out _ _ (s6.cells) (fun hHeld => ?_)
              clear hK K
              refine wpAnyH_takeD (i := 15) (v := ?_) (some 155) rfl rfl (by as_aux_lemma => kernel_rfl) (by as_aux_lemma => kernel_rfl) (by as_aux_lemma => kernel_rfl) (fun _ _ _ h => h) (Or.inl ⟨by as_aux_lemma => kernel_rfl, ?_⟩) (by assumption) ?_
              rotate_left
              · (intro w hSw; (try dsimp only at hSw); go_simp); all_goals with_reducible rfl
              try simp only [Act.put, List.setIfInBounds_toArray, List.set_cons_zero, List.set_cons_succ]
              refine wpAnyH_takeD (i := 16) (v := ?_) (some 156) rfl rfl (by as_aux_lemma => kernel_rfl) (by as_aux_lemma => kernel_rfl) (by as_aux_lemma => kernel_rfl) (fun _ _ _ h => h) (Or.inl ⟨by as_aux_lemma => kernel_rfl, ?_⟩) (by assumption) ?_
              rotate_left
              · (intro w hSw; (try dsimp only at hSw); go_simp); all_goals with_reducible rfl
              try simp only [Act.put, List.setIfInBounds_toArray, List.set_cons_zero, List.set_cons_succ]
              refine wpAnyH_takeD (i := 17) (v := ?_) (some 157) rfl rfl (by as_aux_lemma => kernel_rfl) (by as_aux_lemma => kernel_rfl) (by as_aux_lemma => kernel_rfl) (fun _ _ _ h => h) (Or.inl ⟨by as_aux_lemma => kernel_rfl, ?_⟩) (by assumption) ?_
              rotate_left
              · (intro w hSw; (try dsimp only at hSw); go_simp); all_goals with_reducible rfl
              try simp only [Act.put, List.setIfInBounds_toArray, List.set_cons_zero, List.set_cons_succ]
              refine wpAnyH_takeD (i := 18) (v := ?_) (some 158) rfl rfl (by as_aux_lemma => kernel_rfl) (by as_aux_lemma => kernel_rfl) (by as_aux_lemma => kernel_rfl) (fun _ _ _ h => h) (Or.inl ⟨by as_aux_lemma => kernel_rfl, ?_⟩) (by assumption) ?_
              rotate_left
              · (intro w hSw; (try dsimp only at hSw); go_simp); all_goals with_reducible rfl
              try simp only [Act.put, List.setIfInBounds_toArray, List.set_cons_zero, List.set_cons_succ]
              refine wpAnyH_ready (rs := [19]) (by as_aux_lemma => kernel_rfl) (by simp) ?_
              refine AllReadyH.cons rfl (fun K hK => ?_) AllReadyH.nil
              go_simp
              go_wp2_with (go_at_call 22; refine hHeld.2.done.mono ?_; rintro e y7 ⟨rfl, s7⟩)
              refine hK.out _ _ (s7.cells) (fun hHeld => ?_)
              clear hK K
              refine wpAnyH_takeD (i := 20) (v := ?_) (some 160) rfl rfl (by as_aux_lemma => kernel_rfl) (by as_aux_lemma => kernel_rfl) (by as_aux_lemma => kernel_rfl) (fun _ _ _ h => h) (Or.inl ⟨by as_aux_lemma => kernel_rfl, ?_⟩) (by assumption) ?_
              rotate_left
              · (intro w hSw; (try dsimp only at hSw); go_simp); all_goals with_reducible rfl
              try simp only [Act.put, List.setIfInBounds_toArray, List.set_cons_zero, List.set_cons_succ]
              refine wpAnyH_takeD (i := 21) (v := ?_) (some 8) rfl rfl (by as_aux_lemma => kernel_rfl) (by as_aux_lemma => kernel_rfl) (by as_aux_lemma => kernel_rfl) (fun _ _ _ h => h) (Or.inl ⟨by as_aux_lemma => kernel_rfl, ?_⟩) (by assumption) ?_
              rotate_left
              · (intro w hSw; (try dsimp only at hSw); go_simp); all_goals with_reducible rfl
              try simp only [Act.put, List.setIfInBounds_toArray, List.set_cons_zero, List.set_cons_succ]
              refine wpAnyH_done (by as_aux_lemma => kernel_rfl) ?_ _
              go_wp2_with fail
              go_ret
              exact ⟨rfl, hHeld.2.bel⟩

end Go.Proofs.Ytgnoiheekgmleaa
