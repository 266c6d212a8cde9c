/- fields: the walk of FieldsRoom. -/
import Derived.Test.YtkggjcfiomddeaaGj
import Derived.Deep.RegionHeld
namespace Go.Proofs.Ytkggjcfiomddeaa
open Go.ChangeShapes Go.WideShapes Go.RowKit
set_option linter.unusedVariables false
set_option linter.unusedSimpArgs false

/-- A table's size is no more than its most; each field has its weight. -/
def RoomOk (S : Tbl) : Prop := 33 * S.l.length ≤ S.size ∧ S.size ≤ S.most
theorem room_come {S : Tbl} (h : RoomOk S) (f : Fl) (hf : mayFl f = true) : RoomOk (comeF S f).1 := by
  obtain ⟨q0, _, _⟩ := (mayFl_iff f).1 hf
  rcases comeF_cases S f with ⟨e, _⟩ | ⟨_, _, h2, e⟩
  · rw [e]; exact h
  · rw [e]
    unfold RoomOk at h ⊢
    unfold weigh at h2 ⊢
    simp only [List.length_append, List.length_singleton]
    omega
theorem room_tbl : ∀ (L : List Fl) (S : Tbl), RoomOk S → (∀ f ∈ L, mayFl f = true) → RoomOk (tblF S L)
  | [], S, h, _ => h
  | f :: L, S, h, hf => room_tbl L (comeF S f).1 (room_come h f (hf f (List.mem_cons_self ..))) (fun g hg => hf g (List.mem_cons_of_mem _ hg))

/-- What a list's writing does to two tables that are alike. -/
theorem room_facts {S : Tbl} (hS : S.Ok) (hR : RoomOk S) {L : List Fl} (hW : WOk L) (hs : Small L) :
    (foldW S L).1.Ok ∧ RoomOk (foldW S L).1 ∧ (foldW S L).1.most = S.most ∧ (foldW S L).1.l.length ≤ S.l.length + L.length ∧ S.l.length ≤ (foldW S L).1.l.length ∧
    toldF ((foldW S L).2.1.size + 1) S (foldW S L).2.1 = ((foldW S L).1, 0) ∧ readF (foldW S L).1.l (secF (foldW S L).1.l (foldW S L).2.2 L) = (L, 0) := by
  have hi := fold_inv hS L
  obtain ⟨q1, q2, q3⟩ := wrote hS hW
  obtain ⟨M, hM, hML⟩ := hi.2.2.2.2.1
  have hok := hi.1
  refine ⟨hok, ?_, hi.2.2.2.1, ?_, ?_, ?_, ?_⟩
  · rw [foldW_tab]; exact room_tbl L S hR hW.2
  · rw [hM, List.length_append]; omega
  · rw [hM, List.length_append]; omega
  · rw [foldW_told, foldW_tab]
    exact told_back L S _ hW.2 (by omega)
  · obtain ⟨m, hm⟩ := Int.eq_ofNat_of_zero_le q1
    rw [hm] at q2 q3 ⊢
    have hm5 : m ≤ 5000 := by have := hok.2.1; have := hok.2.2; omega
    have := sec_back (foldW S L).1.l (foldW S L).1.l m hm5 L (fun f hf => ⟨hW.2 f hf, q3 f hf⟩) hW.1
    rw [if_neg (by omega), if_pos rfl] at this
    exact this

set_option maxRecDepth 100000 in
set_option maxHeartbeats 8000000 in
theorem room_walk (a0 : Int) (a1 : Option Addr) (cap1 : Nat) (X : List In1) (w : World) (w0 : (Lit.int .i64 a0).wf = true) (hX : InLl w a1 X) :
    Calls Try.prog 6 #[.int .i64 a0, .slice a1 X.length cap1] w fun e w' => e = .returned (.bool true) ∧ Below w.heap.size w w' := by
  have hb0 := bounds_i64 w0
  have HAW := Lib.hid (fun w => awake_any w)
  have HNW := Lib.hid (fun w => NewWriter_any a0 (IntWalk.i64_in _ (by omega)) w)
  have HNR := Lib.hid (fun w => NewReader_any a0 (IntWalk.i64_in _ (by omega)) w)
  have hok0 : (⟨[], mostF a0, 0⟩ : Tbl).Ok := ⟨mostF_le a0, Nat.zero_le _, Nat.le_refl _⟩
  have hmx := mostF_eq a0
  have HOK := Lib.hid hok0
  have HX := Lib.hid hX
  obtain ⟨N, hN⟩ : ∃ N, X.length = N := ⟨_, rfl⟩
  have HN := Lib.hid hN
  have hNb := hX.2.2
  unfold maxLen at hNb
  rw [hN] at hNb ⊢
  clear w0 hX hok0 hN
  go_enter Try.func6, Try.ntmps6
  go_wp2_with fail
  refine (HAW.out _).mono ?_
  rintro e x0 ⟨rfl, b0⟩
  have B0 := Lib.hid b0
  clear b0
  go_wp2_with fail
  refine (HNW.out _).mono ?_
  rintro e x1 ⟨bw, rfl, hbw, hk1, b1⟩
  have s0 := B0.out.size
  have W1 := Lib.hid (tab_new (B := w.heap.size) hk1)
  have B1 := Lib.hid (B0.out.trans (b1.mono B0.out.size))
  have lw := hk1.lt
  clear hk1 b1
  go_wp2_with fail
  refine (HNR.out _).mono ?_
  rintro e x2 ⟨br, rfl, hbr, hk2, b2⟩
  have s1 := B1.out.size
  have T2 : Hid (TW w x2 bw br (.slice none 0 0) (.slice none 0 0) ⟨[], mostF a0, 0⟩ ⟨[], mostF a0, 0⟩) := Lib.hid ⟨W1.out.below b2, tab_new hk2, by omega, by omega, by omega, fun k hk => by simp [Value.ownBlock] at hk, B1.out.trans (b2.mono B1.out.size)⟩
  clear hk2 b2
  go_wp2_with fail
  go_loopw [4, 7, 8, 9, 10, 11, 12, 13, 14, 15, 16] (fun _ iv _ _ _ _ _ _ _ _ _ wr => ∃ (i : Nat) (S : Tbl) (vw vr : Value), i ≤ N ∧ iv = .int .i64 i ∧ TW w wr bw br vw vr S S ∧ S.Ok ∧ RoomOk S ∧ S.most = mostF a0) (fun _ iv _ _ _ _ _ _ _ _ _ _ => N - (intOf iv).toNat)
  case atStart => exact ⟨0, _, _, _, by omega, rfl, T2.out, HOK.out, ⟨by simp, Nat.zero_le _⟩, rfl⟩
  case round =>
    obtain ⟨i, S, vw, vr, hiN, rfl, hT, hS, hR, hM⟩ := hrel
    have HT := Lib.hid hT
    have HS := Lib.hid hS
    have HR := Lib.hid hR
    have HM := Lib.hid hM
    have hbel := hT.2.2.2.2.2.2
    clear hT hS hR hM
    by_cases hlt : i < N
    case neg =>
      have d1 : decide ((i : Int) < (N : Int)) = false := by rw [decide_eq_false_iff_not]; omega
      have HB := Lib.hid hbel
      clear hbel
      go_wp2_with fail
      go_ret
      exact ⟨rfl, HB.out⟩
    case pos =>
      have d1 : decide ((i : Int) < (N : Int)) = true := by rw [decide_eq_true_iff]; omega
      by_cases h20 : i < 20
      case neg =>
        have d2 : decide ((i : Int) < 20) = false := by rw [decide_eq_false_iff_not]; omega
        have HB := Lib.hid hbel
        clear hbel
        go_wp2_with fail
        go_ret
        exact ⟨rfl, HB.out⟩
      case pos =>
        have d2 : decide ((i : Int) < 20) = true := by rw [decide_eq_true_iff]; omega
        have hiX : i < X.length := by rw [HN.out]; exact hlt
        obtain ⟨x, hx⟩ : ∃ x, X[i]? = some x := ⟨_, List.getElem?_eq_getElem hiX⟩
        have hIn := HX.out.2.1 x (List.mem_of_getElem? hx)
        obtain ⟨g, o, rfl, hg, hc⟩ := HX.out.1 (by omega)
        have hcw := hc i x hx
        have k0 := (hbel.cell (p := ⟨g, o + i, none⟩) hg).trans hcw
        obtain ⟨p, cap, L⟩ := x
        simp only at hIn hcw k0
        have hLG := large_any L p cap wr (hIn.below hbel)
        obtain ⟨NL, hNL⟩ : ∃ n, L.length = n := ⟨_, rfl⟩
        rw [hNL] at hcw k0 hLG
        have HLG := Lib.hid hLG
        have HIN := Lib.hid hIn
        have HNL := Lib.hid hNL
        have HCELL : Hid (∀ y, Below w.heap.size w y → y.cell? ⟨g, o + i, none⟩ = some (.slice p NL cap) ∧ Below w.heap.size w y) := Lib.hid (fun y hb => ⟨(hb.cell (p := ⟨g, o + i, none⟩) hg).trans hcw, hb⟩)
        clear hLG hIn hNL hc hcw hx hiX hbel hg
        go_wp2_with fail
        refine HLG.out.mono ?_
        rintro e y1 ⟨big, rfl, hsm, b1⟩
        have T1 := Lib.hid (HT.out.further b1)
        have k1 := (HCELL.out _ T1.out.2.2.2.2.2.2).1
        clear b1 k0
        cases big
        case true =>
          go_wp2_with fail
          go_ret
          exact ⟨rfl, T1.out.2.2.2.2.2.2⟩
        case false =>
          have HSM := Lib.hid (hsm rfl)
          clear hsm
          have hlen : L.length ≤ 10000 := by have := HSM.out.1; omega
          have hw1 := write_in (cap := cap) T1.out.1 HS.out T1.out.2.2.2.1 T1.out.2.2.2.2.2.2 HIN.out hlen
          rw [HNL.out] at hw1
          by_cases hW : WOk L
          case neg =>
            obtain ⟨E, hE, hE2⟩ := write_bad (S := S) hW
            rw [hE] at hw1
            have HW1 := Lib.hid hw1
            clear hw1 hE hW
            rcases hE2 with rfl | rfl
            all_goals
              go_wp2_with fail
              refine HW1.out.mono ?_
              rintro e y2 ⟨rfl, hto⟩
              obtain ⟨vw2, hT2, _⟩ := T1.out.write hto
              have TA := Lib.hid hT2
              clear hto hT2
              go_wp2_with fail
              go_roundw
              case rel => exact ⟨i + 1, S, vw2, vr, by omega, by go_num, TA.out, HS.out, HR.out, HM.out⟩
              case measure => simp [intOf]; omega
          case pos =>
            obtain ⟨f1, f2, f3, f4, f5, f6, f7⟩ := room_facts HS.out HR.out hW HSM.out
            have hz := sizes HS.out hW HSM.out
            have hag := again_write HS.out hW
            rw [write_ok hW] at hw1
            generalize foldW S L = st at *
            obtain ⟨S1, told, m⟩ := st
            simp only at hw1 f1 f2 f3 f4 f5 f6 f7 hz hag
            generalize secF S1.l m L = sec at *
            have HW1 := Lib.hid hw1
            have hcl := f1.2.1
            have hcl2 := f1.2.2
            obtain ⟨n0, hn0⟩ : ∃ n, S.l.length = n := ⟨_, rfl⟩
            obtain ⟨n1, hn1⟩ : ∃ n, S1.l.length = n := ⟨_, rfl⟩
            obtain ⟨d, hd⟩ : ∃ d, n1 - n0 = d := ⟨_, rfl⟩
            have hcl := f1.2.1
            have hcl2 := f1.2.2
            have htd := fun W (hW : TblIs W w.heap.size br 77 vr S) (hB : w.heap.size ≤ W.heap.size) (hb : w.heap.size ≤ br) => Told_any w.heap.size br vr S told W hW HS.out hB hb (by omega)
            rw [f6] at htd
            have hc0 := fun W (hW : TblIs W w.heap.size br 77 vr S) => Count_any w.heap.size br vr S W hW
            have hc1 := fun W v (hW : TblIs W w.heap.size br 77 v S1) => Count_any w.heap.size br v S1 W hW
            rw [hn0] at hc0 f4 f5
            rw [hn1] at hc1 f4 f5 hcl2
            have hrm := HM.out
            have hr1 := f2.1
            have hr2 := f2.2
            rw [hn1] at hr1
            have hw9 : IntKind.i64.wrap ((n1 : Int) - (n0 : Int)) = (d : Int) := by rw [IntWalk.i64_in _ (by omega)]; omega
            have hwm : IntKind.i64.wrap (33 * (n1 : Int)) = 33 * (n1 : Int) := IntWalk.i64_in _ (by omega)
            have hNLb := HNL.out
            have d3 : decide ((NL : Int) < (d : Int)) = false := by rw [decide_eq_false_iff_not]; omega
            have d3N : decide (NL < d) = false := by rw [decide_eq_false_iff_not]; omega
            have hle33 : (33 : Int) * (n1 : Int) ≤ min (max a0 0) 65536 := by rw [← hmx]; omega
            have d4 : decide (min (max a0 0) 65536 < 33 * (n1 : Int)) = false := by rw [decide_eq_false_iff_not]; omega
            have hrd := fun W v (hW : TblIs W w.heap.size br 77 v S1) => Read_any w.heap.size br v S1 sec W hW (by omega) (by omega)
            rw [f7] at hrd
            have hw4 : ∀ (y : World) (v : Value), TblIs y w.heap.size bw 64 v S1 → w.heap.size ≤ bw → Below w.heap.size w y → _ := fun y v hT hb hB => write_in (cap := cap) hT f1 hb hB HIN.out hlen
            rw [hag, HNL.out] at hw4
            have HW1 := Lib.hid hw1
            have HW4 := Lib.hid hw4
            have HTD := Lib.hid htd
            have HC0 := Lib.hid hc0
            have HC1 := Lib.hid hc1
            have HRD := Lib.hid hrd
            have HF := Lib.hid (And.intro f1 (And.intro f2 (f3.trans HM.out)))
            clear hw1 hw4 htd hc0 hc1 hrd f1 f2 f3 f4 f5 f6 f7 hz hag hn0 hn1 hd hcl hcl2 hr1 hr2 hrm hNLb hW
            go_wp2_with fail
            refine HW1.out.mono ?_
            rintro e y2 ⟨rfl, hto⟩
            obtain ⟨vw2, hT2, _⟩ := T1.out.write hto
            have TA := Lib.hid hT2
            clear hto hT2 k1
            go_wp2_with fail
            refine (HC0.out _ TA.out.2.1).mono ?_
            rintro e y3 ⟨rfl, rfl⟩
            have TB := Lib.hid (TA.out.further ((Below.refl _ _).drew))
            go_wp2_with fail
            refine wp_region_held_drew (S := (fun w' => w'.cell? ⟨g, o + i, none⟩ = some (.slice p NL cap) ∧ Below w.heap.size w w')) (by kernel_rfl) (HCELL.out _ TB.out.2.2.2.2.2.2) (fun hHeld => ?_)
            refine wpAnyH_takeD (i := 0) (v := ?_) (some 52) rfl rfl (by kernel_rfl) (by kernel_rfl) (by kernel_rfl) (fun _ _ _ h => h) (Or.inl ⟨by kernel_rfl, ?_⟩) (by assumption) ?_
            rotate_left
            · (intro w hSw; (try dsimp only at hSw); go_simp); all_goals with_reducible rfl
            try simp only [Act.put, List.setIfInBounds_toArray, List.set_cons_zero, List.set_cons_succ]
            refine wpAnyH_takeD (i := 1) (v := ?_) (some 53) rfl rfl (by kernel_rfl) (by kernel_rfl) (by kernel_rfl) (fun _ _ _ h => h) (Or.inl ⟨by kernel_rfl, ?_⟩) (by assumption) ?_
            rotate_left
            · (intro w hSw; (try dsimp only at hSw); go_simp); all_goals with_reducible rfl
            try simp only [Act.put, List.setIfInBounds_toArray, List.set_cons_zero, List.set_cons_succ]
            refine wpAnyH_ready (rs := [2]) (by kernel_rfl) (by simp) ?_
            refine AllReadyH.cons rfl (fun K hK => ?_) AllReadyH.nil
            go_simp
            go_wp2_with (go_at_call 24; refine (HTD.out _ TB.out.2.1 TB.out.2.2.2.2.2.2.size TB.out.2.2.2.2.1).mono ?_; rintro e xt ⟨rfl, hto⟩; obtain ⟨vr2, hT3, _⟩ := TB.out.tell hto; have T3 := Lib.hid hT3; have b3 := hT3.2.2.2.2.2.2; clear hto hT3)
            refine hK.out _ _ (HCELL.out _ b3) (fun hHeld => ?_)
            clear hK K
            refine wpAnyH_takeD (i := 3) (v := ?_) (some 55) rfl rfl (by kernel_rfl) (by kernel_rfl) (by kernel_rfl) (fun _ _ _ h => h) (Or.inl ⟨by kernel_rfl, ?_⟩) (by assumption) ?_
            rotate_left
            · (intro w hSw; (try dsimp only at hSw); go_simp); all_goals with_reducible rfl
            try simp only [Act.put, List.setIfInBounds_toArray, List.set_cons_zero, List.set_cons_succ]
            refine wpAnyH_takeD (i := 4) (v := ?_) (some 56) rfl rfl (by kernel_rfl) (by kernel_rfl) (by kernel_rfl) (fun _ _ _ h => h) (Or.inl ⟨by kernel_rfl, ?_⟩) (by assumption) ?_
            rotate_left
            · (intro w hSw; (try dsimp only at hSw); go_simp); all_goals with_reducible rfl
            try simp only [Act.put, List.setIfInBounds_toArray, List.set_cons_zero, List.set_cons_succ]
            refine wpAnyH_takeD (i := 5) (v := ?_) (some 57) rfl rfl (by kernel_rfl) (by kernel_rfl) (by kernel_rfl) (fun _ _ _ h => h) (Or.inl ⟨by kernel_rfl, ?_⟩) (by assumption) ?_
            rotate_left
            · (intro w hSw; (try dsimp only at hSw); go_simp); all_goals with_reducible rfl
            try simp only [Act.put, List.setIfInBounds_toArray, List.set_cons_zero, List.set_cons_succ]
            refine wpAnyH_takeD (i := 7) (v := ?_) (some 59) rfl rfl (by kernel_rfl) (by kernel_rfl) (by kernel_rfl) (fun _ _ _ h => h) (Or.inl ⟨by kernel_rfl, ?_⟩) (by assumption) ?_
            rotate_left
            · (intro w hSw; (try dsimp only at hSw); go_simp); all_goals with_reducible rfl
            try simp only [Act.put, List.setIfInBounds_toArray, List.set_cons_zero, List.set_cons_succ]
            refine wpAnyH_takeD (i := 9) (v := ?_) (some 61) rfl rfl (by kernel_rfl) (by kernel_rfl) (by kernel_rfl) (fun _ _ _ h => h) (Or.inl ⟨by kernel_rfl, ?_⟩) (by assumption) ?_
            rotate_left
            · (intro w hSw; (try dsimp only at hSw); go_simp); all_goals with_reducible rfl
            try simp only [Act.put, List.setIfInBounds_toArray, List.set_cons_zero, List.set_cons_succ]
            refine wpAnyH_takeD (i := 10) (v := ?_) (some 62) rfl rfl (by kernel_rfl) (by kernel_rfl) (by kernel_rfl) (fun _ _ _ h => h) (Or.inl ⟨by kernel_rfl, ?_⟩) (by assumption) ?_
            rotate_left
            · (intro w hSw; (try dsimp only at hSw); go_simp); all_goals with_reducible rfl
            try simp only [Act.put, List.setIfInBounds_toArray, List.set_cons_zero, List.set_cons_succ]
            refine wpAnyH_takeD (i := 11) (v := ?_) (some 63) rfl rfl (by kernel_rfl) (by kernel_rfl) (by kernel_rfl) (fun _ _ _ h => h) (Or.inl ⟨by kernel_rfl, ?_⟩) (by assumption) ?_
            rotate_left
            · (intro w hSw; (try dsimp only at hSw); go_simp); all_goals with_reducible rfl
            try simp only [Act.put, List.setIfInBounds_toArray, List.set_cons_zero, List.set_cons_succ]
            refine wpAnyH_takeD (i := 12) (v := ?_) (some 64) rfl rfl (by kernel_rfl) (by kernel_rfl) (by kernel_rfl) (fun _ _ _ h => h) (Or.inl ⟨by kernel_rfl, ?_⟩) (by assumption) ?_
            rotate_left
            · (intro w hSw; (try dsimp only at hSw); go_simp); all_goals with_reducible rfl
            try simp only [Act.put, List.setIfInBounds_toArray, List.set_cons_zero, List.set_cons_succ]
            refine wpAnyH_takeD (i := 13) (v := ?_) (some 65) rfl rfl (by kernel_rfl) (by kernel_rfl) (by kernel_rfl) (fun _ _ _ h => h) (Or.inl ⟨by kernel_rfl, ?_⟩) (by assumption) ?_
            rotate_left
            · (intro w hSw; (try dsimp only at hSw); go_simp); all_goals with_reducible rfl
            try simp only [Act.put, List.setIfInBounds_toArray, List.set_cons_zero, List.set_cons_succ]
            refine wpAnyH_ready (rs := [6]) (by kernel_rfl) (by simp) ?_
            refine AllReadyH.cons rfl (fun K hK => ?_) AllReadyH.nil
            go_simp
            go_wp2_with (go_at_call 26; refine (HC1.out _ _ T3.out.2.1).mono ?_; rintro e xc ⟨rfl, rfl⟩)
            refine hK.out _ _ (hHeld) (fun hHeld => ?_)
            clear hK K
            refine wpAnyH_takeD (i := 8) (v := ?_) (some 60) rfl rfl (by kernel_rfl) (by kernel_rfl) (by kernel_rfl) (fun _ _ _ h => h) (Or.inl ⟨by kernel_rfl, ?_⟩) (by assumption) ?_
            rotate_left
            · (intro w hSw; (try dsimp only at hSw); go_simp); all_goals with_reducible rfl
            try simp only [Act.put, List.setIfInBounds_toArray, List.set_cons_zero, List.set_cons_succ]
            refine wpAnyH_takeD (i := 14) (v := ?_) (some 66) rfl rfl (by kernel_rfl) (by kernel_rfl) (by kernel_rfl) (fun _ _ _ h => h) (Or.inl ⟨by kernel_rfl, ?_⟩) (by assumption) ?_
            rotate_left
            · (intro w hSw; (try dsimp only at hSw); go_simp); all_goals with_reducible rfl
            try simp only [Act.put, List.setIfInBounds_toArray, List.set_cons_zero, List.set_cons_succ]
            refine wpAnyH_takeD (i := 15) (v := ?_) (some 67) rfl rfl (by kernel_rfl) (by kernel_rfl) (by kernel_rfl) (fun _ _ _ h => h) (Or.inl ⟨by kernel_rfl, ?_⟩) (by assumption) ?_
            rotate_left
            · (intro w hSw; (try dsimp only at hSw); go_simp); all_goals with_reducible rfl
            try simp only [Act.put, List.setIfInBounds_toArray, List.set_cons_zero, List.set_cons_succ]
            refine wpAnyH_takeD (i := 16) (v := ?_) (some 68) rfl rfl (by kernel_rfl) (by kernel_rfl) (by kernel_rfl) (fun _ _ _ h => h) (Or.inl ⟨by kernel_rfl, ?_⟩) (by assumption) ?_
            rotate_left
            · (intro w hSw; (try dsimp only at hSw); go_simp); all_goals with_reducible rfl
            try simp only [Act.put, List.setIfInBounds_toArray, List.set_cons_zero, List.set_cons_succ]
            refine wpAnyH_takeD (i := 17) (v := ?_) (some 69) rfl rfl (by kernel_rfl) (by kernel_rfl) (by kernel_rfl) (fun _ _ _ h => h) (Or.inl ⟨by kernel_rfl, ?_⟩) (by assumption) ?_
            rotate_left
            · (intro w hSw; (try dsimp only at hSw); go_simp); all_goals with_reducible rfl
            try simp only [Act.put, List.setIfInBounds_toArray, List.set_cons_zero, List.set_cons_succ]
            refine wpAnyH_takeD (i := 20) (v := ?_) (some 72) rfl rfl (by kernel_rfl) (by kernel_rfl) (by kernel_rfl) (fun _ _ _ h => h) (Or.inl ⟨by kernel_rfl, ?_⟩) (by assumption) ?_
            rotate_left
            · (intro w hSw; (try dsimp only at hSw); go_simp); all_goals with_reducible rfl
            try simp only [Act.put, List.setIfInBounds_toArray, List.set_cons_zero, List.set_cons_succ]
            refine wpAnyH_takeD (i := 21) (v := ?_) (some 73) rfl rfl (by kernel_rfl) (by kernel_rfl) (by kernel_rfl) (fun _ _ _ h => h) (Or.inl ⟨by kernel_rfl, ?_⟩) (by assumption) ?_
            rotate_left
            · (intro w hSw; (try dsimp only at hSw); go_simp); all_goals with_reducible rfl
            try simp only [Act.put, List.setIfInBounds_toArray, List.set_cons_zero, List.set_cons_succ]
            refine wpAnyH_takeD (i := 22) (v := ?_) (some 74) rfl rfl (by kernel_rfl) (by kernel_rfl) (by kernel_rfl) (fun _ _ _ h => h) (Or.inl ⟨by kernel_rfl, ?_⟩) (by assumption) ?_
            rotate_left
            · (intro w hSw; (try dsimp only at hSw); go_simp); all_goals with_reducible rfl
            try simp only [Act.put, List.setIfInBounds_toArray, List.set_cons_zero, List.set_cons_succ]
            refine wpAnyH_ready (rs := [18]) (by kernel_rfl) (by simp) ?_
            refine AllReadyH.cons rfl (fun K hK => ?_) AllReadyH.nil
            go_simp
            go_wp2_with (go_at_call 26; refine (HC1.out _ _ T3.out.2.1).mono ?_; rintro e xc ⟨rfl, rfl⟩)
            refine hK.out _ _ (hHeld) (fun hHeld => ?_)
            clear hK K
            refine wpAnyH_takeD (i := 19) (v := ?_) (some 71) rfl rfl (by kernel_rfl) (by kernel_rfl) (by kernel_rfl) (fun _ _ _ h => h) (Or.inl ⟨by kernel_rfl, ?_⟩) (by assumption) ?_
            rotate_left
            · (intro w hSw; (try dsimp only at hSw); go_simp); all_goals with_reducible rfl
            try simp only [Act.put, List.setIfInBounds_toArray, List.set_cons_zero, List.set_cons_succ]
            refine wpAnyH_takeD (i := 23) (v := ?_) (some 75) rfl rfl (by kernel_rfl) (by kernel_rfl) (by kernel_rfl) (fun _ _ _ h => h) (Or.inl ⟨by kernel_rfl, ?_⟩) (by assumption) ?_
            rotate_left
            · (intro w hSw; (try dsimp only at hSw); go_simp); all_goals with_reducible rfl
            try simp only [Act.put, List.setIfInBounds_toArray, List.set_cons_zero, List.set_cons_succ]
            refine wpAnyH_takeD (i := 24) (v := ?_) (some 76) rfl rfl (by kernel_rfl) (by kernel_rfl) (by kernel_rfl) (fun _ _ _ h => h) (Or.inl ⟨by kernel_rfl, ?_⟩) (by assumption) ?_
            rotate_left
            · (intro w hSw; (try dsimp only at hSw); go_simp); all_goals with_reducible rfl
            try simp only [Act.put, List.setIfInBounds_toArray, List.set_cons_zero, List.set_cons_succ]
            refine wpAnyH_done (by kernel_rfl) ?_ _
            have kx := hHeld.1
            go_wp2_with fail
            refine (HW4.out _ _ T3.out.1 T3.out.2.2.2.1 T3.out.2.2.2.2.2.2).mono ?_
            rintro e y5 ⟨rfl, hto⟩
            obtain ⟨vw3, hT5, _⟩ := T3.out.write hto
            have T5 := Lib.hid hT5
            clear hto hT5
            go_wp2_with fail
            refine (HRD.out _ _ T5.out.2.1).mono ?_
            rintro e y6 ⟨b6, v6, rfl, _⟩
            have T6 := Lib.hid (T5.out.further b6)
            clear b6
            go_wp2_with fail
            go_roundw
            case rel => exact ⟨i + 1, S1, vw3, vr2, by omega, by go_num, T6.out, HF.out.1, HF.out.2.1, HF.out.2.2⟩
            case measure => simp [intOf]; omega

end Go.Proofs.Ytkggjcfiomddeaa
