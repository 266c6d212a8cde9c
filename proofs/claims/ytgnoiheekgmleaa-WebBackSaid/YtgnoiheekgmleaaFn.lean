/- fields: contract of Reader.one. -/
import Derived.Test.YtgnoiheekgmleaaFm
namespace Go.Proofs.Ytgnoiheekgmleaa
open Go.ChangeShapes Go.WideShapes Go.RowKit
set_option linter.unusedVariables false
set_option linter.unusedSimpArgs false

/-- A field off a section that needs so many. -/
def rOneF (l : List Fl) (needs : Nat) (s : ByteArray) : Fl × ByteArray × Bool :=
  if ((byt s).headD 0).toNat / 64 = 3 then knownF s 6
  else if ((byt s).headD 0).toNat / 64 = 2 then (if (takeF (byt s) 6).2.2 = false ∨ needs ≤ (takeF (byt s) 6).1 then (emptyF, ⟨#[]⟩, false) else (l.getD (needs - 1 - (takeF (byt s) 6).1) emptyF, txt (takeF (byt s) 6).2.1, true))
  else if ((byt s).headD 0).toNat / 16 = 5 then (if (knownF s 4).2.2 = false then (emptyF, ⟨#[]⟩, false) else valF (knownF s 4).1.1 (knownF s 4).2.1)
  else if ((byt s).headD 0).toNat / 16 = 2 then (if (takeTextF (byt s) 4).2.2 = false then (emptyF, ⟨#[]⟩, false) else valF (txt (takeTextF (byt s) 4).1) (txt (takeTextF (byt s) 4).2.1))
  else (emptyF, ⟨#[]⟩, false)

theorem rOneF_len (l : List Fl) (needs : Nat) (s : ByteArray) (h : (rOneF l needs s).2.2 = true) : (rOneF l needs s).2.1.size < s.size := by
  unfold rOneF at h ⊢
  by_cases c1 : ((byt s).headD 0).toNat / 64 = 3
  · rw [if_pos c1] at h ⊢
    exact knownF_len s 6 h
  · rw [if_neg c1] at h ⊢
    by_cases c2 : ((byt s).headD 0).toNat / 64 = 2
    · rw [if_pos c2] at h ⊢
      by_cases ck : (takeF (byt s) 6).2.2 = false ∨ needs ≤ (takeF (byt s) 6).1
      · rw [if_pos ck] at h; cases h
      · rw [if_neg ck]
        have := takeF_less (byt s) 6 (by cases hh : (takeF (byt s) 6).2.2 <;> simp_all)
        rw [byt_length] at this
        show (txt _).size < _
        rw [txt_size]
        exact this
    · rw [if_neg c2] at h ⊢
      by_cases c3 : ((byt s).headD 0).toNat / 16 = 5
      · rw [if_pos c3] at h ⊢
        by_cases ck : (knownF s 4).2.2 = false
        · rw [if_pos ck] at h; cases h
        · rw [if_neg ck]
          have := knownF_len s 4 (by cases hh : (knownF s 4).2.2 <;> simp_all)
          have := valF_len (knownF s 4).1.1 (knownF s 4).2.1
          omega
      · rw [if_neg c3] at h ⊢
        by_cases c4 : ((byt s).headD 0).toNat / 16 = 2
        · rw [if_pos c4] at h ⊢
          by_cases ck : (takeTextF (byt s) 4).2.2 = false
          · rw [if_pos ck] at h; cases h
          · rw [if_neg ck]
            have := takeText_less (byt s) 4 (by cases hh : (takeTextF (byt s) 4).2.2 <;> simp_all)
            rw [byt_length] at this
            have := valF_len (txt (takeTextF (byt s) 4).1) (txt (takeTextF (byt s) 4).2.1)
            rw [txt_size] at this
            omega
        · rw [if_neg c4] at h; cases h

theorem head_at (s : ByteArray) (h0 : 0 < s.size) : s[0].toNat = ((byt s).headD 0).toNat := by
  have hh : ∀ (l : List UInt8) (h : 0 < l.length), l[0].toNat = (l.headD 0).toNat := by
    intro l h
    cases l with
    | nil => simp at h
    | cons b r => rfl
  rw [byt_get]
  exact hh (byt s) (by rw [byt_length]; exact h0)

theorem take6 (s : ByteArray) (w : World) (hs : s.size ≤ 100000) :
    Calls Try.prog 66 #[.string s, .int .i64 6] w fun e w' => e = .returned (.tuple #[.int .u64 ((takeF (byt s) 6).1 : Int), .string (txt (takeF (byt s) 6).2.1), .bool (takeF (byt s) 6).2.2]) ∧ Below w.heap.size w w' := TakeNumber_any s 6 w hs (by omega)

set_option maxRecDepth 100000 in
set_option maxHeartbeats 8000000 in
theorem rOne_any (B b : Nat) (v : Value) (S : Tbl) (s : ByteArray) (m : Nat) (w : World) (h : TblIs w B b 89 v S) (hs : s.size ≤ 5000) (h0 : 0 < s.size) (hm : m ≤ S.l.length) (hSl : S.l.length ≤ 10000) :
    Calls Try.prog 67 #[.pointer (some ⟨b, 0, none⟩), .string s, .int .i64 (m : Int)] w fun e w' => e = .returned (.tuple #[(rOneF S.l m s).1.v, .string (rOneF S.l m s).2.1, .bool (rOneF S.l m s).2.2]) ∧ Below w.heap.size w w' := by
  obtain ⟨x, hx⟩ : ∃ x, ((byt s).headD 0).toNat = x := ⟨_, rfl⟩
  have hx8 : x < 256 := by rw [← hx]; exact UInt8.toNat_lt _
  have hsx : s[0].toNat = x := (head_at s h0).trans hx
  obtain ⟨p1, _, p2, p3, p4⟩ := first_bits x hx8
  have hS1 : (1 : Int) ≤ (s.size : Int) := by omega
  have HF := Lib.hid (FB.new w (.string ⟨#[]⟩) (.string ⟨#[]⟩))
  unfold rOneF
  rw [hx]
  clear hx
  by_cases c1 : x / 64 = 3
  case pos =>
    rw [if_pos c1]
    rw [decide_eq_true c1] at p1
    have hk := fun w => known6 s w (by omega)
    generalize knownF s 6 = q at *
    obtain ⟨⟨n0, v0⟩, r, is⟩ := q
    unfold Fl.v at hk ⊢
    simp only at hk ⊢
    have HK := Lib.hid hk
    clear hk c1 h p2 p3 p4
    go_enter Try.func67, Try.ntmps67
    go_wp2_with fail
    refine (HK.out _).mono ?_
    rintro e w1 ⟨rfl, b1⟩
    have F1 := Lib.hid (HF.out.further b1)
    clear b1
    obtain ⟨e0, e1, e2, e3⟩ := F1.out.cells
    go_wp2_with fail
    have BZ := FB.put2 F1.out (.string n0) (.string v0)
    change bodyPost _ _ _ _ _ (put2 _ _ (.string n0) (.string v0))
    generalize put2 _ _ (.string n0) (.string v0) = F at BZ ⊢
    obtain ⟨z0, z1, _, _⟩ := BZ.cells
    refine bodyPost_ret (v := .tuple #[.agg #[.string n0, .string v0], .string r, .bool is]) (by simp [results, Try.results67, go_sem, z0, z1]) rfl ⟨rfl, BZ.2.1⟩
  case neg =>
    rw [if_neg c1]
    rw [decide_eq_false c1] at p1
    by_cases c2 : x / 64 = 2
    case pos =>
      rw [if_pos c2]
      rw [decide_eq_true c2] at p2
      have ht := fun w => take6 s w (by omega)
      generalize takeF (byt s) 6 = q at *
      obtain ⟨n, rl, is⟩ := q
      simp only at ht ⊢
      generalize txt rl = rs at *
      have HK := Lib.hid ht
      have hwm : IntKind.u64.wrap (m : Int) = m := IntWalk.u64_in _ (by omega)
      clear ht c1 c2 p3 p4
      cases is
      case false =>
        rw [if_pos (.inl rfl)]
        clear h
        unfold emptyF Fl.v
        simp only
        go_enter Try.func67, Try.ntmps67
        go_wp2_with fail
        refine (HK.out _).mono ?_
        rintro e w1 ⟨rfl, b1⟩
        have F1 := Lib.hid (HF.out.further b1)
        clear b1
        obtain ⟨e0, e1, e2, e3⟩ := F1.out.cells
        go_wp2_with fail
        have BZ := FB.put2 F1.out (.string ⟨#[]⟩) (.string ⟨#[]⟩)
        change bodyPost _ _ _ _ _ (put2 _ _ (.string ⟨#[]⟩) (.string ⟨#[]⟩))
        generalize put2 _ _ (.string ⟨#[]⟩) (.string ⟨#[]⟩) = F at BZ ⊢
        obtain ⟨z0, z1, _, _⟩ := BZ.cells
        refine bodyPost_ret (v := .tuple #[.agg #[.string ⟨#[]⟩, .string ⟨#[]⟩], .string ⟨#[]⟩, .bool false]) (by simp [results, Try.results67, go_sem, z0, z1]) rfl ⟨rfl, BZ.2.1⟩
      case true =>
        by_cases hn : m ≤ n
        case pos =>
          rw [if_pos (.inr hn)]
          have hd : decide (m ≤ n) = true := decide_eq_true hn
          have hdI : decide ((m : Int) ≤ (n : Int)) = true := by rw [decide_eq_true_iff]; omega
          clear h hn
          unfold emptyF Fl.v
          simp only
          go_enter Try.func67, Try.ntmps67
          go_wp2_with fail
          refine (HK.out _).mono ?_
          rintro e w1 ⟨rfl, b1⟩
          have F1 := Lib.hid (HF.out.further b1)
          clear b1
          obtain ⟨e0, e1, e2, e3⟩ := F1.out.cells
          go_wp2_with fail
          have BZ := FB.put2 F1.out (.string ⟨#[]⟩) (.string ⟨#[]⟩)
          change bodyPost _ _ _ _ _ (put2 _ _ (.string ⟨#[]⟩) (.string ⟨#[]⟩))
          generalize put2 _ _ (.string ⟨#[]⟩) (.string ⟨#[]⟩) = F at BZ ⊢
          obtain ⟨z0, z1, _, _⟩ := BZ.cells
          refine bodyPost_ret (v := .tuple #[.agg #[.string ⟨#[]⟩, .string ⟨#[]⟩], .string ⟨#[]⟩, .bool false]) (by simp [results, Try.results67, go_sem, z0, z1]) rfl ⟨rfl, BZ.2.1⟩
        case neg =>
          rw [if_neg (by simp; omega)]
          have hd : decide (m ≤ n) = false := decide_eq_false hn
          have hdI : decide ((m : Int) ≤ (n : Int)) = false := by rw [decide_eq_false_iff_not]; omega
          obtain ⟨p, cap, rfl, _⟩ := own_shape h.2
          obtain ⟨N, hN⟩ : ∃ N, S.l.length = N := ⟨_, rfl⟩
          obtain ⟨j, hj⟩ : ∃ j, m - 1 - n = j := ⟨_, rfl⟩
          have hjl : j < S.l.length := by omega
          have hg : S.l[j]? = some (S.l.getD j emptyF) := by
            rw [List.getElem?_eq_getElem hjl, List.getD_eq_getElem?_getD, List.getElem?_eq_getElem hjl]
            rfl
          obtain ⟨gl, ol, hpe, hgl, hc⟩ := (FV.of_tab (b := b) (T := 89) h.2) (by omega)
          obtain ⟨y1, y2⟩ := hc j _ hg
          have hcell := h.1.cell (k := 0) rfl
          have hbl := h.1.lt
          rw [hj]
          generalize S.l.getD j emptyF = f at *
          obtain ⟨n0, v0⟩ := f
          unfold Fl.v
          simp only at y1 y2 ⊢
          have e1 : IntKind.i64.wrap ((m : Int) - 1) = (m : Int) - 1 := IntWalk.i64_in _ (by omega)
          have e2 : IntKind.i64.wrap (n : Int) = n := IntWalk.i64_in _ (by omega)
          have e3 : IntKind.i64.wrap ((m : Int) - 1 - (n : Int)) = (j : Int) := by rw [IntWalk.i64_in _ (by omega)]; omega
          have e4 : (j : Int) < (N : Int) := by omega
          have e5 : j < N := by omega
          rw [hN] at hcell
          subst hpe
          have HY := Lib.hid (And.intro y1 (And.intro y2 hcell))
          clear h hg hc hjl y1 y2 hcell hj hn hm hN
          go_enter Try.func67, Try.ntmps67
          go_wp2_with fail
          refine (HK.out _).mono ?_
          rintro e w1 ⟨rfl, b1⟩
          have F1 := Lib.hid (HF.out.further b1)
          obtain ⟨g1, g2, g3⟩ := HY.out
          have hba : Below w.heap.size w w1 := F1.out.2.1
          have k1 := (hba.cell (p := ⟨gl, ol + j * 2, none⟩) hgl).trans g1
          have k2 := (hba.cell (p := ⟨gl, ol + j * 2 + 1, none⟩) hgl).trans g2
          have k3 := (hba.cell (p := ⟨b, 0, none⟩) hbl).trans g3
          clear b1 g1 g2 g3 hba
          obtain ⟨e0, e1, e2, e3⟩ := F1.out.cells
          go_wp2_with fail
          have BZ := FB.put2 F1.out (.string n0) (.string v0)
          change bodyPost _ _ _ _ _ (put2 _ _ (.string n0) (.string v0))
          generalize put2 _ _ (.string n0) (.string v0) = F at BZ ⊢
          obtain ⟨z0, z1, _, _⟩ := BZ.cells
          refine bodyPost_ret (v := .tuple #[.agg #[.string n0, .string v0], .string rs, .bool true]) (by simp [results, Try.results67, go_sem, z0, z1]) rfl ⟨rfl, BZ.2.1⟩
    case neg =>
      rw [if_neg c2]
      rw [decide_eq_false c2] at p2
      clear h
      by_cases c3 : x / 16 = 5
      case pos =>
        rw [if_pos c3]
        rw [decide_eq_true c3] at p3
        rw [decide_eq_false (show ¬ x / 16 = 2 by omega)] at p4
        have hk := fun w => known4 s w (by omega)
        have hkr := knownF_rest s 4
        generalize knownF s 4 = q at *
        obtain ⟨⟨n0, v0⟩, r, is⟩ := q
        unfold Fl.v at hk
        simp only at hk hkr ⊢
        have HK := Lib.hid hk
        clear hk c1 c2 c3
        cases is
        case false =>
          rw [if_pos rfl]
          unfold emptyF Fl.v
          simp only
          go_enter Try.func67, Try.ntmps67
          go_wp2_with fail
          refine (HK.out _).mono ?_
          rintro e w1 ⟨rfl, b1⟩
          have F1 := Lib.hid (HF.out.further b1)
          have F2 := Lib.hid ((F1.out.set0 (.string n0)).set1 (.string v0))
          clear b1
          obtain ⟨d0, d1, d2, d3⟩ := F1.out.cells
          go_wp2_with fail
          have BZ := FB.put2 F2.out (.string ⟨#[]⟩) (.string ⟨#[]⟩)
          change bodyPost _ _ _ _ _ (put2 _ _ (.string ⟨#[]⟩) (.string ⟨#[]⟩))
          generalize put2 _ _ (.string ⟨#[]⟩) (.string ⟨#[]⟩) = F at BZ ⊢
          obtain ⟨z0, z1, _, _⟩ := BZ.cells
          refine bodyPost_ret (v := .tuple #[.agg #[.string ⟨#[]⟩, .string ⟨#[]⟩], .string ⟨#[]⟩, .bool false]) (by simp [results, Try.results67, go_sem, z0, z1]) rfl ⟨rfl, BZ.2.1⟩
        case true =>
          rw [if_neg (by simp)]
          have ht8 := fun w => takeText8 r w (by omega)
          unfold valF
          generalize takeTextF (byt r) 8 = q8 at *
          obtain ⟨tv, tr, ti⟩ := q8
          simp only at ht8 ⊢
          generalize txt tv = ts at *
          generalize txt tr = trs at *
          have hmay := fun w => may_any (n0, ts) w
          generalize mayFl (n0, ts) = mb at *
          have HT8 := Lib.hid ht8
          have HMAY := Lib.hid hmay
          clear ht8 hmay
          unfold Fl.v
          simp only
          go_enter Try.func67, Try.ntmps67
          go_wp2_with fail
          refine (HK.out _).mono ?_
          rintro e w1 ⟨rfl, b1⟩
          have F1 := Lib.hid (HF.out.further b1)
          have F2 := Lib.hid ((F1.out.set0 (.string n0)).set1 (.string v0))
          clear b1
          obtain ⟨e0, e1, e2, e3⟩ := F1.out.cells
          cases ti
          case false =>
            go_wp2_with fail
            refine (HT8.out _).mono ?_
            rintro e w8 ⟨rfl, b8⟩
            have G8 := Lib.hid (F2.out.further b8)
            clear b8
            obtain ⟨d0, d1, d2, d3⟩ := G8.out.cells
            go_wp2_with fail
            have G9 := Lib.hid (G8.out.set1 (.string ts))
            clear d0 d1 d2 d3
            generalize World.setCell w8 _ (.string ts) = W9 at G9 ⊢
            obtain ⟨d0, d1, d2, d3⟩ := G9.out.cells
            refine wp_region_held_drew (S := (fun w' => (w'.cell? ⟨w.heap.size, 0, none⟩ = some (.string n0) ∧ w'.cell? ⟨w.heap.size, 1, none⟩ = some (.string ts) ∧ w'.frozen? ⟨w.heap.size, 0, none⟩ = false ∧ w'.frozen? ⟨w.heap.size, 1, none⟩ = false) ∧ FB w w' w.heap.size (.string n0) (.string ts))) (by kernel_rfl) (fbs_of G9.out.drew) (fun hHeld => ?_)
            refine wpAnyH_takeD (i := 0) (v := ?_) (some 88) rfl rfl (by kernel_rfl) (by kernel_rfl) (by kernel_rfl) (fun _ _ _ h => h) (Or.inl ⟨by kernel_rfl, ?_⟩) (by assumption) ?_
            rotate_left
            · (intro w hSw; (try dsimp only at hSw); go_simp); all_goals with_reducible rfl
            try simp only [Act.put, List.setIfInBounds_toArray, List.set_cons_zero, List.set_cons_succ]
            refine wpAnyH_takeD (i := 1) (v := ?_) (some 89) rfl rfl (by kernel_rfl) (by kernel_rfl) (by kernel_rfl) (fun _ _ _ h => h) (Or.inl ⟨by kernel_rfl, ?_⟩) (by assumption) ?_
            rotate_left
            · (intro w hSw; (try dsimp only at hSw); go_simp); all_goals with_reducible rfl
            try simp only [Act.put, List.setIfInBounds_toArray, List.set_cons_zero, List.set_cons_succ]
            refine wpAnyH_takeD (i := 2) (v := ?_) (some 90) rfl rfl (by kernel_rfl) (by kernel_rfl) (by kernel_rfl) (fun _ _ _ h => h) (Or.inl ⟨by kernel_rfl, ?_⟩) (by assumption) ?_
            rotate_left
            · (intro w hSw; (try dsimp only at hSw); go_simp); all_goals with_reducible rfl
            try simp only [Act.put, List.setIfInBounds_toArray, List.set_cons_zero, List.set_cons_succ]
            refine wpAnyH_takeD (i := 3) (v := ?_) (some 91) rfl rfl (by kernel_rfl) (by kernel_rfl) (by kernel_rfl) (fun _ _ _ h => h) (Or.inl ⟨by kernel_rfl, ?_⟩) (by assumption) ?_
            rotate_left
            · (intro w hSw; (try dsimp only at hSw); go_simp); all_goals with_reducible rfl
            try simp only [Act.put, List.setIfInBounds_toArray, List.set_cons_zero, List.set_cons_succ]
            refine wpAnyH_takeD (i := 4) (v := undef) (some 92) rfl rfl (by kernel_rfl) (by kernel_rfl) (by kernel_rfl) (fun _ _ _ h => h) (Or.inr ⟨by kernel_rfl, rfl⟩) (by assumption) ?_
            try simp only [Act.put, List.setIfInBounds_toArray, List.set_cons_zero, List.set_cons_succ]
            refine wpAnyH_takeD (i := 5) (v := undef) (some 93) rfl rfl (by kernel_rfl) (by kernel_rfl) (by kernel_rfl) (fun _ _ _ h => h) (Or.inr ⟨by kernel_rfl, rfl⟩) (by assumption) ?_
            try simp only [Act.put, List.setIfInBounds_toArray, List.set_cons_zero, List.set_cons_succ]
            refine wpAnyH_takeD (i := 6) (v := ?_) (some 94) rfl rfl (by kernel_rfl) (by kernel_rfl) (by kernel_rfl) (fun _ _ _ h => h) (Or.inl ⟨by kernel_rfl, ?_⟩) (by assumption) ?_
            rotate_left
            · (intro w hSw; (try dsimp only at hSw); go_simp); all_goals with_reducible rfl
            try simp only [Act.put, List.setIfInBounds_toArray, List.set_cons_zero, List.set_cons_succ]
            refine wpAnyH_ready (rs := [7]) (by kernel_rfl) (by simp) ?_
            refine AllReadyH.cons rfl (fun K hK => ?_) AllReadyH.nil
            go_simp
            refine hK.out _ _ (fbs_of (G9.out.put2 _ _).drew) (fun hHeld => ?_)
            clear hK K
            refine wpAnyH_takeD (i := 8) (v := ?_) (some 7) rfl rfl (by kernel_rfl) (by kernel_rfl) (by kernel_rfl) (fun _ _ _ h => h) (Or.inl ⟨by kernel_rfl, ?_⟩) (by assumption) ?_
            rotate_left
            · (intro w hSw; (try dsimp only at hSw); go_simp); all_goals with_reducible rfl
            try simp only [Act.put, List.setIfInBounds_toArray, List.set_cons_zero, List.set_cons_succ]
            refine wpAnyH_takeD (i := 9) (v := ?_) (some 8) rfl rfl (by kernel_rfl) (by kernel_rfl) (by kernel_rfl) (fun _ _ _ h => h) (Or.inl ⟨by kernel_rfl, ?_⟩) (by assumption) ?_
            rotate_left
            · (intro w hSw; (try dsimp only at hSw); go_simp); all_goals with_reducible rfl
            try simp only [Act.put, List.setIfInBounds_toArray, List.set_cons_zero, List.set_cons_succ]
            refine wpAnyH_done (by kernel_rfl) ?_ _
            go_wp2_with fail
            obtain ⟨⟨z0, z1, _, _⟩, hz⟩ := (show (_ ∧ _ ∧ _ ∧ _) ∧ FB w _ w.heap.size (.string n0) (.string ts) by with_reducible assumption)
            refine bodyPost_ret (v := .tuple #[.agg #[.string n0, .string ts], .string trs, .bool false]) (by simp [results, Try.results67, go_sem, z0, z1]) rfl ⟨by simp only [Bool.true_and, Bool.false_and], hz.2.1⟩
          case true =>
            go_wp2_with fail
            refine (HT8.out _).mono ?_
            rintro e w8 ⟨rfl, b8⟩
            have G8 := Lib.hid (F2.out.further b8)
            clear b8
            obtain ⟨d0, d1, d2, d3⟩ := G8.out.cells
            go_wp2_with fail
            have G9 := Lib.hid (G8.out.set1 (.string ts))
            clear d0 d1 d2 d3
            generalize World.setCell w8 _ (.string ts) = W9 at G9 ⊢
            obtain ⟨d0, d1, d2, d3⟩ := G9.out.cells
            go_region_held (fun w' => (w'.cell? ⟨w.heap.size, 0, none⟩ = some (.string n0) ∧ w'.cell? ⟨w.heap.size, 1, none⟩ = some (.string ts) ∧ w'.frozen? ⟨w.heap.size, 0, none⟩ = false ∧ w'.frozen? ⟨w.heap.size, 1, none⟩ = false) ∧ FB w w' w.heap.size (.string n0) (.string ts))
              (first | with_reducible assumption | exact fbs_of G9.out.drew | (refine fbs_further ?_ (by with_reducible assumption); with_reducible assumption) | (refine fbs_put ?_; with_reducible assumption))
              (first | (go_at_call 41; refine (HMAY.out _).mono ?_; rintro e xm ⟨rfl, bm⟩))
            go_wp2_with fail
            obtain ⟨⟨z0, z1, _, _⟩, hz⟩ := (show (_ ∧ _ ∧ _ ∧ _) ∧ FB w _ w.heap.size (.string n0) (.string ts) by with_reducible assumption)
            refine bodyPost_ret (v := .tuple #[.agg #[.string n0, .string ts], .string trs, .bool mb]) (by simp [results, Try.results67, go_sem, z0, z1]) rfl ⟨by simp only [Bool.true_and, Bool.false_and], hz.2.1⟩
      case neg =>
        rw [if_neg c3]
        rw [decide_eq_false c3] at p3
        by_cases c4 : x / 16 = 2
        case pos =>
          rw [if_pos c4]
          rw [decide_eq_true c4] at p4
          have hk := fun w => takeText4 s w hs
          have hkr := takeText_len (byt s) 4
          rw [byt_length] at hkr
          generalize takeTextF (byt s) 4 = q at *
          obtain ⟨nl, rl, is⟩ := q
          simp only at hk hkr ⊢
          have hrz := txt_size rl
          generalize txt nl = n0 at *
          generalize txt rl = r at *
          have hr5 : r.size ≤ 5000 := by omega
          have HK := Lib.hid hk
          clear hk c1 c2 c3 c4 hrz hkr
          cases is
          case false =>
            rw [if_pos rfl]
            unfold emptyF Fl.v
            simp only
            go_enter Try.func67, Try.ntmps67
            go_wp2_with fail
            refine (HK.out _).mono ?_
            rintro e w1 ⟨rfl, b1⟩
            have F1 := Lib.hid (HF.out.further b1)
            have F2 := Lib.hid (F1.out.set0 (.string n0))
            clear b1
            obtain ⟨d0, d1, d2, d3⟩ := F1.out.cells
            go_wp2_with fail
            have BZ := FB.put2 F2.out (.string ⟨#[]⟩) (.string ⟨#[]⟩)
            change bodyPost _ _ _ _ _ (put2 _ _ (.string ⟨#[]⟩) (.string ⟨#[]⟩))
            generalize put2 _ _ (.string ⟨#[]⟩) (.string ⟨#[]⟩) = F at BZ ⊢
            obtain ⟨z0, z1, _, _⟩ := BZ.cells
            refine bodyPost_ret (v := .tuple #[.agg #[.string ⟨#[]⟩, .string ⟨#[]⟩], .string ⟨#[]⟩, .bool false]) (by simp [results, Try.results67, go_sem, z0, z1]) rfl ⟨rfl, BZ.2.1⟩
          case true =>
            rw [if_neg (by simp)]
            have ht8 := fun w => takeText8 r w (by omega)
            unfold valF
            generalize takeTextF (byt r) 8 = q8 at *
            obtain ⟨tv, tr, ti⟩ := q8
            simp only at ht8 ⊢
            generalize txt tv = ts at *
            generalize txt tr = trs at *
            have hmay := fun w => may_any (n0, ts) w
            generalize mayFl (n0, ts) = mb at *
            have HT8 := Lib.hid ht8
            have HMAY := Lib.hid hmay
            clear ht8 hmay
            unfold Fl.v
            simp only
            go_enter Try.func67, Try.ntmps67
            go_wp2_with fail
            refine (HK.out _).mono ?_
            rintro e w1 ⟨rfl, b1⟩
            have F1 := Lib.hid (HF.out.further b1)
            have F2 := Lib.hid (F1.out.set0 (.string n0))
            clear b1
            obtain ⟨e0, e1, e2, e3⟩ := F1.out.cells
            cases ti
            case false =>
              go_wp2_with fail
              refine (HT8.out _).mono ?_
              rintro e w8 ⟨rfl, b8⟩
              have G8 := Lib.hid (F2.out.further b8)
              clear b8
              obtain ⟨d0, d1, d2, d3⟩ := G8.out.cells
              go_wp2_with fail
              have G9 := Lib.hid (G8.out.set1 (.string ts))
              clear d0 d1 d2 d3
              generalize World.setCell w8 _ (.string ts) = W9 at G9 ⊢
              obtain ⟨d0, d1, d2, d3⟩ := G9.out.cells
              refine wp_region_held_drew (S := (fun w' => (w'.cell? ⟨w.heap.size, 0, none⟩ = some (.string n0) ∧ w'.cell? ⟨w.heap.size, 1, none⟩ = some (.string ts) ∧ w'.frozen? ⟨w.heap.size, 0, none⟩ = false ∧ w'.frozen? ⟨w.heap.size, 1, none⟩ = false) ∧ FB w w' w.heap.size (.string n0) (.string ts))) (by kernel_rfl) (fbs_of G9.out.drew) (fun hHeld => ?_)
              refine wpAnyH_takeD (i := 0) (v := ?_) (some 88) rfl rfl (by kernel_rfl) (by kernel_rfl) (by kernel_rfl) (fun _ _ _ h => h) (Or.inl ⟨by kernel_rfl, ?_⟩) (by assumption) ?_
              rotate_left
              · (intro w hSw; (try dsimp only at hSw); go_simp); all_goals with_reducible rfl
              try simp only [Act.put, List.setIfInBounds_toArray, List.set_cons_zero, List.set_cons_succ]
              refine wpAnyH_takeD (i := 1) (v := ?_) (some 89) rfl rfl (by kernel_rfl) (by kernel_rfl) (by kernel_rfl) (fun _ _ _ h => h) (Or.inl ⟨by kernel_rfl, ?_⟩) (by assumption) ?_
              rotate_left
              · (intro w hSw; (try dsimp only at hSw); go_simp); all_goals with_reducible rfl
              try simp only [Act.put, List.setIfInBounds_toArray, List.set_cons_zero, List.set_cons_succ]
              refine wpAnyH_takeD (i := 2) (v := ?_) (some 90) rfl rfl (by kernel_rfl) (by kernel_rfl) (by kernel_rfl) (fun _ _ _ h => h) (Or.inl ⟨by kernel_rfl, ?_⟩) (by assumption) ?_
              rotate_left
              · (intro w hSw; (try dsimp only at hSw); go_simp); all_goals with_reducible rfl
              try simp only [Act.put, List.setIfInBounds_toArray, List.set_cons_zero, List.set_cons_succ]
              refine wpAnyH_takeD (i := 3) (v := ?_) (some 91) rfl rfl (by kernel_rfl) (by kernel_rfl) (by kernel_rfl) (fun _ _ _ h => h) (Or.inl ⟨by kernel_rfl, ?_⟩) (by assumption) ?_
              rotate_left
              · (intro w hSw; (try dsimp only at hSw); go_simp); all_goals with_reducible rfl
              try simp only [Act.put, List.setIfInBounds_toArray, List.set_cons_zero, List.set_cons_succ]
              refine wpAnyH_takeD (i := 4) (v := undef) (some 92) rfl rfl (by kernel_rfl) (by kernel_rfl) (by kernel_rfl) (fun _ _ _ h => h) (Or.inr ⟨by kernel_rfl, rfl⟩) (by assumption) ?_
              try simp only [Act.put, List.setIfInBounds_toArray, List.set_cons_zero, List.set_cons_succ]
              refine wpAnyH_takeD (i := 5) (v := undef) (some 93) rfl rfl (by kernel_rfl) (by kernel_rfl) (by kernel_rfl) (fun _ _ _ h => h) (Or.inr ⟨by kernel_rfl, rfl⟩) (by assumption) ?_
              try simp only [Act.put, List.setIfInBounds_toArray, List.set_cons_zero, List.set_cons_succ]
              refine wpAnyH_takeD (i := 6) (v := ?_) (some 94) rfl rfl (by kernel_rfl) (by kernel_rfl) (by kernel_rfl) (fun _ _ _ h => h) (Or.inl ⟨by kernel_rfl, ?_⟩) (by assumption) ?_
              rotate_left
              · (intro w hSw; (try dsimp only at hSw); go_simp); all_goals with_reducible rfl
              try simp only [Act.put, List.setIfInBounds_toArray, List.set_cons_zero, List.set_cons_succ]
              refine wpAnyH_ready (rs := [7]) (by kernel_rfl) (by simp) ?_
              refine AllReadyH.cons rfl (fun K hK => ?_) AllReadyH.nil
              go_simp
              refine hK.out _ _ (fbs_of (G9.out.put2 _ _).drew) (fun hHeld => ?_)
              clear hK K
              refine wpAnyH_takeD (i := 8) (v := ?_) (some 7) rfl rfl (by kernel_rfl) (by kernel_rfl) (by kernel_rfl) (fun _ _ _ h => h) (Or.inl ⟨by kernel_rfl, ?_⟩) (by assumption) ?_
              rotate_left
              · (intro w hSw; (try dsimp only at hSw); go_simp); all_goals with_reducible rfl
              try simp only [Act.put, List.setIfInBounds_toArray, List.set_cons_zero, List.set_cons_succ]
              refine wpAnyH_takeD (i := 9) (v := ?_) (some 8) rfl rfl (by kernel_rfl) (by kernel_rfl) (by kernel_rfl) (fun _ _ _ h => h) (Or.inl ⟨by kernel_rfl, ?_⟩) (by assumption) ?_
              rotate_left
              · (intro w hSw; (try dsimp only at hSw); go_simp); all_goals with_reducible rfl
              try simp only [Act.put, List.setIfInBounds_toArray, List.set_cons_zero, List.set_cons_succ]
              refine wpAnyH_done (by kernel_rfl) ?_ _
              go_wp2_with fail
              obtain ⟨⟨z0, z1, _, _⟩, hz⟩ := (show (_ ∧ _ ∧ _ ∧ _) ∧ FB w _ w.heap.size (.string n0) (.string ts) by with_reducible assumption)
              refine bodyPost_ret (v := .tuple #[.agg #[.string n0, .string ts], .string trs, .bool false]) (by simp [results, Try.results67, go_sem, z0, z1]) rfl ⟨by simp only [Bool.true_and, Bool.false_and], hz.2.1⟩
            case true =>
              go_wp2_with fail
              refine (HT8.out _).mono ?_
              rintro e w8 ⟨rfl, b8⟩
              have G8 := Lib.hid (F2.out.further b8)
              clear b8
              obtain ⟨d0, d1, d2, d3⟩ := G8.out.cells
              go_wp2_with fail
              have G9 := Lib.hid (G8.out.set1 (.string ts))
              clear d0 d1 d2 d3
              generalize World.setCell w8 _ (.string ts) = W9 at G9 ⊢
              obtain ⟨d0, d1, d2, d3⟩ := G9.out.cells
              go_region_held (fun w' => (w'.cell? ⟨w.heap.size, 0, none⟩ = some (.string n0) ∧ w'.cell? ⟨w.heap.size, 1, none⟩ = some (.string ts) ∧ w'.frozen? ⟨w.heap.size, 0, none⟩ = false ∧ w'.frozen? ⟨w.heap.size, 1, none⟩ = false) ∧ FB w w' w.heap.size (.string n0) (.string ts))
                (first | with_reducible assumption | exact fbs_of G9.out.drew | (refine fbs_further ?_ (by with_reducible assumption); with_reducible assumption) | (refine fbs_put ?_; with_reducible assumption))
                (first | (go_at_call 41; refine (HMAY.out _).mono ?_; rintro e xm ⟨rfl, bm⟩))
              go_wp2_with fail
              obtain ⟨⟨z0, z1, _, _⟩, hz⟩ := (show (_ ∧ _ ∧ _ ∧ _) ∧ FB w _ w.heap.size (.string n0) (.string ts) by with_reducible assumption)
              refine bodyPost_ret (v := .tuple #[.agg #[.string n0, .string ts], .string trs, .bool mb]) (by simp [results, Try.results67, go_sem, z0, z1]) rfl ⟨by simp only [Bool.true_and, Bool.false_and], hz.2.1⟩
        case neg =>
          rw [if_neg c4]
          rw [decide_eq_false c4] at p4
          clear c1 c2 c3 c4
          unfold emptyF Fl.v
          simp only
          go_enter Try.func67, Try.ntmps67
          obtain ⟨d0, d1, d2, d3⟩ := HF.out.cells
          go_wp2_with fail
          obtain ⟨z0, z1, _, _⟩ := HF.out.cells
          refine bodyPost_ret (v := .tuple #[.agg #[.string ⟨#[]⟩, .string ⟨#[]⟩], .string ⟨#[]⟩, .bool false]) (by simp [results, Try.results67, go_sem, z0, z1]) rfl ⟨rfl, HF.out.2.1⟩

end Go.Proofs.Ytgnoiheekgmleaa
