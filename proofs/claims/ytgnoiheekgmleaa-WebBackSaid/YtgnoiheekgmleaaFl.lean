/- fields: contract of instruction. -/
import Derived.Test.YtgnoiheekgmleaaFk
namespace Go.Proofs.Ytgnoiheekgmleaa
open Go.ChangeShapes Go.WideShapes Go.RowKit
set_option linter.unusedVariables false
set_option linter.unusedSimpArgs false

/-- A field with the value that stands next. -/
def valF (n0 r : ByteArray) : Fl × ByteArray × Bool :=
  ((n0, txt (takeTextF (byt r) 8).1), txt (takeTextF (byt r) 8).2.1, (takeTextF (byt r) 8).2.2 && mayFl (n0, txt (takeTextF (byt r) 8).1))
/-- An instruction off. -/
def instrF (s : ByteArray) : Fl × ByteArray × Bool :=
  if ((byt s).headD 0).toNat / 64 = 3 then (if (knownF s 6).2.2 = false then (emptyF, ⟨#[]⟩, false) else valF (knownF s 6).1.1 (knownF s 6).2.1)
  else if ((byt s).headD 0).toNat / 64 = 1 then (if (takeTextF (byt s) 6).2.2 = false then (emptyF, ⟨#[]⟩, false) else valF (txt (takeTextF (byt s) 6).1) (txt (takeTextF (byt s) 6).2.1))
  else (emptyF, ⟨#[]⟩, false)

theorem takeText_len (l : List UInt8) (k : Nat) : (takeTextF l k).2.1.length ≤ l.length := by
  have := takeF_len l (k - 1)
  unfold takeTextF
  split
  · simp
  · split <;> simp only [List.length_drop] <;> omega
theorem takeText_less (l : List UInt8) (k : Nat) (h : (takeTextF l k).2.2 = true) : (takeTextF l k).2.1.length < l.length := by
  unfold takeTextF at h ⊢
  split
  · rename_i hc
    rw [if_pos hc] at h
    cases h
  · rename_i hc
    have : (takeF l (k - 1)).2.2 = true := by cases hh : (takeF l (k - 1)).2.2 <;> simp_all
    have := takeF_less l (k - 1) this
    split <;> simp only [List.length_drop] <;> omega
theorem valF_len (n0 r : ByteArray) : (valF n0 r).2.1.size ≤ r.size := by
  unfold valF
  simp only
  rw [txt_size]
  have := takeText_len (byt r) 8
  rw [byt_length] at this
  exact this
theorem instrF_len (s : ByteArray) (h : (instrF s).2.2 = true) : (instrF s).2.1.size < s.size := by
  unfold instrF at h ⊢
  by_cases c3 : ((byt s).headD 0).toNat / 64 = 3
  · rw [if_pos c3] at h ⊢
    by_cases ck : (knownF s 6).2.2 = false
    · rw [if_pos ck] at h; cases h
    · rw [if_neg ck]
      have := knownF_len s 6 (by cases hh : (knownF s 6).2.2 <;> simp_all)
      have := valF_len (knownF s 6).1.1 (knownF s 6).2.1
      omega
  · rw [if_neg c3] at h ⊢
    by_cases c1 : ((byt s).headD 0).toNat / 64 = 1
    · rw [if_pos c1] at h ⊢
      by_cases ck : (takeTextF (byt s) 6).2.2 = false
      · rw [if_pos ck] at h; cases h
      · rw [if_neg ck]
        have := takeText_less (byt s) 6 (by cases hh : (takeTextF (byt s) 6).2.2 <;> simp_all)
        rw [byt_length] at this
        have := valF_len (txt (takeTextF (byt s) 6).1) (txt (takeTextF (byt s) 6).2.1)
        rw [txt_size] at this
        omega
    · rw [if_neg c1] at h; cases h

/-- A field's cells while a region draws. -/
theorem fbs_of {w w' : World} {g : Nat} {a b : Value} (h : FB w w' g a b) : (w'.cell? ⟨g, 0, none⟩ = some a ∧ w'.cell? ⟨g, 1, none⟩ = some b ∧ w'.frozen? ⟨g, 0, none⟩ = false ∧ w'.frozen? ⟨g, 1, none⟩ = false) ∧ FB w w' g a b := ⟨h.cells, h⟩
theorem fbs_further {w w1 x : World} {g : Nat} {a b : Value} (h : (w1.cell? ⟨g, 0, none⟩ = some a ∧ w1.cell? ⟨g, 1, none⟩ = some b ∧ w1.frozen? ⟨g, 0, none⟩ = false ∧ w1.frozen? ⟨g, 1, none⟩ = false) ∧ FB w w1 g a b) (bq : Below w1.heap.size w1 x) :
    (x.cell? ⟨g, 0, none⟩ = some a ∧ x.cell? ⟨g, 1, none⟩ = some b ∧ x.frozen? ⟨g, 0, none⟩ = false ∧ x.frozen? ⟨g, 1, none⟩ = false) ∧ FB w x g a b := fbs_of (h.2.further bq)
theorem fbs_put {w w1 : World} {g : Nat} {a b : Value} (h : (w1.cell? ⟨g, 0, none⟩ = some a ∧ w1.cell? ⟨g, 1, none⟩ = some b ∧ w1.frozen? ⟨g, 0, none⟩ = false ∧ w1.frozen? ⟨g, 1, none⟩ = false) ∧ FB w w1 g a b) :
    (((w1.setCell ⟨g, 0, none⟩ a).setCell ⟨g, 1, none⟩ b).cell? ⟨g, 0, none⟩ = some a ∧ ((w1.setCell ⟨g, 0, none⟩ a).setCell ⟨g, 1, none⟩ b).cell? ⟨g, 1, none⟩ = some b ∧ ((w1.setCell ⟨g, 0, none⟩ a).setCell ⟨g, 1, none⟩ b).frozen? ⟨g, 0, none⟩ = false ∧ ((w1.setCell ⟨g, 0, none⟩ a).setCell ⟨g, 1, none⟩ b).frozen? ⟨g, 1, none⟩ = false) ∧
      FB w ((w1.setCell ⟨g, 0, none⟩ a).setCell ⟨g, 1, none⟩ b) g a b := fbs_of (h.2.put2 a b)

theorem first_bits (x : Nat) (h : x < 256) : ((bits BinOp.and IntKind.u8 (x : Int) 192 == 192) = decide (x / 64 = 3)) ∧ ((bits BinOp.and IntKind.u8 (x : Int) 192 == 64) = decide (x / 64 = 1)) ∧ ((bits BinOp.and IntKind.u8 (x : Int) 192 == 128) = decide (x / 64 = 2)) ∧
    ((bits BinOp.and IntKind.u8 (x : Int) 240 == 80) = decide (x / 16 = 5)) ∧ ((bits BinOp.and IntKind.u8 (x : Int) 240 == 32) = decide (x / 16 = 2)) := by
  have H : ∀ x : Fin 256, ((bits BinOp.and IntKind.u8 (x.val : Int) 192 == 192) = decide (x.val / 64 = 3)) ∧ ((bits BinOp.and IntKind.u8 (x.val : Int) 192 == 64) = decide (x.val / 64 = 1)) ∧ ((bits BinOp.and IntKind.u8 (x.val : Int) 192 == 128) = decide (x.val / 64 = 2)) ∧
    ((bits BinOp.and IntKind.u8 (x.val : Int) 240 == 80) = decide (x.val / 16 = 5)) ∧ ((bits BinOp.and IntKind.u8 (x.val : Int) 240 == 32) = decide (x.val / 16 = 2)) := by decide +kernel
  exact H ⟨x, h⟩

theorem known6 (s : ByteArray) (w : World) (hs : s.size ≤ 100000) :
    Calls Try.prog 60 #[.string s, .int .i64 6] w fun e w' => e = .returned (.tuple #[(knownF s 6).1.v, .string (knownF s 6).2.1, .bool (knownF s 6).2.2]) ∧ Below w.heap.size w w' := known_any s 6 w hs (by omega)
theorem known4 (s : ByteArray) (w : World) (hs : s.size ≤ 100000) :
    Calls Try.prog 60 #[.string s, .int .i64 4] w fun e w' => e = .returned (.tuple #[(knownF s 4).1.v, .string (knownF s 4).2.1, .bool (knownF s 4).2.2]) ∧ Below w.heap.size w w' := known_any s 4 w hs (by omega)
theorem takeText6 (s : ByteArray) (w : World) (hs : s.size ≤ 5000) :
    Calls Try.prog 61 #[.string s, .int .i64 6] w fun e w' => e = .returned (.tuple #[.string (txt (takeTextF (byt s) 6).1), .string (txt (takeTextF (byt s) 6).2.1), .bool (takeTextF (byt s) 6).2.2]) ∧ Below w.heap.size w w' := takeText_any s 5 w hs (by omega)
theorem takeText4 (s : ByteArray) (w : World) (hs : s.size ≤ 5000) :
    Calls Try.prog 61 #[.string s, .int .i64 4] w fun e w' => e = .returned (.tuple #[.string (txt (takeTextF (byt s) 4).1), .string (txt (takeTextF (byt s) 4).2.1), .bool (takeTextF (byt s) 4).2.2]) ∧ Below w.heap.size w w' := takeText_any s 3 w hs (by omega)
theorem takeText8 (s : ByteArray) (w : World) (hs : s.size ≤ 5000) :
    Calls Try.prog 61 #[.string s, .int .i64 8] w fun e w' => e = .returned (.tuple #[.string (txt (takeTextF (byt s) 8).1), .string (txt (takeTextF (byt s) 8).2.1), .bool (takeTextF (byt s) 8).2.2]) ∧ Below w.heap.size w w' := takeText_any s 7 w hs (by omega)

set_option maxRecDepth 100000 in
set_option maxHeartbeats 4000000 in
theorem instruction_any (s : ByteArray) (w : World) (hs : s.size ≤ 5000) (h0 : 0 < s.size) :
    Calls Try.prog 35 #[.string s] w fun e w' => e = .returned (.tuple #[(instrF s).1.v, .string (instrF s).2.1, .bool (instrF s).2.2]) ∧ Below w.heap.size w w' := by
  obtain ⟨x, hx⟩ : ∃ x, ((byt s).headD 0).toNat = x := ⟨_, rfl⟩
  have hx8 : x < 256 := by rw [← hx]; exact UInt8.toNat_lt _
  have hsx : s[0].toNat = x := by
    have hh : ∀ (l : List UInt8) (h : 0 < l.length), l[0].toNat = (l.headD 0).toNat := by
      intro l h
      cases l with
      | nil => simp at h
      | cons b r => rfl
    rw [byt_get, ← hx]
    exact hh (byt s) (by rw [byt_length]; exact h0)
  obtain ⟨p1, p2, _, _, _⟩ := first_bits x hx8
  have hS1 : (1 : Int) ≤ (s.size : Int) := by omega
  have HF := Lib.hid (FB.new w (.string ⟨#[]⟩) (.string ⟨#[]⟩))
  unfold instrF
  rw [hx]
  clear hx
  by_cases c3 : x / 64 = 3
  case pos =>
    rw [if_pos c3]
    rw [decide_eq_true c3] at p1
    rw [decide_eq_false (show ¬ x / 64 = 1 by omega)] at p2
    have hk := fun w => known6 s w (by omega)
    have hkr := knownF_rest s 6
    generalize knownF s 6 = q at *
    obtain ⟨⟨n0, v0⟩, r, is⟩ := q
    unfold Fl.v at hk
    simp only at hk hkr ⊢
    have HK := Lib.hid hk
    clear hk c3
    cases is
    case false =>
      rw [if_pos rfl]
      unfold emptyF Fl.v
      simp only
      go_enter Try.func35, Try.ntmps35
      go_wp2_with fail
      refine (HK.out _).mono ?_
      rintro e w1 ⟨rfl, b1⟩
      have F1 := Lib.hid (HF.out.further b1)
      have F2 := Lib.hid ((F1.out.set0 (.string n0)).set1 (.string v0))
      clear b1
      obtain ⟨d0, d1, d2, d3⟩ := F1.out.cells
      go_wp2_with fail
      have BZ := FB.put2 F2.out (.string ⟨#[]⟩) (.string ⟨#[]⟩)
      change bodyPost _ _ _ _ _ (put2 _ _ (.string ⟨#[]⟩) (.string ⟨#[]⟩))
      generalize put2 _ _ (.string ⟨#[]⟩) (.string ⟨#[]⟩) = F at BZ ⊢
      obtain ⟨z0, z1, _, _⟩ := BZ.cells
      refine bodyPost_ret (v := .tuple #[.agg #[.string ⟨#[]⟩, .string ⟨#[]⟩], .string ⟨#[]⟩, .bool false]) (by simp [results, Try.results35, go_sem, z0, z1]) rfl ⟨rfl, BZ.2.1⟩
    case true =>
      rw [if_neg (by simp)]
      have ht8 := fun w => takeText8 r w (by omega)
      unfold valF
      generalize takeTextF (byt r) 8 = q8 at *
      obtain ⟨tv, tr, ti⟩ := q8
      simp only at ht8 ⊢
      generalize txt tv = ts at *
      generalize txt tr = trs at *
      have hmay := fun w => may_any (n0, ts) w
      generalize mayFl (n0, ts) = mb at *
      have HT8 := Lib.hid ht8
      have HMAY := Lib.hid hmay
      clear ht8 hmay
      unfold Fl.v
      simp only
      go_enter Try.func35, Try.ntmps35
      go_wp2_with fail
      refine (HK.out _).mono ?_
      rintro e w1 ⟨rfl, b1⟩
      have F1 := Lib.hid (HF.out.further b1)
      have F2 := Lib.hid ((F1.out.set0 (.string n0)).set1 (.string v0))
      clear b1
      obtain ⟨e0, e1, e2, e3⟩ := F1.out.cells
      cases ti
      case false =>
        go_wp2_with fail
        refine (HT8.out _).mono ?_
        rintro e w8 ⟨rfl, b8⟩
        have G8 := Lib.hid (F2.out.further b8)
        clear b8
        obtain ⟨d0, d1, d2, d3⟩ := G8.out.cells
        go_wp2_with fail
        have G9 := Lib.hid (G8.out.set1 (.string ts))
        clear d0 d1 d2 d3
        generalize World.setCell w8 _ (.string ts) = W9 at G9 ⊢
        obtain ⟨d0, d1, d2, d3⟩ := G9.out.cells
        refine wp_region_held_drew (S := (fun w' => (w'.cell? ⟨w.heap.size, 0, none⟩ = some (.string n0) ∧ w'.cell? ⟨w.heap.size, 1, none⟩ = some (.string ts) ∧ w'.frozen? ⟨w.heap.size, 0, none⟩ = false ∧ w'.frozen? ⟨w.heap.size, 1, none⟩ = false) ∧ FB w w' w.heap.size (.string n0) (.string ts))) (by kernel_rfl) (fbs_of G9.out.drew) (fun hHeld => ?_)
        refine wpAnyH_takeD (i := 0) (v := ?_) (some 35) rfl rfl (by kernel_rfl) (by kernel_rfl) (by kernel_rfl) (fun _ _ _ h => h) (Or.inl ⟨by kernel_rfl, ?_⟩) (by assumption) ?_
        rotate_left
        · (intro w hSw; (try dsimp only at hSw); go_simp); all_goals with_reducible rfl
        try simp only [Act.put, List.setIfInBounds_toArray, List.set_cons_zero, List.set_cons_succ]
        refine wpAnyH_takeD (i := 1) (v := ?_) (some 36) rfl rfl (by kernel_rfl) (by kernel_rfl) (by kernel_rfl) (fun _ _ _ h => h) (Or.inl ⟨by kernel_rfl, ?_⟩) (by assumption) ?_
        rotate_left
        · (intro w hSw; (try dsimp only at hSw); go_simp); all_goals with_reducible rfl
        try simp only [Act.put, List.setIfInBounds_toArray, List.set_cons_zero, List.set_cons_succ]
        refine wpAnyH_takeD (i := 2) (v := ?_) (some 37) rfl rfl (by kernel_rfl) (by kernel_rfl) (by kernel_rfl) (fun _ _ _ h => h) (Or.inl ⟨by kernel_rfl, ?_⟩) (by assumption) ?_
        rotate_left
        · (intro w hSw; (try dsimp only at hSw); go_simp); all_goals with_reducible rfl
        try simp only [Act.put, List.setIfInBounds_toArray, List.set_cons_zero, List.set_cons_succ]
        refine wpAnyH_takeD (i := 3) (v := ?_) (some 38) rfl rfl (by kernel_rfl) (by kernel_rfl) (by kernel_rfl) (fun _ _ _ h => h) (Or.inl ⟨by kernel_rfl, ?_⟩) (by assumption) ?_
        rotate_left
        · (intro w hSw; (try dsimp only at hSw); go_simp); all_goals with_reducible rfl
        try simp only [Act.put, List.setIfInBounds_toArray, List.set_cons_zero, List.set_cons_succ]
        refine wpAnyH_takeD (i := 4) (v := undef) (some 39) rfl rfl (by kernel_rfl) (by kernel_rfl) (by kernel_rfl) (fun _ _ _ h => h) (Or.inr ⟨by kernel_rfl, rfl⟩) (by assumption) ?_
        try simp only [Act.put, List.setIfInBounds_toArray, List.set_cons_zero, List.set_cons_succ]
        refine wpAnyH_takeD (i := 5) (v := undef) (some 40) rfl rfl (by kernel_rfl) (by kernel_rfl) (by kernel_rfl) (fun _ _ _ h => h) (Or.inr ⟨by kernel_rfl, rfl⟩) (by assumption) ?_
        try simp only [Act.put, List.setIfInBounds_toArray, List.set_cons_zero, List.set_cons_succ]
        refine wpAnyH_takeD (i := 6) (v := ?_) (some 41) rfl rfl (by kernel_rfl) (by kernel_rfl) (by kernel_rfl) (fun _ _ _ h => h) (Or.inl ⟨by kernel_rfl, ?_⟩) (by assumption) ?_
        rotate_left
        · (intro w hSw; (try dsimp only at hSw); go_simp); all_goals with_reducible rfl
        try simp only [Act.put, List.setIfInBounds_toArray, List.set_cons_zero, List.set_cons_succ]
        refine wpAnyH_ready (rs := [7]) (by kernel_rfl) (by simp) ?_
        refine AllReadyH.cons rfl (fun K hK => ?_) AllReadyH.nil
        go_simp
        refine hK.out _ _ (fbs_of (G9.out.put2 _ _).drew) (fun hHeld => ?_)
        clear hK K
        refine wpAnyH_takeD (i := 8) (v := ?_) (some 3) rfl rfl (by kernel_rfl) (by kernel_rfl) (by kernel_rfl) (fun _ _ _ h => h) (Or.inl ⟨by kernel_rfl, ?_⟩) (by assumption) ?_
        rotate_left
        · (intro w hSw; (try dsimp only at hSw); go_simp); all_goals with_reducible rfl
        try simp only [Act.put, List.setIfInBounds_toArray, List.set_cons_zero, List.set_cons_succ]
        refine wpAnyH_takeD (i := 9) (v := ?_) (some 4) rfl rfl (by kernel_rfl) (by kernel_rfl) (by kernel_rfl) (fun _ _ _ h => h) (Or.inl ⟨by kernel_rfl, ?_⟩) (by assumption) ?_
        rotate_left
        · (intro w hSw; (try dsimp only at hSw); go_simp); all_goals with_reducible rfl
        try simp only [Act.put, List.setIfInBounds_toArray, List.set_cons_zero, List.set_cons_succ]
        refine wpAnyH_done (by kernel_rfl) ?_ _
        go_wp2_with fail
        obtain ⟨⟨z0, z1, _, _⟩, hz⟩ := (show (_ ∧ _ ∧ _ ∧ _) ∧ FB w _ w.heap.size (.string n0) (.string ts) by with_reducible assumption)
        refine bodyPost_ret (v := .tuple #[.agg #[.string n0, .string ts], .string trs, .bool false]) (by simp [results, Try.results35, go_sem, z0, z1]) rfl ⟨by simp only [Bool.true_and, Bool.false_and], hz.2.1⟩
      case true =>
        go_wp2_with fail
        refine (HT8.out _).mono ?_
        rintro e w8 ⟨rfl, b8⟩
        have G8 := Lib.hid (F2.out.further b8)
        clear b8
        obtain ⟨d0, d1, d2, d3⟩ := G8.out.cells
        go_wp2_with fail
        have G9 := Lib.hid (G8.out.set1 (.string ts))
        clear d0 d1 d2 d3
        generalize World.setCell w8 _ (.string ts) = W9 at G9 ⊢
        obtain ⟨d0, d1, d2, d3⟩ := G9.out.cells
        go_region_held (fun w' => (w'.cell? ⟨w.heap.size, 0, none⟩ = some (.string n0) ∧ w'.cell? ⟨w.heap.size, 1, none⟩ = some (.string ts) ∧ w'.frozen? ⟨w.heap.size, 0, none⟩ = false ∧ w'.frozen? ⟨w.heap.size, 1, none⟩ = false) ∧ FB w w' w.heap.size (.string n0) (.string ts))
          (first | with_reducible assumption | exact fbs_of G9.out.drew | (refine fbs_further ?_ (by with_reducible assumption); with_reducible assumption) | (refine fbs_put ?_; with_reducible assumption))
          (first | (go_at_call 41; refine (HMAY.out _).mono ?_; rintro e xm ⟨rfl, bm⟩))
        go_wp2_with fail
        obtain ⟨⟨z0, z1, _, _⟩, hz⟩ := (show (_ ∧ _ ∧ _ ∧ _) ∧ FB w _ w.heap.size (.string n0) (.string ts) by with_reducible assumption)
        refine bodyPost_ret (v := .tuple #[.agg #[.string n0, .string ts], .string trs, .bool mb]) (by simp [results, Try.results35, go_sem, z0, z1]) rfl ⟨by simp only [Bool.true_and, Bool.false_and], hz.2.1⟩
  case neg =>
    rw [if_neg c3]
    rw [decide_eq_false c3] at p1
    by_cases c1 : x / 64 = 1
    case pos =>
      rw [if_pos c1]
      rw [decide_eq_true c1] at p2
      have hk := fun w => takeText6 s w hs
      have hkr := takeText_len (byt s) 6
      rw [byt_length] at hkr
      generalize takeTextF (byt s) 6 = q at *
      obtain ⟨nl, rl, is⟩ := q
      simp only at hk hkr ⊢
      have hrz := txt_size rl
      generalize txt nl = n0 at *
      generalize txt rl = r at *
      have hr5 : r.size ≤ 5000 := by omega
      have HK := Lib.hid hk
      clear hk c1 c3 hrz hkr
      cases is
      case false =>
        rw [if_pos rfl]
        unfold emptyF Fl.v
        simp only
        go_enter Try.func35, Try.ntmps35
        go_wp2_with fail
        refine (HK.out _).mono ?_
        rintro e w1 ⟨rfl, b1⟩
        have F1 := Lib.hid (HF.out.further b1)
        have F2 := Lib.hid (F1.out.set0 (.string n0))
        clear b1
        obtain ⟨d0, d1, d2, d3⟩ := F1.out.cells
        go_wp2_with fail
        have BZ := FB.put2 F2.out (.string ⟨#[]⟩) (.string ⟨#[]⟩)
        change bodyPost _ _ _ _ _ (put2 _ _ (.string ⟨#[]⟩) (.string ⟨#[]⟩))
        generalize put2 _ _ (.string ⟨#[]⟩) (.string ⟨#[]⟩) = F at BZ ⊢
        obtain ⟨z0, z1, _, _⟩ := BZ.cells
        refine bodyPost_ret (v := .tuple #[.agg #[.string ⟨#[]⟩, .string ⟨#[]⟩], .string ⟨#[]⟩, .bool false]) (by simp [results, Try.results35, go_sem, z0, z1]) rfl ⟨rfl, BZ.2.1⟩
      case true =>
        rw [if_neg (by simp)]
        have ht8 := fun w => takeText8 r w (by omega)
        unfold valF
        generalize takeTextF (byt r) 8 = q8 at *
        obtain ⟨tv, tr, ti⟩ := q8
        simp only at ht8 ⊢
        generalize txt tv = ts at *
        generalize txt tr = trs at *
        have hmay := fun w => may_any (n0, ts) w
        generalize mayFl (n0, ts) = mb at *
        have HT8 := Lib.hid ht8
        have HMAY := Lib.hid hmay
        clear ht8 hmay
        unfold Fl.v
        simp only
        go_enter Try.func35, Try.ntmps35
        go_wp2_with fail
        refine (HK.out _).mono ?_
        rintro e w1 ⟨rfl, b1⟩
        have F1 := Lib.hid (HF.out.further b1)
        have F2 := Lib.hid (F1.out.set0 (.string n0))
        clear b1
        obtain ⟨e0, e1, e2, e3⟩ := F1.out.cells
        cases ti
        case false =>
          go_wp2_with fail
          refine (HT8.out _).mono ?_
          rintro e w8 ⟨rfl, b8⟩
          have G8 := Lib.hid (F2.out.further b8)
          clear b8
          obtain ⟨d0, d1, d2, d3⟩ := G8.out.cells
          go_wp2_with fail
          have G9 := Lib.hid (G8.out.set1 (.string ts))
          clear d0 d1 d2 d3
          generalize World.setCell w8 _ (.string ts) = W9 at G9 ⊢
          obtain ⟨d0, d1, d2, d3⟩ := G9.out.cells
          refine wp_region_held_drew (S := (fun w' => (w'.cell? ⟨w.heap.size, 0, none⟩ = some (.string n0) ∧ w'.cell? ⟨w.heap.size, 1, none⟩ = some (.string ts) ∧ w'.frozen? ⟨w.heap.size, 0, none⟩ = false ∧ w'.frozen? ⟨w.heap.size, 1, none⟩ = false) ∧ FB w w' w.heap.size (.string n0) (.string ts))) (by kernel_rfl) (fbs_of G9.out.drew) (fun hHeld => ?_)
          refine wpAnyH_takeD (i := 0) (v := ?_) (some 35) rfl rfl (by kernel_rfl) (by kernel_rfl) (by kernel_rfl) (fun _ _ _ h => h) (Or.inl ⟨by kernel_rfl, ?_⟩) (by assumption) ?_
          rotate_left
          · (intro w hSw; (try dsimp only at hSw); go_simp); all_goals with_reducible rfl
          try simp only [Act.put, List.setIfInBounds_toArray, List.set_cons_zero, List.set_cons_succ]
          refine wpAnyH_takeD (i := 1) (v := ?_) (some 36) rfl rfl (by kernel_rfl) (by kernel_rfl) (by kernel_rfl) (fun _ _ _ h => h) (Or.inl ⟨by kernel_rfl, ?_⟩) (by assumption) ?_
          rotate_left
          · (intro w hSw; (try dsimp only at hSw); go_simp); all_goals with_reducible rfl
          try simp only [Act.put, List.setIfInBounds_toArray, List.set_cons_zero, List.set_cons_succ]
          refine wpAnyH_takeD (i := 2) (v := ?_) (some 37) rfl rfl (by kernel_rfl) (by kernel_rfl) (by kernel_rfl) (fun _ _ _ h => h) (Or.inl ⟨by kernel_rfl, ?_⟩) (by assumption) ?_
          rotate_left
          · (intro w hSw; (try dsimp only at hSw); go_simp); all_goals with_reducible rfl
          try simp only [Act.put, List.setIfInBounds_toArray, List.set_cons_zero, List.set_cons_succ]
          refine wpAnyH_takeD (i := 3) (v := ?_) (some 38) rfl rfl (by kernel_rfl) (by kernel_rfl) (by kernel_rfl) (fun _ _ _ h => h) (Or.inl ⟨by kernel_rfl, ?_⟩) (by assumption) ?_
          rotate_left
          · (intro w hSw; (try dsimp only at hSw); go_simp); all_goals with_reducible rfl
          try simp only [Act.put, List.setIfInBounds_toArray, List.set_cons_zero, List.set_cons_succ]
          refine wpAnyH_takeD (i := 4) (v := undef) (some 39) rfl rfl (by kernel_rfl) (by kernel_rfl) (by kernel_rfl) (fun _ _ _ h => h) (Or.inr ⟨by kernel_rfl, rfl⟩) (by assumption) ?_
          try simp only [Act.put, List.setIfInBounds_toArray, List.set_cons_zero, List.set_cons_succ]
          refine wpAnyH_takeD (i := 5) (v := undef) (some 40) rfl rfl (by kernel_rfl) (by kernel_rfl) (by kernel_rfl) (fun _ _ _ h => h) (Or.inr ⟨by kernel_rfl, rfl⟩) (by assumption) ?_
          try simp only [Act.put, List.setIfInBounds_toArray, List.set_cons_zero, List.set_cons_succ]
          refine wpAnyH_takeD (i := 6) (v := ?_) (some 41) rfl rfl (by kernel_rfl) (by kernel_rfl) (by kernel_rfl) (fun _ _ _ h => h) (Or.inl ⟨by kernel_rfl, ?_⟩) (by assumption) ?_
          rotate_left
          · (intro w hSw; (try dsimp only at hSw); go_simp); all_goals with_reducible rfl
          try simp only [Act.put, List.setIfInBounds_toArray, List.set_cons_zero, List.set_cons_succ]
          refine wpAnyH_ready (rs := [7]) (by kernel_rfl) (by simp) ?_
          refine AllReadyH.cons rfl (fun K hK => ?_) AllReadyH.nil
          go_simp
          refine hK.out _ _ (fbs_of (G9.out.put2 _ _).drew) (fun hHeld => ?_)
          clear hK K
          refine wpAnyH_takeD (i := 8) (v := ?_) (some 3) rfl rfl (by kernel_rfl) (by kernel_rfl) (by kernel_rfl) (fun _ _ _ h => h) (Or.inl ⟨by kernel_rfl, ?_⟩) (by assumption) ?_
          rotate_left
          · (intro w hSw; (try dsimp only at hSw); go_simp); all_goals with_reducible rfl
          try simp only [Act.put, List.setIfInBounds_toArray, List.set_cons_zero, List.set_cons_succ]
          refine wpAnyH_takeD (i := 9) (v := ?_) (some 4) rfl rfl (by kernel_rfl) (by kernel_rfl) (by kernel_rfl) (fun _ _ _ h => h) (Or.inl ⟨by kernel_rfl, ?_⟩) (by assumption) ?_
          rotate_left
          · (intro w hSw; (try dsimp only at hSw); go_simp); all_goals with_reducible rfl
          try simp only [Act.put, List.setIfInBounds_toArray, List.set_cons_zero, List.set_cons_succ]
          refine wpAnyH_done (by kernel_rfl) ?_ _
          go_wp2_with fail
          obtain ⟨⟨z0, z1, _, _⟩, hz⟩ := (show (_ ∧ _ ∧ _ ∧ _) ∧ FB w _ w.heap.size (.string n0) (.string ts) by with_reducible assumption)
          refine bodyPost_ret (v := .tuple #[.agg #[.string n0, .string ts], .string trs, .bool false]) (by simp [results, Try.results35, go_sem, z0, z1]) rfl ⟨by simp only [Bool.true_and, Bool.false_and], hz.2.1⟩
        case true =>
          go_wp2_with fail
          refine (HT8.out _).mono ?_
          rintro e w8 ⟨rfl, b8⟩
          have G8 := Lib.hid (F2.out.further b8)
          clear b8
          obtain ⟨d0, d1, d2, d3⟩ := G8.out.cells
          go_wp2_with fail
          have G9 := Lib.hid (G8.out.set1 (.string ts))
          clear d0 d1 d2 d3
          generalize World.setCell w8 _ (.string ts) = W9 at G9 ⊢
          obtain ⟨d0, d1, d2, d3⟩ := G9.out.cells
          go_region_held (fun w' => (w'.cell? ⟨w.heap.size, 0, none⟩ = some (.string n0) ∧ w'.cell? ⟨w.heap.size, 1, none⟩ = some (.string ts) ∧ w'.frozen? ⟨w.heap.size, 0, none⟩ = false ∧ w'.frozen? ⟨w.heap.size, 1, none⟩ = false) ∧ FB w w' w.heap.size (.string n0) (.string ts))
            (first | with_reducible assumption | exact fbs_of G9.out.drew | (refine fbs_further ?_ (by with_reducible assumption); with_reducible assumption) | (refine fbs_put ?_; with_reducible assumption))
            (first | (go_at_call 41; refine (HMAY.out _).mono ?_; rintro e xm ⟨rfl, bm⟩))
          go_wp2_with fail
          obtain ⟨⟨z0, z1, _, _⟩, hz⟩ := (show (_ ∧ _ ∧ _ ∧ _) ∧ FB w _ w.heap.size (.string n0) (.string ts) by with_reducible assumption)
          refine bodyPost_ret (v := .tuple #[.agg #[.string n0, .string ts], .string trs, .bool mb]) (by simp [results, Try.results35, go_sem, z0, z1]) rfl ⟨by simp only [Bool.true_and, Bool.false_and], hz.2.1⟩
    case neg =>
      rw [if_neg c1]
      rw [decide_eq_false c1] at p2
      unfold emptyF Fl.v
      simp only
      clear c1 c3
      go_enter Try.func35, Try.ntmps35
      obtain ⟨d0, d1, d2, d3⟩ := HF.out.cells
      go_wp2_with fail
      obtain ⟨z0, z1, _, _⟩ := HF.out.cells
      refine bodyPost_ret (v := .tuple #[.agg #[.string ⟨#[]⟩, .string ⟨#[]⟩], .string ⟨#[]⟩, .bool false]) (by simp [results, Try.results35, go_sem, z0, z1]) rfl ⟨rfl, HF.out.2.1⟩

end Go.Proofs.Ytgnoiheekgmleaa
