/- web: PutSettings; TakeSettings of what PutSettings tells, and of another kind's frame. -/
import Derived.Test.YtgnoiheekgmleaaEj
import Derived.Deep.RegionHeld
namespace Go.Proofs.Ytgnoiheekgmleaa
open Go.ChangeShapes Go.WideShapes Go.RowKit
set_option linter.unusedVariables false

def setB (l : List (Nat × Nat)) : List UInt8 := l.flatMap fun p => putB p.1 ++ putB p.2
def putSetF (l : List (Nat × Nat)) : List UInt8 × Int := if rightL [] l = true then (frameB 4 (setB l), 0) else ([], 2)

theorem setB_take (l : List (Nat × Nat)) (j k v : Nat) (h : l[j]? = some (k, v)) : setB (l.take (j + 1)) = setB (l.take j) ++ (putB k ++ putB v) := by
  unfold setB
  rw [List.take_add_one, h, Option.toList_some, List.flatMap_append]
  simp
theorem setB_drop (l : List (Nat × Nat)) (j k v : Nat) (h : l[j]? = some (k, v)) : setB (l.drop j) = putB k ++ (putB v ++ setB (l.drop (j + 1))) := by
  obtain ⟨hj, he⟩ := List.getElem?_eq_some_iff.1 h
  rw [List.drop_eq_getElem_cons hj, he]
  show (putB k ++ putB v) ++ setB _ = _
  rw [List.append_assoc]
theorem setB_le : ∀ l : List (Nat × Nat), (setB l).length ≤ 16 * l.length
  | [] => Nat.le_refl _
  | (k, v) :: l => by
    have := setB_le l
    have := putB_le k
    have := putB_le v
    show ((putB k ++ putB v) ++ setB l).length ≤ _
    rw [List.length_append, List.length_append, List.length_cons]
    omega
theorem right_max : ∀ (l : List (Nat × Nat)) (K : List Nat), rightL K l = true → ∀ r ∈ l, r.1 < 4611686018427387904 ∧ r.2 < 4611686018427387904
  | [], K, _, r, hr => by cases hr
  | (k, v) :: l, K, h, r, hr => by
    unfold rightL at h
    split at h
    · cases h
    · rename_i hc
      rcases List.mem_cons.1 hr with rfl | hr
      · simp only
        have : ¬ 4611686018427387903 < max k v := fun h => hc (.inr (.inr (.inr h)))
        omega
      · exact right_max l (k :: K) h r hr

theorem PrS.further {w x y : World} {g : Nat} {u1 u2 : Value} (h : (x.cell? ⟨g, 0, none⟩ = some u1 ∧ x.cell? ⟨g, 1, none⟩ = some u2) ∧ Below w.heap.size w x) (hb : Below x.heap.size x y) :
    (y.cell? ⟨g, 0, none⟩ = some u1 ∧ y.cell? ⟨g, 1, none⟩ = some u2) ∧ Below w.heap.size w y :=
  ⟨⟨(hb.cell (World.block_lt_of_cell? x _ h.1.1)).trans h.1.1, (hb.cell (World.block_lt_of_cell? x _ h.1.2)).trans h.1.2⟩, h.2.trans (hb.mono h.2.size)⟩

set_option maxRecDepth 100000 in
set_option maxHeartbeats 2000000 in
theorem PutSettings_any (l : List (Nat × Nat)) (p : Option Addr) (cap : Nat) (w : World) (hL : PV w p l) (hN2 : Num2 l) (hlen : l.length ≤ 10000) :
    Calls Try.prog 14 #[.slice p l.length cap] w fun e w' => e = .returned (.tuple #[.string (txt (putSetF l).1), .int .i64 (putSetF l).2]) ∧ Below w.heap.size w w' := by
  have hr := right_any l p cap w hL hN2 hlen
  have hz := setB_le l
  unfold putSetF
  obtain ⟨c, hc⟩ : ∃ c, rightL [] l = c := ⟨_, rfl⟩
  rw [hc] at hr ⊢
  obtain ⟨N, hN⟩ : ∃ N, l.length = N := ⟨_, rfl⟩
  rw [hN] at hr hlen hz ⊢
  have HN := Lib.hid hN
  have HL := Lib.hid hL
  have HM := Lib.hid hN2
  have HRi := Lib.hid hr
  clear hr hL hN2 hN hc
  cases c with
  | false =>
    rw [if_neg (by decide)]
    go_enter Try.func14, Try.ntmps14
    go_wp2_with fail
    refine HRi.out.mono ?_
    rintro e w1 ⟨rfl, hb1⟩
    have HB1 := Lib.hid hb1
    clear hb1 HRi
    go_wp2_with fail
    go_ret2
    exact ⟨rfl, HB1.out⟩
  | true =>
    rw [if_pos rfl]
    have hP := fun W => wPut_any 4 (txt (setB l)) W (by decide) (by rw [txt_size]; omega)
    rw [byt_txt] at hP
    obtain ⟨Q, hQ⟩ : ∃ Q, txt (setB l) = Q := ⟨_, rfl⟩
    rw [hQ] at hP
    have HP := Lib.hid hP
    have HQ := Lib.hid hQ
    have H0 : Hid (txt (setB (l.take 0)) = (⟨#[]⟩ : ByteArray)) := Lib.hid rfl
    clear hP hQ hz
    go_enter Try.func14, Try.ntmps14
    go_wp2_with fail
    refine HRi.out.mono ?_
    rintro e w1 ⟨rfl, hb1⟩
    have HB1 := Lib.hid hb1
    clear hb1 HRi
    go_wp2_with fail
    go_loopg [4, 6, 12] N (fun gk s _ i wr => ∃ (j : Nat), j + gk = N ∧ i = .int .i64 j ∧ s = .string (txt (setB (l.take j))) ∧ Below w.heap.size w wr)
    case atStart => exact ⟨0, by omega, rfl, by rw [H0.out], HB1.out⟩
    case round =>
      obtain ⟨j, hj, rfl, rfl, hB⟩ := hrel
      by_cases hlt : j < N
      · have hjl : j < l.length := by rw [HN.out]; exact hlt
        obtain ⟨⟨k, v⟩, hq⟩ : ∃ q, l[j]? = some q := ⟨_, List.getElem?_eq_getElem hjl⟩
        obtain ⟨g, o, rfl, hg, hc⟩ := HL.out.below hB (by omega)
        obtain ⟨k1, k2⟩ := hc j _ hq
        obtain ⟨b1, b2⟩ := HM.out _ (List.mem_of_getElem? hq)
        simp only at k1 k2 b1 b2
        have hst := setB_take l j k v hq
        have hz := setB_le (l.take j)
        rw [List.length_take] at hz
        have hzk := putB_le k
        have hzv := putB_le v
        have h1 := fun W => wputs_any k W b1
        have h2 := fun W => wputs_any v W b2
        have hst2 : txt (setB (l.take (j + 1))) = txt (setB (l.take j)) ++ (txt (putB k) ++ txt (putB v)) := by rw [hst, wtxt_app, wtxt_app]
        have s1 : (txt (setB (l.take j))).size ≤ 160000 := by rw [txt_size]; omega
        have s2 : (txt (putB k)).size ≤ 8 := by rw [txt_size]; omega
        have s3 : (txt (putB v)).size ≤ 8 := by rw [txt_size]; omega
        obtain ⟨S0, hS0⟩ : ∃ S0, txt (setB (l.take j)) = S0 := ⟨_, rfl⟩
        obtain ⟨K0, hK0⟩ : ∃ K0, txt (putB k) = K0 := ⟨_, rfl⟩
        obtain ⟨V0, hV0⟩ : ∃ V0, txt (putB v) = V0 := ⟨_, rfl⟩
        rw [hS0, hK0, hV0] at hst2
        rw [hS0] at s1 ⊢
        rw [hK0] at s2 h1
        rw [hV0] at s3 h2
        have e1 : ¬ 9223372036854775807 < K0.size + V0.size := by omega
        have e2 : ¬ 9223372036854775807 < S0.size + (K0 ++ V0).size := by rw [ba_app_size]; omega
        have e3 : ¬ 9223372036854775807 < S0.size + (K0.size + V0.size) := by omega
        obtain ⟨gx, hgx⟩ : ∃ gx, wr.heap.size = gx := ⟨_, rfl⟩
        have hbx := blk.new wr 46 [.int .u64 (k : Int), .int .u64 (v : Int)]
        rw [hgx] at hbx
        have hBx := hB.alloc (o := .cells #[.int .u64 (k : Int), .int .u64 (v : Int)] 46) hB.size
        have HS0 := Lib.hid (show ((wr.alloc (.cells #[.int .u64 (k : Int), .int .u64 (v : Int)] 46)).drew.cell? ⟨gx, 0, none⟩ = some (.int .u64 (k : Int)) ∧ (wr.alloc (.cells #[.int .u64 (k : Int), .int .u64 (v : Int)] 46)).drew.cell? ⟨gx, 1, none⟩ = some (.int .u64 (v : Int))) ∧ Below w.heap.size w (wr.alloc (.cells #[.int .u64 (k : Int), .int .u64 (v : Int)] 46)).drew from ⟨⟨hbx.drew.cell (k := 0) rfl, hbx.drew.cell (k := 1) rfl⟩, hBx.drew⟩)
        have H1 := Lib.hid h1
        have H2 := Lib.hid h2
        have HG := Lib.hid hgx
        have HST := Lib.hid hst2
        clear hc hq hst hz hzk hzv h1 h2 hst2 hS0 hK0 hV0 hgx hbx hBx hB hjl s1 s2 s3
        go_wp2_with fail
        rw [HG.out]
        generalize hW : wr.alloc (.cells #[.int .u64 (k : Int), .int .u64 (v : Int)] 46) = W at HS0 ⊢
        clear hW
        go_region_held (fun w' => (w'.cell? ⟨gx, 0, none⟩ = some (.int .u64 (k : Int)) ∧ w'.cell? ⟨gx, 1, none⟩ = some (.int .u64 (v : Int))) ∧ Below w.heap.size w w')
          (first | with_reducible assumption | with_reducible exact HS0.out | with_reducible exact PrS.further (by with_reducible assumption) b5 | with_reducible exact PrS.further (by with_reducible assumption) b4)
          (first | (go_at_call 33; with_reducible refine (H1.out _).mono ?_; rintro e x1 ⟨rfl, b4⟩) | (go_at_call 33; with_reducible refine (H2.out _).mono ?_; rintro e x2 ⟨rfl, b5⟩))
        have HX := Lib.hid (show ((_ : World).cell? ⟨gx, 0, none⟩ = some (.int .u64 (k : Int)) ∧ (_ : World).cell? ⟨gx, 1, none⟩ = some (.int .u64 (v : Int))) ∧ Below w.heap.size w _ by with_reducible assumption)
        go_wp2_with fail
        go_roundg (gk - 1)
        case measure => omega
        case rel => exact ⟨j + 1, by omega, by go_num, by rw [HST.out], HX.out.2⟩
      · have hjN : j = N := by omega
        subst hjN
        have he : l.take j = l := by rw [← HN.out, List.take_length]
        rw [he, HQ.out]
        have HB := Lib.hid hB
        clear hB he
        go_wp2_with fail
        refine (HP.out _).mono ?_
        rintro e w2 ⟨rfl, hb2⟩
        have HB2 := Lib.hid (HB.out.trans (hb2.mono HB.out.size))
        clear hb2 HP
        go_wp2_with fail
        go_ret2
        exact ⟨rfl, HB2.out⟩

/-- A row of pairs of the call's own. -/
def prc (L : List (Nat × Nat)) : List Value := L.flatMap fun r => [.int .u64 (r.1 : Int), .int .u64 (r.2 : Int)]
theorem prc_at (L : List (Nat × Nat)) : ∀ (i : Nat) (f : Nat × Nat), L[i]? = some f → (prc L)[i * 2]? = some (.int .u64 (f.1 : Int)) ∧ (prc L)[i * 2 + 1]? = some (.int .u64 (f.2 : Int)) := by
  induction L with
  | nil => intro i f h; simp at h
  | cons g L ih =>
    intro i f h
    have e : prc (g :: L) = .int .u64 (g.1 : Int) :: .int .u64 (g.2 : Int) :: prc L := rfl
    cases i with
    | zero =>
      simp at h
      subst h
      exact ⟨rfl, rfl⟩
    | succ i =>
      simp only [List.getElem?_cons_succ] at h
      have := ih i f h
      rw [e, show (i + 1) * 2 = i * 2 + 2 by omega]
      exact this
def OwnPr (B : Nat) (w : World) (v : Value) (L : List (Nat × Nat)) : Prop := w.ownsRow B 46 2 v L.length (prc L)
theorem OwnPr.nil (B : Nat) (w : World) : OwnPr B w (.slice none 0 0) [] := World.ownsRow_nil _ _ _ _
theorem OwnPr.below {B : Nat} {w w' : World} {v : Value} {L : List (Nat × Nat)} (h : OwnPr B w v L) (hb : Below w.heap.size w w') : OwnPr B w' v L := own_below h hb
theorem OwnPr.pv {B : Nat} {w : World} {p : Option Addr} {n cap : Nat} {L : List (Nat × Nat)} (h : OwnPr B w (.slice p n cap) L) : PV w p L := by
  intro hl
  obtain ⟨g, cap', hv, hb, hg, hc, _⟩ := own_view h hl
  injection hv with hv1 hv2 hv3
  refine ⟨g, 0, hv1, hg, fun i f hf => ?_⟩
  obtain ⟨h1, h2⟩ := prc_at L i f hf
  rw [Nat.zero_add]
  exact ⟨hc _ _ h1, hc _ _ h2⟩
set_option maxRecDepth 100000 in
theorem Try.infoPr : (Try.prog.info? 46).map (fun i => (i.zero, i.size, i.bytes)) = some (some (.agg #[.int .u64 0, .int .u64 0]), 2, 16) := by kernel_rfl

/-- 'l = append(l, Pair{k, v})'. -/
theorem appPr {ops : Array Oper} {rest : List Oper} {o : Oper} {a : Act} {Q : Exit → Act → World → Prop} (wr : World) (hgd : o.guard = none) (s x : Operand)
    (ho : o.op = .call { callee := .builtin .append, args := #[s, x], argTypes := #[39, 39] })
    (B : Nat) (v : Value) (L : List (Nat × Nat)) (n0 v0 : Nat) (hs : a.eval s = v) (hx : a.eval x = .slice (some ⟨wr.heap.size, 0, none⟩) 1 1)
    (hown : OwnPr B wr v L) (hl : L.length ≤ 1000000) (hB : B ≤ wr.heap.size)
    (h : ∀ v' w', OwnPr B w' v' (L ++ [(n0, v0)]) → Below B wr w' → wpList Try.prog ops Q rest (a.put o.dst v') w') : wpList Try.prog ops Q (o :: rest) a (wr.alloc (.cells #[.int .u64 (n0 : Int), .int .u64 (v0 : Int)] 46)) := by
  obtain ⟨i, hi, hz, hsz, hy⟩ := info_parts Try.infoPr
  refine wpList_append_new wr hgd s x 39 ho B 46 i _ 2 16 Try.underlying39 hi hz hsz hy rfl (by decide) v L.length (prc L) hown [.int .u64 (n0 : Int), .int .u64 (v0 : Int)] _ rfl rfl ?_ hl (by decide) hB hs hx ?_
  · intro u hu
    simp at hu
    rcases hu with rfl | rfl <;> rfl
  · intro v' w' h1 h2 _
    refine h v' w' ?_ (h2.below hB (fun k hk => (World.ownsRow.lt hown k hk).1))
    unfold OwnPr
    rw [List.length_append, List.length_singleton, show prc (L ++ [(n0, v0)]) = prc L ++ [.int .u64 (n0 : Int), .int .u64 (v0 : Int)] by unfold prc; rw [List.flatMap_append]; rfl]
    exact h1

set_option maxRecDepth 100000 in
set_option maxHeartbeats 2000000 in
theorem TakeSettings_other (s : ByteArray) (w : World) (hs : s.size ≤ 1000000) (h : (wtake (byt s)).2.2.2 = 2 ∨ (wtake (byt s)).2.2.2 = 0 ∧ (wtake (byt s)).1 ≠ 4) :
    Calls Try.prog 15 #[.string s] w fun e w' => e = .returned (.tuple #[.slice none 0 0, .int .i64 2]) ∧ Below w.heap.size w w' := by
  have ht := wTake_any s w hs
  rcases hT : wtake (byt s) with ⟨k, d, r, e⟩
  rw [hT] at ht h
  simp only at h
  have HT := Lib.hid ht
  clear ht hT
  rcases h with rfl | ⟨rfl, hk⟩
  · go_enter Try.func15, Try.ntmps15
    go_wp2_with fail
    unfold takeV at HT
    refine HT.out.mono ?_
    rintro e w1 ⟨rfl, hb1⟩
    have HB1 := Lib.hid hb1
    clear hb1 HT
    go_wp2_with fail
    go_ret2
    exact ⟨rfl, HB1.out⟩
  · have d4 : ¬ (k : Int) = 4 := by omega
    clear hk
    go_enter Try.func15, Try.ntmps15
    go_wp2_with fail
    unfold takeV at HT
    refine HT.out.mono ?_
    rintro e w1 ⟨rfl, hb1⟩
    have HB1 := Lib.hid hb1
    clear hb1 HT
    go_wp2_with fail
    go_ret2
    exact ⟨rfl, HB1.out⟩

set_option maxRecDepth 100000 in
set_option maxHeartbeats 2000000 in
theorem TakeSettings_right (l : List (Nat × Nat)) (w : World) (hr : rightL [] l = true) (hlen : l.length ≤ 10000) :
    Calls Try.prog 15 #[.string (txt (frameB 4 (setB l)))] w fun e w' => ∃ v, e = .returned (.tuple #[v, .int .i64 0]) ∧ OwnPr w.heap.size w' v l ∧ Below w.heap.size w w' := by
  have hz := setB_le l
  have hmx := right_max l [] hr
  have hri := fun p cap W (hL : PV W p l) => right_any l p cap W hL (fun r h => by have := hmx r h; omega) hlen
  rw [hr] at hri
  have ht := fun W => wTake_any (txt (frameB 4 (setB l))) W (by rw [txt_size]; have := frameB_le 4 (setB l); omega)
  rw [byt_txt, show frameB 4 (setB l) = frameB 4 (setB l) ++ [] by rw [List.append_nil], wtake_frame (by decide) (by decide) _ _ (by omega), List.append_nil] at ht
  obtain ⟨F, hF⟩ : ∃ F, txt (frameB 4 (setB l)) = F := ⟨_, rfl⟩
  rw [hF] at ht ⊢
  obtain ⟨N, hN⟩ : ∃ N, l.length = N := ⟨_, rfl⟩
  rw [hN] at hri hlen hz
  obtain ⟨D, hD⟩ : ∃ D, txt (setB l) = D := ⟨_, rfl⟩
  have HT := Lib.hid ht
  have HRi := Lib.hid hri
  have HM := Lib.hid hmx
  have HN := Lib.hid hN
  have HD := Lib.hid hD
  clear ht hri hmx hN hr hF hD
  go_enter Try.func15, Try.ntmps15
  go_wp2_with fail
  unfold takeV at HT
  simp only [HD.out, txt_nil] at HT
  refine (HT.out _).mono ?_
  rintro e w1 ⟨rfl, hb1⟩
  have HB1 := Lib.hid hb1
  clear hb1 HT
  go_wp2_with fail
  go_loopg [5, 8] N (fun gk s v wr => ∃ (j : Nat), j + gk = N ∧ s = .string (txt (setB (l.drop j))) ∧ OwnPr w.heap.size wr v (l.take j) ∧ Below w.heap.size w wr)
  case atStart => exact ⟨0, by omega, by rw [List.drop_zero, HD.out], OwnPr.nil _ _, HB1.out⟩
  case round =>
    obtain ⟨j, hj, rfl, hO, hB⟩ := hrel
    by_cases hlt : j < N
    · have hjl : j < l.length := by rw [HN.out]; exact hlt
      obtain ⟨⟨k, v⟩, hq⟩ : ∃ q, l[j]? = some q := ⟨_, List.getElem?_eq_getElem hjl⟩
      obtain ⟨b1, b2⟩ := HM.out _ (List.mem_of_getElem? hq)
      simp only at b1 b2
      have hst := setB_drop l j k v hq
      have htk : l.take (j + 1) = l.take j ++ [(k, v)] := by rw [List.take_add_one, hq]; rfl
      have hz := setB_le (l.drop j)
      rw [List.length_drop, HN.out] at hz
      have hne : setB (l.drop j) ≠ [] := by
        have := putB_pos b1
        rw [hst]
        intro h
        have h2 := congrArg List.length h
        rw [List.length_append, List.length_nil] at h2
        omega
      have h1 := fun W => number_any (txt (setB (l.drop j))) W (by rw [txt_size]; omega)
      rw [byt_txt, hst, wnum_putB b1] at h1
      rw [hst] at hz hne ⊢
      have h2 := fun W => number_any (txt (putB v ++ setB (l.drop (j + 1)))) W (by rw [txt_size]; rw [List.length_append] at hz; omega)
      rw [byt_txt, wnum_putB b2] at h2
      simp only at h1 h2
      obtain ⟨n1, n2⟩ := txt_ne hne
      obtain ⟨A0, hA0⟩ : ∃ A0, txt (putB k ++ (putB v ++ setB (l.drop (j + 1)))) = A0 := ⟨_, rfl⟩
      obtain ⟨A1, hA1⟩ : ∃ A1, txt (putB v ++ setB (l.drop (j + 1))) = A1 := ⟨_, rfl⟩
      obtain ⟨A2, hA2⟩ : ∃ A2, txt (setB (l.drop (j + 1))) = A2 := ⟨_, rfl⟩
      rw [hA0] at h1 n1 n2 ⊢
      rw [hA1] at h1 h2
      rw [hA2] at h2
      have H1 := Lib.hid h1
      have H2 := Lib.hid h2
      have HA2 := Lib.hid hA2
      have HO := Lib.hid hO
      have HB := Lib.hid hB
      have HTk := Lib.hid htk
      have HLj := Lib.hid (show (l.take j).length ≤ 1000000 by rw [List.length_take]; omega)
      clear h1 h2 hA0 hA1 hA2 hO hB htk hz hne hst hq hjl
      go_wp2_with fail
      refine (H1.out _).mono ?_
      rintro e w2 ⟨rfl, hb2⟩
      have HO2 := Lib.hid (HO.out.below hb2)
      have HB2 := Lib.hid (HB.out.trans (hb2.mono HB.out.size))
      clear hb2 H1 HO HB
      go_wp2_with fail
      refine (H2.out _).mono ?_
      rintro e w3 ⟨rfl, hb3⟩
      have HO3 := Lib.hid (HO2.out.below hb3)
      have HB3 := Lib.hid (HB2.out.trans (hb3.mono HB2.out.size))
      clear hb3 H2 HO2 HB2
      go_wp2_with (at_builtin; refine appPr w3 rfl (.tmp 51) (.tmp 55) rfl w.heap.size _ (l.take j) k v rfl (by simp [Act.eval]) HO3.out HLj.out HB3.out.size ?_)
      intro v4 w4 ho4 hb4
      have HO4 := Lib.hid ho4
      have HB4 := Lib.hid (HB3.out.trans hb4)
      clear ho4 hb4
      go_wp2_with fail
      go_roundg (gk - 1)
      case measure => omega
      case rel => exact ⟨j + 1, by omega, by rw [HA2.out], by rw [HTk.out]; exact HO4.out, HB4.out⟩
    · have hjN : j = N := by omega
      subst hjN
      have he : l.take j = l := by rw [← HN.out, List.take_length]
      have he2 : l.drop j = [] := by rw [List.drop_eq_nil_iff]; have := HN.out; omega
      rw [he] at hO
      rw [he2]
      obtain ⟨p2, cap2, rfl, _⟩ := own_shape hO
      have hRi := HRi.out p2 cap2 wr hO.pv
      rw [HN.out] at hO ⊢
      have HR2 := Lib.hid hRi
      have HO := Lib.hid hO
      have HB := Lib.hid hB
      have H0 : Hid (txt (setB []) = (⟨#[]⟩ : ByteArray)) := Lib.hid rfl
      rw [H0.out]
      clear hO hB he he2 hRi HRi
      go_wp2_with fail
      refine HR2.out.mono ?_
      rintro e w5 ⟨rfl, hb5⟩
      have HO5 := Lib.hid (HO.out.below hb5)
      have HB5 := Lib.hid (HB.out.trans (hb5.mono HB.out.size))
      clear hb5 HR2 HO HB
      go_wp2_with fail
      go_ret2
      exact ⟨_, rfl, HO5.out, HB5.out⟩

end Go.Proofs.Ytgnoiheekgmleaa
