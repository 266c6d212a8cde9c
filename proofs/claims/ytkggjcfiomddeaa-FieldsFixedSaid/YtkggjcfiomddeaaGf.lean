/- fields: FieldsFixed: plain, and the walk. -/
import Derived.Test.YtkggjcfiomddeaaGp
import Derived.Test.YtkggjcfiomddeaaGd
import Derived.OpenShut
namespace Go.Proofs.Ytkggjcfiomddeaa
open Go.ChangeShapes Go.WideShapes Go.RowKit
set_option linter.unusedVariables false
set_option linter.unusedSimpArgs false

theorem where_all {L : List Fl} (h : ∀ f ∈ L, mayFl f = true) : ¬ 0 ≤ whereF L (fun f => !mayFl f) := by
  intro h0
  obtain ⟨i, _, hi, hp⟩ := where_is h0
  have hm : L.getD i emptyF ∈ L := by
    rw [List.getD_eq_getElem?_getD, List.getElem?_eq_getElem hi]
    exact List.getElem_mem hi
  rw [h _ hm] at hp
  cases hp

theorem fixed_may : ∀ f ∈ fixedL, mayFl f = true := by decide +kernel

theorem fixed_come {S : Tbl} {f : Fl} (h : f ∈ fixedL) : comeF S f = (S, ⟨#[]⟩) := by
  unfold comeF
  rw [if_pos (.inl ((has_iff _ _).2 h))]
theorem fixed_fold : ∀ (M : List Fl) (S : Tbl) (t : ByteArray) (m : Int), (∀ f ∈ M, f ∈ fixedL) → M.foldl stepW (S, t, m) = (S, t, m)
  | [], S, t, m, _ => rfl
  | f :: M, S, t, m, h => by
    have hf := h f (List.mem_cons_self ..)
    have e : stepW (S, t, m) f = (S, t, m) := by
      unfold stepW
      simp only [fixed_come hf]
      rw [if_pos ((has_iff _ _).2 hf), ba_app_empty]
    rw [List.foldl_cons, e]
    exact fixed_fold M S t m (fun g hg => h g (List.mem_cons_of_mem _ hg))
theorem fixed_one {l : List Fl} {m : Int} {f : Fl} (h : f ∈ fixedL) : (oneF l m f).size = 1 := by
  have h0 : 0 ≤ idxF fixedL f := by
    have := (has_iff fixedL f).2 h
    unfold hasF at this
    exact of_decide_eq_true this
  obtain ⟨i, hi, hi2, _⟩ := fixed_idx h0
  unfold oneF
  rw [if_pos h0, hi]
  unfold nF
  rw [txt_size]
  show (numberF i 6 192).length = 1
  unfold numberF
  rw [if_pos (by simp only [Nat.reducePow]; omega)]
  rfl
theorem fixed_ones (l : List Fl) (m : Int) : ∀ (M : List Fl), (∀ f ∈ M, f ∈ fixedL) → (onesF l m M).size = M.length
  | [], _ => rfl
  | f :: M, h => by
    have e : onesF l m (f :: M) = oneF l m f ++ onesF l m M := rfl
    rw [e, ba_app_size, fixed_one (h f (List.mem_cons_self ..)), fixed_ones l m M (fun g hg => h g (List.mem_cons_of_mem _ hg)), List.length_cons]
    omega
/-- Fixed fields need no table. -/
theorem fixed_write (S : Tbl) (M : List Fl) (h : ∀ f ∈ M, f ∈ fixedL) (hl : M.length ≤ 100) : ∃ sec, writeF S M = (S, ⟨#[]⟩, sec, 0) ∧ sec.size = 2 + M.length ∧ ∀ l', readF l' sec = (M, 0) := by
  have hmay : ∀ f ∈ M, mayFl f = true := fun f hf => fixed_may f (h f hf)
  have hfw : foldW S M = (S, ⟨#[]⟩, 0) := fixed_fold M S _ _ h
  refine ⟨secF S.l 0 M, ?_, ?_, fun l' => ?_⟩
  · unfold writeF
    rw [if_neg (by omega), if_neg (where_all hmay), hfw]
  · unfold secF
    rw [fold_ones, ba_app_size, ba_app_size, fixed_ones _ _ _ h]
    have e : (nF 0 8 0).size = 1 := by
      unfold nF
      rw [txt_size]
      show (numberF 0 8 0).length = 1
      unfold numberF
      rw [if_pos (by decide)]
      rfl
    have e2 : (⟨#[0]⟩ : ByteArray).size = 1 := rfl
    omega
  · have := sec_back S.l l' 0 (by omega) M (fun f hf => ⟨hmay f hf, fun hn => by
      have := (has_iff fixedL f).2 (h f hf)
      unfold hasF at this
      have := of_decide_eq_true this
      omega⟩) hl
    rw [if_neg (by omega), if_pos (by simp)] at this
    exact this

/-- Bytes in a slice. -/
def U8V (w : World) (p : Option Addr) (Z : List Nat) : Prop :=
  (∀ c ∈ Z, c < 256) ∧ (0 < Z.length → ∃ g o, p = some ⟨g, o, none⟩ ∧ g < w.heap.size ∧ ∀ (i c : Nat), Z[i]? = some c → w.cell? ⟨g, o + i, none⟩ = some (.int .u8 (c : Int)))
theorem U8V.below {w w' : World} {p : Option Addr} {Z : List Nat} (h : U8V w p Z) (hb : Below w.heap.size w w') : U8V w' p Z := by
  refine ⟨h.1, fun hl => ?_⟩
  obtain ⟨g, o, e, hg, hc⟩ := h.2 hl
  exact ⟨g, o, e, Nat.lt_of_lt_of_le hg hb.size, fun i c hi => (hb.cell (p := ⟨g, o + i, none⟩) hg).trans (hc i c hi)⟩

def RowI (k : IntKind) (w : World) (a : Option Addr) (len cap : Nat) (zs : List Int) : Prop :=
  (a = none ∧ len = 0 ∧ cap = 0 ∧ zs = []) ∨
  ∃ x, a = some x ∧ len ≤ cap ∧ cap ≤ maxLen ∧ zs.length = cap ∧ (∀ i, i < zs.length → w.cell? (x.add i) = some (.int k (zs.getD i 0))) ∧ ∀ n ∈ zs, (Lit.int k n).wf = true

theorem u8v_of {w : World} {a : Option Addr} {len cap : Nat} {zs : List Int} (h : RowI .u8 w a len cap zs) : ∃ Z : List Nat, Z.length = len ∧ U8V w a Z ∧ cap ≤ maxLen := by
  rcases h with ⟨rfl, rfl, rfl, rfl⟩ | ⟨x, rfl, h1, h2, h3, h4, h5⟩
  · exact ⟨[], rfl, ⟨fun c hc => (by cases hc), fun h => (by simp at h)⟩, by unfold maxLen; omega⟩
  · have hb : ∀ i, i < zs.length → 0 ≤ zs.getD i 0 ∧ zs.getD i 0 ≤ 255 := by
      intro i hi
      have hm : zs.getD i 0 ∈ zs := by
        rw [List.getD_eq_getElem?_getD, List.getElem?_eq_getElem hi]
        exact List.getElem_mem hi
      exact bounds_u8 (h5 _ hm)
    refine ⟨(zs.take len).map Int.toNat, by rw [List.length_map, List.length_take]; omega, ⟨fun c hc => ?_, fun hl => ?_⟩, h2⟩
    · obtain ⟨z, hz, rfl⟩ := List.mem_map.1 hc
      have := bounds_u8 (h5 z (List.mem_of_mem_take hz))
      omega
    · obtain ⟨b, off, spot⟩ := x
      rw [List.length_map, List.length_take] at hl
      have hc := h4 0 (by omega)
      have hspot : spot = none := by simpa [Addr.add] using World.cell?_spot hc
      subst hspot
      refine ⟨b, off, rfl, World.block_lt_of_cell? _ _ (by simpa [Addr.add] using hc), fun i c hi => ?_⟩
      rw [List.getElem?_map] at hi
      have hil : i < len := by
        have := (List.getElem?_eq_some_iff.1 (show ((zs.take len).map Int.toNat)[i]? = some c by rw [List.getElem?_map]; exact hi)).1
        rw [List.length_map, List.length_take] at this
        omega
      rw [List.getElem?_take_of_lt hil, List.getElem?_eq_getElem (by omega)] at hi
      injection hi with hi
      have h6 := h4 i (by omega)
      have h7 := hb i (by omega)
      rw [List.getD_eq_getElem?_getD, List.getElem?_eq_getElem (by omega)] at h6 h7
      simp only [Option.getD_some] at h6 h7
      have h8 : zs[i] = (c : Int) := by rw [← hi]; omega
      rw [h8] at h6
      have h9 : (⟨b, off, none⟩ : Addr).add i = ⟨b, off + i, none⟩ := by
        unfold Addr.add
        split <;> simp_all
      rw [h9] at h6
      exact h6

set_option maxRecDepth 100000 in
set_option maxHeartbeats 4000000 in
theorem fixed_walk (a0 : Int) (a1 : Option Addr) (len1 cap1 : Nat) (z1 : List Int) (w : World) (w0 : (Lit.int .i64 a0).wf = true) (w1 : RowI .u8 w a1 len1 cap1 z1) :
    Calls Try.prog 7 #[.int .i64 a0, .slice a1 len1 cap1] w fun e w' => e = .returned (.bool true) ∧ Below w.heap.size w w' := by
  have hb0 := bounds_i64 w0
  obtain ⟨Z, hZ, hU, hcap⟩ := u8v_of w1
  have HAW := Lib.hid (fun w => awake_any w)
  clear w0 w1
  by_cases hl : len1 ≤ 100
  case neg =>
    have hd : decide ((100 : Int) < (len1 : Int)) = true := by rw [decide_eq_true_iff]; omega
    clear hZ hU
    go_enter Try.func7, Try.ntmps7
    go_wp2_with fail
    refine (HAW.out _).mono ?_
    rintro e x0 ⟨rfl, b0⟩
    have B0 := Lib.hid b0
    clear b0
    go_wp2_with fail
    go_ret
    exact ⟨rfl, B0.out⟩
  case pos =>
    have hd : decide ((100 : Int) < (len1 : Int)) = false := by rw [decide_eq_false_iff_not]; omega
    obtain ⟨M, hM⟩ : ∃ M, Z.map (fun c => fixedL.getD (c % 12) emptyF) = M := ⟨_, rfl⟩
    have hML : M.length = len1 := by rw [← hM, List.length_map, hZ]
    have hMat : ∀ j c, Z[j]? = some c → M[j]? = some (fixedL.getD (c % 12) emptyF) := fun j c h => by rw [← hM, List.getElem?_map, h]; rfl
    have hget : ∀ i, i < 12 → fixedL[i]? = some (fixedL.getD i emptyF) := by
      intro i hi
      have h2 : i < fixedL.length := hi
      rw [List.getD_eq_getElem?_getD, List.getElem?_eq_getElem h2]
      rfl
    have hMf : ∀ f ∈ M, f ∈ fixedL := by
      intro f hf
      rw [← hM] at hf
      obtain ⟨c, _, rfl⟩ := List.mem_map.1 hf
      exact List.mem_of_getElem? (hget _ (Nat.mod_lt _ (by omega)))
    obtain ⟨sec, hW, hsz, hrd⟩ := fixed_write ⟨[], mostF a0, 0⟩ M hMf (by omega)
    have hok : (⟨[], mostF a0, 0⟩ : Tbl).Ok := ⟨mostF_le a0, Nat.zero_le _, Nat.le_refl _⟩
    have HNW := Lib.hid (fun w => NewWriter_any a0 (IntWalk.i64_in _ (by omega)) w)
    have HNR := Lib.hid (fun w => NewReader_any 0 (by decide) w)
    have HU := Lib.hid hU
    have HMA := Lib.hid hMat
    have HG := Lib.hid hget
    have HZ := Lib.hid hZ
    have HML := Lib.hid hML
    have HW := Lib.hid hW
    have HSZ := Lib.hid hsz
    have HRD := Lib.hid hrd
    have HOK := Lib.hid hok
    have hml2 : M.length ≤ 10000 := by omega
    clear hU hMat hget hZ hML hW hsz hrd hok hM hMf
    go_enter Try.func7, Try.ntmps7
    go_wp2_with fail
    refine (HAW.out _).mono ?_
    rintro e x0 ⟨rfl, b0⟩
    have B0 := Lib.hid b0
    clear b0
    go_wp2_with fail
    refine (Fixed_any _).mono ?_
    rintro e x1 ⟨rfl, hF, b1⟩
    have B1 := Lib.hid (B0.out.trans (b1.mono B0.out.size))
    have HF := Lib.hid hF
    have hgl := hF.lt
    obtain ⟨gF, hgF⟩ : ∃ g, x0.heap.size = g := ⟨_, rfl⟩
    rw [hgF] at HF hgl
    rw [hgF]
    have hs1 := B1.out.size
    have HEo : Hid (OwnFl x1.heap.size (x1.alloc (.cells #[] 54)) (.slice (some ⟨x1.heap.size, 0, none⟩) 0 0) []) := Lib.hid ⟨rfl, .inr ⟨x1.heap.size, 0, #[], rfl, Nat.le_refl _, heap_alloc_new x1 _, Nat.le_refl _, by decide, rfl, rfl⟩⟩
    have hbe : Below x1.heap.size x1 (x1.alloc (.cells #[] 54)) := (Below.refl _ _).alloc (Nat.le_refl _) _
    have HBE := Lib.hid hbe
    clear b1 hF hgF hbe
    go_wp2_with fail
    go_loopw [6, 7, 25] (fun ov _ i wr => ∃ j : Nat, j ≤ len1 ∧ i = .int .i64 j ∧ OwnFl x1.heap.size wr ov (M.take j) ∧ Below x1.heap.size x1 wr) (fun _ _ i _ => len1 - (intOf i).toNat)
    case atStart => exact ⟨0, by omega, rfl, HEo.out, HBE.out⟩
    case round =>
      obtain ⟨j, hj, rfl, hO, hbx⟩ := hrel
      have hbw := B1.out.trans (hbx.mono hs1)
      have HOJ := Lib.hid hO
      have HBX := Lib.hid hbx
      have HBW := Lib.hid hbw
      have hszr := hbx.size
      by_cases hlt : j < len1
      · have hjl : j < Z.length := by rw [HZ.out]; exact hlt
        obtain ⟨c, hc⟩ : ∃ q, Z[j]? = some q := ⟨_, List.getElem?_eq_getElem hjl⟩
        have hc8 := HU.out.1 c (List.mem_of_getElem? hc)
        obtain ⟨g, o, rfl, hg, hcc⟩ := (HU.out.below hbw).2 (by omega)
        have k0 := hcc j c hc
        obtain ⟨d, hdm⟩ : ∃ d, c % 12 = d := ⟨_, rfl⟩
        have hd12 : d < 12 := by omega
        have hcd : (c : Int) % 12 = (d : Int) := by omega
        have hmj := HMA.out j c hc
        rw [hdm] at hmj
        have HTK := Lib.hid (take_fl M j _ hmj)
        obtain ⟨y1, y2⟩ := flc_at fixedL d _ (HG.out d hd12)
        have k1 := (HF.out.below hbx hgl).cell y1
        have k2 := (HF.out.below hbx hgl).cell y2
        generalize fixedL.getD d emptyF = f at *
        obtain ⟨n0, v0⟩ := f
        simp only at k1 k2
        have hjt : (M.take j).length ≤ 1000000 := by rw [List.length_take]; omega
        have hdI : (d : Int) < 12 := by omega
        clear hcc hc hjl hbw hbx hO hdm hmj y1 y2
        go_wp2_with (at_builtin; refine appFl wr rfl (.tmp 28) (.tmp 38) rfl x1.heap.size u6 (M.take j) n0 v0 rfl (by simp [Act.eval]) HOJ.out hjt hszr ?_)
        intro v4 w4 ho4 hb4 _
        have B4 := Lib.hid (HBX.out.trans hb4)
        have O4 := Lib.hid ho4
        clear ho4 hb4
        go_wp2_with fail
        go_roundw
        case rel => exact ⟨j + 1, by omega, by go_num, by rw [HTK.out]; exact O4.out, B4.out⟩
        case measure => simp [intOf]; omega
      · have hjN : j = len1 := by omega
        subst hjN
        rw [show M.take j = M by rw [← HML.out, List.take_length]] at hO
        obtain ⟨p, cap, rfl, _⟩ := own_shape hO
        have HO := Lib.hid hO
        have hown : ∀ g o, p = some ⟨g, o, none⟩ → g < wr.heap.size := by
          intro g o e
          subst e
          exact own_lt hO g rfl
        have HOWN := Lib.hid hown
        have hm1 := HML.out
        clear hO hbx hbw HOJ hown hlt hj
        obtain ⟨N, hN⟩ : ∃ N, M.length = N := ⟨_, rfl⟩
        have hNj : N ≤ j ∧ j ≤ N := by omega
        clear hm1
        rw [hN]
        have HN := Lib.hid hN
        clear hN
        go_wp2_with fail
        refine (HNW.out _).mono ?_
        rintro e x2 ⟨bw, rfl, hbw2, hk2, b2⟩
        have hs2 := HBW.out.size
        have B2 := Lib.hid (HBW.out.trans (b2.mono hs2))
        have O2 := Lib.hid (HO.out.below b2)
        have hT2 : TblIs x2 w.heap.size bw 64 (.slice none 0 0) ⟨[], mostF a0, 0⟩ := tab_new hk2
        have hs3 := b2.size
        have hw3 := Write_any w.heap.size bw (.slice none 0 0) ⟨[], mostF a0, 0⟩ M p cap x2 hT2 HOK.out B2.out.size (by omega) ((HO.out.fv).below b2) (by have := HN.out; omega) (by
          intro g o e
          have := HOWN.out g o e
          exact ⟨by omega, by omega, by simp [Value.ownBlock]⟩)
        rw [HN.out, HW.out] at hw3
        have HW3 := Lib.hid hw3
        clear hT2 hw3 hk2 b2
        go_wp2_with fail
        refine HW3.out.mono ?_
        rintro e x3 ⟨rfl, v3, _, o3, _⟩
        have B3 := Lib.hid (B2.out.trans (o3.below B2.out.size (by
          rintro k (e | e)
          · omega
          · simp [Value.ownBlock] at e)))
        have hO3 := own_only O2.out o3 (by
          intro k hk
          have := own_lt HO.out k hk
          rintro (e | e)
          · omega
          · simp [Value.ownBlock] at e)
        have O3 : Hid (OwnFl x1.heap.size x3 (.slice p N cap) M) := Lib.hid (by rw [← HN.out]; exact hO3)
        clear o3 hO3
        go_wp2_with fail
        refine (HNR.out _).mono ?_
        rintro e x4 ⟨br, rfl, hbr, hk4, b4⟩
        have B4 := Lib.hid (B3.out.trans (b4.mono B3.out.size))
        have O4 := Lib.hid (O3.out.below b4)
        have hrd := Read_any w.heap.size br (.slice none 0 0) ⟨[], mostF 0, 0⟩ sec x4 (tab_new hk4) (by have := HSZ.out; have := HN.out; omega) (Nat.zero_le _)
        rw [HRD.out] at hrd
        have HRE := Lib.hid hrd
        clear hk4 b4 hrd
        go_wp2_with fail
        refine HRE.out.mono ?_
        rintro e x5 ⟨b5, v5, rfl, hO5⟩
        obtain ⟨p5, cap5, rfl, _⟩ := own_shape hO5
        have B5 := Lib.hid (B4.out.trans (b5.mono B4.out.size))
        have O5 := Lib.hid (O4.out.below b5)
        have G5 : Hid (OwnFl x4.heap.size x5 (.slice p5 N cap5) M) := Lib.hid (by rw [← HN.out]; exact hO5)
        rw [HN.out]
        obtain ⟨SZ, hSZ⟩ : ∃ q, sec.size = q := ⟨_, rfl⟩
        have hsz9 : ((SZ : Int) == 2 + (j : Int)) = true := by rw [beq_iff_eq]; have := HSZ.out; have := HN.out; omega
        have hjb : j ≤ 100 := by omega
        clear b5 hO5
        have hg1 := own_any M p5 cap5 x5 G5.out.fv hml2
        rw [HN.out] at hg1
        have HG1 := Lib.hid hg1
        clear hg1
        go_wp2_with fail
        refine HG1.out.mono ?_
        rintro e x6 ⟨v6, rfl, o6, b6⟩
        have B6 := Lib.hid (B5.out.trans (b6.mono B5.out.size))
        have hg2 := own_any M p cap x6 ((O5.out.below b6).fv) hml2
        rw [HN.out] at hg2
        have HG2 := Lib.hid hg2
        have O6 := Lib.hid o6
        clear hg2 b6 o6
        go_wp2_with fail
        refine HG2.out.mono ?_
        rintro e x7 ⟨v7, rfl, o7, b7⟩
        have B7 := Lib.hid (B6.out.trans (b7.mono B6.out.size))
        have o6 := O6.out.below b7
        obtain ⟨p6, c6, rfl, _⟩ := own_shape o6
        obtain ⟨p7, c7, rfl, _⟩ := own_shape o7
        have hsm := RSame_any M M p6 p7 c6 c7 x7 o6.fv o7.fv hml2 hml2
        rw [show sameF M M = true from decide_eq_true rfl] at hsm
        have HSM := Lib.hid hsm
        clear hsm b7 o6 o7 O6
        go_wp2_with fail
        refine HSM.out.mono ?_
        rintro e x8 ⟨rfl, b8⟩
        have B8 := Lib.hid (B7.out.trans (b8.mono B7.out.size))
        clear b8
        go_wp2_with fail
        go_ret
        exact ⟨rfl, B8.out⟩

end Go.Proofs.Ytkggjcfiomddeaa
