/- fields: contract of Writer.Write. -/
import Derived.Test.YtgnoiheekgmleaaFi
namespace Go.Proofs.Ytgnoiheekgmleaa
open Go.ChangeShapes Go.WideShapes Go.RowKit
set_option linter.unusedVariables false
set_option linter.unusedSimpArgs false

/-- The table and the list while fields are written. -/
def AtW (w wr : World) (B b : Nat) (v : Value) (p : Option Addr) (L : List Fl) (S : Tbl) : Prop := TabTo w wr B b 71 v S ∧ FV wr p L

theorem AtW.further {w w1 x : World} {B b : Nat} {v : Value} {p : Option Addr} {L : List Fl} {S : Tbl} (h : AtW w w1 B b v p L S) (bq : Below w1.heap.size w1 x) : AtW w x B b v p L S := ⟨h.1.further bq, h.2.below bq⟩
theorem AtW.step {w w1 x : World} {B b : Nat} {v v1 : Value} {p : Option Addr} {L : List Fl} {S2 : Tbl} (hf : FV w1 p L) (ho : Only (fun k => k = b ∨ v.ownBlock = some k) w w1) (hv : v1.ownBlock = v.ownBlock ∨ ∀ k, v1.ownBlock = some k → w.heap.size ≤ k)
    (hsep : 0 < L.length → ∀ g o, p = some ⟨g, o, none⟩ → g < w.heap.size ∧ g ≠ b ∧ v.ownBlock ≠ some g) (h2 : TabTo w1 x B b 71 v1 S2) : AtW w x B b v p L S2 := by
  refine ⟨TabTo.step ho hv h2, ?_⟩
  obtain ⟨v', a1, a2, a3⟩ := h2
  refine hf.only a2 (fun hl g o hg => ?_)
  obtain ⟨q0, q1, q2⟩ := hsep hl g o hg
  rintro (h | h)
  · exact q1 h
  · rcases hv with hv | hv
    · rw [hv] at h; exact q2 h
    · have := hv g h; omega

theorem two_at {w w1 x : World} {B b : Nat} {v : Value} {p : Option Addr} {L : List Fl} {S : Tbl} {g : Nat} {u1 u2 : Value} (h : (w1.cell? ⟨g, 0, none⟩ = some u1 ∧ w1.cell? ⟨g, 1, none⟩ = some u2) ∧ AtW w w1 B b v p L S) (bq : Below w1.heap.size w1 x) :
    (x.cell? ⟨g, 0, none⟩ = some u1 ∧ x.cell? ⟨g, 1, none⟩ = some u2) ∧ AtW w x B b v p L S := ⟨two_below h.1 bq, h.2.further bq⟩

theorem three_at {w w1 x : World} {B b : Nat} {v v2 : Value} {p : Option Addr} {L : List Fl} {S : Tbl} {g : Nat} {u1 u2 : Value} (h : (w1.cell? ⟨g, 0, none⟩ = some u1 ∧ w1.cell? ⟨g, 1, none⟩ = some u2) ∧ w1.cell? ⟨b, 0, none⟩ = some v2 ∧ TblIs w1 B b 71 v2 S ∧ AtW w w1 B b v p L S) (bq : Below w1.heap.size w1 x) :
    (x.cell? ⟨g, 0, none⟩ = some u1 ∧ x.cell? ⟨g, 1, none⟩ = some u2) ∧ x.cell? ⟨b, 0, none⟩ = some v2 ∧ TblIs x B b 71 v2 S ∧ AtW w x B b v p L S := ⟨two_below h.1 bq, (h.2.2.1.below bq).1.cell (k := 0) rfl, h.2.2.1.below bq, h.2.2.2.further bq⟩

theorem secF_size {l : List Fl} {m : Int} {L : List Fl} (ho : ∀ (i : Nat) f, L[i]? = some f → idxF fixedL f < 0 → idxF l f < m) (hM : ∀ (i : Nat) (f : Fl), L[i]? = some f → 0 < f.1.size ∧ f.1.size ≤ 100 ∧ f.2.size ≤ 200) (hm : 0 ≤ m ∧ m ≤ 5000) : ∀ j, j ≤ L.length → (secF l m (L.take j)).size ≤ 306 * j + 4
  | 0, _ => by
    show (nF m 8 0 ++ ⟨#[0]⟩ : ByteArray).size ≤ _
    have := nF_size m 8 0 (by omega) (by omega)
    rw [ba_app_size]
    have e : (⟨#[0]⟩ : ByteArray).size = 1 := rfl
    omega
  | j + 1, hj => by
    have hg : L[j]? = some (L[j]'(by omega)) := List.getElem?_eq_getElem (by omega)
    obtain ⟨q1, q2, q3⟩ := hM j _ hg
    rw [secF_succ l m L j _ hg, ba_app_size]
    have := secF_size ho hM hm j (by omega)
    have := oneF_size l m _ q2 q3 hm (ho j _ hg)
    omega

set_option maxRecDepth 100000 in
set_option maxHeartbeats 4000000 in
theorem Write_any (B b : Nat) (v : Value) (S : Tbl) (L : List Fl) (p : Option Addr) (cap : Nat) (w : World) (h : TblIs w B b 71 v S) (hok : S.Ok) (hBw : B ≤ w.heap.size) (hBb : B ≤ b)
    (hL : FV w p L) (hlen : L.length ≤ 10000) (hsep : 0 < L.length → ∀ g o, p = some ⟨g, o, none⟩ → g < w.heap.size ∧ g ≠ b ∧ v.ownBlock ≠ some g) :
    Calls Try.prog 27 #[.pointer (some ⟨b, 0, none⟩), .slice p L.length cap] w fun e w' => e = .returned (.tuple #[.string (writeF S L).2.1, .string (writeF S L).2.2.1, .int .i64 (writeF S L).2.2.2]) ∧ TabTo w w' B b 71 v (writeF S L).1 := by
  obtain ⟨N, hN⟩ : ∃ N, L.length = N := ⟨_, rfl⟩
  have HN := Lib.hid hN
  rw [hN] at hlen
  by_cases c1 : 100 < N
  case pos =>
    have e1 : writeF S L = (S, ⟨#[]⟩, ⟨#[]⟩, 4) := by unfold writeF; rw [if_pos (by rw [hN]; exact c1)]
    rw [e1, hN]
    have hd : decide ((100 : Int) < (N : Int)) = true := by rw [decide_eq_true_iff]; omega
    have HT := Lib.hid (TabTo.same h (Below.refl _ _))
    clear e1 c1 hN h hL hsep
    go_enter Try.func27, Try.ntmps27
    go_wp2_with fail
    go_ret3
    exact ⟨rfl, HT.out⟩
  case neg =>
    have hd : decide ((100 : Int) < (N : Int)) = false := by rw [decide_eq_false_iff_not]; omega
    have hpl := place_any L p cap (fun f => !mayFl f) 40 #[] w hL (by omega) (fun args w => rfl) (fun W f _ => Write1_any f W)
    obtain ⟨x, hx⟩ : ∃ x, whereF L (fun f => !mayFl f) = x := ⟨_, rfl⟩
    rw [hx, hN] at hpl
    have HPL := Lib.hid hpl
    clear hpl
    by_cases c2 : 0 ≤ x
    case pos =>
      have e1 : writeF S L = (S, ⟨#[]⟩, ⟨#[]⟩, 2) := by unfold writeF; rw [if_neg (by rw [hN]; exact c1), if_pos (by rw [hx]; exact c2)]
      rw [e1, hN]
      have hd2 : decide (0 ≤ x) = true := decide_eq_true c2
      have HT := Lib.hid h
      clear e1 c1 hN h hL hsep hx
      go_enter Try.func27, Try.ntmps27
      go_wp2_with fail
      refine HPL.out.mono ?_
      rintro e w1 ⟨rfl, b1⟩
      have T1 := Lib.hid (TabTo.same HT.out b1)
      clear b1
      go_wp2_with fail
      go_ret3
      exact ⟨rfl, T1.out⟩
    case neg =>
      have e1 : writeF S L = ((foldW S L).1, (foldW S L).2.1, secF (foldW S L).1.l (foldW S L).2.2 L, 0) := by unfold writeF; rw [if_neg (by rw [hN]; exact c1), if_neg (by rw [hx]; exact c2)]
      rw [e1, hN]
      have hd2 : decide (0 ≤ x) = false := decide_eq_false c2
      have hmay : ∀ (i : Nat) f, L[i]? = some f → 0 < f.1.size ∧ f.1.size ≤ 100 ∧ f.2.size ≤ 200 := fun i f hf => where_may (by rw [hx]; exact c2) i f hf
      have hinv : ∀ j, j ≤ N → InvW S (L.take j) (foldW S (L.take j)) := fun j hj => InvW.fold hok L j (by omega)
      have hsz : ∀ j, j ≤ N → (foldW S (L.take j)).2.1.size ≤ 306 * j := fun j hj => foldW_size (S := S) (by rw [hx]; exact c2) j (by omega)
      have HM := Lib.hid hmay
      have HI := Lib.hid hinv
      have HZ := Lib.hid hsz
      have HT := Lib.hid h
      have HL := Lib.hid hL
      have HS := Lib.hid hsep
      have HL0 : Hid (L.take N = L) := Lib.hid (by rw [← hN, List.take_length])
      have hN100 : N ≤ 100 := by omega
      clear e1 c1 c2 hN h hL hsep hx hmay hinv hsz
      go_enter Try.func27, Try.ntmps27
      go_wp2_with fail
      refine HPL.out.mono ?_
      rintro e w1 ⟨rfl, b1⟩
      have T1 : Hid (AtW w w1 B b v p L S) := Lib.hid ⟨TabTo.same HT.out b1, HL.out.below b1⟩
      clear b1
      go_wp2_with fail
      go_loopw [4, 7, 9, 22] (fun told needs _ i wr => ∃ j : Nat, j ≤ N ∧ i = .int .i64 j ∧ told = .string (foldW S (L.take j)).2.1 ∧ needs = .int .i64 (foldW S (L.take j)).2.2 ∧ AtW w wr B b v p L (foldW S (L.take j)).1) (fun _ _ _ i _ => N - (intOf i).toNat)
      case atStart => exact ⟨0, by omega, rfl, rfl, rfl, T1.out⟩
      case round =>
        obtain ⟨j, hj, rfl, rfl, rfl, hat⟩ := hrel
        by_cases hlt : j < N
        · have hjl : j < L.length := by rw [HN.out]; exact hlt
          obtain ⟨q, hq⟩ : ∃ q, L[j]? = some q := ⟨_, List.getElem?_eq_getElem hjl⟩
          have hst := foldW_succ S L j q hq
          have hsz := HZ.out j hj
          have hinv := HI.out j hj
          obtain ⟨q1, q2, q3⟩ := HM.out j q hq
          obtain ⟨gl, ol, hpe, hgl, hc⟩ := hat.2 (by omega)
          obtain ⟨k1, k2⟩ := hc j q hq
          obtain ⟨n0, v0⟩ := q
          simp only at k1 k2 q1 q2 q3
          generalize foldW S (L.take j) = st at *
          obtain ⟨St, told, m⟩ := st
          simp only at hsz hinv hat ⊢
          obtain ⟨hSt, i1, i2, _, _, _⟩ := hinv
          simp only at i1 i2 hSt
          have hml : m ≤ 10000 := by have := hSt.2.1; have := hSt.2.2; omega
          obtain ⟨v1, hT1, hO1, hV1⟩ := hat.1
          have hbb : Below wr.heap.size wr (wr.alloc (.cells #[.string n0, .string v0] 66)) := (Below.refl _ _).alloc (Nat.le_refl _) _
          have hbx := blk.new wr 66 [.string n0, .string v0]
          have hwr : w.heap.size ≤ wr.heap.size := hO1.size
          have hgx : ¬ (wr.heap.size = b ∨ v1.ownBlock = some wr.heap.size) := by
            rintro (e | e)
            · exact absurd hT1.1.lt (by omega)
            · exact Nat.lt_irrefl _ (own_lt hT1.2 _ e)
          have q01 : _ ∧ _ := ⟨hbx.cell (k := 0) rfl, hbx.cell (k := 1) rfl⟩
          have hcome := come_any B b v1 St (n0, v0) (wr.alloc (.cells #[.string n0, .string v0] 66)) (hT1.below hbb) hSt (Nat.le_trans hBw (Nat.le_trans hwr hbb.size)) hBb (by show n0.size ≤ 5000; omega) (by show v0.size ≤ 5000; omega)
          have hO2 := hO1.then (S' := fun _ => False) (Only.ofBelow hbb) (fun _ => False.elim)
          have hF2 := hat.2.below hbb
          have hcs := comeF_size St (n0, v0) q2 q3
          have hok2 := comeF_ok hSt (n0, v0)
          obtain ⟨cS, hcS⟩ : ∃ x, (comeF St (n0, v0)).1 = x := ⟨_, rfl⟩
          obtain ⟨ct, hct⟩ : ∃ x, (comeF St (n0, v0)).2 = x := ⟨_, rfl⟩
          have hst2 : stepW (St, told, m) (n0, v0) = (cS, told ++ ct, if hasF fixedL (n0, v0) = true then m else max m (idxF cS.l (n0, v0) + 1)) := by unfold stepW; rw [hcS, hct]
          rw [hst2] at hst
          rw [hcS] at hcome hok2
          rw [hct] at hcome hcs
          subst hpe
          have HSTEP : Hid (∀ x, TabTo (wr.alloc (.cells #[.string n0, .string v0] 66)) x B b 71 v1 cS → (AtW w x B b v (some ⟨gl, ol, none⟩) L cS ∧ (x.cell? ⟨wr.heap.size, 0, none⟩ = some (.string n0) ∧ x.cell? ⟨wr.heap.size, 1, none⟩ = some (.string v0)))) := Lib.hid (fun x hx => ⟨AtW.step hF2 hO2 hV1 HS.out hx, by
            obtain ⟨_, _, a2, _⟩ := hx
            exact two_only q01 a2 hgx⟩)
          obtain ⟨cF, hcF⟩ : ∃ c, hasF fixedL (n0, v0) = c := ⟨_, rfl⟩
          rw [hcF] at hst
          have HcF := Lib.hid hcF
          have HST := Lib.hid hst
          have HC := Lib.hid hcome
          obtain ⟨gx, hgx2⟩ : ∃ g, wr.heap.size = g := ⟨_, rfl⟩
          have HX := Lib.hid hgx2
          have htz : told.size ≤ 40000 := by omega
          obtain ⟨ix, hix⟩ : ∃ i, idxF cS.l (n0, v0) = i := ⟨_, rfl⟩
          obtain ⟨x1, x2⟩ := idx_rng cS.l (n0, v0)
          rw [hix] at x1 x2 HST
          have HIX := Lib.hid hix
          have hcl : cS.l.length ≤ 10000 := by have := hok2.2.1; have := hok2.2.2; omega
          have hwx : IntKind.i64.wrap (ix + 1) = ix + 1 := IntWalk.i64_in _ (by omega)
          clear hc hat hT1 hO1 hV1 hbb hbx q01 hcome hO2 hF2 hcS hct hst2 hst hcF hsz hix hgx hq hok2 HI HZ HM HPL HT HL T1 hSt
          rw [hgx2] at HSTEP
          clear hgx2
          cases cF
          case true =>
            go_wp2_with fail
            refine HC.out.mono ?_
            rintro e x1w ⟨rfl, hTo⟩
            obtain ⟨hA, hq01⟩ := HSTEP.out _ hTo
            clear hTo k1 k2
            rw [HX.out]
            go_wp2_with fail
            go_region_held (fun w' => (w'.cell? ⟨gx, 0, none⟩ = some (.string n0) ∧ w'.cell? ⟨gx, 1, none⟩ = some (.string v0)) ∧ AtW w w' B b v (some ⟨gl, ol, none⟩) L cS)
              (first | with_reducible assumption | exact ⟨hq01, hA.further ((Below.refl _ _).drew)⟩ | (refine two_at ?_ (by with_reducible assumption); with_reducible assumption))
              (first | (go_at_call 44; refine (Fixed_any _).mono ?_; rintro e xa ⟨rfl, hF, bq⟩) | (go_at_call 43; refine (Contains_fix _ (n0, v0) _ hF).mono ?_; rintro e xb ⟨he, bq⟩; rw [HcF.out] at he; subst he))
            all_goals go_wp2_with fail
            all_goals
              go_roundw
            case rel => exact ⟨j + 1, by omega, by go_num, by rw [HST.out], by rw [HST.out]; rfl, by rw [HST.out]; exact (show (_ ∧ _) ∧ AtW w _ B b v (some ⟨gl, ol, none⟩) L cS by with_reducible assumption).2⟩
            case measure => simp [intOf]; omega
          case false =>
            go_wp2_with fail
            refine HC.out.mono ?_
            rintro e x1w ⟨rfl, hTo⟩
            obtain ⟨hA, hq01⟩ := HSTEP.out _ hTo
            clear hTo k1 k2
            rw [HX.out]
            go_wp2_with fail
            go_region_held (fun w' => (w'.cell? ⟨gx, 0, none⟩ = some (.string n0) ∧ w'.cell? ⟨gx, 1, none⟩ = some (.string v0)) ∧ AtW w w' B b v (some ⟨gl, ol, none⟩) L cS)
              (first | with_reducible assumption | exact ⟨hq01, hA.further ((Below.refl _ _).drew)⟩ | (refine two_at ?_ (by with_reducible assumption); with_reducible assumption))
              (first | (go_at_call 44; refine (Fixed_any _).mono ?_; rintro e xa ⟨rfl, hF, bq⟩) | (go_at_call 43; refine (Contains_fix _ (n0, v0) _ hF).mono ?_; rintro e xb ⟨he, bq⟩; rw [HcF.out] at he; subst he))
            have hH := (show (_ ∧ _) ∧ AtW w _ B b v (some ⟨gl, ol, none⟩) L cS by with_reducible assumption)
            obtain ⟨⟨r0, r1⟩, hA2⟩ := hH
            obtain ⟨v2, hT2, hO2, hV2⟩ := hA2.1
            obtain ⟨p2, cap2, rfl, _⟩ := own_shape hT2.2
            obtain ⟨N2, hN2⟩ : ∃ n, cS.l.length = n := ⟨_, rfl⟩
            rw [hN2] at hT2 hcl x2
            have HN2 := Lib.hid hN2
            have hz : (_ ∧ _) ∧ _ ∧ TblIs _ B b 71 (.slice p2 N2 cap2) cS ∧ AtW w _ B b v (some ⟨gl, ol, none⟩) L cS := ⟨⟨r0, r1⟩, hT2.1.cell (k := 0) rfl, hT2, hA2⟩
            have HZZ := Lib.hid (three_at hz ((Below.refl _ _).drew))
            clear hz hT2 hO2 hV2 hA2 hN2 r0 r1
            go_wp2_with fail
            go_region_held (fun w' => (w'.cell? ⟨gx, 0, none⟩ = some (.string n0) ∧ w'.cell? ⟨gx, 1, none⟩ = some (.string v0)) ∧ w'.cell? ⟨b, 0, none⟩ = some (.slice p2 N2 cap2) ∧ TblIs w' B b 71 (.slice p2 N2 cap2) cS ∧ AtW w w' B b v (some ⟨gl, ol, none⟩) L cS)
              (first | with_reducible assumption | exact HZZ.out | (refine three_at ?_ (by with_reducible assumption); with_reducible assumption))
              (first | (go_at_call 45; refine (Index_tab (n0, v0) _ (show (_ ∧ _) ∧ _ ∧ TblIs _ B b 71 (.slice p2 N2 cap2) cS ∧ AtW w _ B b v (some ⟨gl, ol, none⟩) L cS by with_reducible assumption).2.2.1 HN2.out hcl).mono ?_; rintro e xc ⟨he, bq⟩; rw [HIX.out] at he; subst he))
            all_goals go_wp2_with fail
            all_goals
              go_roundw
            case rel => exact ⟨j + 1, by omega, by go_num, by rw [HST.out], by rw [HST.out]; rfl, by rw [HST.out]; exact (show (_ ∧ _) ∧ _ ∧ TblIs _ B b 71 (.slice p2 N2 cap2) cS ∧ AtW w _ B b v (some ⟨gl, ol, none⟩) L cS by with_reducible assumption).2.2.2⟩
            case measure => simp [intOf]; omega
        · have hjN : j = N := by omega
          subst hjN
          have hinv := HI.out j hj
          have hsz := HZ.out j hj
          rw [HL0.out] at hinv hsz hat ⊢
          obtain ⟨st, hst⟩ : ∃ st, foldW S L = st := ⟨_, rfl⟩
          rw [hst] at hinv hsz hat ⊢
          obtain ⟨St, told, m⟩ := st
          have HFW := Lib.hid hst
          clear hst
          simp only at hsz hat ⊢
          obtain ⟨hSt, i1, i2, _, _, i6⟩ := hinv
          simp only at i1 i2 hSt i6
          have hml : m ≤ 5000 := by have := hSt.2.1; have := hSt.2.2; omega
          have hone : ∀ (i : Nat) f, L[i]? = some f → idxF fixedL f < 0 → idxF St.l f < m := by
            intro i f hf hn
            refine (i6 f (List.mem_of_getElem? hf) ?_).1
            intro hm
            have := (has_iff fixedL f).2 hm
            unfold hasF at this
            rw [decide_eq_true_iff] at this
            omega
          obtain ⟨v1, hT1, hO1, hV1⟩ := hat.1
          have hfv := hat.2
          have HSZ : Hid (∀ k, k ≤ j → (secF St.l m (L.take k)).size ≤ 306 * k + 4) := Lib.hid (fun k hk => secF_size hone HM.out ⟨i1, hml⟩ k (by have := HN.out; omega))
          have HT1 := Lib.hid hT1
          have HO := Lib.hid hone
          have HO1 := Lib.hid hO1
          have HV1 := Lib.hid hV1
          have HF := Lib.hid hfv
          have HSt := Lib.hid hSt
          have hu : IntKind.u64.wrap m = m := IntWalk.u64_in _ (by omega)
          have hnz := nF_size m 8 0 (by omega) (by omega)
          have hsec0 : secF St.l m (L.take 0) = nF m 8 0 ++ ⟨#[0]⟩ := rfl
          have HS0 := Lib.hid hsec0
          clear hsec0 hat hSt i6 hone hT1 hO1 hV1 hfv HI HZ HPL HT HL T1
          go_wp2_with fail
          refine (number_gen m 8 0 _ (by omega) (by omega) (by omega)).mono ?_
          rintro e x3 ⟨rfl, b3⟩
          have T3 := Lib.hid (HT1.out.below b3)
          have F3 := Lib.hid (HF.out.below b3)
          have O3 := Lib.hid (HO1.out.then (S' := fun _ => False) (Only.ofBelow b3) (fun _ => False.elim))
          clear b3
          generalize hnn : nF m 8 0 = nn at *
          clear hnn
          go_wp2_with fail
          go_loopw [5, 11, 52] (fun sec _ i wr => ∃ k : Nat, k ≤ j ∧ i = .int .i64 k ∧ sec = .string (secF St.l m (L.take k)) ∧ Below x3.heap.size x3 wr) (fun _ _ i _ => j - (intOf i).toNat)
          case atStart => exact ⟨0, by omega, rfl, by rw [HS0.out], Below.refl _ _⟩
          case round =>
            obtain ⟨k, hk, rfl, rfl, hbw⟩ := hrel
            have hkz := HSZ.out k hk
            by_cases hkl : k < j
            · have hjl : k < L.length := by rw [HN.out]; exact hkl
              obtain ⟨q, hq⟩ : ∃ q, L[k]? = some q := ⟨_, List.getElem?_eq_getElem hjl⟩
              have HSC := Lib.hid (secF_succ St.l m L k q hq)
              obtain ⟨q1, q2, q3⟩ := HM.out k q hq
              obtain ⟨gl, ol, hpe, hgl, hc⟩ := (F3.out.below hbw) (by omega)
              obtain ⟨k1, k2⟩ := hc k q hq
              have hmi := HO.out k q hq
              have hoz := oneF_size St.l m q q2 q3 ⟨i1, hml⟩ hmi
              obtain ⟨n0, v0⟩ := q
              simp only at k1 k2 q1 q2 q3 hoz
              have hbb : Below wr.heap.size wr (wr.alloc (.cells #[.string n0, .string v0] 66)) := (Below.refl _ _).alloc (Nat.le_refl _) _
              have hc1 := one_any B b v1 St (n0, v0) m (wr.alloc (.cells #[.string n0, .string v0] 66)) ((T3.out.below hbw).below hbb) HSt.out (by show n0.size ≤ 5000; omega) (by show v0.size ≤ 5000; omega) (by omega) hmi
              generalize oneF St.l m (n0, v0) = o1 at *
              generalize hsk : secF St.l m (L.take k) = sk at *
              have HC := Lib.hid hc1
              have HB := Lib.hid (hbw.trans (hbb.mono hbw.size))
              subst hpe
              clear hc hc1 hbb hbw hq hmi hsk
              go_wp2_with fail
              refine HC.out.mono ?_
              rintro e x4 ⟨rfl, b4⟩
              have B4 := Lib.hid (HB.out.trans (b4.mono HB.out.size))
              clear b4
              go_wp2_with fail
              go_roundw
              case rel => exact ⟨k + 1, by omega, by go_num, by rw [HSC.out], B4.out⟩
              case measure => simp [intOf]; omega
            · have hkN : k = j := by omega
              subst hkN
              rw [HL0.out]
              have O4 := Lib.hid (⟨v1, T3.out.below hbw, O3.out.then (S' := fun _ => False) (Only.ofBelow hbw) (fun _ => False.elim), HV1.out⟩ : TabTo w wr B b 71 v St)
              clear hbw
              go_wp2_with fail
              go_ret3
              rw [HFW.out]
              exact ⟨rfl, O4.out⟩

end Go.Proofs.Ytgnoiheekgmleaa
