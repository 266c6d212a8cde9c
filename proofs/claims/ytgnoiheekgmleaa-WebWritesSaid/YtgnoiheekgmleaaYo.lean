/- fields: contract of the reference's Write. -/
import Derived.Test.YtgnoiheekgmleaaYn
import Derived.Deep.RegionHeld
namespace Go.Proofs.Ytgnoiheekgmleaa
open Go.ChangeShapes Go.WideShapes Go.RowKit
set_option linter.unusedVariables false
set_option linter.unusedSimpArgs false

theorem Rnumber_gen (n k h : Int) (w : World) (hk : 1 ≤ k ∧ k ≤ 8) (hn : 0 ≤ n ∧ n < 18446744073709551616) (hh : 0 ≤ h ∧ h < 256) (hz : h.toNat % 2 ^ k.toNat = 0) :
    Calls Try.prog 54 #[.int .u64 n, .int .i64 k, .int .u8 h] w fun e w' => e = .returned (.string (nF n k h)) ∧ Below w.heap.size w w' := by
  obtain ⟨n, rfl⟩ := Int.eq_ofNat_of_zero_le hn.1
  obtain ⟨k, rfl⟩ := Int.eq_ofNat_of_zero_le (show 0 ≤ k by omega)
  obtain ⟨h, rfl⟩ := Int.eq_ofNat_of_zero_le hh.1
  exact RNumber_any n k h w (by omega) (by omega) (by omega) hz
theorem Rtext_gen (s : ByteArray) (k h : Int) (w : World) (hs : s.size ≤ 5000) (hk : 2 ≤ k ∧ k ≤ 8) (hh : 0 ≤ h ∧ h < 256) (hz : h.toNat % 2 ^ k.toNat = 0) :
    Calls Try.prog 55 #[.string s, .int .i64 k, .int .u8 h] w fun e w' => e = .returned (.string (tF s k h)) ∧ Below w.heap.size w w' := by
  obtain ⟨c, hc⟩ := Int.eq_ofNat_of_zero_le (show 0 ≤ k - 1 by omega)
  obtain rfl : k = (c : Int) + 1 := by omega
  obtain ⟨h, rfl⟩ := Int.eq_ofNat_of_zero_le hh.1
  exact Rtext_any s c h w hs (by omega) (by omega) hz
theorem Rfind_tab {B b : Nat} {p : Option Addr} {cap N : Nat} {S : Tbl} (f : Fl) (w : World) (h : TbR w B b (.slice p N cap) S) (hN : S.l.length = N) (hn : N ≤ 10000) :
    Calls Try.prog 50 #[.slice p N cap, f.v] w fun e w' => e = .returned (.int .i64 (idxF S.l f)) ∧ Below w.heap.size w w' := by
  subst hN
  exact Rfind_any S.l p cap f w (TbR.fv (b := b) h) hn

def AtR (w wr : World) (B b : Nat) (pl : Option Addr) (L : List Fl) (S : Tbl) : Prop := RTo w wr B b S ∧ FV wr pl L
theorem AtR.further {w w1 x : World} {B b : Nat} {pl : Option Addr} {L : List Fl} {S : Tbl} (h : AtR w w1 B b pl L S) (bq : Below w1.heap.size w1 x) : AtR w x B b pl L S := ⟨h.1.further bq, h.2.below bq⟩
theorem AtR.step {w w1 x : World} {B b : Nat} {pl : Option Addr} {L : List Fl} {S S2 : Tbl} (h : AtR w w1 B b pl L S) (hsep : 0 < L.length → ∀ g o, pl = some ⟨g, o, none⟩ → g ≠ b) (ht : RTo w1 x B b S2) : AtR w x B b pl L S2 := by
  obtain ⟨⟨v, _, o⟩, hf⟩ := h
  obtain ⟨v2, h2, o2⟩ := ht
  exact ⟨⟨v2, h2, o.trans o2⟩, hf.only o2 (fun hl g o hg => hsep hl g o hg)⟩

theorem RAt.further {w w1 x : World} {B b : Nat} {v : Value} {pl : Option Addr} {L : List Fl} {S : Tbl} {g : Nat} {u1 u2 : Value} (h : (w1.cell? ⟨g, 0, none⟩ = some u1 ∧ w1.cell? ⟨g, 1, none⟩ = some u2) ∧ w1.cell? ⟨b, 0, none⟩ = some v ∧ TbR w1 B b v S ∧ AtR w w1 B b pl L S) (bq : Below w1.heap.size w1 x) :
    (x.cell? ⟨g, 0, none⟩ = some u1 ∧ x.cell? ⟨g, 1, none⟩ = some u2) ∧ x.cell? ⟨b, 0, none⟩ = some v ∧ TbR x B b v S ∧ AtR w x B b pl L S := ⟨two_below h.1 bq, (h.2.2.1.below bq).1.cell (k := 0) rfl, h.2.2.1.below bq, h.2.2.2.further bq⟩
theorem RAt.drewd {w w1 : World} {B b : Nat} {v : Value} {pl : Option Addr} {L : List Fl} {S : Tbl} {g : Nat} {u1 u2 : Value} (h : (w1.cell? ⟨g, 0, none⟩ = some u1 ∧ w1.cell? ⟨g, 1, none⟩ = some u2) ∧ w1.cell? ⟨b, 0, none⟩ = some v ∧ TbR w1 B b v S ∧ AtR w w1 B b pl L S) :
    (w1.drew.cell? ⟨g, 0, none⟩ = some u1 ∧ w1.drew.cell? ⟨g, 1, none⟩ = some u2) ∧ w1.drew.cell? ⟨b, 0, none⟩ = some v ∧ TbR w1.drew B b v S ∧ AtR w w1.drew B b pl L S := RAt.further h ((Below.refl _ _).drew)
/-- The facts at hand, made of a table and a box. -/
theorem RAt.make {w w1 : World} {B b : Nat} {pl : Option Addr} {L : List Fl} {S : Tbl} {g : Nat} {u1 u2 : Value} (hq : w1.cell? ⟨g, 0, none⟩ = some u1 ∧ w1.cell? ⟨g, 1, none⟩ = some u2) (h : AtR w w1 B b pl L S) :
    ∃ p cap, (w1.cell? ⟨g, 0, none⟩ = some u1 ∧ w1.cell? ⟨g, 1, none⟩ = some u2) ∧ w1.cell? ⟨b, 0, none⟩ = some (.slice p S.l.length cap) ∧ TbR w1 B b (.slice p S.l.length cap) S ∧ AtR w w1 B b pl L S := by
  obtain ⟨v, ht, _⟩ := h.1
  obtain ⟨p, cap, rfl, _⟩ := own_shape ht.2
  exact ⟨p, cap, hq, ht.1.cell (k := 0) rfl, ht, h⟩

theorem szok_come {S : Tbl} (h : SzOk S) (f : Fl) : SzOk (comeF S f).1 := by
  rcases comeF_cases S f with ⟨e, _⟩ | ⟨_, _, _, e⟩
  · rw [e]; exact h
  · rw [e]
    unfold SzOk at h ⊢
    simp only
    rw [wSum_snoc, h]
theorem szok_fold : ∀ (L : List Fl) (S : Tbl), SzOk S → SzOk (tblF S L)
  | [], _, h => h
  | f :: L, S, h => szok_fold L (comeF S f).1 (szok_come h f)

theorem has_idx (L : List Fl) (f : Fl) : hasF L f = decide (0 ≤ idxF L f) := rfl

set_option maxRecDepth 100000 in
set_option maxHeartbeats 16000000 in
theorem RWrite_any (B b : Nat) (v : Value) (S : Tbl) (L : List Fl) (pl : Option Addr) (cap : Nat) (w : World) (h : TbR w B b v S) (hok : S.Ok) (hsz : SzOk S) (hBw : B ≤ w.heap.size)
    (hL : FV w pl L) (hlen : L.length ≤ 10000) (hsep : 0 < L.length → ∀ g o, pl = some ⟨g, o, none⟩ → g ≠ b) :
    Calls Try.prog 30 #[.pointer (some ⟨b, 0, none⟩), .slice pl L.length cap] w fun e w' => e = .returned (.tuple #[.string (writeF S L).2.1, .string (writeF S L).2.2.1, .int .i64 (writeF S L).2.2.2]) ∧ RTo w w' B b (writeF S L).1 := by
  obtain ⟨N, hN⟩ : ∃ N, L.length = N := ⟨_, rfl⟩
  have HN := Lib.hid hN
  rw [hN] at hlen
  by_cases c1 : 100 < N
  case pos =>
    have e1 : writeF S L = (S, ⟨#[]⟩, ⟨#[]⟩, 4) := by unfold writeF; rw [if_pos (by rw [hN]; exact c1)]
    rw [e1, hN]
    have hd : decide ((100 : Int) < (N : Int)) = true := by rw [decide_eq_true_iff]; omega
    have HT := Lib.hid (RTo.same h (Below.refl _ _))
    clear e1 c1 hN h hL hsep
    go_enter Try.func30, Try.ntmps30
    go_wp2_with fail
    go_ret3
    exact ⟨rfl, HT.out⟩
  case neg =>
    have hd : decide ((100 : Int) < (N : Int)) = false := by rw [decide_eq_false_iff_not]; omega
    have hN100 : N ≤ 100 := by omega
    obtain ⟨R, hR⟩ : ∃ R, writeF S L = R := ⟨_, rfl⟩
    have HR := Lib.hid hR
    have hrel : writeF S L = if 0 ≤ whereF L (fun f => !mayFl f) then (S, ⟨#[]⟩, ⟨#[]⟩, 2) else ((foldW S L).1, (foldW S L).2.1, secF (foldW S L).1.l (foldW S L).2.2 L, 0) := by unfold writeF; rw [if_neg (by rw [hN]; exact c1)]
    have HRL := Lib.hid hrel
    have A0 : Hid (AtR w w B b pl L S) := Lib.hid ⟨RTo.same h (Below.refl _ _), hL⟩
    have HS := Lib.hid hok
    have HZ := Lib.hid hsz
    have HSEP := Lib.hid hsep
    have hbw := h.1.lt
    have HL0 : Hid (L.take N = L) := Lib.hid (by rw [← hN, List.take_length])
    rw [hR, hN]
    clear hR hrel c1 h hL hok hsz hsep hN
    go_enter Try.func30, Try.ntmps30
    go_wp2_with fail
    go_loopw [4, 5, 6, 7] (fun _ _ _ iv wr => ∃ j : Nat, j ≤ N ∧ iv = .int .i64 j ∧ (∀ f ∈ L.take j, mayFl f = true) ∧ AtR w wr B b pl L S) (fun _ _ _ iv _ => N - (intOf iv).toNat)
    case atStart => exact ⟨0, by omega, rfl, fun f hf => by simp at hf, A0.out⟩
    case round =>
      obtain ⟨j, hj, rfl, hmy, hA⟩ := hrel
      have HA := Lib.hid hA
      have HMY := Lib.hid hmy
      by_cases hlt : j < N
      · have hjl : j < L.length := by rw [HN.out]; exact hlt
        obtain ⟨q, hq⟩ : ∃ q, L[j]? = some q := ⟨_, List.getElem?_eq_getElem hjl⟩
        obtain ⟨g, o, rfl, hg, hc⟩ := hA.2 (by omega)
        obtain ⟨k1, k2⟩ := hc j q hq
        have htk := take_fl L j q hq
        have hmm := fun w => Rmay_any q w
        obtain ⟨cm, hcm⟩ : ∃ c, mayFl q = c := ⟨_, rfl⟩
        have HTK : Hid (cm = true → ∀ f ∈ L.take (j + 1), mayFl f = true) := Lib.hid (fun h f hf => by
          rw [htk] at hf
          rcases List.mem_append.1 hf with hf | hf
          · exact hmy f hf
          · obtain rfl := List.mem_singleton.1 hf
            rw [hcm]; exact h)
        have HBAD : Hid (cm = false → 0 ≤ whereF L (fun f => !mayFl f)) := Lib.hid (fun h => by
          by_cases h0 : 0 ≤ whereF L (fun f => !mayFl f)
          · exact h0
          · have := where_none_all h0 q (List.mem_of_getElem? hq)
            rw [hcm, h] at this
            cases this)
        rw [hcm] at hmm
        obtain ⟨n0, v0⟩ := q
        unfold Fl.v at hmm
        simp only at k1 k2 hmm
        have HMM := Lib.hid hmm
        clear hc hq hjl hmy htk hmm hcm hA
        cases cm
        · have HE : Hid (R = (S, ⟨#[]⟩, ⟨#[]⟩, 2)) := Lib.hid (by rw [← HR.out, HRL.out, if_pos (HBAD.out rfl)])
          go_wp2_with fail
          refine (HMM.out _).mono ?_
          rintro e y1 ⟨rfl, b1⟩
          have A1 := Lib.hid (HA.out.further b1)
          clear b1
          go_wp2_with fail
          go_ret3
          rw [HE.out]
          exact ⟨rfl, A1.out.1⟩
        · go_wp2_with fail
          refine (HMM.out _).mono ?_
          rintro e y1 ⟨rfl, b1⟩
          have A1 := Lib.hid (HA.out.further b1)
          clear b1
          go_wp2_with fail
          go_roundw
          case rel => exact ⟨j + 1, by omega, by go_num, HTK.out (by first | rfl | trivial), A1.out⟩
          case measure => simp [intOf]; omega
      · have hjN : N = j := by omega
        subst hjN
        rw [HL0.out] at hmy
        have hW : WOk L := ⟨by rw [HN.out]; exact hN100, hmy⟩
        have HE : Hid (R = ((foldW S L).1, (foldW S L).2.1, secF (foldW S L).1.l (foldW S L).2.2 L, 0)) := Lib.hid (by rw [← HR.out, HRL.out, if_neg (where_all2 hmy)])
        have HWK := Lib.hid hW
        have HI := Lib.hid (fun k (hk : k ≤ N) => InvW.fold HS.out L k (by have := HN.out; omega))
        have HZT := Lib.hid (fun k (hk : k ≤ N) => foldW_size (S := S) (where_all2 hmy) k (by have := HN.out; omega))
        have HSZ := Lib.hid (fun k (_ : k ≤ N) => szok_fold (L.take k) S HZ.out)
        have HM := Lib.hid (fun (i : Nat) f (hf : L[i]? = some f) => (mayFl_iff f).1 (hmy f (List.mem_of_getElem? hf)))
        clear hmy hW hA HMY A0 hlt hj
        go_wp2_with fail
        go_loopw [8, 9, 10, 11, 12] (fun tv nv iv _ _ wz => ∃ j : Nat, j ≤ N ∧ iv = .int .i64 j ∧ tv = .string (foldW S (L.take j)).2.1 ∧ nv = .int .i64 (foldW S (L.take j)).2.2 ∧ AtR w wz B b pl L (foldW S (L.take j)).1) (fun _ _ iv _ _ _ => N - (intOf iv).toNat)
        case atStart => exact ⟨0, by omega, rfl, rfl, rfl, HA.out⟩
        case round =>
          obtain ⟨j, hj, rfl, rfl, rfl, hA⟩ := hrel
          by_cases hlt : j < N
          · have hjl : j < L.length := by rw [HN.out]; exact hlt
            obtain ⟨q, hq⟩ : ∃ q, L[j]? = some q := ⟨_, List.getElem?_eq_getElem hjl⟩
            have hst := foldW_succ S L j q hq
            have hinv := HI.out j hj
            have hszt := HZT.out j hj
            have hszk := HSZ.out j hj
            rw [← foldW_tab] at hszk
            obtain ⟨q1, q2, q3⟩ := HM.out j q hq
            generalize foldW S (L.take j) = st at *
            obtain ⟨St, told, m⟩ := st
            simp only at hszt hszk hinv hA ⊢
            obtain ⟨hSt, i1, i2, _, _, _⟩ := hinv
            simp only at i1 i2 hSt
            obtain ⟨gl, ol, hpe, hgl, hc⟩ := hA.2 (by omega)
            obtain ⟨k1, k2⟩ := hc j q hq
            obtain ⟨n0, v0⟩ := q
            simp only at k1 k2 q1 q2 q3
            have hbb : Below wr.heap.size wr (wr.alloc (.cells #[.string n0, .string v0] 84)) := (Below.refl _ _).alloc (Nat.le_refl _) _
            have hbx := blk.new wr 84 [.string n0, .string v0]
            have hwz : w.heap.size ≤ wr.heap.size := hA.1.elim fun _ h => h.2.size
            obtain ⟨p1, cap1, hD⟩ := RAt.make (g := wr.heap.size) ⟨hbx.cell (k := 0) rfl, hbx.cell (k := 1) rfl⟩ (hA.further hbb)
            obtain ⟨N1, hN1⟩ : ∃ n, St.l.length = n := ⟨_, rfl⟩
            obtain ⟨gx, hgx⟩ : ∃ g, wr.heap.size = g := ⟨_, rfl⟩
            have hgb : ¬ gx = b := by omega
            rw [hN1, hgx] at hD
            have HX := Lib.hid hgx
            have HN_St := Lib.hid hN1
            have hcl_St : N1 ≤ 10000 := by have := hSt.2.1; have := hSt.2.2; omega
            rw [hN1] at i2
            obtain ⟨iF, hiF⟩ : ∃ c, idxF fixedL (n0, v0) = c := ⟨_, rfl⟩
            obtain ⟨iW, hiW⟩ : ∃ c, idxF St.l (n0, v0) = c := ⟨_, rfl⟩
            obtain ⟨m0, hm0⟩ : ∃ m, namedF n0 = m := ⟨_, rfl⟩
            obtain ⟨f1, f2⟩ := idx_rng fixedL (n0, v0)
            obtain ⟨g1, g2⟩ := idx_rng St.l (n0, v0)
            obtain ⟨m1, m2⟩ := named_rng n0
            have Hnam := Lib.hid (fun w => Rnamed_any n0 w)
            rw [hiF] at f1 f2
            rw [hiW] at g1 g2
            rw [hN1] at g2
            rw [hm0] at m1 m2 Hnam
            have hfl : (fixedL.length : Int) = 12 := rfl
            rw [hfl] at f2
            have HiF := Lib.hid hiF
            have Hx_St := Lib.hid hiW
            have Hm0 := Lib.hid hm0
            have hml : m ≤ 10000 := by omega
            have hwW : IntKind.i64.wrap (iW + 1) = iW + 1 := IntWalk.i64_in _ (by omega)
            have h5n : n0.size ≤ 5000 := by omega
            have h5v : v0.size ≤ 5000 := by omega
            have hsv : (tF v0 8 0).size ≤ 210 := by have := tF_size v0 8 0 (by omega) h5v; omega
            have HD0 := Lib.hid (RAt.drewd hD)
            clear hbb hbx hD hN1 hgx hfl
            have htz : told.size ≤ 40000 := by omega
            unfold stepW at hst
            simp only at hst
            obtain ⟨cA, hcA⟩ : ∃ c, (addF St (n0, v0)).2 = c := ⟨_, rfl⟩
            obtain ⟨S1, hS1⟩ : ∃ c, (addF St (n0, v0)).1 = c := ⟨_, rfl⟩
            have hokA := hSt.add (n0, v0)
            rw [hS1] at hokA
            have hce : comeF St (n0, v0) = if hasF fixedL (n0, v0) = true ∨ hasF St.l (n0, v0) = true ∨ cA = false then (St, ⟨#[]⟩) else (S1, tellF (n0, v0)) := by unfold comeF; rw [hcA, hS1]
            rw [has_idx fixedL, has_idx St.l, hiF, hiW] at hce
            rw [has_idx fixedL, hiF] at hst
            have HCE := Lib.hid hce
            have HSTP := Lib.hid hst
            have HcA := Lib.hid hcA
            have HS1 := Lib.hid hS1
            have HSA := Lib.hid (fun h : cA = false => addF_false (S := St) (f := (n0, v0)) (by rw [hcA]; exact h))
            have HokA := Lib.hid hokA
            have HSt := Lib.hid hSt
            have HSz := Lib.hid hszk
            subst hpe
            clear hc hq hjl hA hst hce hcA hS1 hokA hSt hszk hszt hiF hiW hm0 i2 hgl
            by_cases c1 : 0 ≤ iF
            case pos =>
              have d1 : decide (0 ≤ iF) = true := decide_eq_true c1
              have HF2 : Hid (foldW S (L.take (j + 1)) = (St, told, m)) := Lib.hid (by rw [HSTP.out, HCE.out, d1, if_pos (.inl rfl), if_pos rfl, ba_app_empty])
              go_wp2_with fail
              rw [HX.out]
              go_region_held (fun w' => (w'.cell? ⟨gx, 0, none⟩ = some (.string n0) ∧ w'.cell? ⟨gx, 1, none⟩ = some (.string v0)) ∧ w'.cell? ⟨b, 0, none⟩ = some (.slice p1 N1 cap1) ∧ TbR w' B b (.slice p1 N1 cap1) St ∧ AtR w w' B b (some ⟨gl, ol, none⟩) L St)
                (first | with_reducible assumption | exact HD0.out | (refine RAt.further ?_ (by with_reducible assumption); with_reducible assumption))
                (first | (go_at_call 51; refine (RFixed_any _).mono ?_; rintro e xa ⟨va, rfl, oa, bq⟩; obtain ⟨pa, ca, rfl, _⟩ := own_shape oa; have fva := oa.fv) | (go_at_call 50; refine (Rfind_any fixedL pa ca (n0, v0) _ fva (by decide)).mono ?_; rintro e xb ⟨he, bq⟩; rw [HiF.out] at he; subst he))
              have H14 := Lib.hid (show (_ ∧ _) ∧ _ ∧ TbR _ B b (.slice p1 N1 cap1) St ∧ AtR w _ B b (some ⟨gl, ol, none⟩) L St by with_reducible assumption)
              go_wp2_with fail
              go_roundw
              case rel => exact ⟨j + 1, by omega, by go_num, by rw [HF2.out], by rw [HF2.out], by rw [HF2.out]; exact H14.out.2.2.2⟩
              case measure => simp [intOf]; omega
            case neg =>
              have d1 : decide (0 ≤ iF) = false := decide_eq_false c1
              by_cases c2 : 0 ≤ iW
              case pos =>
                have d2 : decide (0 ≤ iW) = true := decide_eq_true c2
                have d2n : decide (iW < 0) = false := decide_eq_false (by omega)
                have HST : Hid (foldW S (L.take (j + 1)) = (St, told, max m (iW + 1))) := Lib.hid (by rw [HSTP.out, HCE.out, d1, d2, if_pos (.inr (.inl rfl)), if_neg (by simp), ba_app_empty, Hx_St.out])
                go_wp2_with fail
                rw [HX.out]
                go_region_held (fun w' => (w'.cell? ⟨gx, 0, none⟩ = some (.string n0) ∧ w'.cell? ⟨gx, 1, none⟩ = some (.string v0)) ∧ w'.cell? ⟨b, 0, none⟩ = some (.slice p1 N1 cap1) ∧ TbR w' B b (.slice p1 N1 cap1) St ∧ AtR w w' B b (some ⟨gl, ol, none⟩) L St)
                  (first | with_reducible assumption | exact HD0.out | (refine RAt.further ?_ (by with_reducible assumption); with_reducible assumption))
                  (first | (go_at_call 51; refine (RFixed_any _).mono ?_; rintro e xa ⟨va, rfl, oa, bq⟩; obtain ⟨pa, ca, rfl, _⟩ := own_shape oa; have fva := oa.fv) | (go_at_call 50; refine (Rfind_any fixedL pa ca (n0, v0) _ fva (by decide)).mono ?_; rintro e xb ⟨he, bq⟩; rw [HiF.out] at he; subst he))
                have H14 := Lib.hid (show (_ ∧ _) ∧ _ ∧ TbR _ B b (.slice p1 N1 cap1) St ∧ AtR w _ B b (some ⟨gl, ol, none⟩) L St by with_reducible assumption)
                go_wp2_with fail
                have D15 := Lib.hid (RAt.drewd H14.out)
                obtain ⟨_, kc, _⟩ := D15.out
                refine wp_region_held_drew (S := (fun w' => (w'.cell? ⟨gx, 0, none⟩ = some (.string n0) ∧ w'.cell? ⟨gx, 1, none⟩ = some (.string v0)))) (by kernel_rfl) (D15.out.1) (fun hHeld => ?_)
                refine wpAnyH_takeD (i := 0) (v := ?_) (some 45) rfl rfl (by kernel_rfl) (by kernel_rfl) (by kernel_rfl) (fun _ _ _ h => h) (Or.inl ⟨by kernel_rfl, ?_⟩) (by assumption) ?_
                rotate_left
                · (intro w hSw; (try dsimp only at hSw); go_simp); all_goals with_reducible rfl
                try simp only [Act.put, List.setIfInBounds_toArray, List.set_cons_zero, List.set_cons_succ]
                refine wpAnyH_takeD (i := 1) (v := ?_) (some 46) rfl rfl (by kernel_rfl) (by kernel_rfl) (by kernel_rfl) (fun _ _ _ h => h) (Or.inl ⟨by kernel_rfl, ?_⟩) (by assumption) ?_
                rotate_left
                · (intro w hSw; (try dsimp only at hSw); go_simp); all_goals with_reducible rfl
                try simp only [Act.put, List.setIfInBounds_toArray, List.set_cons_zero, List.set_cons_succ]
                refine wpAnyH_takeD (i := 2) (v := ?_) (some 47) rfl rfl (by kernel_rfl) (by kernel_rfl) (by kernel_rfl) (fun _ _ _ h => h) (Or.inl ⟨by kernel_rfl, ?_⟩) (by assumption) ?_
                rotate_left
                · (intro w hSw; (try dsimp only at hSw); go_simp); all_goals with_reducible rfl
                try simp only [Act.put, List.setIfInBounds_toArray, List.set_cons_zero, List.set_cons_succ]
                refine wpAnyH_takeD (i := 4) (v := ?_) (some 49) rfl rfl (by kernel_rfl) (by kernel_rfl) (by kernel_rfl) (fun _ _ _ h => h) (Or.inl ⟨by kernel_rfl, ?_⟩) (by assumption) ?_
                rotate_left
                · (intro w hSw; (try dsimp only at hSw); go_simp); all_goals with_reducible rfl
                try simp only [Act.put, List.setIfInBounds_toArray, List.set_cons_zero, List.set_cons_succ]
                refine wpAnyH_ready (rs := [3]) (by kernel_rfl) (by simp) ?_
                refine AllReadyH.cons rfl (fun K hK => ?_) AllReadyH.nil
                go_simp
                refine hK.out _ _ (hHeld) (fun hHeld => ?_)
                clear hK K
                refine wpAnyH_ready (rs := [5]) (by kernel_rfl) (by simp) ?_
                refine AllReadyH.cons rfl (fun K hK => ?_) AllReadyH.nil
                go_simp
                go_wp2_with (go_at_call 50; refine (Rfind_tab (n0, v0) _ D15.out.2.2.1 HN_St.out hcl_St).mono ?_; rintro e xc ⟨he, bq⟩; rw [Hx_St.out] at he; subst he; have H15 := Lib.hid (RAt.further D15.out bq))
                refine hK.out _ _ (H15.out.1) (fun hHeld => ?_)
                clear hK K
                refine wpAnyH_takeD (i := 6) (v := ?_) (some 51) rfl rfl (by kernel_rfl) (by kernel_rfl) (by kernel_rfl) (fun _ _ _ h => h) (Or.inl ⟨by kernel_rfl, ?_⟩) (by assumption) ?_
                rotate_left
                · (intro w hSw; (try dsimp only at hSw); go_simp); all_goals with_reducible rfl
                try simp only [Act.put, List.setIfInBounds_toArray, List.set_cons_zero, List.set_cons_succ]
                refine wpAnyH_takeD (i := 7) (v := ?_) (some 52) rfl rfl (by kernel_rfl) (by kernel_rfl) (by kernel_rfl) (fun _ _ _ h => h) (Or.inl ⟨by kernel_rfl, ?_⟩) (by assumption) ?_
                rotate_left
                · (intro w hSw; (try dsimp only at hSw); go_simp); all_goals with_reducible rfl
                try simp only [Act.put, List.setIfInBounds_toArray, List.set_cons_zero, List.set_cons_succ]
                refine wpAnyH_takeD (i := 8) (v := undef) (some 53) rfl rfl (by kernel_rfl) (by kernel_rfl) (by kernel_rfl) (fun _ _ _ h => h) (Or.inr ⟨by kernel_rfl, rfl⟩) (by assumption) ?_
                try simp only [Act.put, List.setIfInBounds_toArray, List.set_cons_zero, List.set_cons_succ]
                refine wpAnyH_takeD (i := 9) (v := undef) (some 54) rfl rfl (by kernel_rfl) (by kernel_rfl) (by kernel_rfl) (fun _ _ _ h => h) (Or.inr ⟨by kernel_rfl, rfl⟩) (by assumption) ?_
                try simp only [Act.put, List.setIfInBounds_toArray, List.set_cons_zero, List.set_cons_succ]
                refine wpAnyH_takeD (i := 10) (v := undef) (some 55) rfl rfl (by kernel_rfl) (by kernel_rfl) (by kernel_rfl) (fun _ _ _ h => h) (Or.inr ⟨by kernel_rfl, rfl⟩) (by assumption) ?_
                try simp only [Act.put, List.setIfInBounds_toArray, List.set_cons_zero, List.set_cons_succ]
                refine wpAnyH_takeD (i := 11) (v := ?_) (some 56) rfl rfl (by kernel_rfl) (by kernel_rfl) (by kernel_rfl) (fun _ _ _ h => h) (Or.inl ⟨by kernel_rfl, ?_⟩) (by assumption) ?_
                rotate_left
                · (intro w hSw; (try dsimp only at hSw); go_simp); all_goals with_reducible rfl
                try simp only [Act.put, List.setIfInBounds_toArray, List.set_cons_zero, List.set_cons_succ]
                refine wpAnyH_done (by kernel_rfl) ?_ _
                go_wp2_with fail
                by_cases hgt : m < iW + 1
                case pos =>
                  have dg : decide (m < iW + 1) = true := decide_eq_true hgt
                  have HF2 : Hid (foldW S (L.take (j + 1)) = (St, told, iW + 1)) := Lib.hid (by rw [HST.out, Int.max_eq_right (by omega)])
                  have D21 := Lib.hid (RAt.drewd H15.out)
                  go_wp2_with fail
                  go_region_held (fun w' => (w'.cell? ⟨gx, 0, none⟩ = some (.string n0) ∧ w'.cell? ⟨gx, 1, none⟩ = some (.string v0)) ∧ w'.cell? ⟨b, 0, none⟩ = some (.slice p1 N1 cap1) ∧ TbR w' B b (.slice p1 N1 cap1) St ∧ AtR w w' B b (some ⟨gl, ol, none⟩) L St)
                    (first | with_reducible assumption | exact D21.out | (refine RAt.further ?_ (by with_reducible assumption); with_reducible assumption))
                    (first | (go_at_call 50; refine (Rfind_tab (n0, v0) _ (show (_ ∧ _) ∧ _ ∧ TbR _ B b (.slice p1 N1 cap1) St ∧ AtR w _ B b (some ⟨gl, ol, none⟩) L St by with_reducible assumption).2.2.1 HN_St.out hcl_St).mono ?_; rintro e xc ⟨he, bq⟩; rw [Hx_St.out] at he; subst he))
                  have H21 := Lib.hid (show (_ ∧ _) ∧ _ ∧ TbR _ B b (.slice p1 N1 cap1) St ∧ AtR w _ B b (some ⟨gl, ol, none⟩) L St by with_reducible assumption)
                  go_wp2_with fail
                  have D22 := Lib.hid (RAt.drewd H21.out)
                  go_region_held (fun w' => (w'.cell? ⟨gx, 0, none⟩ = some (.string n0) ∧ w'.cell? ⟨gx, 1, none⟩ = some (.string v0)) ∧ w'.cell? ⟨b, 0, none⟩ = some (.slice p1 N1 cap1) ∧ TbR w' B b (.slice p1 N1 cap1) St ∧ AtR w w' B b (some ⟨gl, ol, none⟩) L St)
                    (first | with_reducible assumption | exact D22.out | (refine RAt.further ?_ (by with_reducible assumption); with_reducible assumption))
                    (first | (go_at_call 50; refine (Rfind_tab (n0, v0) _ (show (_ ∧ _) ∧ _ ∧ TbR _ B b (.slice p1 N1 cap1) St ∧ AtR w _ B b (some ⟨gl, ol, none⟩) L St by with_reducible assumption).2.2.1 HN_St.out hcl_St).mono ?_; rintro e xc ⟨he, bq⟩; rw [Hx_St.out] at he; subst he))
                  have H22 := Lib.hid (show (_ ∧ _) ∧ _ ∧ TbR _ B b (.slice p1 N1 cap1) St ∧ AtR w _ B b (some ⟨gl, ol, none⟩) L St by with_reducible assumption)
                  go_wp2_with fail
                  go_roundw
                  case rel => exact ⟨j + 1, by omega, by go_num, by rw [HF2.out], by rw [HF2.out], by rw [HF2.out]; exact H22.out.2.2.2⟩
                  case measure => simp [intOf]; omega
                case neg =>
                  have dg : decide (m < iW + 1) = false := decide_eq_false hgt
                  have HF2 : Hid (foldW S (L.take (j + 1)) = (St, told, m)) := Lib.hid (by rw [HST.out, Int.max_eq_left (by omega)])
                  have D21 := Lib.hid (RAt.drewd H15.out)
                  go_wp2_with fail
                  go_region_held (fun w' => (w'.cell? ⟨gx, 0, none⟩ = some (.string n0) ∧ w'.cell? ⟨gx, 1, none⟩ = some (.string v0)) ∧ w'.cell? ⟨b, 0, none⟩ = some (.slice p1 N1 cap1) ∧ TbR w' B b (.slice p1 N1 cap1) St ∧ AtR w w' B b (some ⟨gl, ol, none⟩) L St)
                    (first | with_reducible assumption | exact D21.out | (refine RAt.further ?_ (by with_reducible assumption); with_reducible assumption))
                    (first | (go_at_call 50; refine (Rfind_tab (n0, v0) _ (show (_ ∧ _) ∧ _ ∧ TbR _ B b (.slice p1 N1 cap1) St ∧ AtR w _ B b (some ⟨gl, ol, none⟩) L St by with_reducible assumption).2.2.1 HN_St.out hcl_St).mono ?_; rintro e xc ⟨he, bq⟩; rw [Hx_St.out] at he; subst he))
                  have H21 := Lib.hid (show (_ ∧ _) ∧ _ ∧ TbR _ B b (.slice p1 N1 cap1) St ∧ AtR w _ B b (some ⟨gl, ol, none⟩) L St by with_reducible assumption)
                  go_wp2_with fail
                  go_roundw
                  case rel => exact ⟨j + 1, by omega, by go_num, by rw [HF2.out], by rw [HF2.out], by rw [HF2.out]; exact H21.out.2.2.2⟩
                  case measure => simp [intOf]; omega
              case neg =>
                have d2 : decide (0 ≤ iW) = false := decide_eq_false c2
                have d2n : decide (iW < 0) = true := decide_eq_true (by omega)
                cases cA
                case false =>
                  have HST : Hid (foldW S (L.take (j + 1)) = (St, told, max m (iW + 1))) := Lib.hid (by rw [HSTP.out, HCE.out, d1, d2, if_pos (.inr (.inr rfl)), if_neg (by simp), ba_app_empty, Hx_St.out])
                  go_wp2_with fail
                  rw [HX.out]
                  go_region_held (fun w' => (w'.cell? ⟨gx, 0, none⟩ = some (.string n0) ∧ w'.cell? ⟨gx, 1, none⟩ = some (.string v0)) ∧ w'.cell? ⟨b, 0, none⟩ = some (.slice p1 N1 cap1) ∧ TbR w' B b (.slice p1 N1 cap1) St ∧ AtR w w' B b (some ⟨gl, ol, none⟩) L St)
                    (first | with_reducible assumption | exact HD0.out | (refine RAt.further ?_ (by with_reducible assumption); with_reducible assumption))
                    (first | (go_at_call 51; refine (RFixed_any _).mono ?_; rintro e xa ⟨va, rfl, oa, bq⟩; obtain ⟨pa, ca, rfl, _⟩ := own_shape oa; have fva := oa.fv) | (go_at_call 50; refine (Rfind_any fixedL pa ca (n0, v0) _ fva (by decide)).mono ?_; rintro e xb ⟨he, bq⟩; rw [HiF.out] at he; subst he))
                  have H14 := Lib.hid (show (_ ∧ _) ∧ _ ∧ TbR _ B b (.slice p1 N1 cap1) St ∧ AtR w _ B b (some ⟨gl, ol, none⟩) L St by with_reducible assumption)
                  go_wp2_with fail
                  have D15 := Lib.hid (RAt.drewd H14.out)
                  obtain ⟨_, kc, _⟩ := D15.out
                  refine wp_region_held_drew (S := (fun w' => (w'.cell? ⟨gx, 0, none⟩ = some (.string n0) ∧ w'.cell? ⟨gx, 1, none⟩ = some (.string v0)))) (by kernel_rfl) (D15.out.1) (fun hHeld => ?_)
                  refine wpAnyH_takeD (i := 0) (v := ?_) (some 45) rfl rfl (by kernel_rfl) (by kernel_rfl) (by kernel_rfl) (fun _ _ _ h => h) (Or.inl ⟨by kernel_rfl, ?_⟩) (by assumption) ?_
                  rotate_left
                  · (intro w hSw; (try dsimp only at hSw); go_simp); all_goals with_reducible rfl
                  try simp only [Act.put, List.setIfInBounds_toArray, List.set_cons_zero, List.set_cons_succ]
                  refine wpAnyH_takeD (i := 1) (v := ?_) (some 46) rfl rfl (by kernel_rfl) (by kernel_rfl) (by kernel_rfl) (fun _ _ _ h => h) (Or.inl ⟨by kernel_rfl, ?_⟩) (by assumption) ?_
                  rotate_left
                  · (intro w hSw; (try dsimp only at hSw); go_simp); all_goals with_reducible rfl
                  try simp only [Act.put, List.setIfInBounds_toArray, List.set_cons_zero, List.set_cons_succ]
                  refine wpAnyH_takeD (i := 2) (v := ?_) (some 47) rfl rfl (by kernel_rfl) (by kernel_rfl) (by kernel_rfl) (fun _ _ _ h => h) (Or.inl ⟨by kernel_rfl, ?_⟩) (by assumption) ?_
                  rotate_left
                  · (intro w hSw; (try dsimp only at hSw); go_simp); all_goals with_reducible rfl
                  try simp only [Act.put, List.setIfInBounds_toArray, List.set_cons_zero, List.set_cons_succ]
                  refine wpAnyH_takeD (i := 4) (v := ?_) (some 49) rfl rfl (by kernel_rfl) (by kernel_rfl) (by kernel_rfl) (fun _ _ _ h => h) (Or.inl ⟨by kernel_rfl, ?_⟩) (by assumption) ?_
                  rotate_left
                  · (intro w hSw; (try dsimp only at hSw); go_simp); all_goals with_reducible rfl
                  try simp only [Act.put, List.setIfInBounds_toArray, List.set_cons_zero, List.set_cons_succ]
                  refine wpAnyH_ready (rs := [3]) (by kernel_rfl) (by simp) ?_
                  refine AllReadyH.cons rfl (fun K hK => ?_) AllReadyH.nil
                  go_simp
                  refine hK.out _ _ (hHeld) (fun hHeld => ?_)
                  clear hK K
                  refine wpAnyH_ready (rs := [5]) (by kernel_rfl) (by simp) ?_
                  refine AllReadyH.cons rfl (fun K hK => ?_) AllReadyH.nil
                  go_simp
                  go_wp2_with (go_at_call 50; refine (Rfind_tab (n0, v0) _ D15.out.2.2.1 HN_St.out hcl_St).mono ?_; rintro e xc ⟨he, bq⟩; rw [Hx_St.out] at he; subst he; have H15 := Lib.hid (RAt.further D15.out bq))
                  refine hK.out _ _ (H15.out.1) (fun hHeld => ?_)
                  clear hK K
                  refine wpAnyH_takeD (i := 6) (v := ?_) (some 51) rfl rfl (by kernel_rfl) (by kernel_rfl) (by kernel_rfl) (fun _ _ _ h => h) (Or.inl ⟨by kernel_rfl, ?_⟩) (by assumption) ?_
                  rotate_left
                  · (intro w hSw; (try dsimp only at hSw); go_simp); all_goals with_reducible rfl
                  try simp only [Act.put, List.setIfInBounds_toArray, List.set_cons_zero, List.set_cons_succ]
                  refine wpAnyH_takeD (i := 7) (v := ?_) (some 52) rfl rfl (by kernel_rfl) (by kernel_rfl) (by kernel_rfl) (fun _ _ _ h => h) (Or.inl ⟨by kernel_rfl, ?_⟩) (by assumption) ?_
                  rotate_left
                  · (intro w hSw; (try dsimp only at hSw); go_simp); all_goals with_reducible rfl
                  try simp only [Act.put, List.setIfInBounds_toArray, List.set_cons_zero, List.set_cons_succ]
                  refine wpAnyH_takeD (i := 8) (v := ?_) (some 53) rfl rfl (by kernel_rfl) (by kernel_rfl) (by kernel_rfl) (fun _ _ _ h => h) (Or.inl ⟨by kernel_rfl, ?_⟩) (by assumption) ?_
                  rotate_left
                  · (intro w hSw; (try dsimp only at hSw); go_simp); all_goals with_reducible rfl
                  try simp only [Act.put, List.setIfInBounds_toArray, List.set_cons_zero, List.set_cons_succ]
                  refine wpAnyH_takeD (i := 9) (v := ?_) (some 54) rfl rfl (by kernel_rfl) (by kernel_rfl) (by kernel_rfl) (fun _ _ _ h => h) (Or.inl ⟨by kernel_rfl, ?_⟩) (by assumption) ?_
                  rotate_left
                  · (intro w hSw; (try dsimp only at hSw); go_simp); all_goals with_reducible rfl
                  try simp only [Act.put, List.setIfInBounds_toArray, List.set_cons_zero, List.set_cons_succ]
                  refine wpAnyH_ready (rs := [10]) (by kernel_rfl) (by simp) ?_
                  refine AllReadyH.cons rfl (fun K hK => ?_) AllReadyH.nil
                  go_simp
                  go_wp2_with (go_at_call 52; refine (Radd_any B b (.slice p1 N1 cap1) St (n0, v0) _ H15.out.2.2.1 HSt.out HSz.out (Nat.le_trans hBw (H15.out.2.2.2.1.elim fun _ h => h.2.size)) (by show n0.size ≤ 1000000; omega) (by show v0.size ≤ 1000000; omega)).mono ?_; rintro e xd ⟨he, hTo⟩; rw [HcA.out] at he; subst he; obtain ⟨vd, htd, od⟩ := hTo; have bd := two_only (g := gx) H15.out.1 od hgb; have A16 := Lib.hid (AtR.step H15.out.2.2.2 HSEP.out ⟨vd, htd, od⟩); clear htd)
                  refine hK.out _ _ (bd) (fun hHeld => ?_)
                  clear hK K
                  refine wpAnyH_takeD (i := 11) (v := ?_) (some 56) rfl rfl (by kernel_rfl) (by kernel_rfl) (by kernel_rfl) (fun _ _ _ h => h) (Or.inl ⟨by kernel_rfl, ?_⟩) (by assumption) ?_
                  rotate_left
                  · (intro w hSw; (try dsimp only at hSw); go_simp); all_goals with_reducible rfl
                  try simp only [Act.put, List.setIfInBounds_toArray, List.set_cons_zero, List.set_cons_succ]
                  refine wpAnyH_done (by kernel_rfl) ?_ _
                  go_wp2_with fail
                  have hA16 := A16.out
                  rw [HS1.out, show S1 = St by rw [← HS1.out]; exact HSA.out (by first | rfl | trivial)] at hA16
                  obtain ⟨p6, cap6, hD6⟩ := RAt.make bd hA16
                  rw [HN_St.out] at hD6
                  have H16 := Lib.hid hD6
                  clear hD6 hA16
                  by_cases hgt : m < iW + 1
                  case pos =>
                    have dg : decide (m < iW + 1) = true := decide_eq_true hgt
                    have HF2 : Hid (foldW S (L.take (j + 1)) = (St, told, iW + 1)) := Lib.hid (by rw [HST.out, Int.max_eq_right (by omega)])
                    have D21 := Lib.hid (RAt.drewd H16.out)
                    go_wp2_with fail
                    go_region_held (fun w' => (w'.cell? ⟨gx, 0, none⟩ = some (.string n0) ∧ w'.cell? ⟨gx, 1, none⟩ = some (.string v0)) ∧ w'.cell? ⟨b, 0, none⟩ = some (.slice p6 N1 cap6) ∧ TbR w' B b (.slice p6 N1 cap6) St ∧ AtR w w' B b (some ⟨gl, ol, none⟩) L St)
                      (first | with_reducible assumption | exact D21.out | (refine RAt.further ?_ (by with_reducible assumption); with_reducible assumption))
                      (first | (go_at_call 50; refine (Rfind_tab (n0, v0) _ (show (_ ∧ _) ∧ _ ∧ TbR _ B b (.slice p6 N1 cap6) St ∧ AtR w _ B b (some ⟨gl, ol, none⟩) L St by with_reducible assumption).2.2.1 HN_St.out hcl_St).mono ?_; rintro e xc ⟨he, bq⟩; rw [Hx_St.out] at he; subst he))
                    have H21 := Lib.hid (show (_ ∧ _) ∧ _ ∧ TbR _ B b (.slice p6 N1 cap6) St ∧ AtR w _ B b (some ⟨gl, ol, none⟩) L St by with_reducible assumption)
                    go_wp2_with fail
                    have D22 := Lib.hid (RAt.drewd H21.out)
                    go_region_held (fun w' => (w'.cell? ⟨gx, 0, none⟩ = some (.string n0) ∧ w'.cell? ⟨gx, 1, none⟩ = some (.string v0)) ∧ w'.cell? ⟨b, 0, none⟩ = some (.slice p6 N1 cap6) ∧ TbR w' B b (.slice p6 N1 cap6) St ∧ AtR w w' B b (some ⟨gl, ol, none⟩) L St)
                      (first | with_reducible assumption | exact D22.out | (refine RAt.further ?_ (by with_reducible assumption); with_reducible assumption))
                      (first | (go_at_call 50; refine (Rfind_tab (n0, v0) _ (show (_ ∧ _) ∧ _ ∧ TbR _ B b (.slice p6 N1 cap6) St ∧ AtR w _ B b (some ⟨gl, ol, none⟩) L St by with_reducible assumption).2.2.1 HN_St.out hcl_St).mono ?_; rintro e xc ⟨he, bq⟩; rw [Hx_St.out] at he; subst he))
                    have H22 := Lib.hid (show (_ ∧ _) ∧ _ ∧ TbR _ B b (.slice p6 N1 cap6) St ∧ AtR w _ B b (some ⟨gl, ol, none⟩) L St by with_reducible assumption)
                    go_wp2_with fail
                    go_roundw
                    case rel => exact ⟨j + 1, by omega, by go_num, by rw [HF2.out], by rw [HF2.out], by rw [HF2.out]; exact H22.out.2.2.2⟩
                    case measure => simp [intOf]; omega
                  case neg =>
                    have dg : decide (m < iW + 1) = false := decide_eq_false hgt
                    have HF2 : Hid (foldW S (L.take (j + 1)) = (St, told, m)) := Lib.hid (by rw [HST.out, Int.max_eq_left (by omega)])
                    have D21 := Lib.hid (RAt.drewd H16.out)
                    go_wp2_with fail
                    go_region_held (fun w' => (w'.cell? ⟨gx, 0, none⟩ = some (.string n0) ∧ w'.cell? ⟨gx, 1, none⟩ = some (.string v0)) ∧ w'.cell? ⟨b, 0, none⟩ = some (.slice p6 N1 cap6) ∧ TbR w' B b (.slice p6 N1 cap6) St ∧ AtR w w' B b (some ⟨gl, ol, none⟩) L St)
                      (first | with_reducible assumption | exact D21.out | (refine RAt.further ?_ (by with_reducible assumption); with_reducible assumption))
                      (first | (go_at_call 50; refine (Rfind_tab (n0, v0) _ (show (_ ∧ _) ∧ _ ∧ TbR _ B b (.slice p6 N1 cap6) St ∧ AtR w _ B b (some ⟨gl, ol, none⟩) L St by with_reducible assumption).2.2.1 HN_St.out hcl_St).mono ?_; rintro e xc ⟨he, bq⟩; rw [Hx_St.out] at he; subst he))
                    have H21 := Lib.hid (show (_ ∧ _) ∧ _ ∧ TbR _ B b (.slice p6 N1 cap6) St ∧ AtR w _ B b (some ⟨gl, ol, none⟩) L St by with_reducible assumption)
                    go_wp2_with fail
                    go_roundw
                    case rel => exact ⟨j + 1, by omega, by go_num, by rw [HF2.out], by rw [HF2.out], by rw [HF2.out]; exact H21.out.2.2.2⟩
                    case measure => simp [intOf]; omega
                case true =>
                  obtain ⟨ix, hix⟩ : ∃ c, idxF S1.l (n0, v0) = c := ⟨_, rfl⟩
                  obtain ⟨N6, hN6⟩ : ∃ n, S1.l.length = n := ⟨_, rfl⟩
                  obtain ⟨x1, x2⟩ := idx_rng S1.l (n0, v0)
                  rw [hix] at x1 x2
                  rw [hN6] at x2
                  have hcl_S1 : N6 ≤ 10000 := by have := HokA.out.2.1; have := HokA.out.2.2; omega
                  have Hx_S1 := Lib.hid hix
                  have HN_S1 := Lib.hid hN6
                  have hwX : IntKind.i64.wrap (ix + 1) = ix + 1 := IntWalk.i64_in _ (by omega)
                  have HST : Hid (foldW S (L.take (j + 1)) = (S1, told ++ tellF (n0, v0), max m (ix + 1))) := Lib.hid (by rw [HSTP.out, HCE.out, d1, d2, if_neg (by simp), if_neg (by simp), Hx_S1.out])
                  have hsn : (tF n0 6 64).size ≤ 210 := by have := tF_size n0 6 64 (by omega) h5n; omega
                  clear hix hN6
                  go_wp2_with fail
                  rw [HX.out]
                  go_region_held (fun w' => (w'.cell? ⟨gx, 0, none⟩ = some (.string n0) ∧ w'.cell? ⟨gx, 1, none⟩ = some (.string v0)) ∧ w'.cell? ⟨b, 0, none⟩ = some (.slice p1 N1 cap1) ∧ TbR w' B b (.slice p1 N1 cap1) St ∧ AtR w w' B b (some ⟨gl, ol, none⟩) L St)
                    (first | with_reducible assumption | exact HD0.out | (refine RAt.further ?_ (by with_reducible assumption); with_reducible assumption))
                    (first | (go_at_call 51; refine (RFixed_any _).mono ?_; rintro e xa ⟨va, rfl, oa, bq⟩; obtain ⟨pa, ca, rfl, _⟩ := own_shape oa; have fva := oa.fv) | (go_at_call 50; refine (Rfind_any fixedL pa ca (n0, v0) _ fva (by decide)).mono ?_; rintro e xb ⟨he, bq⟩; rw [HiF.out] at he; subst he))
                  have H14 := Lib.hid (show (_ ∧ _) ∧ _ ∧ TbR _ B b (.slice p1 N1 cap1) St ∧ AtR w _ B b (some ⟨gl, ol, none⟩) L St by with_reducible assumption)
                  go_wp2_with fail
                  have D15 := Lib.hid (RAt.drewd H14.out)
                  obtain ⟨_, kc, _⟩ := D15.out
                  refine wp_region_held_drew (S := (fun w' => (w'.cell? ⟨gx, 0, none⟩ = some (.string n0) ∧ w'.cell? ⟨gx, 1, none⟩ = some (.string v0)))) (by kernel_rfl) (D15.out.1) (fun hHeld => ?_)
                  refine wpAnyH_takeD (i := 0) (v := ?_) (some 45) rfl rfl (by kernel_rfl) (by kernel_rfl) (by kernel_rfl) (fun _ _ _ h => h) (Or.inl ⟨by kernel_rfl, ?_⟩) (by assumption) ?_
                  rotate_left
                  · (intro w hSw; (try dsimp only at hSw); go_simp); all_goals with_reducible rfl
                  try simp only [Act.put, List.setIfInBounds_toArray, List.set_cons_zero, List.set_cons_succ]
                  refine wpAnyH_takeD (i := 1) (v := ?_) (some 46) rfl rfl (by kernel_rfl) (by kernel_rfl) (by kernel_rfl) (fun _ _ _ h => h) (Or.inl ⟨by kernel_rfl, ?_⟩) (by assumption) ?_
                  rotate_left
                  · (intro w hSw; (try dsimp only at hSw); go_simp); all_goals with_reducible rfl
                  try simp only [Act.put, List.setIfInBounds_toArray, List.set_cons_zero, List.set_cons_succ]
                  refine wpAnyH_takeD (i := 2) (v := ?_) (some 47) rfl rfl (by kernel_rfl) (by kernel_rfl) (by kernel_rfl) (fun _ _ _ h => h) (Or.inl ⟨by kernel_rfl, ?_⟩) (by assumption) ?_
                  rotate_left
                  · (intro w hSw; (try dsimp only at hSw); go_simp); all_goals with_reducible rfl
                  try simp only [Act.put, List.setIfInBounds_toArray, List.set_cons_zero, List.set_cons_succ]
                  refine wpAnyH_takeD (i := 4) (v := ?_) (some 49) rfl rfl (by kernel_rfl) (by kernel_rfl) (by kernel_rfl) (fun _ _ _ h => h) (Or.inl ⟨by kernel_rfl, ?_⟩) (by assumption) ?_
                  rotate_left
                  · (intro w hSw; (try dsimp only at hSw); go_simp); all_goals with_reducible rfl
                  try simp only [Act.put, List.setIfInBounds_toArray, List.set_cons_zero, List.set_cons_succ]
                  refine wpAnyH_ready (rs := [3]) (by kernel_rfl) (by simp) ?_
                  refine AllReadyH.cons rfl (fun K hK => ?_) AllReadyH.nil
                  go_simp
                  refine hK.out _ _ (hHeld) (fun hHeld => ?_)
                  clear hK K
                  refine wpAnyH_ready (rs := [5]) (by kernel_rfl) (by simp) ?_
                  refine AllReadyH.cons rfl (fun K hK => ?_) AllReadyH.nil
                  go_simp
                  go_wp2_with (go_at_call 50; refine (Rfind_tab (n0, v0) _ D15.out.2.2.1 HN_St.out hcl_St).mono ?_; rintro e xc ⟨he, bq⟩; rw [Hx_St.out] at he; subst he; have H15 := Lib.hid (RAt.further D15.out bq))
                  refine hK.out _ _ (H15.out.1) (fun hHeld => ?_)
                  clear hK K
                  refine wpAnyH_takeD (i := 6) (v := ?_) (some 51) rfl rfl (by kernel_rfl) (by kernel_rfl) (by kernel_rfl) (fun _ _ _ h => h) (Or.inl ⟨by kernel_rfl, ?_⟩) (by assumption) ?_
                  rotate_left
                  · (intro w hSw; (try dsimp only at hSw); go_simp); all_goals with_reducible rfl
                  try simp only [Act.put, List.setIfInBounds_toArray, List.set_cons_zero, List.set_cons_succ]
                  refine wpAnyH_takeD (i := 7) (v := ?_) (some 52) rfl rfl (by kernel_rfl) (by kernel_rfl) (by kernel_rfl) (fun _ _ _ h => h) (Or.inl ⟨by kernel_rfl, ?_⟩) (by assumption) ?_
                  rotate_left
                  · (intro w hSw; (try dsimp only at hSw); go_simp); all_goals with_reducible rfl
                  try simp only [Act.put, List.setIfInBounds_toArray, List.set_cons_zero, List.set_cons_succ]
                  refine wpAnyH_takeD (i := 8) (v := ?_) (some 53) rfl rfl (by kernel_rfl) (by kernel_rfl) (by kernel_rfl) (fun _ _ _ h => h) (Or.inl ⟨by kernel_rfl, ?_⟩) (by assumption) ?_
                  rotate_left
                  · (intro w hSw; (try dsimp only at hSw); go_simp); all_goals with_reducible rfl
                  try simp only [Act.put, List.setIfInBounds_toArray, List.set_cons_zero, List.set_cons_succ]
                  refine wpAnyH_takeD (i := 9) (v := ?_) (some 54) rfl rfl (by kernel_rfl) (by kernel_rfl) (by kernel_rfl) (fun _ _ _ h => h) (Or.inl ⟨by kernel_rfl, ?_⟩) (by assumption) ?_
                  rotate_left
                  · (intro w hSw; (try dsimp only at hSw); go_simp); all_goals with_reducible rfl
                  try simp only [Act.put, List.setIfInBounds_toArray, List.set_cons_zero, List.set_cons_succ]
                  refine wpAnyH_ready (rs := [10]) (by kernel_rfl) (by simp) ?_
                  refine AllReadyH.cons rfl (fun K hK => ?_) AllReadyH.nil
                  go_simp
                  go_wp2_with (go_at_call 52; refine (Radd_any B b (.slice p1 N1 cap1) St (n0, v0) _ H15.out.2.2.1 HSt.out HSz.out (Nat.le_trans hBw (H15.out.2.2.2.1.elim fun _ h => h.2.size)) (by show n0.size ≤ 1000000; omega) (by show v0.size ≤ 1000000; omega)).mono ?_; rintro e xd ⟨he, hTo⟩; rw [HcA.out] at he; subst he; obtain ⟨vd, htd, od⟩ := hTo; have bd := two_only (g := gx) H15.out.1 od hgb; have A16 := Lib.hid (AtR.step H15.out.2.2.2 HSEP.out ⟨vd, htd, od⟩); clear htd)
                  refine hK.out _ _ (bd) (fun hHeld => ?_)
                  clear hK K
                  refine wpAnyH_takeD (i := 11) (v := ?_) (some 56) rfl rfl (by kernel_rfl) (by kernel_rfl) (by kernel_rfl) (fun _ _ _ h => h) (Or.inl ⟨by kernel_rfl, ?_⟩) (by assumption) ?_
                  rotate_left
                  · (intro w hSw; (try dsimp only at hSw); go_simp); all_goals with_reducible rfl
                  try simp only [Act.put, List.setIfInBounds_toArray, List.set_cons_zero, List.set_cons_succ]
                  refine wpAnyH_done (by kernel_rfl) ?_ _
                  go_wp2_with fail
                  have hA16 := A16.out
                  rw [HS1.out] at hA16
                  obtain ⟨p6, cap6, hD6⟩ := RAt.make bd hA16
                  rw [HN_S1.out] at hD6
                  have H16 := Lib.hid hD6
                  clear hD6 hA16
                  obtain ⟨⟨s0, s1⟩, _⟩ := H16.out
                  go_wp2_with fail
                  refine (Hnam.out _).mono ?_
                  rintro e y7 ⟨rfl, bq⟩
                  have H17 := Lib.hid (RAt.further H16.out bq)
                  clear bq s0 s1
                  obtain ⟨⟨s0, s1⟩, _⟩ := H17.out
                  by_cases c3 : 0 ≤ m0
                  case pos =>
                    have d3 : decide (0 ≤ m0) = true := decide_eq_true c3
                    have hwk : IntKind.u64.wrap m0 = m0 := IntWalk.u64_in _ (by omega)
                    have hsk : (nF m0 6 192).size ≤ 3 := nF_size _ _ _ (by omega) (by omega)
                    have hsz1 : (told ++ nF m0 6 192).size ≤ 50000 := by rw [ba_app_size]; omega
                    have HST1 : Hid (foldW S (L.take (j + 1)) = (S1, told ++ nF m0 6 192 ++ tF v0 8 0, max m (ix + 1))) := Lib.hid (by rw [HST.out]; unfold tellF; simp only; rw [Hm0.out, if_pos c3, ba_assoc])
                    go_wp2_with fail
                    refine (Rnumber_gen m0 6 192 _ (by omega) (by omega) (by omega) (by decide)).mono ?_
                    rintro e y8 ⟨rfl, bq⟩
                    have H18 := Lib.hid (RAt.further H17.out bq)
                    clear bq s0 s1
                    obtain ⟨⟨s0, s1⟩, _⟩ := H18.out
                    go_wp2_with fail
                    refine (Rtext_gen v0 8 0 _ h5v (by omega) (by omega) (by decide)).mono ?_
                    rintro e y9 ⟨rfl, bq⟩
                    have H19 := Lib.hid (RAt.further H18.out bq)
                    clear bq s0 s1
                    obtain ⟨⟨s0, s1⟩, _⟩ := H19.out
                    clear s0 s1
                    by_cases hgt : m < ix + 1
                    case pos =>
                      have dg : decide (m < ix + 1) = true := decide_eq_true hgt
                      have HF2 : Hid (foldW S (L.take (j + 1)) = (S1, told ++ nF m0 6 192 ++ tF v0 8 0, ix + 1)) := Lib.hid (by rw [HST1.out, Int.max_eq_right (by omega)])
                      have D21 := Lib.hid (RAt.drewd H19.out)
                      go_wp2_with fail
                      go_region_held (fun w' => (w'.cell? ⟨gx, 0, none⟩ = some (.string n0) ∧ w'.cell? ⟨gx, 1, none⟩ = some (.string v0)) ∧ w'.cell? ⟨b, 0, none⟩ = some (.slice p6 N6 cap6) ∧ TbR w' B b (.slice p6 N6 cap6) S1 ∧ AtR w w' B b (some ⟨gl, ol, none⟩) L S1)
                        (first | with_reducible assumption | exact D21.out | (refine RAt.further ?_ (by with_reducible assumption); with_reducible assumption))
                        (first | (go_at_call 50; refine (Rfind_tab (n0, v0) _ (show (_ ∧ _) ∧ _ ∧ TbR _ B b (.slice p6 N6 cap6) S1 ∧ AtR w _ B b (some ⟨gl, ol, none⟩) L S1 by with_reducible assumption).2.2.1 HN_S1.out hcl_S1).mono ?_; rintro e xc ⟨he, bq⟩; rw [Hx_S1.out] at he; subst he))
                      have H21 := Lib.hid (show (_ ∧ _) ∧ _ ∧ TbR _ B b (.slice p6 N6 cap6) S1 ∧ AtR w _ B b (some ⟨gl, ol, none⟩) L S1 by with_reducible assumption)
                      go_wp2_with fail
                      have D22 := Lib.hid (RAt.drewd H21.out)
                      go_region_held (fun w' => (w'.cell? ⟨gx, 0, none⟩ = some (.string n0) ∧ w'.cell? ⟨gx, 1, none⟩ = some (.string v0)) ∧ w'.cell? ⟨b, 0, none⟩ = some (.slice p6 N6 cap6) ∧ TbR w' B b (.slice p6 N6 cap6) S1 ∧ AtR w w' B b (some ⟨gl, ol, none⟩) L S1)
                        (first | with_reducible assumption | exact D22.out | (refine RAt.further ?_ (by with_reducible assumption); with_reducible assumption))
                        (first | (go_at_call 50; refine (Rfind_tab (n0, v0) _ (show (_ ∧ _) ∧ _ ∧ TbR _ B b (.slice p6 N6 cap6) S1 ∧ AtR w _ B b (some ⟨gl, ol, none⟩) L S1 by with_reducible assumption).2.2.1 HN_S1.out hcl_S1).mono ?_; rintro e xc ⟨he, bq⟩; rw [Hx_S1.out] at he; subst he))
                      have H22 := Lib.hid (show (_ ∧ _) ∧ _ ∧ TbR _ B b (.slice p6 N6 cap6) S1 ∧ AtR w _ B b (some ⟨gl, ol, none⟩) L S1 by with_reducible assumption)
                      go_wp2_with fail
                      go_roundw
                      case rel => exact ⟨j + 1, by omega, by go_num, by rw [HF2.out], by rw [HF2.out], by rw [HF2.out]; exact H22.out.2.2.2⟩
                      case measure => simp [intOf]; omega
                    case neg =>
                      have dg : decide (m < ix + 1) = false := decide_eq_false hgt
                      have HF2 : Hid (foldW S (L.take (j + 1)) = (S1, told ++ nF m0 6 192 ++ tF v0 8 0, m)) := Lib.hid (by rw [HST1.out, Int.max_eq_left (by omega)])
                      have D21 := Lib.hid (RAt.drewd H19.out)
                      go_wp2_with fail
                      go_region_held (fun w' => (w'.cell? ⟨gx, 0, none⟩ = some (.string n0) ∧ w'.cell? ⟨gx, 1, none⟩ = some (.string v0)) ∧ w'.cell? ⟨b, 0, none⟩ = some (.slice p6 N6 cap6) ∧ TbR w' B b (.slice p6 N6 cap6) S1 ∧ AtR w w' B b (some ⟨gl, ol, none⟩) L S1)
                        (first | with_reducible assumption | exact D21.out | (refine RAt.further ?_ (by with_reducible assumption); with_reducible assumption))
                        (first | (go_at_call 50; refine (Rfind_tab (n0, v0) _ (show (_ ∧ _) ∧ _ ∧ TbR _ B b (.slice p6 N6 cap6) S1 ∧ AtR w _ B b (some ⟨gl, ol, none⟩) L S1 by with_reducible assumption).2.2.1 HN_S1.out hcl_S1).mono ?_; rintro e xc ⟨he, bq⟩; rw [Hx_S1.out] at he; subst he))
                      have H21 := Lib.hid (show (_ ∧ _) ∧ _ ∧ TbR _ B b (.slice p6 N6 cap6) S1 ∧ AtR w _ B b (some ⟨gl, ol, none⟩) L S1 by with_reducible assumption)
                      go_wp2_with fail
                      go_roundw
                      case rel => exact ⟨j + 1, by omega, by go_num, by rw [HF2.out], by rw [HF2.out], by rw [HF2.out]; exact H21.out.2.2.2⟩
                      case measure => simp [intOf]; omega
                  case neg =>
                    have d3 : decide (0 ≤ m0) = false := decide_eq_false c3
                    have hsz1 : (told ++ tF n0 6 64).size ≤ 50000 := by rw [ba_app_size]; omega
                    have HST1 : Hid (foldW S (L.take (j + 1)) = (S1, told ++ tF n0 6 64 ++ tF v0 8 0, max m (ix + 1))) := Lib.hid (by rw [HST.out]; unfold tellF; simp only; rw [Hm0.out, if_neg c3, ba_assoc])
                    go_wp2_with fail
                    refine (Rtext_gen n0 6 64 _ h5n (by omega) (by omega) (by decide)).mono ?_
                    rintro e y8 ⟨rfl, bq⟩
                    have H18 := Lib.hid (RAt.further H17.out bq)
                    clear bq s0 s1
                    obtain ⟨⟨s0, s1⟩, _⟩ := H18.out
                    go_wp2_with fail
                    refine (Rtext_gen v0 8 0 _ h5v (by omega) (by omega) (by decide)).mono ?_
                    rintro e y9 ⟨rfl, bq⟩
                    have H19 := Lib.hid (RAt.further H18.out bq)
                    clear bq s0 s1
                    obtain ⟨⟨s0, s1⟩, _⟩ := H19.out
                    clear s0 s1
                    by_cases hgt : m < ix + 1
                    case pos =>
                      have dg : decide (m < ix + 1) = true := decide_eq_true hgt
                      have HF2 : Hid (foldW S (L.take (j + 1)) = (S1, told ++ tF n0 6 64 ++ tF v0 8 0, ix + 1)) := Lib.hid (by rw [HST1.out, Int.max_eq_right (by omega)])
                      have D21 := Lib.hid (RAt.drewd H19.out)
                      go_wp2_with fail
                      go_region_held (fun w' => (w'.cell? ⟨gx, 0, none⟩ = some (.string n0) ∧ w'.cell? ⟨gx, 1, none⟩ = some (.string v0)) ∧ w'.cell? ⟨b, 0, none⟩ = some (.slice p6 N6 cap6) ∧ TbR w' B b (.slice p6 N6 cap6) S1 ∧ AtR w w' B b (some ⟨gl, ol, none⟩) L S1)
                        (first | with_reducible assumption | exact D21.out | (refine RAt.further ?_ (by with_reducible assumption); with_reducible assumption))
                        (first | (go_at_call 50; refine (Rfind_tab (n0, v0) _ (show (_ ∧ _) ∧ _ ∧ TbR _ B b (.slice p6 N6 cap6) S1 ∧ AtR w _ B b (some ⟨gl, ol, none⟩) L S1 by with_reducible assumption).2.2.1 HN_S1.out hcl_S1).mono ?_; rintro e xc ⟨he, bq⟩; rw [Hx_S1.out] at he; subst he))
                      have H21 := Lib.hid (show (_ ∧ _) ∧ _ ∧ TbR _ B b (.slice p6 N6 cap6) S1 ∧ AtR w _ B b (some ⟨gl, ol, none⟩) L S1 by with_reducible assumption)
                      go_wp2_with fail
                      have D22 := Lib.hid (RAt.drewd H21.out)
                      go_region_held (fun w' => (w'.cell? ⟨gx, 0, none⟩ = some (.string n0) ∧ w'.cell? ⟨gx, 1, none⟩ = some (.string v0)) ∧ w'.cell? ⟨b, 0, none⟩ = some (.slice p6 N6 cap6) ∧ TbR w' B b (.slice p6 N6 cap6) S1 ∧ AtR w w' B b (some ⟨gl, ol, none⟩) L S1)
                        (first | with_reducible assumption | exact D22.out | (refine RAt.further ?_ (by with_reducible assumption); with_reducible assumption))
                        (first | (go_at_call 50; refine (Rfind_tab (n0, v0) _ (show (_ ∧ _) ∧ _ ∧ TbR _ B b (.slice p6 N6 cap6) S1 ∧ AtR w _ B b (some ⟨gl, ol, none⟩) L S1 by with_reducible assumption).2.2.1 HN_S1.out hcl_S1).mono ?_; rintro e xc ⟨he, bq⟩; rw [Hx_S1.out] at he; subst he))
                      have H22 := Lib.hid (show (_ ∧ _) ∧ _ ∧ TbR _ B b (.slice p6 N6 cap6) S1 ∧ AtR w _ B b (some ⟨gl, ol, none⟩) L S1 by with_reducible assumption)
                      go_wp2_with fail
                      go_roundw
                      case rel => exact ⟨j + 1, by omega, by go_num, by rw [HF2.out], by rw [HF2.out], by rw [HF2.out]; exact H22.out.2.2.2⟩
                      case measure => simp [intOf]; omega
                    case neg =>
                      have dg : decide (m < ix + 1) = false := decide_eq_false hgt
                      have HF2 : Hid (foldW S (L.take (j + 1)) = (S1, told ++ tF n0 6 64 ++ tF v0 8 0, m)) := Lib.hid (by rw [HST1.out, Int.max_eq_left (by omega)])
                      have D21 := Lib.hid (RAt.drewd H19.out)
                      go_wp2_with fail
                      go_region_held (fun w' => (w'.cell? ⟨gx, 0, none⟩ = some (.string n0) ∧ w'.cell? ⟨gx, 1, none⟩ = some (.string v0)) ∧ w'.cell? ⟨b, 0, none⟩ = some (.slice p6 N6 cap6) ∧ TbR w' B b (.slice p6 N6 cap6) S1 ∧ AtR w w' B b (some ⟨gl, ol, none⟩) L S1)
                        (first | with_reducible assumption | exact D21.out | (refine RAt.further ?_ (by with_reducible assumption); with_reducible assumption))
                        (first | (go_at_call 50; refine (Rfind_tab (n0, v0) _ (show (_ ∧ _) ∧ _ ∧ TbR _ B b (.slice p6 N6 cap6) S1 ∧ AtR w _ B b (some ⟨gl, ol, none⟩) L S1 by with_reducible assumption).2.2.1 HN_S1.out hcl_S1).mono ?_; rintro e xc ⟨he, bq⟩; rw [Hx_S1.out] at he; subst he))
                      have H21 := Lib.hid (show (_ ∧ _) ∧ _ ∧ TbR _ B b (.slice p6 N6 cap6) S1 ∧ AtR w _ B b (some ⟨gl, ol, none⟩) L S1 by with_reducible assumption)
                      go_wp2_with fail
                      go_roundw
                      case rel => exact ⟨j + 1, by omega, by go_num, by rw [HF2.out], by rw [HF2.out], by rw [HF2.out]; exact H21.out.2.2.2⟩
                      case measure => simp [intOf]; omega
          · have hjN : j = N := by omega
            subst hjN
            rw [HL0.out] at hA ⊢
            obtain ⟨i1, i2, hone⟩ := wrote HS.out HWK.out
            have hSt := (fold_inv HS.out L).1
            obtain ⟨st, hst⟩ : ∃ st, foldW S L = st := ⟨_, rfl⟩
            rw [hst] at i1 i2 hone hSt hA ⊢
            obtain ⟨St, told, m⟩ := st
            simp only at i1 i2 hone hSt hA ⊢
            have HFW := Lib.hid hst
            have hm5 : m ≤ 5000 := by have := hSt.2.1; have := hSt.2.2; omega
            have hu : IntKind.u64.wrap m = m := IntWalk.u64_in _ (by omega)
            have hnz := nF_size m 8 0 (by omega) (by omega)
            have HSZ2 : Hid (∀ k, k ≤ j → (secF St.l m (L.take k)).size ≤ 306 * k + 4) := Lib.hid (fun k hk => secF_size (fun i f hf hn => hone f (List.mem_of_getElem? hf) hn) HM.out ⟨i1, hm5⟩ k (by have := HN.out; omega))
            have HONE := Lib.hid hone
            have HA3 := Lib.hid hA
            have HSt := Lib.hid hSt
            have HI2 := Lib.hid i2
            have HS0 : Hid (secF St.l m (L.take 0) = nF m 8 0 ++ ⟨#[0]⟩) := Lib.hid rfl
            clear hst hone hA hSt i2 hj hlt
            go_wp2_with fail
            refine (Rnumber_gen m 8 0 _ (by omega) (by omega) (by omega) (by decide)).mono ?_
            rintro e x3 ⟨rfl, b3⟩
            have A3 := Lib.hid (HA3.out.further b3)
            clear b3
            generalize hnn : nF m 8 0 = nn at *
            clear hnn
            go_wp2_with fail
            go_loopw [13, 14, 15] (fun sv iv _ wz => ∃ k : Nat, k ≤ j ∧ iv = .int .i64 k ∧ sv = .string (secF St.l m (L.take k)) ∧ AtR w wz B b pl L St) (fun _ iv _ _ => j - (intOf iv).toNat)
            case atStart => exact ⟨0, by omega, rfl, by rw [HS0.out], A3.out⟩
            case round =>
              obtain ⟨k, hk, rfl, rfl, hA⟩ := hrel
              have hkz := HSZ2.out k hk
              by_cases hkl : k < j
              · have hjl : k < L.length := by rw [HN.out]; exact hkl
                obtain ⟨q, hq⟩ : ∃ q, L[k]? = some q := ⟨_, List.getElem?_eq_getElem hjl⟩
                have hsc := secF_succ St.l m L k q hq
                obtain ⟨q1, q2, q3⟩ := HM.out k q hq
                have hmi := HONE.out q (List.mem_of_getElem? hq)
                obtain ⟨gl, ol, hpe, hgl, hc⟩ := hA.2 (by omega)
                obtain ⟨k1, k2⟩ := hc k q hq
                obtain ⟨n0, v0⟩ := q
                simp only at k1 k2 q1 q2 q3
                have i2 := HI2.out
                have hSt := HSt.out
                have hbb : Below wr.heap.size wr (wr.alloc (.cells #[.string n0, .string v0] 84)) := (Below.refl _ _).alloc (Nat.le_refl _) _
                have hbx := blk.new wr 84 [.string n0, .string v0]
                have hwz : w.heap.size ≤ wr.heap.size := hA.1.elim fun _ h => h.2.size
                obtain ⟨p1, cap1, hD⟩ := RAt.make (g := wr.heap.size) ⟨hbx.cell (k := 0) rfl, hbx.cell (k := 1) rfl⟩ (hA.further hbb)
                obtain ⟨N1, hN1⟩ : ∃ n, St.l.length = n := ⟨_, rfl⟩
                obtain ⟨gx, hgx⟩ : ∃ g, wr.heap.size = g := ⟨_, rfl⟩
                have hgb : ¬ gx = b := by omega
                rw [hN1, hgx] at hD
                have HX := Lib.hid hgx
                have HN_St := Lib.hid hN1
                have hcl_St : N1 ≤ 10000 := by have := hSt.2.1; have := hSt.2.2; omega
                rw [hN1] at i2
                obtain ⟨iF, hiF⟩ : ∃ c, idxF fixedL (n0, v0) = c := ⟨_, rfl⟩
                obtain ⟨iW, hiW⟩ : ∃ c, idxF St.l (n0, v0) = c := ⟨_, rfl⟩
                obtain ⟨m0, hm0⟩ : ∃ m, namedF n0 = m := ⟨_, rfl⟩
                obtain ⟨f1, f2⟩ := idx_rng fixedL (n0, v0)
                obtain ⟨g1, g2⟩ := idx_rng St.l (n0, v0)
                obtain ⟨m1, m2⟩ := named_rng n0
                have Hnam := Lib.hid (fun w => Rnamed_any n0 w)
                rw [hiF] at f1 f2
                rw [hiW] at g1 g2
                rw [hN1] at g2
                rw [hm0] at m1 m2 Hnam
                have hfl : (fixedL.length : Int) = 12 := rfl
                rw [hfl] at f2
                have HiF := Lib.hid hiF
                have Hx_St := Lib.hid hiW
                have Hm0 := Lib.hid hm0
                have hml : m ≤ 10000 := by omega
                have hwW : IntKind.i64.wrap (iW + 1) = iW + 1 := IntWalk.i64_in _ (by omega)
                have h5n : n0.size ≤ 5000 := by omega
                have h5v : v0.size ≤ 5000 := by omega
                have hsv : (tF v0 8 0).size ≤ 210 := by have := tF_size v0 8 0 (by omega) h5v; omega
                have HD0 := Lib.hid (RAt.drewd hD)
                clear hbb hbx hD hN1 hgx hfl
                have hone1 : oneF St.l m (n0, v0) = if 0 ≤ iF then nF iF 6 192 else if 0 ≤ iW then nF (m - 1 - iW) 6 128 else if 0 ≤ m0 then nF m0 4 80 ++ tF v0 8 0 else tF n0 4 32 ++ tF v0 8 0 := by unfold oneF; rw [hiF, hiW, hm0]
                rw [hone1] at hsc
                rw [hiF, hiW] at hmi
                have HSC := Lib.hid hsc
                have hsn : (tF n0 4 32).size ≤ 210 := by have := tF_size n0 4 32 (by omega) h5n; omega
                generalize secF St.l m (L.take k) = sk at *
                have hskz : sk.size ≤ 40000 := by omega
                subst hpe
                clear hc hq hjl hA hsc hone1 hiF hiW hm0 i2 hSt hgl hkz
                by_cases c1 : 0 ≤ iF
                case pos =>
                  have d1 : decide (0 ≤ iF) = true := decide_eq_true c1
                  have hw0 : IntKind.u64.wrap iF = iF := IntWalk.u64_in _ (by omega)
                  have hz0 : (nF iF 6 192).size ≤ 3 := nF_size _ _ _ (by omega) (by omega)
                  have HF3 : Hid (secF St.l m (L.take (k + 1)) = sk ++ nF iF 6 192) := Lib.hid (by rw [HSC.out, if_pos c1])
                  go_wp2_with fail
                  rw [HX.out]
                  go_region_held (fun w' => (w'.cell? ⟨gx, 0, none⟩ = some (.string n0) ∧ w'.cell? ⟨gx, 1, none⟩ = some (.string v0)) ∧ w'.cell? ⟨b, 0, none⟩ = some (.slice p1 N1 cap1) ∧ TbR w' B b (.slice p1 N1 cap1) St ∧ AtR w w' B b (some ⟨gl, ol, none⟩) L St)
                    (first | with_reducible assumption | exact HD0.out | (refine RAt.further ?_ (by with_reducible assumption); with_reducible assumption))
                    (first | (go_at_call 51; refine (RFixed_any _).mono ?_; rintro e xa ⟨va, rfl, oa, bq⟩; obtain ⟨pa, ca, rfl, _⟩ := own_shape oa; have fva := oa.fv) | (go_at_call 50; refine (Rfind_any fixedL pa ca (n0, v0) _ fva (by decide)).mono ?_; rintro e xb ⟨he, bq⟩; rw [HiF.out] at he; subst he))
                  have H28 := Lib.hid (show (_ ∧ _) ∧ _ ∧ TbR _ B b (.slice p1 N1 cap1) St ∧ AtR w _ B b (some ⟨gl, ol, none⟩) L St by with_reducible assumption)
                  go_wp2_with fail
                  have D29 := Lib.hid (RAt.drewd H28.out)
                  go_region_held (fun w' => (w'.cell? ⟨gx, 0, none⟩ = some (.string n0) ∧ w'.cell? ⟨gx, 1, none⟩ = some (.string v0)) ∧ w'.cell? ⟨b, 0, none⟩ = some (.slice p1 N1 cap1) ∧ TbR w' B b (.slice p1 N1 cap1) St ∧ AtR w w' B b (some ⟨gl, ol, none⟩) L St)
                    (first | with_reducible assumption | exact D29.out | (refine RAt.further ?_ (by with_reducible assumption); with_reducible assumption))
                    (first | (go_at_call 51; refine (RFixed_any _).mono ?_; rintro e xa ⟨va, rfl, oa, bq⟩; obtain ⟨pa, ca, rfl, _⟩ := own_shape oa; have fva := oa.fv) | (go_at_call 50; refine (Rfind_any fixedL pa ca (n0, v0) _ fva (by decide)).mono ?_; rintro e xb ⟨he, bq⟩; rw [HiF.out] at he; subst he) | (go_at_call 54; refine (Rnumber_gen _ _ _ _ (by omega) (by omega) (by omega) (by decide)).mono ?_; rintro e xn ⟨rfl, bq⟩))
                  all_goals
                    have H29 := Lib.hid (show (_ ∧ _) ∧ _ ∧ TbR _ B b (.slice p1 N1 cap1) St ∧ AtR w _ B b (some ⟨gl, ol, none⟩) L St by with_reducible assumption)
                    go_wp2_with fail
                    go_roundw
                    case rel => exact ⟨k + 1, by omega, by go_num, by rw [HF3.out], H29.out.2.2.2⟩
                    case measure => simp [intOf]; omega
                case neg =>
                  have d1 : decide (0 ≤ iF) = false := decide_eq_false c1
                  have hmw := hmi (by omega)
                  by_cases c2 : 0 ≤ iW
                  case pos =>
                    have d2 : decide (0 ≤ iW) = true := decide_eq_true c2
                    have hw1 : IntKind.i64.wrap (m - 1) = m - 1 := IntWalk.i64_in _ (by omega)
                    have hw2 : IntKind.i64.wrap (m - 1 - iW) = m - 1 - iW := IntWalk.i64_in _ (by omega)
                    have hw3 : IntKind.u64.wrap (m - 1 - iW) = m - 1 - iW := IntWalk.u64_in _ (by omega)
                    have hz0 : (nF (m - 1 - iW) 6 128).size ≤ 3 := nF_size _ _ _ (by omega) (by omega)
                    have HF3 : Hid (secF St.l m (L.take (k + 1)) = sk ++ nF (m - 1 - iW) 6 128) := Lib.hid (by rw [HSC.out, if_neg c1, if_pos c2])
                    go_wp2_with fail
                    rw [HX.out]
                    go_region_held (fun w' => (w'.cell? ⟨gx, 0, none⟩ = some (.string n0) ∧ w'.cell? ⟨gx, 1, none⟩ = some (.string v0)) ∧ w'.cell? ⟨b, 0, none⟩ = some (.slice p1 N1 cap1) ∧ TbR w' B b (.slice p1 N1 cap1) St ∧ AtR w w' B b (some ⟨gl, ol, none⟩) L St)
                      (first | with_reducible assumption | exact HD0.out | (refine RAt.further ?_ (by with_reducible assumption); with_reducible assumption))
                      (first | (go_at_call 51; refine (RFixed_any _).mono ?_; rintro e xa ⟨va, rfl, oa, bq⟩; obtain ⟨pa, ca, rfl, _⟩ := own_shape oa; have fva := oa.fv) | (go_at_call 50; refine (Rfind_any fixedL pa ca (n0, v0) _ fva (by decide)).mono ?_; rintro e xb ⟨he, bq⟩; rw [HiF.out] at he; subst he))
                    have H28 := Lib.hid (show (_ ∧ _) ∧ _ ∧ TbR _ B b (.slice p1 N1 cap1) St ∧ AtR w _ B b (some ⟨gl, ol, none⟩) L St by with_reducible assumption)
                    go_wp2_with fail
                    have D30 := Lib.hid (RAt.drewd H28.out)
                    go_region_held (fun w' => (w'.cell? ⟨gx, 0, none⟩ = some (.string n0) ∧ w'.cell? ⟨gx, 1, none⟩ = some (.string v0)) ∧ w'.cell? ⟨b, 0, none⟩ = some (.slice p1 N1 cap1) ∧ TbR w' B b (.slice p1 N1 cap1) St ∧ AtR w w' B b (some ⟨gl, ol, none⟩) L St)
                      (first | with_reducible assumption | exact D30.out | (refine RAt.further ?_ (by with_reducible assumption); with_reducible assumption))
                      (first | (go_at_call 50; refine (Rfind_tab (n0, v0) _ (show (_ ∧ _) ∧ _ ∧ TbR _ B b (.slice p1 N1 cap1) St ∧ AtR w _ B b (some ⟨gl, ol, none⟩) L St by with_reducible assumption).2.2.1 HN_St.out hcl_St).mono ?_; rintro e xc ⟨he, bq⟩; rw [Hx_St.out] at he; subst he))
                    have H30 := Lib.hid (show (_ ∧ _) ∧ _ ∧ TbR _ B b (.slice p1 N1 cap1) St ∧ AtR w _ B b (some ⟨gl, ol, none⟩) L St by with_reducible assumption)
                    go_wp2_with fail
                    have D31 := Lib.hid (RAt.drewd H30.out)
                    go_region_held (fun w' => (w'.cell? ⟨gx, 0, none⟩ = some (.string n0) ∧ w'.cell? ⟨gx, 1, none⟩ = some (.string v0)) ∧ w'.cell? ⟨b, 0, none⟩ = some (.slice p1 N1 cap1) ∧ TbR w' B b (.slice p1 N1 cap1) St ∧ AtR w w' B b (some ⟨gl, ol, none⟩) L St)
                      (first | with_reducible assumption | exact D31.out | (refine RAt.further ?_ (by with_reducible assumption); with_reducible assumption))
                      (first | (go_at_call 50; refine (Rfind_tab (n0, v0) _ (show (_ ∧ _) ∧ _ ∧ TbR _ B b (.slice p1 N1 cap1) St ∧ AtR w _ B b (some ⟨gl, ol, none⟩) L St by with_reducible assumption).2.2.1 HN_St.out hcl_St).mono ?_; rintro e xc ⟨he, bq⟩; rw [Hx_St.out] at he; subst he) | (go_at_call 54; refine (Rnumber_gen _ _ _ _ (by omega) (by omega) (by omega) (by decide)).mono ?_; rintro e xn ⟨rfl, bq⟩))
                    all_goals
                      have H31 := Lib.hid (show (_ ∧ _) ∧ _ ∧ TbR _ B b (.slice p1 N1 cap1) St ∧ AtR w _ B b (some ⟨gl, ol, none⟩) L St by with_reducible assumption)
                      go_wp2_with fail
                      go_roundw
                      case rel => exact ⟨k + 1, by omega, by go_num, by rw [HF3.out], H31.out.2.2.2⟩
                      case measure => simp [intOf]; omega
                  case neg =>
                    have d2 : decide (0 ≤ iW) = false := decide_eq_false c2
                    by_cases c3 : 0 ≤ m0
                    case pos =>
                      have d3 : decide (0 ≤ m0) = true := decide_eq_true c3
                      have hw0 : IntKind.u64.wrap m0 = m0 := IntWalk.u64_in _ (by omega)
                      have hz0 : (nF m0 4 80).size ≤ 3 := nF_size _ _ _ (by omega) (by omega)
                      have hz1 : (nF m0 4 80 ++ tF v0 8 0).size ≤ 300 := by rw [ba_app_size]; omega
                      have HF3 : Hid (secF St.l m (L.take (k + 1)) = sk ++ (nF m0 4 80 ++ tF v0 8 0)) := Lib.hid (by rw [HSC.out, if_neg c1, if_neg c2, if_pos c3])
                      go_wp2_with fail
                      rw [HX.out]
                      go_region_held (fun w' => (w'.cell? ⟨gx, 0, none⟩ = some (.string n0) ∧ w'.cell? ⟨gx, 1, none⟩ = some (.string v0)) ∧ w'.cell? ⟨b, 0, none⟩ = some (.slice p1 N1 cap1) ∧ TbR w' B b (.slice p1 N1 cap1) St ∧ AtR w w' B b (some ⟨gl, ol, none⟩) L St)
                        (first | with_reducible assumption | exact HD0.out | (refine RAt.further ?_ (by with_reducible assumption); with_reducible assumption))
                        (first | (go_at_call 51; refine (RFixed_any _).mono ?_; rintro e xa ⟨va, rfl, oa, bq⟩; obtain ⟨pa, ca, rfl, _⟩ := own_shape oa; have fva := oa.fv) | (go_at_call 50; refine (Rfind_any fixedL pa ca (n0, v0) _ fva (by decide)).mono ?_; rintro e xb ⟨he, bq⟩; rw [HiF.out] at he; subst he))
                      have H28 := Lib.hid (show (_ ∧ _) ∧ _ ∧ TbR _ B b (.slice p1 N1 cap1) St ∧ AtR w _ B b (some ⟨gl, ol, none⟩) L St by with_reducible assumption)
                      go_wp2_with fail
                      have D30 := Lib.hid (RAt.drewd H28.out)
                      go_region_held (fun w' => (w'.cell? ⟨gx, 0, none⟩ = some (.string n0) ∧ w'.cell? ⟨gx, 1, none⟩ = some (.string v0)) ∧ w'.cell? ⟨b, 0, none⟩ = some (.slice p1 N1 cap1) ∧ TbR w' B b (.slice p1 N1 cap1) St ∧ AtR w w' B b (some ⟨gl, ol, none⟩) L St)
                        (first | with_reducible assumption | exact D30.out | (refine RAt.further ?_ (by with_reducible assumption); with_reducible assumption))
                        (first | (go_at_call 50; refine (Rfind_tab (n0, v0) _ (show (_ ∧ _) ∧ _ ∧ TbR _ B b (.slice p1 N1 cap1) St ∧ AtR w _ B b (some ⟨gl, ol, none⟩) L St by with_reducible assumption).2.2.1 HN_St.out hcl_St).mono ?_; rintro e xc ⟨he, bq⟩; rw [Hx_St.out] at he; subst he))
                      have H30 := Lib.hid (show (_ ∧ _) ∧ _ ∧ TbR _ B b (.slice p1 N1 cap1) St ∧ AtR w _ B b (some ⟨gl, ol, none⟩) L St by with_reducible assumption)
                      obtain ⟨⟨s0, s1⟩, _⟩ := H30.out
                      go_wp2_with fail
                      refine (Hnam.out _).mono ?_
                      rintro e y7 ⟨rfl, bq⟩
                      have H32 := Lib.hid (RAt.further H30.out bq)
                      clear bq s0 s1
                      go_wp2_with fail
                      have D33 := Lib.hid (RAt.drewd H32.out)
                      go_region_held (fun w' => (w'.cell? ⟨gx, 0, none⟩ = some (.string n0) ∧ w'.cell? ⟨gx, 1, none⟩ = some (.string v0)) ∧ w'.cell? ⟨b, 0, none⟩ = some (.slice p1 N1 cap1) ∧ TbR w' B b (.slice p1 N1 cap1) St ∧ AtR w w' B b (some ⟨gl, ol, none⟩) L St)
                        (first | with_reducible assumption | exact D33.out | (refine RAt.further ?_ (by with_reducible assumption); with_reducible assumption))
                        (first | (go_at_call 53; refine (Hnam.out _).mono ?_; rintro e xm ⟨rfl, bq⟩) | (go_at_call 54; refine (Rnumber_gen _ _ _ _ (by omega) (by omega) (by omega) (by decide)).mono ?_; rintro e xn ⟨rfl, bq⟩) | (go_at_call 55; refine (Rtext_gen _ _ _ _ (by assumption) (by omega) (by omega) (by decide)).mono ?_; rintro e xt ⟨rfl, bq⟩))
                      all_goals
                        have H33 := Lib.hid (show (_ ∧ _) ∧ _ ∧ TbR _ B b (.slice p1 N1 cap1) St ∧ AtR w _ B b (some ⟨gl, ol, none⟩) L St by with_reducible assumption)
                        go_wp2_with fail
                        go_roundw
                        case rel => exact ⟨k + 1, by omega, by go_num, by rw [HF3.out], H33.out.2.2.2⟩
                        case measure => simp [intOf]; omega
                    case neg =>
                      have d3 : decide (0 ≤ m0) = false := decide_eq_false c3
                      have hz1 : (tF n0 4 32 ++ tF v0 8 0).size ≤ 500 := by rw [ba_app_size]; omega
                      have HF3 : Hid (secF St.l m (L.take (k + 1)) = sk ++ (tF n0 4 32 ++ tF v0 8 0)) := Lib.hid (by rw [HSC.out, if_neg c1, if_neg c2, if_neg c3])
                      go_wp2_with fail
                      rw [HX.out]
                      go_region_held (fun w' => (w'.cell? ⟨gx, 0, none⟩ = some (.string n0) ∧ w'.cell? ⟨gx, 1, none⟩ = some (.string v0)) ∧ w'.cell? ⟨b, 0, none⟩ = some (.slice p1 N1 cap1) ∧ TbR w' B b (.slice p1 N1 cap1) St ∧ AtR w w' B b (some ⟨gl, ol, none⟩) L St)
                        (first | with_reducible assumption | exact HD0.out | (refine RAt.further ?_ (by with_reducible assumption); with_reducible assumption))
                        (first | (go_at_call 51; refine (RFixed_any _).mono ?_; rintro e xa ⟨va, rfl, oa, bq⟩; obtain ⟨pa, ca, rfl, _⟩ := own_shape oa; have fva := oa.fv) | (go_at_call 50; refine (Rfind_any fixedL pa ca (n0, v0) _ fva (by decide)).mono ?_; rintro e xb ⟨he, bq⟩; rw [HiF.out] at he; subst he))
                      have H28 := Lib.hid (show (_ ∧ _) ∧ _ ∧ TbR _ B b (.slice p1 N1 cap1) St ∧ AtR w _ B b (some ⟨gl, ol, none⟩) L St by with_reducible assumption)
                      go_wp2_with fail
                      have D30 := Lib.hid (RAt.drewd H28.out)
                      go_region_held (fun w' => (w'.cell? ⟨gx, 0, none⟩ = some (.string n0) ∧ w'.cell? ⟨gx, 1, none⟩ = some (.string v0)) ∧ w'.cell? ⟨b, 0, none⟩ = some (.slice p1 N1 cap1) ∧ TbR w' B b (.slice p1 N1 cap1) St ∧ AtR w w' B b (some ⟨gl, ol, none⟩) L St)
                        (first | with_reducible assumption | exact D30.out | (refine RAt.further ?_ (by with_reducible assumption); with_reducible assumption))
                        (first | (go_at_call 50; refine (Rfind_tab (n0, v0) _ (show (_ ∧ _) ∧ _ ∧ TbR _ B b (.slice p1 N1 cap1) St ∧ AtR w _ B b (some ⟨gl, ol, none⟩) L St by with_reducible assumption).2.2.1 HN_St.out hcl_St).mono ?_; rintro e xc ⟨he, bq⟩; rw [Hx_St.out] at he; subst he))
                      have H30 := Lib.hid (show (_ ∧ _) ∧ _ ∧ TbR _ B b (.slice p1 N1 cap1) St ∧ AtR w _ B b (some ⟨gl, ol, none⟩) L St by with_reducible assumption)
                      obtain ⟨⟨s0, s1⟩, _⟩ := H30.out
                      go_wp2_with fail
                      refine (Hnam.out _).mono ?_
                      rintro e y7 ⟨rfl, bq⟩
                      have H32 := Lib.hid (RAt.further H30.out bq)
                      clear bq s0 s1
                      go_wp2_with fail
                      have D34 := Lib.hid (RAt.drewd H32.out)
                      go_region_held (fun w' => (w'.cell? ⟨gx, 0, none⟩ = some (.string n0) ∧ w'.cell? ⟨gx, 1, none⟩ = some (.string v0)) ∧ w'.cell? ⟨b, 0, none⟩ = some (.slice p1 N1 cap1) ∧ TbR w' B b (.slice p1 N1 cap1) St ∧ AtR w w' B b (some ⟨gl, ol, none⟩) L St)
                        (first | with_reducible assumption | exact D34.out | (refine RAt.further ?_ (by with_reducible assumption); with_reducible assumption))
                        (first | (go_at_call 55; refine (Rtext_gen _ _ _ _ (by assumption) (by omega) (by omega) (by decide)).mono ?_; rintro e xt ⟨rfl, bq⟩))
                      all_goals
                        have H34 := Lib.hid (show (_ ∧ _) ∧ _ ∧ TbR _ B b (.slice p1 N1 cap1) St ∧ AtR w _ B b (some ⟨gl, ol, none⟩) L St by with_reducible assumption)
                        go_wp2_with fail
                        go_roundw
                        case rel => exact ⟨k + 1, by omega, by go_num, by rw [HF3.out], H34.out.2.2.2⟩
                        case measure => simp [intOf]; omega
              · have hkN : k = j := by omega
                subst hkN
                rw [HL0.out]
                have HA4 := Lib.hid hA.1
                clear hA
                go_wp2_with fail
                go_ret3
                rw [HE.out, HFW.out]
                exact ⟨rfl, HA4.out⟩

end Go.Proofs.Ytgnoiheekgmleaa
