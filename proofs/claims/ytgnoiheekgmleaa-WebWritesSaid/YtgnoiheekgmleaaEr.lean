/- web: the walk of WebWrites. -/
import Derived.Test.YtgnoiheekgmleaaEq
import Derived.Test.YtgnoiheekgmleaaUc
import Derived.Deep.RegionHeld
namespace Go.Proofs.Ytgnoiheekgmleaa
open Go.ChangeShapes Go.WideShapes Go.RowKit
set_option linter.unusedVariables false
set_option linter.unusedSimpArgs false

theorem webF_tab (S : Tbl) (L : List Fl) (b : List UInt8) : (webF S L b).1 = (writeF S L).1 := by unfold webF; split <;> rfl
theorem write_keeps {S : Tbl} (hS : S.Ok) (hZ : SzOk S) (L : List Fl) : (writeF S L).1.Ok ∧ SzOk (writeF S L).1 := by
  by_cases hW : WOk L
  · rw [write_ok hW]
    refine ⟨(fold_inv hS L).1, ?_⟩
    show SzOk (foldW S L).1
    rw [foldW_tab]
    exact szok_fold L S hZ
  · obtain ⟨E, hE, _⟩ := write_bad (S := S) hW
    rw [hE]
    exact ⟨hS, hZ⟩
theorem TabTo.bel {w x : World} {B b : Nat} {T : TypeId} {v : Value} {S S' : Tbl} (h : TblIs w B b T v S) (ht : TabTo w x B b T v S') (hb : B ≤ b) (hB : B ≤ w.heap.size) : Below B w x := by
  obtain ⟨v', _, o, _⟩ := ht
  refine o.below hB ?_
  rintro k (e | e)
  · omega
  · exact (World.ownsRow.lt h.2 k e).1

/-- A writer and the reference's table, made by this call. -/
def PW (w0 w : World) (bw bt : Nat) (vw vr : Value) (Sw Sr : Tbl) : Prop :=
  TblIs w w0.heap.size bw 71 vw Sw ∧ TbR w w0.heap.size bt vr Sr ∧ bw ≠ bt ∧ w0.heap.size ≤ bw ∧ w0.heap.size ≤ bt ∧ Below w0.heap.size w0 w
theorem PW.further {w0 w x : World} {bw bt : Nat} {vw vr : Value} {Sw Sr : Tbl} (h : PW w0 w bw bt vw vr Sw Sr) (hb : Below w.heap.size w x) : PW w0 x bw bt vw vr Sw Sr := by
  obtain ⟨h1, h2, h3, h4, h5, h7⟩ := h
  exact ⟨h1.below hb, h2.below hb, h3, h4, h5, h7.trans (hb.mono h7.size)⟩
theorem PW.write {w0 w x : World} {bw bt : Nat} {vw vr : Value} {Sw Sw' Sr : Tbl} (h : PW w0 w bw bt vw vr Sw Sr) (ht : TabTo w x w0.heap.size bw 71 vw Sw') : ∃ vw', PW w0 x bw bt vw' vr Sw' Sr := by
  obtain ⟨h1, h2, h3, h4, h5, h7⟩ := h
  have hb := TabTo.bel h1 ht h4 h7.size
  obtain ⟨vw', a1, a2, a3⟩ := ht
  refine ⟨vw', a1, ⟨blk.only h2.1 a2 ?_, own_only h2.2 a2 (fun k hk => ?_)⟩, h3, h4, h5, h7.trans hb⟩
  · rintro (e | e)
    · exact h3 e.symm
    · exact own_ne h1.2 h2.1 (by decide) e
  · rintro (e | e)
    · subst e
      exact own_ne h2.2 h1.1 (by decide) hk
    · exact own_ne2 h1.2 h2.2 (by decide) k e hk
theorem PW.rwrite {w0 w x : World} {bw bt : Nat} {vw vr : Value} {Sw Sr Sr' : Tbl} (h : PW w0 w bw bt vw vr Sw Sr) (ht : RTo w x w0.heap.size bt Sr') : ∃ vr', PW w0 x bw bt vw vr' Sw Sr' := by
  obtain ⟨h1, h2, h3, h4, h5, h7⟩ := h
  obtain ⟨vr', a1, a2⟩ := ht
  refine ⟨vr', ⟨blk.only h1.1 a2 h3, own_only h1.2 a2 (fun k hk e => ?_)⟩, a1, h3, h4, h5, h7.trans (a2.below h7.size (fun k e => by omega))⟩
  subst e
  exact own_ne h1.2 h2.1 (by decide) hk

/-- Messages that came in. -/
def MsgsIn (w : World) (p : Option Addr) (X : List MIn) : Prop :=
  (0 < X.length → ∃ g o, p = some ⟨g, o, none⟩ ∧ g < w.heap.size ∧ ∀ i m, X[i]? = some m → w.cell? ⟨g, o + i * 2, none⟩ = some (.slice m.p m.L.length m.cap) ∧ w.cell? ⟨g, o + i * 2 + 1, none⟩ = some (.string m.body)) ∧ (∀ m ∈ X, MsgIn w m) ∧ X.length ≤ maxLen
section
variable {H : Type} {enc : TypeId × Value → H} {w : World} {base : Nat} {spare : Nat → Bool} {held : Bool}
theorem msgs_view {a : Option Addr} {len cap : Nat} {fuel : Nat} {x : DataW H × List MemPlace} (h : DataW.trod enc Try.prog w base spare held fuel 22 [.slice a len cap] = some x) (hx : Reads Try.prog 22 x.1) :
    ∃ X : List MIn, X.length = len ∧ MsgsIn w a X := by
  obtain ⟨hm, hv⟩ := rows_view2 (C := 2) Try.underlying22 (by kernel_rfl) (by omega) h hx
  rcases Nat.eq_zero_or_pos len with h0 | h0
  · subst h0
    exact ⟨[], rfl, fun h => by simp at h, fun f hf => (by cases hf), Nat.zero_le _⟩
  · obtain ⟨g, o, n, rfl, hg, hi⟩ := hv h0
    obtain ⟨X, hl, hp⟩ := list_of (α := MIn) (p := fun i m => (w.cell? ⟨g, o + i * 2, none⟩ = some (.slice m.p m.L.length m.cap) ∧ w.cell? ⟨g, o + i * 2 + 1, none⟩ = some (.string m.body)) ∧ MsgIn w m) (n := len) (by
      intro i hil
      obtain ⟨cs, y, h1, h2, h3, h4⟩ := hi i hil
      obtain ⟨m, rfl, hm⟩ := msg_cells h1 h3 h4
      exact ⟨m, ⟨h2 0 _ rfl, h2 1 _ rfl⟩, hm⟩)
    refine ⟨X, hl, fun _ => ⟨g, o, rfl, hg, fun i m hm => (hp i m hm).1⟩, fun m hm => ?_, by rw [hl]; exact hm⟩
    obtain ⟨i, hi', rfl⟩ := List.getElem_of_mem hm
    exact (hp i _ (List.getElem?_eq_getElem hi')).2
end

/-- A message that came in is written to a table of the call's own. -/
theorem wwrite_in {w0 w : World} {b : Nat} {v : Value} {S : Tbl} {p : Option Addr} {cap : Nat} {L : List Fl} {body : ByteArray} (hT : TblIs w w0.heap.size b 71 v S) (hok : S.Ok) (hb : w0.heap.size ≤ b) (hB : Below w0.heap.size w0 w) (hF : InFl w0 p L) (hlen : L.length ≤ 10000) (hbody : body.size ≤ 5000) :
    Calls Try.prog 11 #[.pointer (some ⟨b, 0, none⟩), .agg #[.slice p L.length cap, .string body]] w fun e w' => e = .returned (.tuple #[.string (webF S L (byt body)).2.1, .string (txt (webF S L (byt body)).2.2.1), .int .i64 (webF S L (byt body)).2.2.2]) ∧ TabTo w w' w0.heap.size b 71 v (webF S L (byt body)).1 :=
  wWrite_any w0.heap.size b v S L p cap body w hT hok hB.size hb (hF.below hB).1 hlen (fun hl g o e => by
    have hg := hF.2.2.2 g o hl e
    refine ⟨Nat.lt_of_lt_of_le hg hB.size, by omega, fun he => ?_⟩
    have := (World.ownsRow.lt hT.2 g he).1
    omega) hbody

set_option maxRecDepth 100000 in
set_option maxHeartbeats 8000000 in
theorem writes_walk (HAW0 : ∀ w, Calls Try.prog 7 #[] w fun e w' => e = .returned (.bool true) ∧ Below w.heap.size w w') (a0 : Int) (a1 : Option Addr) (cap1 : Nat) (X : List MIn) (w : World) (w0 : (Lit.int .i64 a0).wf = true) (hX : MsgsIn w a1 X) :
    Calls Try.prog 3 #[.int .i64 a0, .slice a1 X.length cap1] w fun e w' => e = .returned (.bool true) ∧ Below w.heap.size w w' := by
  have hb0 := bounds_i64 w0
  have HAW := Lib.hid HAW0
  have HNW := Lib.hid (fun w => NewWriter_any a0 (IntWalk.i64_in _ (by omega)) w)
  have HNR := Lib.hid (fun w => RNew_any a0 (IntWalk.i64_in _ (by omega)) w)
  have hok0 : (⟨[], mostF a0, 0⟩ : Tbl).Ok := ⟨mostF_le a0, Nat.zero_le _, Nat.le_refl _⟩
  have HOK := Lib.hid hok0
  have HX := Lib.hid hX
  obtain ⟨N, hN⟩ : ∃ N, X.length = N := ⟨_, rfl⟩
  have HN := Lib.hid hN
  have hNb := hX.2.2
  unfold maxLen at hNb
  rw [hN] at hNb ⊢
  clear w0 hX hok0 hN HAW0
  go_enter Try.func3, Try.ntmps3
  go_wp2_with fail
  refine (HAW.out _).mono ?_
  rintro e x0 ⟨rfl, b0⟩
  have B0 := Lib.hid b0
  clear b0
  go_wp2_with fail
  refine (HNW.out _).mono ?_
  rintro e x1 ⟨bw, rfl, hbw, hk1, b1⟩
  have s0 := B0.out.size
  have W1 := Lib.hid (tab_new (B := w.heap.size) hk1)
  have B1 := Lib.hid (B0.out.trans (b1.mono B0.out.size))
  have lw := hk1.lt
  clear hk1 b1
  go_wp2_with fail
  refine (HNR.out _).mono ?_
  rintro e x2 ⟨bt, rfl, hbr, hk2, b2⟩
  have s1 := B1.out.size
  have T2 : Hid (PW w x2 bw bt (.slice none 0 0) (.slice none 0 0) ⟨[], mostF a0, 0⟩ ⟨[], mostF a0, 0⟩) := Lib.hid ⟨W1.out.below b2, ⟨hk2, World.ownsRow_nil _ _ _ _⟩, by omega, by omega, by omega, B1.out.trans (b2.mono B1.out.size)⟩
  clear hk2 b2
  go_wp2_with fail
  go_loopg [7] N (fun gk iv wr => ∃ (i : Nat) (S : Tbl) (vw vr : Value), i + gk = N ∧ iv = .int .i64 i ∧ PW w wr bw bt vw vr S S ∧ S.Ok ∧ SzOk S)
  case atStart => exact ⟨0, _, _, _, by omega, rfl, T2.out, HOK.out, rfl⟩
  case round =>
    obtain ⟨i, S, vw, vr, hiN, rfl, hT, hS, hZ⟩ := hrel
    have HT := Lib.hid hT
    have HS := Lib.hid hS
    have HZ := Lib.hid hZ
    have hbel := hT.2.2.2.2.2
    clear hT hS hZ
    by_cases hlt : i < N
    case neg =>
      have d1 : decide ((i : Int) < (N : Int)) = false := by rw [decide_eq_false_iff_not]; omega
      have HB := Lib.hid hbel
      clear hbel
      go_wp2_with fail
      go_ret
      exact ⟨rfl, HB.out⟩
    case pos =>
      have d1 : decide ((i : Int) < (N : Int)) = true := by rw [decide_eq_true_iff]; omega
      by_cases h20 : i < 40
      case neg =>
        have d2 : decide ((i : Int) < 40) = false := by rw [decide_eq_false_iff_not]; omega
        have HB := Lib.hid hbel
        clear hbel
        go_wp2_with fail
        go_ret
        exact ⟨rfl, HB.out⟩
      case pos =>
        have d2 : decide ((i : Int) < 40) = true := by rw [decide_eq_true_iff]; omega
        have hiX : i < X.length := by rw [HN.out]; exact hlt
        obtain ⟨x, hx⟩ : ∃ x, X[i]? = some x := ⟨_, List.getElem?_eq_getElem hiX⟩
        have hIn := HX.out.2.1 x (List.mem_of_getElem? hx)
        obtain ⟨g, o, rfl, hg, hc⟩ := HX.out.1 (by omega)
        obtain ⟨hc0, hc1⟩ := hc i x hx
        obtain ⟨p, cap, L, body⟩ := x
        obtain ⟨hIn1, hIn2, hIn3⟩ := hIn
        simp only at hIn1 hIn2 hIn3 hc0 hc1
        have hLG := wlarge_any L p cap body wr (hIn1.below hbel) hIn2 hIn3
        obtain ⟨NL, hNL⟩ : ∃ n, L.length = n := ⟨_, rfl⟩
        rw [hNL] at hc0 hLG
        have HCS : Hid (∀ y, Below w.heap.size w y → (y.cell? ⟨g, o + i * 2, none⟩ = some (.slice p NL cap) ∧ y.cell? ⟨g, o + i * 2 + 1, none⟩ = some (.string body)) ∧ Below w.heap.size w y) := Lib.hid (fun y hb => ⟨⟨(hb.cell (p := ⟨g, o + i * 2, none⟩) hg).trans hc0, (hb.cell (p := ⟨g, o + i * 2 + 1, none⟩) hg).trans hc1⟩, hb⟩)
        obtain ⟨⟨k0, k1⟩, -⟩ := HCS.out _ hbel
        have HLG := Lib.hid hLG
        have HIN := Lib.hid hIn1
        have HNL := Lib.hid hNL
        clear hLG hIn1 hIn2 hIn3 hNL hc hc0 hc1 hx hiX hbel hg
        go_wp2_with fail
        unfold WLEnd at HLG
        refine HLG.out.mono ?_
        rintro e y1 ⟨big, rfl, hsm, b1⟩
        have T1 := Lib.hid (HT.out.further b1)
        obtain ⟨⟨k0', k1'⟩, -⟩ := HCS.out _ T1.out.2.2.2.2.2
        clear b1 k0 k1
        cases big
        case true =>
          go_wp2_with fail
          go_ret
          exact ⟨rfl, T1.out.2.2.2.2.2⟩
        case false =>
          have HSM := Lib.hid (hsm rfl)
          clear hsm
          have hlen : L.length ≤ 10000 := by have := HSM.out.1; omega
          have hbody : body.size ≤ 5000 := by have := HSM.out.2; omega
          have hw1 := wwrite_in (cap := cap) T1.out.1 HS.out T1.out.2.2.2.1 T1.out.2.2.2.2.2 HIN.out hlen hbody
          have hown := fun y (hb : Below w.heap.size w y) => own_any L p cap y (HIN.out.below hb).1 hlen
          have hrw := fun (y : World) (pl : Option Addr) (c : Nat) (v : Value) (hT : TbR y w.heap.size bt v S) (hB : w.heap.size ≤ y.heap.size) (B : Nat) (hO : OwnR B y (.slice pl L.length c) L) => rwWrite_any w.heap.size bt v S L pl c body y hT HS.out HZ.out hB hO.fv hlen (fun _ g o e => by
            have hne : (Value.slice pl L.length c).ownBlock ≠ some bt := own_ne hO hT.1 (by decide)
            subst e
            intro e2
            subst e2
            exact hne rfl) hbody
          have hkeep := write_keeps HS.out HZ.out L
          rw [← webF_tab S L (byt body)] at hkeep
          rw [HNL.out] at hw1 hown
          obtain ⟨R, hR⟩ : ∃ R, webF S L (byt body) = R := ⟨_, rfl⟩
          rw [hR] at hw1 hrw hkeep
          obtain ⟨S2, a, bb, E⟩ := R
          simp only at hw1 hrw hkeep
          obtain ⟨bs2, hbs2⟩ : ∃ q, txt bb = q := ⟨_, rfl⟩
          rw [hbs2] at hw1 hrw
          have HW1 := Lib.hid hw1
          have HOW := Lib.hid hown
          have HRW := Lib.hid hrw
          have HK := Lib.hid hkeep
          clear hw1 hown hrw hkeep hR hbs2
          go_wp2_with fail
          refine HW1.out.mono ?_
          rintro e y2 ⟨rfl, hto⟩
          obtain ⟨vw2, hT2⟩ := T1.out.write hto
          have TA := Lib.hid (hT2.further ((Below.refl _ _).drew))
          have HBA := Lib.hid (show Below w.heap.size w y2.drew from TA.out.2.2.2.2.2)
          have HOW1 := Lib.hid (HOW.out _ HBA.out)
          have HRW1 : Hid (∀ y pl c, OwnR y2.drew.heap.size y (.slice pl L.length c) L → Below y2.drew.heap.size y2.drew y → Calls Try.prog 12 #[.pointer (some ⟨bt, 0, none⟩), .slice pl L.length c, .string body] y fun e z => e = .returned (.tuple #[.string a, .string bs2, .int .i64 E]) ∧ (∃ vr', PW w z bw bt vw2 vr' S2 S2) ∧ Below w.heap.size w z) := Lib.hid (by
            intro y pl c hO hb
            have TB := TA.out.further hb
            refine (HRW.out y pl c vr TB.2.1 TB.2.2.2.2.2.size _ hO).mono ?_
            rintro e z ⟨rfl, hto⟩
            obtain ⟨vr', hz⟩ := TB.rwrite hto
            exact ⟨rfl, ⟨vr', hz⟩, hz.2.2.2.2.2⟩)
          clear hto hT2 k0' k1' HRW HOW HW1
          go_wp2_with fail
          go_region_held (fun w' => (w'.cell? ⟨g, o + i * 2, none⟩ = some (.slice p NL cap) ∧ w'.cell? ⟨g, o + i * 2 + 1, none⟩ = some (.string body)) ∧ Below w.heap.size w w')
            (first | with_reducible assumption | with_reducible exact HCS.out _ HBA.out | with_reducible exact HCS.out _ TCb | with_reducible exact HCS.out _ (HBA.out.trans (b3.mono HBA.out.size)))
            (first | (go_at_call 13; (with_reducible refine HOW1.out.mono ?_); rintro e y3 ⟨v3, rfl, o3, b3⟩; obtain ⟨p3, c3, rfl, -⟩ := own_shape o3) | (go_at_call 12; (with_reducible refine (HRW1.out _ _ _ o3 b3).mono ?_); rintro e y4 ⟨rfl, ⟨vr4, TC⟩, TCb⟩))
          all_goals
            have HTC := Lib.hid TC
            clear TC TCb
            go_wp2_with fail
            go_roundg (gk - 1)
            case measure => omega
            case rel => exact ⟨i + 1, S2, vw2, vr4, by omega, by go_num, HTC.out, HK.out.1, HK.out.2⟩

end Go.Proofs.Ytgnoiheekgmleaa
