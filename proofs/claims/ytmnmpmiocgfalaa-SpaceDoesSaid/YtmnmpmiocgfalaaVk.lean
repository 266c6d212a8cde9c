/- space: the reference's Got, Ack. -/
import Derived.Test.YtmnmpmiocgfalaaVj
namespace Go.Proofs.Ytmnmpmiocgfalaa
open Go.ChangeShapes Go.WideShapes Go.RowKit
set_option linter.unusedVariables false
set_option linter.unusedSimpArgs false

theorem RsIs.setTo {B b bl : Nat} {v u u' : Value} {s : Sp} {w w' : World} {R' : List Rg} (h : RsIs B b bl v u s w) (hr : RIs (s.crx bl) w' b B u' R') (ho : Only (fun k => k = b) w w') (hf : u' = u ∨ ∀ k, u'.ownBlock = some k → w.heap.size ≤ k) (hok : OkR R') (hlen : R'.length ≤ 200) : RsTo B b bl v u w { s with R := R' } v u' w' := by
  refine ⟨⟨hr.at_, h.led.only ho (fun e => h.ne e.symm) (fun q hq e => own_ne h.led.own h.at_ (by decide) (by rw [hq, e])), hr.own, h.inv, hok, hlen, h.wh, h.bb⟩, ho.mono (fun k hk => .inl hk), .inl rfl, ?_⟩
  rcases hf with e | e
  · exact .inl (by rw [e])
  · exact .inr e

/-- The reference's Got's end. -/
def RGotEnd (B b bl : Nat) (v u : Value) (s : Sp) (num now : Nat) (asks : Bool) (w : World) (e : Ending) (w' : World) : Prop :=
  e = .returned (.int .i64 (gotSp s num now asks).2) ∧ ∃ u', RsTo B b bl v u w (gotSp s num now asks).1 v u' w'

theorem got_later {s : Sp} {num : Nat} : decide (sg (mostR s.R).2 (mostR s.R).1 < (num : Int)) = (!(mostR s.R).2 || decide ((mostR s.R).1 < num)) := by
  unfold sg
  cases (mostR s.R).2 with
  | false => simp; omega
  | true => simp

set_option maxRecDepth 100000 in
set_option maxHeartbeats 4000000 in
theorem rGot15 (B b bl : Nat) (v u : Value) (s : Sp) (w : World) (num now : Nat) (p : Option Addr) (cap : Nat) (fs : List Frm) (h : RsIs B b bl v u s w) (hF : ∀ y, Below B w y → FrsAt y p fs ∧ ∀ f ∈ fs, RgAt y f.lp f.rs) (hfit : ∀ f ∈ fs, f.fit) (hl : fs.length ≤ 1000) (hnum : num < 2 ^ 64) (hnow : now < 2 ^ 64) :
    Calls Try.prog 25 #[.pointer (some ⟨b, 0, none⟩), .int .u64 (num : Int), .int .u64 (now : Int), .slice p fs.length cap] w (RGotEnd B b bl v u s num now (fs.any asksF) w) := by
  have hb := h.lt
  have HC := Lib.hid (rcovers_ok b B u s.R w num num h.ris (by have := h.len; omega) h.ok)
  obtain ⟨C, hC⟩ : ∃ C, coversR s.R num num = C := ⟨_, rfl⟩
  rw [hC] at HC
  have HCC := Lib.hid hC
  have HL := Lib.hid (fun y (hy : Below w.heap.size w y) => rLargest_any (h.next hy))
  have HAD := Lib.hid (fun y (hy : Below w.heap.size w y) => radd_ok b B u s.R y num num (h.next hy).ris h.len h.ok hnum hnum)
  have HASK := Lib.hid (fun y (hy : Below B w y) => ask15 asks03 p cap fs y (hF y hy).1 hfit (hF y hy).2 hl)
  obtain ⟨A, hA⟩ : ∃ A, fs.any asksF = A := ⟨_, rfl⟩
  obtain ⟨N, hN⟩ : ∃ N, fs.length = N := ⟨_, rfl⟩
  obtain ⟨E, hE⟩ : ∃ E, addE s.R num num = E := ⟨_, rfl⟩
  have hlat := got_later (s := s) (num := num)
  obtain ⟨la, hla⟩ : ∃ x, sg (mostR s.R).2 (mostR s.R).1 = x := ⟨_, rfl⟩
  rw [hla] at hlat HL
  obtain ⟨Y, hY⟩ : ∃ Y, (!(mostR s.R).2 || decide ((mostR s.R).1 < num)) = Y := ⟨_, rfl⟩
  rw [hY] at hlat
  rw [hA] at HASK ⊢
  rw [hN] at HASK ⊢
  have HH := Lib.hid h
  have HY := Lib.hid hY
  have HE := Lib.hid hE
  have Hnow := Lib.hid hnow
  clear hF hfit hl hnum hnow hC hA hN hE hla hY
  clear h
  go_enter Try.func25, Try.ntmps25
  go_wp2_with fail
  refine HC.out.mono ?_
  rintro e w1 ⟨rfl, hb1⟩
  have HB1 := Lib.hid hb1
  have hb1l := (HH.out.next hb1).lt
  clear hb1
  cases C
  · go_wp2_with fail
    refine (HL.out w1 HB1.out).mono ?_
    rintro e w2 ⟨rfl, hb2⟩
    have HB2 := Lib.hid (HB1.out.trans (hb2.mono HB1.out.size))
    have hb2l := (HH.out.next HB2.out).lt
    clear hb2 hb1l
    go_wp2_with fail
    refine (HAD.out w2 HB2.out).mono ?_
    rintro e w3 ⟨rfl, u', hris, hon, hfu⟩
    rw [HE.out]
    have HT := Lib.hid ((HH.out.next HB2.out).setTo hris hon hfu (addR_ok HH.out.ok HH.out.len num num).1 (addR_ok HH.out.ok HH.out.len num num).2)
    have hb3l := HT.out.is.lt
    clear hris hon hfu hb2l
    by_cases h0 : E = 0
    · subst h0
      have hnb : num ≤ 4611686018427387903 := by
        have := HE.out
        unfold addE at this
        by_cases hb : num < num ∨ 4611686018427387903 < num
        · rw [if_pos hb] at this; cases this
        · omega
      have hwn : IntKind.i64.wrap (num : Int) = (num : Int) := IntWalk.i64_in _ (by omega)
      clear hnb
      have f3 : w3.frozen? ⟨b, 3, none⟩ = false := HT.out.is.at_.free 3
      have f4 : w3.frozen? ⟨b, 4, none⟩ = false := HT.out.is.at_.free 4
      have c3 : w3.cell? ⟨b, 3, none⟩ = some (.int .u64 (s.when : Int)) := HT.out.is.at_.cell (k := 3) rfl
      have c4 : w3.cell? ⟨b, 4, none⟩ = some (.bool s.must) := HT.out.is.at_.cell (k := 4) rfl
      have hend : ∀ w4 t, RsTo B b bl v u w2 t v u' w4 → t = { s with R := addR s.R num num, when := if Y = true then now else s.when, must := s.must || A } → RGotEnd B b bl v u s num now A w (.returned (.int .i64 0)) w4 := by
        intro w4 t ht e
        have eg : gotSp s num now A = (t, 0) := by
          unfold gotSp
          rw [HCC.out, if_neg (by decide), if_pos HE.out, HY.out, e]
        refine ⟨by rw [eg], u', ?_⟩
        rw [eg]
        exact RsTo.ahead HB2.out ht
      have HEND := Lib.hid hend
      clear hend
      obtain ⟨m, hm⟩ : ∃ m, s.must = m := ⟨_, rfl⟩
      rw [hm] at c4
      have Hm := Lib.hid hm
      clear hm
      cases Y
      · have HT2 : Hid (RsTo B b bl v u w2 { s with R := addR s.R num num, when := if false = true then now else s.when, must := m } v u' w3) := Lib.hid (by have := HT.out; rw [← Hm.out]; exact this)
        clear HT
        cases m
        · go_wp2_with fail
          refine (HASK.out w3 (((HB2.out).mono (HH.out.led.bw)).trans (HT2.out.below (HH.out.next HB2.out)))).mono ?_
          rintro e w4 ⟨rfl, hb4⟩
          have HT3 := Lib.hid (HT2.out.then hb4)
          have f5 : w4.frozen? ⟨b, 4, none⟩ = false := HT3.out.is.at_.free 4
          have c5 : w4.cell? ⟨b, 4, none⟩ = some (.bool false) := HT3.out.is.at_.cell (k := 4) rfl
          have hb4l := HT3.out.is.lt
          have HF := Lib.hid (HT3.out.cells (s2 := { s with R := addR s.R num num, when := if false = true then now else s.when, must := A }) 4 (.bool A) rfl rfl rfl rfl HH.out.wh)
          clear hb4 f3 f4 c3 c4
          go_wp2_with fail
          go_ret
          exact HEND.out _ _ HF.out (by rw [Hm.out]; rfl)
        · have HF := Lib.hid (HT2.out.cells (s2 := { s with R := addR s.R num num, when := if false = true then now else s.when, must := true }) 4 (.bool true) rfl rfl rfl rfl HH.out.wh)
          go_wp2_with fail
          go_ret
          exact HEND.out _ _ HF.out (by rw [Hm.out]; rfl)
      · have HT2 : Hid (RsTo B b bl v u w2 { s with R := addR s.R num num, when := if true = true then now else s.when, must := m } v u' (w3.setCell ⟨b, 3, none⟩ (.int .u64 (now : Int)))) := Lib.hid (by
          rw [← Hm.out]
          exact HT.out.cells (s2 := { s with R := addR s.R num num, when := if true = true then now else s.when, must := s.must }) 3 (.int .u64 (now : Int)) rfl rfl rfl rfl Hnow.out)
        clear HT
        cases m
        · go_wp2_with fail
          refine (HASK.out _ (((HB2.out).mono (HH.out.led.bw)).trans (HT2.out.below (HH.out.next HB2.out)))).mono ?_
          rintro e w4 ⟨rfl, hb4⟩
          have HT3 := Lib.hid (HT2.out.then hb4)
          have f5 : w4.frozen? ⟨b, 4, none⟩ = false := HT3.out.is.at_.free 4
          have c5 : w4.cell? ⟨b, 4, none⟩ = some (.bool false) := HT3.out.is.at_.cell (k := 4) rfl
          have hb4l := HT3.out.is.lt
          have HF := Lib.hid (HT3.out.cells (s2 := { s with R := addR s.R num num, when := if true = true then now else s.when, must := A }) 4 (.bool A) rfl rfl rfl rfl Hnow.out)
          clear hb4 f3 f4 c3 c4
          go_wp2_with fail
          go_ret
          exact HEND.out _ _ HF.out (by rw [Hm.out]; rfl)
        · have HF := Lib.hid (HT2.out.cells (s2 := { s with R := addR s.R num num, when := if true = true then now else s.when, must := true }) 4 (.bool true) rfl rfl rfl rfl Hnow.out)
          go_wp2_with fail
          go_ret
          exact HEND.out _ _ HF.out (by rw [Hm.out]; rfl)
    · have hne : ((E : Int) == 0) = false := by rw [beq_eq_false_iff_ne]; omega
      have hne2 : ((E : Int) != 0) = true := by rw [bne_iff_ne]; omega
      have H0 := Lib.hid h0
      clear h0
      go_wp2_with fail
      go_ret
      have er : addR s.R num num = s.R := addR_err (by rw [HE.out]; exact H0.out)
      have eg : gotSp s num now A = (s, (E : Int)) := by
        unfold gotSp
        rw [HCC.out, if_neg (by decide), HE.out, if_neg H0.out]
      refine ⟨by rw [eg]; rfl, u', ?_⟩
      rw [eg]
      have := RsTo.ahead HB2.out HT.out
      rw [er] at this
      exact this
  · go_wp2_with fail
    go_ret
    have eg : gotSp s num now A = (s, 22) := by
      unfold gotSp
      rw [HCC.out, if_pos rfl]
    refine ⟨by rw [eg]; rfl, u, ?_⟩
    rw [eg]
    exact RsTo.same HH.out HB1.out

end Go.Proofs.Ytmnmpmiocgfalaa
