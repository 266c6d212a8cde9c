/- space: Sent, Got, Ack. -/
import Derived.Test.YtmnmpmiocgfalaaSi
namespace Go.Proofs.Ytmnmpmiocgfalaa
open Go.ChangeShapes Go.WideShapes Go.RowKit
set_option linter.unusedVariables false
set_option linter.unusedSimpArgs false

def ASKS : Value := .func (.func 41) #[] #[]
theorem asks_list (p : Option Addr) (n cap : Nat) (fs : List Frm) (w : World) (hn : fs.length = n) (hf : FrsAt w p fs) (hfit : ∀ f ∈ fs, f.fit) (hl : n ≤ 1000) :
    Calls Try.prog 40 #[.slice p n cap, .func (.func 41) #[] #[]] w fun e w' => e = .returned (.bool (fs.any asksF)) ∧ Below w.heap.size w w' :=
  contains_fr p n cap fs w asksF 41 #[] (enters_of Try.func41 (by kernel_rfl) rfl) (fun W r hr _ => asks_any r W (hfit r hr)) hn hf (by omega)

/-- What Sent comes to: the space, the number, the error. -/
def sentSp (s : Sp) (now size : Nat) (asks : Bool) (fa : Option Addr) (fl fc : Nat) : Sp × Nat × Int :=
  let r := if asks = true then sentF s.L ⟨s.next, now, size, true, fa, fl, fc⟩ else skipF s.L s.next
  if r.2 = 0 then ({ s with L := r.1, next := s.next + 1 }, s.next, 0) else (s, 0, r.2)

theorem sentF_err {S : Lg} {p : Pk} (h : (sentF S p).2 ≠ 0) : (sentF S p).1 = S := by
  unfold sentF at h ⊢
  split
  · rfl
  · split
    · rfl
    · rename_i h1 h2
      rw [if_neg h1, if_neg h2] at h
      exact absurd rfl h
theorem skipF_err {S : Lg} {n : Nat} (h : (skipF S n).2 ≠ 0) : (skipF S n).1 = S := by
  unfold skipF at h ⊢
  split
  · rfl
  · rename_i h1
    rw [if_neg h1] at h
    exact absurd rfl h

/-- Sent's end. -/
def SentEnd (B b : Nat) (v u : Value) (s : Sp) (now size : Nat) (asks : Bool) (fs : List Frm) (w : World) (e : Ending) (w' : World) : Prop :=
  ∃ fa fc v', e = .returned (.tuple #[.int .u64 ((sentSp s now size asks fa fs.length fc).2.1 : Int), .int .i64 (sentSp s now size asks fa fs.length fc).2.2]) ∧ SpTo B b v u w (sentSp s now size asks fa fs.length fc).1 v' u w' ∧
    (asks = true → (sentSp s now size asks fa fs.length fc).2.2 = 0 → w'.ownsRow w.heap.size 43 8 (.slice fa fs.length fc) fs.length (frs fs))

set_option maxRecDepth 100000 in
set_option maxHeartbeats 2000000 in
theorem Sent_sp (B b : Nat) (v u : Value) (s : Sp) (w : World) (now size : Nat) (p : Option Addr) (cap : Nat) (fs : List Frm) (h : SpIs B b v u s w) (hfine : s.fine) (hf : FrsAt w p fs) (hfit : ∀ f ∈ fs, f.fit) (hl : fs.length ≤ 1000) :
    Calls Try.prog 16 #[.pointer (some ⟨b, 0, none⟩), .int .u64 (now : Int), .int .u64 (size : Int), .slice p fs.length cap] w (SentEnd B b v u s now size (fs.any asksF) fs w) := by
  have hb := h.lt
  have hnx := hfine.le h.inv
  have c5 : w.cell? ⟨b, 5, none⟩ = some (.int .u64 (s.next : Int)) := h.led.led.cell (k := 5) rfl
  have HA := Lib.hid (asks_list p fs.length cap fs w rfl hf hfit hl)
  obtain ⟨A, hA⟩ : ∃ A, fs.any asksF = A := ⟨_, rfl⟩
  rw [hA] at HA ⊢
  have HN1 : Hid (∀ y, Below w.heap.size w y → SpIs B b v u s y) := Lib.hid (fun y hy => h.next hy)
  have HFA := Lib.hid hf
  have HFN : Hid (A = true → 0 < fs.length) := Lib.hid (by
    intro e
    rw [← hA] at e
    cases fs with
    | nil => simp at e
    | cons x l => simp)
  obtain ⟨N, hN⟩ : ∃ N, fs.length = N := ⟨_, rfl⟩
  obtain ⟨nx, hx⟩ : ∃ nx, s.next = nx := ⟨_, rfl⟩
  have HX := Lib.hid hx
  have HNN := Lib.hid hN
  rw [hx] at hnx c5
  rw [hN] at hl HFN HA ⊢
  have HH := Lib.hid h
  clear h hfine hf hfit hA hx hN
  have hwr : IntKind.u64.wrap ((nx : Int) + 1) = ((nx + 1 : Nat) : Int) := by rw [IntKind.wrap_u64]; omega
  go_enter Try.func16, Try.ntmps16
  go_wp2_with fail
  refine HA.out.mono ?_
  rintro e w1 ⟨rfl, hb1⟩
  have H1 := Lib.hid (HN1.out _ hb1)
  have HB1 := Lib.hid hb1
  clear HA HN1
  cases A
  · have HS := Lib.hid (Skip_any B b _ _ v s.L w1 nx H1.out.led (by omega) H1.out.inv.lnb)
    obtain ⟨r, hr⟩ : ∃ r, skipF s.L nx = r := ⟨_, rfl⟩
    rw [hr] at HS
    have HR := Lib.hid hr
    have hb1l := H1.out.lt
    clear hb1 hr c5
    go_wp2_with fail
    refine HS.out.mono ?_
    rintro e w2 ⟨rfl, v', hcv⟩
    by_cases h0 : r.2 = 0
    · have HT := Lib.hid (H1.out.came hcv (by rw [← HR.out]; exact H1.out.inv.skip _))
      have d5 : w2.cell? ⟨b, 5, none⟩ = some (.int .u64 (nx : Int)) := by rw [← HX.out]; exact HT.out.is.led.led.cell (k := 5) rfl
      have f5 : w2.frozen? ⟨b, 5, none⟩ = false := HT.out.is.led.led.free 5
      have hb2l := HT.out.is.lt
      have HF := Lib.hid (HT.out.is.cell (s' := { s with L := r.1, next := nx + 1 }) 5 (.int .u64 ((nx + 1 : Nat) : Int)) rfl rfl rfl HH.out.wh)
      rw [h0]
      have H0 := Lib.hid h0
      clear h0 hcv HS
      go_wp2_with fail
      go_ret2
      refine ⟨none, 0, v', ?_, ?_, fun e => by cases e⟩
      · unfold sentSp
        simp only [Bool.false_eq_true, if_false, HX.out, HR.out, H0.out, if_true]
        rfl
      · unfold sentSp
        simp only [Bool.false_eq_true, if_false, HX.out, HR.out, H0.out, if_true]
        exact SpTo.ahead HB1.out (SpTo.trans H1.out HT.out HF.out)
    · have hne : (r.2 == 0) = false := by rw [beq_eq_false_iff_ne]; exact h0
      have hne2 : (r.2 != 0) = true := by rw [bne_iff_ne]; exact h0
      have hs : r.1 = s.L := by rw [← HR.out]; exact skipF_err (by rw [HR.out]; exact h0)
      have HT := Lib.hid (H1.out.came hcv (by rw [← HR.out]; exact H1.out.inv.skip _))
      have HS1 := Lib.hid hs
      have H0 := Lib.hid h0
      clear h0 hcv HS hs
      go_wp2_with fail
      go_ret2
      refine ⟨none, 0, v', ?_, ?_, fun e => by cases e⟩
      · unfold sentSp
        simp only [Bool.false_eq_true, if_false, HX.out, HR.out, if_neg H0.out]
        rfl
      · unfold sentSp
        simp only [Bool.false_eq_true, if_false, HX.out, HR.out, if_neg H0.out]
        have := SpTo.ahead HB1.out HT.out
        rw [HS1.out] at this
        exact this
  · have HL0 := HFN.out rfl
    have HS := Lib.hid (Sent_any B b 34 _ v s.L w1 nx now size true H1.out.led (by omega) H1.out.inv.lnb H1.out.inv.len1 (.slice p N cap) N (frs fs) (clone_sent p N cap fs w1 HNN.out (HFA.out.below hb1) HL0 hl) (by decide))
    obtain ⟨E, hE⟩ : ∃ E, (sentF s.L ⟨nx, now, size, true, none, 0, 0⟩).2 = E := ⟨_, rfl⟩
    rw [hE] at HS
    have HE := Lib.hid hE
    have hb1l := H1.out.lt
    clear hb1 hE c5 HL0
    go_wp2_with fail
    refine HS.out.mono ?_
    rintro e w2 ⟨rfl, fa, fc, ⟨v', hcv⟩, hfr⟩
    obtain ⟨r, hr⟩ : ∃ r, sentF s.L ⟨nx, now, size, true, fa, N, fc⟩ = r := ⟨_, rfl⟩
    have hE2 : r.2 = E := by rw [← hr, ← HE.out]; exact sent_letters _ _ _ _ _ _ _ _ _ _ _
    rw [hr] at hcv
    have HR := Lib.hid hr
    have HT := Lib.hid (H1.out.came hcv (by rw [← hr]; exact H1.out.inv.sent _))
    have HFR := Lib.hid hfr
    by_cases h0 : E = 0
    · have H0 := Lib.hid (hE2.trans h0)
      have d5 : w2.cell? ⟨b, 5, none⟩ = some (.int .u64 (nx : Int)) := by rw [← HX.out]; exact HT.out.is.led.led.cell (k := 5) rfl
      have f5 : w2.frozen? ⟨b, 5, none⟩ = false := HT.out.is.led.led.free 5
      have hb2l := HT.out.is.lt
      have HF := Lib.hid (HT.out.is.cell (s' := { s with L := r.1, next := nx + 1 }) 5 (.int .u64 ((nx + 1 : Nat) : Int)) rfl rfl rfl HH.out.wh)
      have HFR2 := Lib.hid (ownsRow_setCell_other (a := ⟨b, 5, none⟩) (hfr h0) (own_ne (hfr h0) HT.out.is.led.led (by decide)) (.int .u64 ((nx + 1 : Nat) : Int)))
      clear HFR
      subst h0
      clear hcv HS hr hE2 hfr
      go_wp2_with fail
      go_ret2
      refine ⟨fa, fc, v', ?_, ?_, fun _ _ => ?_⟩
      · unfold sentSp
        simp only [if_true, HX.out, HNN.out, HR.out, H0.out]
        rfl
      · unfold sentSp
        simp only [if_true, HX.out, HNN.out, HR.out, H0.out]
        exact SpTo.ahead HB1.out (SpTo.trans H1.out HT.out HF.out)
      · rw [HNN.out]
        exact own_base HFR2.out HB1.out.size
    · have hne : (E == 0) = false := by rw [beq_eq_false_iff_ne]; exact h0
      have hne2 : (E != 0) = true := by rw [bne_iff_ne]; exact h0
      have H0 := Lib.hid (show ¬ r.2 = 0 by rw [hE2]; exact h0)
      have HE2 := Lib.hid hE2
      have HS1 := Lib.hid (show r.1 = s.L by rw [← hr]; exact sentF_err (by rw [hr]; exact H0.out))
      clear h0 hcv HS hr hE2 hfr HFR
      go_wp2_with fail
      go_ret2
      refine ⟨fa, fc, v', ?_, ?_, fun _ h => ?_⟩
      · unfold sentSp
        simp only [if_true, HX.out, HNN.out, HR.out, if_neg H0.out]
        rw [HE2.out]
        rfl
      · unfold sentSp
        simp only [if_true, HX.out, HNN.out, HR.out, if_neg H0.out]
        have := SpTo.ahead HB1.out HT.out
        rw [HS1.out] at this
        exact this
      · exfalso
        unfold sentSp at h
        simp only [if_true, HX.out, HNN.out, HR.out, if_neg H0.out] at h
        exact H0.out h

/-- The frames lie in no block of P. -/
def FrsOff (P : Nat → Prop) (p : Option Addr) (fs : List Frm) : Prop := 0 < fs.length → ∀ g o, p = some ⟨g, o, none⟩ → ¬ P g
theorem FrsAt.only {P : Nat → Prop} {w w' : World} {p : Option Addr} {fs : List Frm} (h : FrsAt w p fs) (ho : Only P w w') (hp : FrsOff P p fs) : FrsAt w' p fs := by
  intro h0
  obtain ⟨g, o, rfl, hg, hc⟩ := h h0
  exact ⟨g, o, rfl, Nat.lt_of_lt_of_le hg ho.size, fun i f hf j v hv => (ho.cell (p := ⟨g, o + i * 8 + j, none⟩) hg (hp h0 g o rfl)).trans (hc i f hf j v hv)⟩

/-- What Got comes to. -/
def gotSp (s : Sp) (num now : Nat) (asks : Bool) : Sp × Int :=
  if coversR s.R num num = true then (s, 22)
  else if addE s.R num num = 0 then ({ s with R := addR s.R num num, when := if (!(mostR s.R).2 || decide ((mostR s.R).1 < num)) = true then now else s.when, must := s.must || asks }, 0)
  else (s, (addE s.R num num : Nat))
def GotEnd (B b : Nat) (v u : Value) (s : Sp) (num now : Nat) (asks : Bool) (w : World) (e : Ending) (w' : World) : Prop :=
  e = .returned (.int .i64 (gotSp s num now asks).2) ∧ ∃ u', SpTo B b v u w (gotSp s num now asks).1 v u' w'

theorem addR_err {L : List Rg} {l h : Nat} (e : addE L l h ≠ 0) : addR L l h = L := by unfold addR; rw [if_neg e]
theorem addE_le (L : List Rg) (l h : Nat) : addE L l h ≤ 4 := by
  unfold addE
  repeat' split
  all_goals omega

theorem SpIs.setTo_ahead {B b : Nat} {v u u' : Value} {s : Sp} {w w1 w' : World} {R' : List Rg} (h : SpIs B b v u s w) (hb : Below w.heap.size w w1) (hc : SetTo (s.crs v) b B u w1 u' R' w') (hok : OkR R') (hlen : R'.length ≤ 200) : SpTo B b v u w { s with R := R' } v u' w' :=
  SpTo.ahead hb ((h.next hb).setTo hc hok hlen)
theorem merge_len : ∀ (B : List Rg) (low high : Nat), (mergeR B low high).2.2.length ≤ B.length
  | [], _, _ => Nat.le_refl _
  | r :: B, low, high => by
    unfold mergeR
    split
    · have := merge_len B (min low r.1) (max high r.2)
      rw [List.length_cons]
      omega
    · exact Nat.le_refl _
theorem put_len : ∀ (L : List Rg) (low high : Nat), (putR L low high).length ≤ L.length + 1 ∧ (freshR L low high = false → (putR L low high).length ≤ L.length)
  | [], _, _ => ⟨by unfold putR; simp, fun h => by unfold freshR at h; cases h⟩
  | r :: B, low, high => by
    unfold putR freshR
    by_cases hc : high + 1 < r.1
    · rw [if_pos hc, if_pos hc]
      have := put_len B low high
      simp only [List.length_cons]
      exact ⟨by omega, fun h => by have := this.2 h; omega⟩
    · rw [if_neg hc, if_neg hc]
      have := merge_len (r :: B) low high
      simp only [List.length_cons] at this ⊢
      exact ⟨by omega, fun h => by have := of_decide_eq_false h; omega⟩

theorem addR_ok {L : List Rg} (h : OkR L) (hn : L.length ≤ 200) (low high : Nat) : OkR (addR L low high) ∧ (addR L low high).length ≤ 200 := by
  unfold addR
  split
  · rename_i h0
    unfold addE at h0
    split at h0
    · cases h0
    · rename_i h1
      split at h0
      · cases h0
      · rename_i h2
        refine ⟨(put_spec L _ low high h (by omega) (by omega)).1, ?_⟩
        obtain ⟨k1, k2⟩ := put_len L low high
        cases hf : freshR L low high with
        | true =>
          have : ¬ 200 ≤ L.length := fun h => h2 ⟨hf, h⟩
          omega
        | false =>
          have := k2 hf
          omega
  · exact ⟨h, hn⟩


set_option maxRecDepth 100000 in
set_option maxHeartbeats 4000000 in
theorem Got_sp (B b : Nat) (v u : Value) (s : Sp) (w : World) (num now : Nat) (p : Option Addr) (cap : Nat) (fs : List Frm) (h : SpIs B b v u s w) (hf : FrsAt w p fs) (hoff : FrsOff (fun k => k = b ∨ v.ownBlock = some k ∨ u.ownBlock = some k) p fs) (hfit : ∀ f ∈ fs, f.fit) (hl : fs.length ≤ 1000) (hnum : num < 2 ^ 64) (hnow : now < 2 ^ 64) :
    Calls Try.prog 11 #[.pointer (some ⟨b, 0, none⟩), .int .u64 (num : Int), .int .u64 (now : Int), .slice p fs.length cap] w (GotEnd B b v u s num now (fs.any asksF) w) := by
  have hb := h.lt
  have HC := Lib.hid (Came_any num h)
  obtain ⟨C, hC⟩ : ∃ C, coversR s.R num num = C := ⟨_, rfl⟩
  rw [hC] at HC
  have HCC := Lib.hid hC
  have HN1 : Hid (∀ y, Below w.heap.size w y → SpIs B b v u s y) := Lib.hid (fun y hy => h.next hy)
  have HFA : Hid (∀ y, Only (fun k => k = b ∨ v.ownBlock = some k ∨ u.ownBlock = some k) w y → Calls Try.prog 40 #[.slice p fs.length cap, .func (.func 41) #[] #[]] y fun e w' => e = .returned (.bool (fs.any asksF)) ∧ Below y.heap.size y w') :=
    Lib.hid (fun y hy => asks_list p fs.length cap fs y rfl (hf.only hy hoff) hfit hl)
  obtain ⟨A, hA⟩ : ∃ A, fs.any asksF = A := ⟨_, rfl⟩
  rw [hA] at HFA ⊢
  obtain ⟨N, hN⟩ : ∃ N, fs.length = N := ⟨_, rfl⟩
  rw [hN] at HFA hl ⊢
  have HH := Lib.hid h
  have HOK := Lib.hid (addR_ok h.ok h.len num num)
  have HNUM := Lib.hid hnum
  have HNOW := Lib.hid hnow
  have hml := most_lt h.ok
  clear h hf hfit hC hA hN hnum hnow hoff
  cases C
  · go_enter Try.func11, Try.ntmps11
    go_wp2_with fail
    refine HC.out.mono ?_
    rintro e w1 ⟨rfl, hb1⟩
    have HLg := Lib.hid (Largest_any (HN1.out _ hb1))
    have HB1 := Lib.hid hb1
    obtain ⟨ms, hms⟩ : ∃ ms, mostR s.R = ms := ⟨_, rfl⟩
    rw [hms] at HLg hml
    have HMS := Lib.hid hms
    obtain ⟨m, is⟩ := ms
    simp only at HLg hml
    clear hb1 hms HC
    go_wp2_with fail
    refine HLg.out.mono ?_
    rintro e w2 ⟨rfl, hb2⟩
    have HB2 := Lib.hid (HB1.out.trans (hb2.mono HB1.out.size))
    have HAD := Lib.hid (add_ok b B u s.R w2 num num (HN1.out _ HB2.out).setIs HH.out.len HH.out.ok (by have := HNUM.out; omega) (by have := HNUM.out; omega))
    have hb2l := (HN1.out _ HB2.out).lt
    obtain ⟨E, hE⟩ : ∃ E, addE s.R num num = E := ⟨_, rfl⟩
    rw [hE] at HAD
    have HE := Lib.hid hE
    clear hb2 hE HLg
    cases is
    all_goals
      simp only [sg, Bool.false_eq_true, if_false, if_true]
      go_wp2_with fail
      refine HAD.out.mono ?_
      rintro e w3 ⟨rfl, u', hst⟩
      have h0 : E = 0 ∨ ¬ E = 0 := by omega
    · rcases h0 with rfl | h0
      ·
        have HG : Hid (gotSp s num now A = ({ s with R := addR s.R num num, when := now, must := s.must || A }, 0)) := Lib.hid (by
          unfold gotSp
          rw [HCC.out, HE.out, HMS.out, if_neg (by simp), if_pos rfl]
          simp [])
        obtain ⟨must, hmu⟩ : ∃ must, s.must = must := ⟨_, rfl⟩
        rw [hmu] at HG
        have HM := Lib.hid hmu
        clear hmu
        cases must
        · -- must: false
          have HT := Lib.hid (HH.out.setTo_ahead HB2.out hst HOK.out.1 HOK.out.2)
          have hb3 := HT.out.is.lt
          have c7 : w3.cell? ⟨b, 7, none⟩ = some (.int .u64 (s.when : Int)) := HT.out.is.led.led.cell (k := 7) rfl
          have f7 : w3.frozen? ⟨b, 7, none⟩ = false := HT.out.is.led.led.free 7
          have c8 : w3.cell? ⟨b, 8, none⟩ = some (.bool false) := by rw [← HM.out]; exact HT.out.is.led.led.cell (k := 8) rfl
          have f8 : w3.frozen? ⟨b, 8, none⟩ = false := HT.out.is.led.led.free 8
          have HT7 := Lib.hid (HT.out.is.cell (s' := { s with R := addR s.R num num, when := now }) 7 (.int .u64 (now : Int)) rfl rfl rfl HNOW.out)
          have HTX := Lib.hid (SpTo.trans HH.out HT.out HT7.out)
          have HAA := Lib.hid (HFA.out _ HTX.out.on)
          clear hst
          go_wp2_with fail
          refine HAA.out.mono ?_
          rintro e w4 ⟨rfl, hb4⟩
          have HTY := Lib.hid (HTX.out.then hb4)
          have k8 : w4.cell? ⟨b, 8, none⟩ = some (.bool false) := by rw [← HM.out]; exact HTY.out.is.led.led.cell (k := 8) rfl
          have g8 : w4.frozen? ⟨b, 8, none⟩ = false := HTY.out.is.led.led.free 8
          have hb4l := HTY.out.is.lt
          have HT8 := Lib.hid (HTY.out.is.cell (s' := { s with R := addR s.R num num, when := now, must := A }) 8 (.bool A) rfl rfl rfl (by first | exact HNOW.out | exact HH.out.wh))
          clear hb4
          go_wp2_with fail
          go_ret
          refine ⟨by rw [HG.out]; rfl, u', ?_⟩
          rw [HG.out, show (false || A) = A by simp]
          exact SpTo.trans HH.out HTY.out HT8.out
        · -- must: true
          have HT := Lib.hid (HH.out.setTo_ahead HB2.out hst HOK.out.1 HOK.out.2)
          have hb3 := HT.out.is.lt
          have c7 : w3.cell? ⟨b, 7, none⟩ = some (.int .u64 (s.when : Int)) := HT.out.is.led.led.cell (k := 7) rfl
          have f7 : w3.frozen? ⟨b, 7, none⟩ = false := HT.out.is.led.led.free 7
          have c8 : w3.cell? ⟨b, 8, none⟩ = some (.bool true) := by rw [← HM.out]; exact HT.out.is.led.led.cell (k := 8) rfl
          have f8 : w3.frozen? ⟨b, 8, none⟩ = false := HT.out.is.led.led.free 8
          have HT7 := Lib.hid (HT.out.is.cell (s' := { s with R := addR s.R num num, when := now }) 7 (.int .u64 (now : Int)) rfl rfl rfl HNOW.out)
          have HTX := Lib.hid (SpTo.trans HH.out HT.out HT7.out)
          have HT8 := Lib.hid (HTX.out.is.cell (s' := { s with R := addR s.R num num, when := now, must := true }) 8 (.bool true) rfl rfl rfl (by first | exact HNOW.out | exact HH.out.wh))
          clear hst
          go_wp2_with fail
          go_ret
          refine ⟨by rw [HG.out]; rfl, u', ?_⟩
          rw [HG.out, show (true || A) = true by simp]
          exact SpTo.trans HH.out HTX.out HT8.out
      · have hne : ((E : Int) == 0) = false := by rw [beq_eq_false_iff_ne]; omega
        have hne2 : ((E : Int) != 0) = true := by rw [bne_iff_ne]; omega
        have HG : Hid (gotSp s num now A = (s, (E : Int))) := Lib.hid (by unfold gotSp; rw [HCC.out, HE.out, if_neg (by simp), if_neg h0])
        have hre : addR s.R num num = s.R := addR_err (by rw [HE.out]; exact h0)
        have HST := Lib.hid hst
        have HRE := Lib.hid hre
        have hE4 : E ≤ 4 := by rw [← HE.out]; exact addE_le _ _ _
        clear h0 hst hre
        go_wp2_with fail
        go_ret
        refine ⟨by rw [HG.out]; rfl, u', ?_⟩
        rw [HG.out]
        have := HH.out.setTo_ahead HB2.out HST.out HOK.out.1 HOK.out.2
        rw [HRE.out] at this
        exact this
    · rcases h0 with rfl | h0
      · by_cases hnew : m < num
        ·
          have HNW := Lib.hid hnew
          have HG : Hid (gotSp s num now A = ({ s with R := addR s.R num num, when := now, must := s.must || A }, 0)) := Lib.hid (by
            unfold gotSp
            rw [HCC.out, HE.out, HMS.out, if_neg (by simp), if_pos rfl]
            simp [HNW.out])
          obtain ⟨must, hmu⟩ : ∃ must, s.must = must := ⟨_, rfl⟩
          rw [hmu] at HG
          have HM := Lib.hid hmu
          clear hmu
          cases must
          · -- must: false
            have HT := Lib.hid (HH.out.setTo_ahead HB2.out hst HOK.out.1 HOK.out.2)
            have hb3 := HT.out.is.lt
            have c7 : w3.cell? ⟨b, 7, none⟩ = some (.int .u64 (s.when : Int)) := HT.out.is.led.led.cell (k := 7) rfl
            have f7 : w3.frozen? ⟨b, 7, none⟩ = false := HT.out.is.led.led.free 7
            have c8 : w3.cell? ⟨b, 8, none⟩ = some (.bool false) := by rw [← HM.out]; exact HT.out.is.led.led.cell (k := 8) rfl
            have f8 : w3.frozen? ⟨b, 8, none⟩ = false := HT.out.is.led.led.free 8
            have HT7 := Lib.hid (HT.out.is.cell (s' := { s with R := addR s.R num num, when := now }) 7 (.int .u64 (now : Int)) rfl rfl rfl HNOW.out)
            have HTX := Lib.hid (SpTo.trans HH.out HT.out HT7.out)
            have HAA := Lib.hid (HFA.out _ HTX.out.on)
            clear hst
            go_wp2_with fail
            refine HAA.out.mono ?_
            rintro e w4 ⟨rfl, hb4⟩
            have HTY := Lib.hid (HTX.out.then hb4)
            have k8 : w4.cell? ⟨b, 8, none⟩ = some (.bool false) := by rw [← HM.out]; exact HTY.out.is.led.led.cell (k := 8) rfl
            have g8 : w4.frozen? ⟨b, 8, none⟩ = false := HTY.out.is.led.led.free 8
            have hb4l := HTY.out.is.lt
            have HT8 := Lib.hid (HTY.out.is.cell (s' := { s with R := addR s.R num num, when := now, must := A }) 8 (.bool A) rfl rfl rfl (by first | exact HNOW.out | exact HH.out.wh))
            clear hb4
            go_wp2_with fail
            go_ret
            refine ⟨by rw [HG.out]; rfl, u', ?_⟩
            rw [HG.out, show (false || A) = A by simp]
            exact SpTo.trans HH.out HTY.out HT8.out
          · -- must: true
            have HT := Lib.hid (HH.out.setTo_ahead HB2.out hst HOK.out.1 HOK.out.2)
            have hb3 := HT.out.is.lt
            have c7 : w3.cell? ⟨b, 7, none⟩ = some (.int .u64 (s.when : Int)) := HT.out.is.led.led.cell (k := 7) rfl
            have f7 : w3.frozen? ⟨b, 7, none⟩ = false := HT.out.is.led.led.free 7
            have c8 : w3.cell? ⟨b, 8, none⟩ = some (.bool true) := by rw [← HM.out]; exact HT.out.is.led.led.cell (k := 8) rfl
            have f8 : w3.frozen? ⟨b, 8, none⟩ = false := HT.out.is.led.led.free 8
            have HT7 := Lib.hid (HT.out.is.cell (s' := { s with R := addR s.R num num, when := now }) 7 (.int .u64 (now : Int)) rfl rfl rfl HNOW.out)
            have HTX := Lib.hid (SpTo.trans HH.out HT.out HT7.out)
            have HT8 := Lib.hid (HTX.out.is.cell (s' := { s with R := addR s.R num num, when := now, must := true }) 8 (.bool true) rfl rfl rfl (by first | exact HNOW.out | exact HH.out.wh))
            clear hst
            go_wp2_with fail
            go_ret
            refine ⟨by rw [HG.out]; rfl, u', ?_⟩
            rw [HG.out, show (true || A) = true by simp]
            exact SpTo.trans HH.out HTX.out HT8.out
        ·
          have HNW := Lib.hid hnew
          have HG : Hid (gotSp s num now A = ({ s with R := addR s.R num num, when := s.when, must := s.must || A }, 0)) := Lib.hid (by
            unfold gotSp
            rw [HCC.out, HE.out, HMS.out, if_neg (by simp), if_pos rfl]
            simp [HNW.out])
          obtain ⟨must, hmu⟩ : ∃ must, s.must = must := ⟨_, rfl⟩
          rw [hmu] at HG
          have HM := Lib.hid hmu
          clear hmu
          cases must
          · -- must: false
            have HT := Lib.hid (HH.out.setTo_ahead HB2.out hst HOK.out.1 HOK.out.2)
            have hb3 := HT.out.is.lt
            have c7 : w3.cell? ⟨b, 7, none⟩ = some (.int .u64 (s.when : Int)) := HT.out.is.led.led.cell (k := 7) rfl
            have f7 : w3.frozen? ⟨b, 7, none⟩ = false := HT.out.is.led.led.free 7
            have c8 : w3.cell? ⟨b, 8, none⟩ = some (.bool false) := by rw [← HM.out]; exact HT.out.is.led.led.cell (k := 8) rfl
            have f8 : w3.frozen? ⟨b, 8, none⟩ = false := HT.out.is.led.led.free 8
            have HTX := HT
            have HAA := Lib.hid (HFA.out _ HTX.out.on)
            clear hst
            go_wp2_with fail
            refine HAA.out.mono ?_
            rintro e w4 ⟨rfl, hb4⟩
            have HTY := Lib.hid (HTX.out.then hb4)
            have k8 : w4.cell? ⟨b, 8, none⟩ = some (.bool false) := by rw [← HM.out]; exact HTY.out.is.led.led.cell (k := 8) rfl
            have g8 : w4.frozen? ⟨b, 8, none⟩ = false := HTY.out.is.led.led.free 8
            have hb4l := HTY.out.is.lt
            have HT8 := Lib.hid (HTY.out.is.cell (s' := { s with R := addR s.R num num, when := s.when, must := A }) 8 (.bool A) rfl rfl rfl (by first | exact HNOW.out | exact HH.out.wh))
            clear hb4
            go_wp2_with fail
            go_ret
            refine ⟨by rw [HG.out]; rfl, u', ?_⟩
            rw [HG.out, show (false || A) = A by simp]
            exact SpTo.trans HH.out HTY.out HT8.out
          · -- must: true
            have HT := Lib.hid (HH.out.setTo_ahead HB2.out hst HOK.out.1 HOK.out.2)
            have hb3 := HT.out.is.lt
            have c7 : w3.cell? ⟨b, 7, none⟩ = some (.int .u64 (s.when : Int)) := HT.out.is.led.led.cell (k := 7) rfl
            have f7 : w3.frozen? ⟨b, 7, none⟩ = false := HT.out.is.led.led.free 7
            have c8 : w3.cell? ⟨b, 8, none⟩ = some (.bool true) := by rw [← HM.out]; exact HT.out.is.led.led.cell (k := 8) rfl
            have f8 : w3.frozen? ⟨b, 8, none⟩ = false := HT.out.is.led.led.free 8
            have HTX := HT
            have HT8 := Lib.hid (HTX.out.is.cell (s' := { s with R := addR s.R num num, when := s.when, must := true }) 8 (.bool true) rfl rfl rfl (by first | exact HNOW.out | exact HH.out.wh))
            clear hst
            go_wp2_with fail
            go_ret
            refine ⟨by rw [HG.out]; rfl, u', ?_⟩
            rw [HG.out, show (true || A) = true by simp]
            exact SpTo.trans HH.out HTX.out HT8.out
      · have hne : ((E : Int) == 0) = false := by rw [beq_eq_false_iff_ne]; omega
        have hne2 : ((E : Int) != 0) = true := by rw [bne_iff_ne]; omega
        have HG : Hid (gotSp s num now A = (s, (E : Int))) := Lib.hid (by unfold gotSp; rw [HCC.out, HE.out, if_neg (by simp), if_neg h0])
        have hre : addR s.R num num = s.R := addR_err (by rw [HE.out]; exact h0)
        have HST := Lib.hid hst
        have HRE := Lib.hid hre
        have hE4 : E ≤ 4 := by rw [← HE.out]; exact addE_le _ _ _
        clear h0 hst hre
        go_wp2_with fail
        go_ret
        refine ⟨by rw [HG.out]; rfl, u', ?_⟩
        rw [HG.out]
        have := HH.out.setTo_ahead HB2.out HST.out HOK.out.1 HOK.out.2
        rw [HRE.out] at this
        exact this
  · go_enter Try.func11, Try.ntmps11
    go_wp2_with fail
    refine HC.out.mono ?_
    rintro e w1 ⟨rfl, hb1⟩
    have HB1 := Lib.hid hb1
    clear hb1
    go_wp2_with fail
    go_ret
    unfold GotEnd gotSp
    rw [if_pos HCC.out]
    exact ⟨rfl, u, SpTo.same HH.out HB1.out⟩

end Go.Proofs.Ytmnmpmiocgfalaa
