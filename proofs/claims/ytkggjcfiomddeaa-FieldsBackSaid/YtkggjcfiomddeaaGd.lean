/- fields: the law's own, the reference's Fixed and Same. -/
import Derived.Test.YtkggjcfiomddeaaFq
import Derived.Test.YtkggjcfiomddeaaGc
import Derived.Deep.DeepCutAuto
namespace Go.Proofs.Ytkggjcfiomddeaa
open Go.ChangeShapes Go.WideShapes Go.RowKit
set_option linter.unusedVariables false
set_option linter.unusedSimpArgs false

theorem Try.infoR : (Try.prog.info? 59).map (fun i => (i.zero, i.size, i.bytes)) = some (some (.agg #[.string ⟨#[]⟩, .string ⟨#[]⟩]), 2, 32) := by kernel_rfl

/-- A slice of the call's own with these fields, of the reference's type. -/
def OwnR (B : Nat) (w : World) (v : Value) (L : List Fl) : Prop := w.ownsRow B 59 2 v L.length (flc L)

theorem OwnR.empty (B : Nat) (w : World) (hB : B ≤ w.heap.size) : OwnR B (w.alloc (.cells #[] 59)) (.slice (some ⟨w.heap.size, 0, none⟩) 0 0) [] :=
  ⟨rfl, .inr ⟨w.heap.size, 0, #[], rfl, hB, heap_alloc_new w _, Nat.le_refl _, by decide, rfl, rfl⟩⟩
theorem OwnR.below {B : Nat} {w w' : World} {v : Value} {L : List Fl} (h : OwnR B w v L) (hb : Below w.heap.size w w') : OwnR B w' v L := own_below h hb
theorem OwnR.fv {B : Nat} {w : World} {p : Option Addr} {n cap : Nat} {L : List Fl} (h : OwnR B w (.slice p n cap) L) : FV w p L := by
  intro hl
  obtain ⟨g, cap', hv, hb, hg, hc, _⟩ := own_view h hl
  injection hv with hv1 hv2 hv3
  refine ⟨g, 0, hv1, hg, fun i f hf => ?_⟩
  obtain ⟨h1, h2⟩ := flc_at L i f hf
  rw [Nat.zero_add]
  exact ⟨hc _ _ h1, hc _ _ h2⟩

/-- 'out = append(out, f)'. -/
theorem appR {ops : Array Oper} {rest : List Oper} {o : Oper} {a : Act} {Q : Exit → Act → World → Prop} (wr : World) (hgd : o.guard = none) (s x : Operand)
    (ho : o.op = .call { callee := .builtin .append, args := #[s, x], argTypes := #[28, 28] })
    (B : Nat) (v : Value) (L : List Fl) (n0 v0 : ByteArray) (hs : a.eval s = v) (hx : a.eval x = .slice (some ⟨wr.heap.size, 0, none⟩) 1 1)
    (hown : OwnR B wr v L) (hl : L.length ≤ 1000000) (hB : B ≤ wr.heap.size)
    (h : ∀ v' w', OwnR B w' v' (L ++ [(n0, v0)]) → Below B wr w' → Only (fun k => v.ownBlock = some k) wr w' → wpList Try.prog ops Q rest (a.put o.dst v') w') : wpList Try.prog ops Q (o :: rest) a (wr.alloc (.cells #[.string n0, .string v0] 59)) := by
  obtain ⟨i, hi, hz, hsz, hy⟩ := info_parts Try.infoR
  refine wpList_append_new wr hgd s x 28 ho B 59 i _ 2 32 Try.underlying28 hi hz hsz hy rfl (by decide) v L.length (flc L) hown [.string n0, .string v0] _ rfl rfl ?_ hl (by decide) hB hs hx ?_
  · intro u hu
    simp at hu
    rcases hu with rfl | rfl <;> rfl
  · intro v' w' h1 h2 _
    refine h v' w' ?_ (h2.below hB (fun k hk => (World.ownsRow.lt hown k hk).1)) h2
    unfold OwnR
    rw [List.length_append, List.length_singleton, flc_append]
    exact h1

theorem take_fl (L : List Fl) (j : Nat) (f : Fl) (h : L[j]? = some f) : L.take (j + 1) = L.take j ++ [f] := by
  rw [List.take_add_one, h, Option.toList_some]

set_option maxRecDepth 100000 in
set_option maxHeartbeats 4000000 in
theorem own_any (L : List Fl) (p : Option Addr) (cap : Nat) (w : World) (hL : FV w p L) (hlen : L.length ≤ 10000) :
    Calls Try.prog 15 #[.slice p L.length cap] w fun e w' => ∃ v, e = .returned v ∧ OwnR w.heap.size w' v L ∧ Below w.heap.size w w' := by
  obtain ⟨N, hN⟩ : ∃ N, L.length = N := ⟨_, rfl⟩
  rw [hN] at hlen ⊢
  have HN := Lib.hid hN
  have HL := Lib.hid hL
  have HO := Lib.hid (OwnR.empty w.heap.size w (Nat.le_refl _))
  have HB : Hid (Below w.heap.size w (w.alloc (.cells #[] 59))) := Lib.hid ((Below.refl _ _).alloc (Nat.le_refl _) _)
  clear hN hL
  go_enter Try.func15, Try.ntmps15
  go_wp2_with fail
  go_loopw [3, 4, 8] (fun ov _ i wr => ∃ j : Nat, j ≤ N ∧ i = .int .i64 j ∧ OwnR w.heap.size wr ov (L.take j) ∧ Below w.heap.size w wr) (fun _ _ i _ => N - (intOf i).toNat)
  case atStart => exact ⟨0, by omega, rfl, HO.out, HB.out⟩
  case round =>
    obtain ⟨j, hj, rfl, hO, hbw⟩ := hrel
    have HOJ := Lib.hid hO
    have HBW := Lib.hid hbw
    have hsz := hbw.size
    by_cases hlt : j < N
    · have hjl : j < L.length := by rw [HN.out]; exact hlt
      obtain ⟨q, hq⟩ : ∃ q, L[j]? = some q := ⟨_, List.getElem?_eq_getElem hjl⟩
      obtain ⟨g, o, rfl, hg, hc⟩ := (HL.out.below hbw) (by omega)
      obtain ⟨k1, k2⟩ := hc j q hq
      have HTK := Lib.hid (take_fl L j q hq)
      obtain ⟨n0, v0⟩ := q
      simp only at k1 k2
      have hjt : (L.take j).length ≤ 1000000 := by rw [List.length_take]; omega
      clear hc hq hjl hbw hO
      go_wp2_with (at_builtin; refine appR wr rfl (.tmp 11) (.tmp 16) rfl w.heap.size u3 (L.take j) n0 v0 rfl (by simp [Act.eval]) HOJ.out hjt hsz ?_)
      intro v4 w4 ho4 hb4 _
      have B4 := Lib.hid (HBW.out.trans hb4)
      have O4 := Lib.hid ho4
      clear ho4 hb4
      go_wp2_with fail
      go_roundw
      case rel => exact ⟨j + 1, by omega, by go_num, by rw [HTK.out]; exact O4.out, B4.out⟩
      case measure => simp [intOf]; omega
    · have hjN : j = N := by omega
      subst hjN
      have HE : Hid (L.take j = L) := Lib.hid (by rw [← HN.out, List.take_length])
      clear hbw hO
      go_wp2_with fail
      go_ret
      exact ⟨_, rfl, by rw [← HE.out]; exact HOJ.out, HBW.out⟩

def sameF (A B : List Fl) : Bool := decide (A = B)

theorem fl_ne {a b : Fl} (h : a ≠ b) : (a.1.toList == b.1.toList && a.2.toList == b.2.toList) = false := by
  cases hh : (a.1.toList == b.1.toList && a.2.toList == b.2.toList)
  · rfl
  · rw [Bool.and_eq_true] at hh
    exact absurd (Prod.ext (ba_eq hh.1).symm (ba_eq hh.2).symm) h

set_option maxRecDepth 100000 in
set_option maxHeartbeats 4000000 in
theorem RSame_any (A C : List Fl) (p q : Option Addr) (ca cb : Nat) (w : World) (hA : FV w p A) (hC : FV w q C) (hla : A.length ≤ 10000) (hlc : C.length ≤ 10000) :
    Calls Try.prog 14 #[.slice p A.length ca, .slice q C.length cb] w fun e w' => e = .returned (.bool (sameF A C)) ∧ Below w.heap.size w w' := by
  obtain ⟨N, hN⟩ : ∃ N, A.length = N := ⟨_, rfl⟩
  obtain ⟨M, hM⟩ : ∃ N, C.length = N := ⟨_, rfl⟩
  by_cases hNM : N = M
  case neg =>
    have e1 : sameF A C = false := decide_eq_false (fun e => hNM (by rw [← hN, ← hM, e]))
    rw [e1, hN, hM]
    have hne : ((N : Int) == (M : Int)) = false := by rw [beq_eq_false_iff_ne]; omega
    have hne2 : (N == M) = false := by rw [beq_eq_false_iff_ne]; omega
    have hne3 : ((N : Int) != (M : Int)) = true := by rw [bne_iff_ne]; omega
    clear e1 hN hM hA hC hla hlc
    go_enter Try.func14, Try.ntmps14
    go_wp2_with fail
    go_ret
    exact ⟨rfl, Below.refl _ _⟩
  case pos =>
    subst hNM
    obtain ⟨res, hres⟩ : ∃ r, sameF A C = r := ⟨_, rfl⟩
    rw [hres, hN, hM]
    have HR := Lib.hid hres
    have HA := Lib.hid hA
    have HC := Lib.hid hC
    have HN := Lib.hid hN
    have HM := Lib.hid hM
    rw [hN] at hla
    clear hres hA hC hN hM hlc
    go_enter Try.func14, Try.ntmps14
    go_wp2_with fail
    go_loopw [4, 5] (fun _ i wr => ∃ j : Nat, j ≤ N ∧ i = .int .i64 j ∧ (∀ k, k < j → A[k]? = C[k]?) ∧ Below w.heap.size w wr) (fun _ i _ => N - (intOf i).toNat)
    case atStart => exact ⟨0, by omega, rfl, fun k hk => by omega, Below.refl _ _⟩
    case round =>
      obtain ⟨j, hj, rfl, hsm, hbw⟩ := hrel
      have HSM := Lib.hid hsm
      have HBW := Lib.hid hbw
      clear hsm
      by_cases hlt : j < N
      · have hja : j < A.length := by rw [HN.out]; exact hlt
        have hjc : j < C.length := by rw [HM.out]; exact hlt
        obtain ⟨fa, hfa⟩ : ∃ q, A[j]? = some q := ⟨_, List.getElem?_eq_getElem hja⟩
        obtain ⟨fc, hfc⟩ : ∃ q, C[j]? = some q := ⟨_, List.getElem?_eq_getElem hjc⟩
        obtain ⟨ga, oa, rfl, hga, hka⟩ := (HA.out.below hbw) (by omega)
        obtain ⟨gc, oc, rfl, hgc, hkc⟩ := (HC.out.below hbw) (by omega)
        obtain ⟨a1, a2⟩ := hka j fa hfa
        obtain ⟨c1, c2⟩ := hkc j fc hfc
        by_cases hfe : fa = fc
        · subst hfe
          have HE : Hid (∀ k, k < j + 1 → A[k]? = C[k]?) := Lib.hid (fun k hk => by
            rcases Nat.lt_succ_iff_lt_or_eq.1 hk with h | h
            · exact HSM.out k h
            · rw [h, hfa, hfc])
          obtain ⟨n0, v0⟩ := fa
          simp only at a1 a2 c1 c2
          clear hka hkc hfa hfc hja hjc hbw
          go_wp2_with fail
          go_quiet (fail)
          go_wp2_with fail
          go_roundw
          case rel => exact ⟨j + 1, by omega, by go_num, HE.out, below_drewN HBW.out _⟩
          case measure => simp [intOf]; omega
        · have hb := fl_ne hfe
          have hr : res = false := by
            rw [← HR.out]
            refine decide_eq_false (fun e => hfe ?_)
            rw [e, hfc] at hfa
            exact (Option.some.inj hfa).symm
          obtain ⟨n0, v0⟩ := fa
          obtain ⟨n1, v1⟩ := fc
          simp only at a1 a2 c1 c2 hb
          have HRF := Lib.hid hr
          obtain ⟨b1, hb1⟩ : ∃ b, (n0.toList == n1.toList) = b := ⟨_, rfl⟩
          obtain ⟨b2, hb2⟩ : ∃ b, (v0.toList == v1.toList) = b := ⟨_, rfl⟩
          rw [hb1, hb2] at hb
          clear hka hkc hfa hfc hja hjc hfe hr hbw
          cases b1 <;> cases b2
          case true.true => cases hb
          all_goals
            clear hb
            go_wp2_with fail
            go_quiet (fail)
            go_wp2_with fail
            go_ret
            rw [HRF.out]
            exact ⟨rfl, below_drewN HBW.out _⟩
      · have hjN : j = N := by omega
        subst hjN
        have hr : res = true := by
          rw [← HR.out]
          refine decide_eq_true (List.ext_getElem? (fun k => ?_))
          by_cases hk : k < j
          · exact HSM.out k hk
          · rw [List.getElem?_eq_none (by rw [HN.out]; omega), List.getElem?_eq_none (by rw [HM.out]; omega)]
        have HRF := Lib.hid hr
        clear hr hbw
        go_wp2_with fail
        go_ret
        rw [HRF.out]
        exact ⟨rfl, HBW.out⟩

/-- Texts in a slice. -/
def strsB (L : List ByteArray) : List Value := L.map .string
theorem strsB_at (L : List ByteArray) (j : Nat) (s : ByteArray) (h : L[j]? = some s) : (strsB L)[j]? = some (.string s) := by
  unfold strsB
  rw [List.getElem?_map, h]
  rfl

def nN : List ByteArray := fixedL.map (·.1)
def nV : List ByteArray := fixedL.map (·.2)

theorem fixed_at (j : Nat) (hj : j < 12) : ∃ f, fixedL[j]? = some f ∧ nN[j]? = some f.1 ∧ nV[j]? = some f.2 := by
  have hl : j < fixedL.length := hj
  refine ⟨fixedL[j], List.getElem?_eq_getElem hl, ?_, ?_⟩
  · unfold nN; rw [List.getElem?_map, List.getElem?_eq_getElem hl]; rfl
  · unfold nV; rw [List.getElem?_map, List.getElem?_eq_getElem hl]; rfl

set_option maxRecDepth 100000 in
set_option maxHeartbeats 4000000 in
theorem RFixed_any (w : World) : Calls Try.prog 17 #[] w fun e w' => ∃ v, e = .returned v ∧ OwnR w.heap.size w' v fixedL ∧ Below w.heap.size w w' := by
  have hN : blk (w.alloc (.cells (strsB nN).toArray 9)) w.heap.size 9 (strsB nN) := blk.new w _ _
  have hV : blk ((w.alloc (.cells (strsB nN).toArray 9)).alloc (.cells (strsB nV).toArray 9)) (w.alloc (.cells (strsB nN).toArray 9)).heap.size 9 (strsB nV) := blk.new _ _ _
  rw [show (w.alloc (.cells (strsB nN).toArray 9)).heap.size = w.heap.size + 1 by simp] at hV
  have hb2 : Below w.heap.size w ((w.alloc (.cells (strsB nN).toArray 9)).alloc (.cells (strsB nV).toArray 9)) := ((Below.refl _ _).alloc (Nat.le_refl _) _).alloc (by simp) _
  have hO := OwnR.empty w.heap.size _ hb2.size
  rw [show ((w.alloc (.cells (strsB nN).toArray 9)).alloc (.cells (strsB nV).toArray 9)).heap.size = w.heap.size + 1 + 1 by simp] at hO
  have HS : Hid (_ ∧ _ ∧ _ ∧ _) := Lib.hid ⟨hO, (hN.alloc (.cells (strsB nV).toArray 9)).alloc (.cells #[] 59), hV.alloc (.cells #[] 59), hb2.alloc hb2.size (.cells #[] 59)⟩
  clear hN hV hb2 hO
  go_enter Try.func17, Try.ntmps17
  go_wp2_with fail
  go_loopw [3, 4] (fun ov i wr => ∃ j : Nat, j ≤ 12 ∧ i = .int .i64 j ∧ OwnR w.heap.size wr ov (fixedL.take j) ∧ blk wr w.heap.size 9 (strsB nN) ∧ blk wr (w.heap.size + 1) 9 (strsB nV) ∧ Below w.heap.size w wr) (fun _ i _ => 12 - (intOf i).toNat)
  case atStart => exact ⟨0, by omega, rfl, HS.out.1, HS.out.2.1, HS.out.2.2.1, HS.out.2.2.2⟩
  case round =>
    obtain ⟨j, hj, rfl, hO, hN, hV, hbw⟩ := hrel
    have hsz := hbw.size
    by_cases hlt : j < 12
    · obtain ⟨f, e1, e2, e3⟩ := fixed_at j hlt
      have HTK := Lib.hid (take_fl fixedL j f e1)
      obtain ⟨n0, v0⟩ := f
      simp only at e2 e3
      have k1 := hN.cell (strsB_at _ _ _ e2)
      have k2 := hV.cell (strsB_at _ _ _ e3)
      obtain ⟨p, cap, rfl, _⟩ := own_shape hO
      have hjl : (fixedL.take j).length = j := by rw [List.length_take]; show min j 12 = j; omega
      rw [hjl] at hO
      obtain ⟨i0, hi0, hz0, hz1, hz2⟩ := info_parts Try.infoR
      have hO2 : wr.drew.ownsRow w.heap.size 59 2 (.slice p j cap) j (flc (fixedL.take j)) := by
        have := own_below hO ((Below.refl _ _).drew)
        rw [hjl] at this
        exact this
      have hne1 := own_ne hO hN (by decide)
      have hne2 := own_ne hO hV (by decide)
      have HO := Lib.hid hO2
      have HNV := Lib.hid (And.intro hN (And.intro hV hbw))
      have HNE := Lib.hid (And.intro hne1 (And.intro hne2 (fun k hk => (World.ownsRow.lt hO2 k hk).1)))
      have HJL := Lib.hid hjl
      have hj1 : j ≤ 1000000 := by omega
      have hszd : w.heap.size ≤ wr.drew.heap.size := hsz
      rw [hjl]
      clear e1 e2 e3 hO hO2 hN hV hbw hne1 hne2 hjl HS
      go_wp2_with fail
      go_region_law ((refine step_append_new wr.drew _ rfl (.tmp 14) (.tmp 24) 28 rfl w.heap.size 59 i0 _ 2 32 Try.underlying28 hi0 hz0 hz1 hz2 rfl (by decide) (.slice p j cap) j (flc (fixedL.take j)) HO.out [.string n0, .string v0] _ rfl rfl (by intro u hu; simp at hu; rcases hu with rfl | rfl <;> rfl) hj1 (by decide) hszd rfl (by simp [Act.eval]) (by simp [Act.eval]) ?_); (intro v4 w4 ho4 hon4 hat4; have Hon4 := Lib.hid hon4; have Ho4 := Lib.hid ho4; clear hon4 ho4 hat4))
      all_goals go_wp2_with fail
      all_goals
        go_roundw
        case rel =>
          have hx : Only (fun k => (Value.slice p j cap).ownBlock = some k) wr w4 := ((Only.refl _ wr).drew).trans Hon4.out
          refine ⟨j + 1, by omega, by go_num, ?_, blk.only HNV.out.1 hx HNE.out.1, blk.only HNV.out.2.1 hx HNE.out.2.1, HNV.out.2.2.trans (hx.below hsz HNE.out.2.2)⟩
          rw [HTK.out]
          unfold OwnR
          rw [List.length_append, List.length_singleton, HJL.out, flc_append]
          exact Ho4.out
        case measure => simp [intOf]; omega
    · have hj12 : j = 12 := by omega
      subst hj12
      have HE : Hid (OwnR w.heap.size wr u3 fixedL ∧ Below w.heap.size w wr) := Lib.hid ⟨hO, hbw⟩
      clear hO hN hV hbw hj hlt
      go_wp2_with fail
      go_ret
      exact ⟨_, rfl, HE.out.1, HE.out.2⟩

end Go.Proofs.Ytkggjcfiomddeaa
