/- Texts put together by wip/tools/merge.py: En Ep. -/
import Derived.Test.YtgnoiheekgmleaaUa
import Derived.Deep.DeepCutAuto
import Derived.SizedLaws

/- web: the law's large. -/
namespace Go.Proofs.Ytgnoiheekgmleaa
open Go.ChangeShapes Go.WideShapes Go.RowKit
set_option linter.unusedVariables false
set_option linter.unusedSimpArgs false

/-- A message that isn't large. -/
def SmallM (L : List Fl) (body : ByteArray) : Prop := L.length ≤ 110 ∧ body.size + flSum L ≤ 3000
/-- No text is longer than the form's reach. -/
def Reach (L : List Fl) : Prop := ∀ f ∈ L, f.1.size ≤ 140737488351232 ∧ f.2.size ≤ 140737488351232
theorem flSum_le2 : ∀ (L : List Fl), Reach L → flSum L ≤ 281474976702464 * L.length
  | [], _ => Nat.zero_le _
  | f :: L, h => by
    have h1 := h f (List.mem_cons_self ..)
    have h2 := flSum_le2 L (fun g hg => h g (List.mem_cons_of_mem _ hg))
    have e : flSum (f :: L) = (f.1.size + f.2.size) + flSum L := by unfold flSum; simp
    rw [e, List.length_cons]
    omega
/-- large's answer. -/
def WLEnd (L : List Fl) (body : ByteArray) (w : World) (e : Ending) (w' : World) : Prop := ∃ b, e = .returned (.bool b) ∧ (b = false → SmallM L body) ∧ Below w.heap.size w w'
theorem msg_keep {w x y : World} {g : Nat} {L : List Value} (h : blk x g 31 L ∧ Below w.heap.size w x) (hb : Below x.heap.size x y) : blk y g 31 L ∧ Below w.heap.size w y :=
  ⟨h.1.below hb h.1.lt, h.2.trans (hb.mono h.2.size)⟩

set_option maxRecDepth 100000 in
set_option maxHeartbeats 4000000 in
theorem wlarge_any (L : List Fl) (p : Option Addr) (cap : Nat) (body : ByteArray) (w : World) (hL : InFl w p L) (hr : Reach L) (hbz : body.size ≤ 140737488351232) :
    Calls Try.prog 10 #[.agg #[.slice p L.length cap, .string body]] w (WLEnd L body w) := by
  obtain ⟨N, hN⟩ : ∃ N, L.length = N := ⟨_, rfl⟩
  have hlen := hL.2.2.1
  unfold maxLen at hlen
  rw [hN] at hlen ⊢
  have hg : Below w.heap.size w (w.alloc (.cells #[.slice p N cap, .string body] 31)) := (Below.refl _ _).alloc (Nat.le_refl _) _
  have hm : blk (w.alloc (.cells #[.slice p N cap, .string body] 31)) w.heap.size 31 [.slice p N cap, .string body] := blk.new w _ _
  have c0 := hm.cell (k := 0) rfl
  have c1 := hm.cell (k := 1) rfl
  have HM := Lib.hid (And.intro hm hg)
  have HN := Lib.hid hN
  have HL := Lib.hid hL
  have HRe := Lib.hid hr
  clear hL hN hm hg hr
  go_enter Try.func10, Try.ntmps10
  go_wp2_with fail
  by_cases h110 : N ≤ 110
  case neg =>
    have hd : (110 : Int) < (N : Int) := by omega
    go_loopg [3, 4, 11] N (fun gk nv _ i wr => ∃ (j : Nat) (x : Int), j + gk = N ∧ i = .int .i64 j ∧ nv = .int .i64 x ∧ blk wr w.heap.size 31 [.slice p N cap, .string body] ∧ Below w.heap.size w wr)
    case atStart => exact ⟨0, _, by omega, rfl, rfl, HM.out.1, HM.out.2⟩
    case round =>
      obtain ⟨j, x, hj, rfl, rfl, hmr, hbw⟩ := hrel
      have HMr := Lib.hid (And.intro hmr hbw)
      have c0 := hmr.cell (k := 0) rfl
      by_cases hlt : j < N
      · have hjl : j < L.length := by rw [HN.out]; exact hlt
        obtain ⟨q, hq⟩ : ∃ q, L[j]? = some q := ⟨_, List.getElem?_eq_getElem hjl⟩
        obtain ⟨g, o, rfl, hgg, hc⟩ := (HL.out.1.below hbw) (by omega)
        obtain ⟨k1, k2⟩ := hc j q hq
        obtain ⟨n0, v0⟩ := q
        simp only at k1 k2
        clear hc hq hjl hbw hmr
        go_wp2_with fail
        go_quiet (fail)
        go_wp2_with fail
        go_roundg (gk - 1)
        case measure => omega
        case rel => exact ⟨j + 1, _, by omega, by go_num, rfl, (msg_keep HMr.out (below_drewN (Below.refl _ _) _)).1, below_drewN HMr.out.2 _⟩
      · have hjN : j = N := by omega
        subst hjN
        clear hbw hmr
        by_cases c3 : 3000 < x
        · go_wp2_with fail
          go_ret
          exact ⟨true, rfl, (fun h => by cases h), HMr.out.2⟩
        · go_wp2_with fail
          go_ret
          exact ⟨true, rfl, (fun h => by cases h), HMr.out.2⟩
  case pos =>
    have hd : ¬ (110 : Int) < (N : Int) := by omega
    go_loopg [3, 4, 11] N (fun gk nv _ i wr => ∃ (j : Nat), j + gk = N ∧ i = .int .i64 j ∧ nv = .int .i64 ((body.size + flSum (L.take j) : Nat) : Int) ∧ blk wr w.heap.size 31 [.slice p N cap, .string body] ∧ Below w.heap.size w wr)
    case atStart => exact ⟨0, by omega, rfl, by simp [flSum], HM.out.1, HM.out.2⟩
    case round =>
      obtain ⟨j, hj, rfl, rfl, hmr, hbw⟩ := hrel
      have HMr := Lib.hid (And.intro hmr hbw)
      have c0 := hmr.cell (k := 0) rfl
      have hsum := flSum_le2 (L.take j) (fun f hf => HRe.out f (List.mem_of_mem_take hf))
      have hlj : (L.take j).length ≤ 110 := by rw [List.length_take]; omega
      have hsum2 : flSum (L.take j) ≤ 100000000000000000 := by omega
      by_cases hlt : j < N
      · have hjl : j < L.length := by rw [HN.out]; exact hlt
        obtain ⟨q, hq⟩ : ∃ q, L[j]? = some q := ⟨_, List.getElem?_eq_getElem hjl⟩
        have hqm := HRe.out q (List.mem_of_getElem? hq)
        have htk := take_fl L j q hq
        have hss := flSum_snoc (L.take j) q
        rw [← htk] at hss
        obtain ⟨g, o, rfl, hgg, hc⟩ := (HL.out.1.below hbw) (by omega)
        obtain ⟨k1, k2⟩ := hc j q hq
        obtain ⟨n0, v0⟩ := q
        simp only at k1 k2 hss hqm
        have HSS := Lib.hid hss
        generalize flSum (L.take j) = sm at *
        obtain ⟨sb, hsb⟩ : ∃ sb, body.size + sm = sb := ⟨_, rfl⟩
        rw [hsb]
        obtain ⟨s2, hs2⟩ : ∃ q, sb + (n0.size + v0.size) = q := ⟨_, rfl⟩
        have hw1 : IntKind.i64.wrap ((n0.size : Int) + (v0.size : Int)) = (n0.size : Int) + (v0.size : Int) := IntWalk.i64_in _ (by omega)
        have hw2 : IntKind.i64.wrap ((sb : Int) + ((n0.size : Int) + (v0.size : Int))) = (s2 : Int) := by rw [IntWalk.i64_in _ (by omega)]; omega
        have HS2 := Lib.hid (show body.size + flSum (L.take (j + 1)) = s2 by have := HSS.out; omega)
        clear hc hq hjl hbw hmr htk hss hsum hsum2 hlj hsb hs2
        go_wp2_with fail
        go_quiet (fail)
        go_wp2_with fail
        go_roundg (gk - 1)
        case measure => omega
        case rel => exact ⟨j + 1, by omega, by go_num, by rw [HS2.out], (msg_keep HMr.out (below_drewN (Below.refl _ _) _)).1, below_drewN HMr.out.2 _⟩
      · have hjN : j = N := by omega
        subst hjN
        have htk : L.take j = L := by rw [← HN.out, List.take_length]
        rw [htk]
        obtain ⟨sb, hsb⟩ : ∃ sb, body.size + flSum L = sb := ⟨_, rfl⟩
        rw [hsb]
        have HSb := Lib.hid (show sb ≤ 3000 → SmallM L body from fun h => ⟨by rw [HN.out]; exact h110, by rw [hsb]; exact h⟩)
        clear hbw hmr htk hsum hsum2 hlj hsb
        by_cases c3 : sb ≤ 3000
        · have d3 : ¬ (3000 : Int) < (sb : Int) := by omega
          go_wp2_with fail
          go_ret
          exact ⟨false, rfl, fun _ => HSb.out c3, HMr.out.2⟩
        · have d3 : (3000 : Int) < (sb : Int) := by omega
          go_wp2_with fail
          go_ret
          exact ⟨true, rfl, (fun h => by cases h), HMr.out.2⟩

end Go.Proofs.Ytgnoiheekgmleaa

/- web: messages, as they come in; what the form's reach says of their texts. -/
namespace Go.Proofs.Ytgnoiheekgmleaa
open Go.ChangeShapes Go.WideShapes Go.RowKit
set_option linter.unusedVariables false

section
variable {H : Type} {enc : TypeId × Value → H} {P : Program} {w : World} {base : Nat} {spare : Nat → Bool} {held : Bool}

/-- All that is read weighs no more than the reach. -/
def Reads (P : Program) (t : TypeId) (d : DataW H) : Prop := ∀ n ∈ d.weights P t, n ≤ reachBytes

theorem weights_mem_all {e : TypeId} : ∀ {ds : List (DataW H)} {i : Nat} {d : DataW H}, ds[i]? = some d → ∀ n ∈ d.weights P e, n ∈ DataW.weightsAll P e ds
  | d0 :: ds, 0, d, hd, n, hn => by
    simp only [List.getElem?_cons_zero, Option.some.injEq] at hd
    subst hd
    simp only [DataW.weightsAll, List.mem_append]
    exact .inl hn
  | d0 :: ds, i + 1, d, hd, n, hn => by
    simp only [List.getElem?_cons_succ] at hd
    simp only [DataW.weightsAll, List.mem_append]
    exact .inr (weights_mem_all hd n hn)
  | [], _, _, hd, _, _ => by simp at hd

theorem rows_view2 {t e : TypeId} {fuel : Nat} {a : Option Addr} {len cap C : Nat} {x : DataW H × List MemPlace} (ht : P.underlying t = some (.slice e)) (hC : P.cellsOf e = C) (hpos : 0 < C)
    (h : DataW.trod enc P w base spare held fuel t [.slice a len cap] = some x) (hx : Reads P t x.1) :
    len ≤ maxLen ∧ (0 < len → ∃ g o n, a = some ⟨g, o, none⟩ ∧ g < w.heap.size ∧ ∀ i, i < len → ∃ cs y, cs.length = C ∧ (∀ k v, cs[k]? = some v → w.cell? ⟨g, o + i * C + k, none⟩ = some v) ∧ DataW.trod enc P w base spare held n e cs = some y ∧ Reads P e y.1) := by
  rcases DataW.trod_slice ht h with ⟨hcs, _⟩ | ⟨A, l, c, elems, rest, n, _, hcs, hxe, hb, hl, hm, hlen, hel, _⟩
  · simp at hcs
    obtain ⟨rfl, rfl, rfl⟩ := hcs
    exact ⟨Nat.zero_le _, fun h => by omega⟩
  · simp at hcs
    obtain ⟨rfl, rfl, rfl⟩ := hcs
    refine ⟨by omega, fun hpos2 => ?_⟩
    have key : ∀ i, i < len → ∃ cs y, cs.length = C ∧ (∀ k, k < C → w.cell? ((A.add (i * C)).add k) = cs[k]?) ∧ DataW.trod enc P w base spare held n e cs = some y ∧ Reads P e y.1 := by
      intro i hi
      have h1 := hel i hi
      rw [List.getElem?_eq_getElem (by omega), hC] at h1
      obtain ⟨cs, h2, h3⟩ := Option.bind_eq_some_iff.1 h1
      obtain ⟨_, h4, h5⟩ := World.cells?_some h2
      refine ⟨cs, _, h4, h5, h3, fun m hm2 => hx m ?_⟩
      rw [hxe]
      unfold DataW.weights
      rw [ht]
      simp only [List.mem_cons, List.mem_append]
      exact .inr (.inl (weights_mem_all (i := i) (by rw [List.getElem?_map, List.getElem?_eq_getElem (by omega)]; rfl) m hm2))
    obtain ⟨cs0, y0, hl0, hc0, _⟩ := key 0 hpos2
    have h00 := hc0 0 hpos
    rw [Go.Deep.add_add, Nat.zero_mul, List.getElem?_eq_getElem (by omega)] at h00
    have e0 : A.add (0 + 0) = A := by simp [Addr.add]
    rw [e0] at h00
    have hs := spot_none h00
    have hg := World.block_lt_of_cell? w A h00
    obtain ⟨g, o, s⟩ := A
    simp only at hs hg
    subst hs
    refine ⟨g, o, n, rfl, hg, fun i hi => ?_⟩
    obtain ⟨cs, y, h1, h2, h3⟩ := key i hi
    refine ⟨cs, y, h1, fun k v hk => ?_, h3⟩
    have hkl : k < C := by rw [← h1]; exact (List.getElem?_eq_some_iff.1 hk).1
    have := h2 k hkl
    rw [Go.Deep.add_add, hk] at this
    have e : (⟨g, o, none⟩ : Addr).add (i * C + k) = ⟨g, o + i * C + k, none⟩ := by
      rw [Addr.add_lit, Nat.add_assoc]
    rw [e] at this
    exact this

theorem field_one2 {e : TypeId} {fs : Array Field} {n : Nat} {cs : List Value} {y : DataW H × List MemPlace} (he : P.underlying e = some (.struct fs)) (h : DataW.trod enc P w base spare held n e cs = some y) (hx : Reads P e y.1) (j : Nat) (f : Field) (v : Value)
    (hf : fs[j]? = some f) (ho : f.offset = j) (hk : P.cellsOf f.type = 1) (hv : cs[j]? = some v) : ∃ n' z, DataW.trod enc P w base spare held n' f.type [v] = some z ∧ Reads P f.type z.1 := by
  obtain ⟨ys, n', _, hye, hlen, hyl, hg⟩ := DataW.trod_struct he h
  have h1 := hg j f hf
  obtain ⟨hj, hvj⟩ := List.getElem?_eq_some_iff.1 hv
  rw [ho, hk] at h1
  have e1 : (cs.drop j).take 1 = [v] := by
    rw [List.drop_eq_getElem_cons hj, hvj]
    rfl
  rw [e1] at h1
  have hjs : j < ys.length := by rw [hyl]; exact (Array.getElem?_eq_some_iff.1 hf).1
  rw [List.getElem?_eq_getElem hjs] at h1
  refine ⟨n', _, h1, fun m hm => hx m ?_⟩
  rw [hye]
  unfold DataW.weights
  rw [he]
  exact DataW.weights_mem_each (j := j) (t := f.type) (by rw [List.getElem?_map, Array.getElem?_toList, hf]; rfl) (by rw [List.getElem?_map, List.getElem?_eq_getElem hjs]; rfl) m hm
theorem string_reads {t : TypeId} {fuel : Nat} {cs : List Value} {x : DataW H × List MemPlace} (ht : P.underlying t = some .string) (h : DataW.trod enc P w base spare held fuel t cs = some x) (hx : Reads P t x.1) : ∃ s : ByteArray, cs = [.string s] ∧ s.size ≤ maxLen ∧ s.size ≤ 140737488351232 := by
  obtain ⟨s, h1, h2, h3⟩ := DataW.trod_string ht h
  refine ⟨s, h1, h3, ?_⟩
  have := hx s.size (by rw [h2]; simp [DataW.weights])
  exact this
end

section
variable {H : Type} {enc : TypeId × Value → H} {w : World} {base : Nat} {spare : Nat → Bool} {held : Bool}

theorem fields_view2 {a : Option Addr} {len cap : Nat} {fuel : Nat} {x : DataW H × List MemPlace} (h : DataW.trod enc Try.prog w base spare held fuel 29 [.slice a len cap] = some x) (hx : Reads Try.prog 29 x.1) :
    ∃ L : List Fl, L.length = len ∧ InFl w a L ∧ Reach L := by
  obtain ⟨hm, hv⟩ := rows_view2 (C := 2) Try.underlying29 (by kernel_rfl) (by omega) h hx
  rcases Nat.eq_zero_or_pos len with h0 | h0
  · subst h0
    exact ⟨[], rfl, ⟨fun h => by simp at h, fun f hf => (by cases hf), Nat.zero_le _, fun g o h => by simp at h⟩, fun f hf => (by cases hf)⟩
  · obtain ⟨g, o, n, rfl, hg, hi⟩ := hv h0
    obtain ⟨L, hl, hp⟩ := list_of (α := Fl) (p := fun i f => (w.cell? ⟨g, o + i * 2, none⟩ = some (.string f.1) ∧ w.cell? ⟨g, o + i * 2 + 1, none⟩ = some (.string f.2)) ∧ (f.1.size ≤ maxLen ∧ f.2.size ≤ maxLen) ∧ f.1.size ≤ 140737488351232 ∧ f.2.size ≤ 140737488351232) (n := len) (by
      intro i hil
      obtain ⟨cs, y, h1, h2, h3, h4⟩ := hi i hil
      match cs, h1 with
      | [c0, c1], _ =>
        obtain ⟨_, _, z0, q0⟩ := field_one2 Try.underlying66 h3 h4 0 _ c0 rfl rfl (by kernel_rfl) rfl
        obtain ⟨_, _, z1, q1⟩ := field_one2 Try.underlying66 h3 h4 1 _ c1 rfl rfl (by kernel_rfl) rfl
        obtain ⟨s0, e0, f0, g0⟩ := string_reads Try.underlying9 z0 q0
        obtain ⟨s1, e1, f1, g1⟩ := string_reads Try.underlying9 z1 q1
        simp at e0 e1
        subst e0
        subst e1
        exact ⟨(s0, s1), ⟨h2 0 _ rfl, h2 1 _ rfl⟩, ⟨f0, f1⟩, g0, g1⟩)
    have hall : ∀ f ∈ L, (f.1.size ≤ maxLen ∧ f.2.size ≤ maxLen) ∧ f.1.size ≤ 140737488351232 ∧ f.2.size ≤ 140737488351232 := fun f hf => by
      obtain ⟨i, hi', rfl⟩ := List.getElem_of_mem hf
      exact (hp i _ (List.getElem?_eq_getElem hi')).2
    refine ⟨L, hl, ⟨fun _ => ⟨g, o, rfl, hg, fun i f hf => (hp i f hf).1⟩, fun f hf => (hall f hf).1, by rw [hl]; exact hm, fun g' o' _ e => ?_⟩, fun f hf => (hall f hf).2⟩
    injection e with e
    injection e with e1 e2
    subst e1
    exact hg

/-- A message that came in. -/
structure MIn where
  p : Option Addr
  cap : Nat
  L : List Fl
  body : ByteArray
def MIn.v (m : MIn) : Value := .agg #[.slice m.p m.L.length m.cap, .string m.body]
def MsgIn (w : World) (m : MIn) : Prop := InFl w m.p m.L ∧ Reach m.L ∧ m.body.size ≤ 140737488351232
theorem MsgIn.below {w w' : World} {m : MIn} (h : MsgIn w m) (hb : Below w.heap.size w w') : MsgIn w' m := ⟨h.1.below hb, h.2⟩

set_option maxRecDepth 100000 in
theorem msg_cells {cs : List Value} {fuel : Nat} {x : DataW H × List MemPlace} (hn : cs.length = 2) (h : DataW.trod enc Try.prog w base spare held fuel 31 cs = some x) (hx : Reads Try.prog 31 x.1) :
    ∃ m : MIn, cs = [.slice m.p m.L.length m.cap, .string m.body] ∧ MsgIn w m := by
  match cs, hn with
  | [c0, c1], _ =>
    obtain ⟨n0, y0, z0, q0⟩ := field_one2 Try.underlying31 h hx 0 _ c0 rfl rfl (by kernel_rfl) rfl
    obtain ⟨n1, y1, z1, q1⟩ := field_one2 Try.underlying31 h hx 1 _ c1 rfl rfl (by kernel_rfl) rfl
    obtain ⟨s1, e1, _, g1⟩ := string_reads Try.underlying9 z1 q1
    simp at e1
    subst e1
    have hs : ∃ a len cap, c0 = .slice a len cap := by
      rcases DataW.trod_slice Try.underlying29 z0 with ⟨e, _⟩ | ⟨A, l, c, _, _, _, _, e, _⟩
      · simp at e; exact ⟨_, _, _, e⟩
      · simp at e; exact ⟨_, _, _, e⟩
    obtain ⟨a, len, cap, rfl⟩ := hs
    obtain ⟨L, hl, hi, hr⟩ := fields_view2 z0 q0
    subst hl
    exact ⟨⟨a, cap, L, s1⟩, rfl, hi, hr, g1⟩
end

end Go.Proofs.Ytgnoiheekgmleaa
