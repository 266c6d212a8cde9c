/- space: a space in memory; its methods that only tell. -/
import Derived.Test.YtmnmpmiocgfalaaSh
namespace Go.Proofs.Ytmnmpmiocgfalaa
open Go.ChangeShapes Go.WideShapes Go.RowKit
set_option linter.unusedVariables false
set_option linter.unusedSimpArgs false

/-- A space, in plain words. -/
structure Sp where
  L : Lg
  next : Nat
  R : List Rg
  when : Nat
  must : Bool
def Sp.rest (s : Sp) (u : Value) : List Value := [.int .u64 (s.next : Int), u, .int .u64 (s.when : Int), .bool s.must]
def Sp.crs (s : Sp) (v : Value) : Crs := ⟨v, .int .u64 (s.L.ln : Int), .bool s.L.li, .int .u64 (s.L.bn : Int), .bool s.L.bi, .int .u64 (s.next : Int), .int .u64 (s.when : Int), .bool s.must⟩
def Sp0 : Sp := ⟨S0, 0, [], 0, false⟩

/-- A space that lies in block b: v is its packets' slice, u its ranges'. -/
structure SpIs (B b : Nat) (v u : Value) (s : Sp) (w : World) : Prop where
  led : Owns B b 34 (s.rest u) v s.L w
  set : w.ownsRow B 47 2 u s.R.length (rgs s.R)
  inv : Inv s.L
  ok : OkR s.R
  len : s.R.length ≤ 200
  wh : s.when < 2 ^ 64

theorem SpIs.setIs {B b : Nat} {v u : Value} {s : Sp} {w : World} (h : SpIs B b v u s w) : SetIs (s.crs v) w b B u s.R := ⟨h.led.led, h.set, h.led.bw, h.led.bb⟩
theorem SpIs.lt {B b : Nat} {v u : Value} {s : Sp} {w : World} (h : SpIs B b v u s w) : b < w.heap.size := h.led.led.lt
theorem SpIs.next {B b : Nat} {v u : Value} {s : Sp} {w w' : World} (h : SpIs B b v u s w) (hb : Below w.heap.size w w') : SpIs B b v u s w' :=
  ⟨h.led.next hb, own_below h.set hb, h.inv, h.ok, h.len, h.wh⟩
theorem SpIs.only {P : Nat → Prop} {B b : Nat} {v u : Value} {s : Sp} {w w' : World} (h : SpIs B b v u s w) (ho : Only P w w') (h0 : ¬ P b) (hv : ∀ k, v.ownBlock = some k → ¬ P k) (hu : ∀ k, u.ownBlock = some k → ¬ P k) : SpIs B b v u s w' :=
  ⟨⟨h.led.led.only ho h0, own_only h.led.own ho hv, Nat.le_trans h.led.bw ho.size, h.led.bb, h.led.ty⟩, own_only h.set ho hu, h.inv, h.ok, h.len, h.wh⟩
/-- The next number is one more than the last. -/
def Sp.fine (s : Sp) : Prop := s.next = if s.L.li = true then s.L.ln + 1 else 0
theorem Sp.fine.le {s : Sp} (h : s.fine) (hi : Inv s.L) : s.next ≤ 4611686018427387904 := by
  have hn : s.next = if s.L.li = true then s.L.ln + 1 else 0 := h
  have := hi.ln
  split at hn <;> omega
theorem SpIs.start (w : World) : SpIs w.heap.size w.heap.size (.slice none 0 0) (.slice none 0 0) Sp0 (w.alloc (.cells #[.slice none 0 0, .int .u64 0, .bool false, .int .u64 0, .bool false, .int .u64 0, .slice none 0 0, .int .u64 0, .bool false] 34)) :=
  ⟨⟨blk.new w _ _, World.ownsRow_nil _ _ _ _, by simp, Nat.le_refl _, by decide⟩, World.ownsRow_nil _ _ _ _, Inv.start, trivial, by decide, by decide⟩

/-- What a space has come to. -/
structure SpTo (B b : Nat) (v u : Value) (w : World) (s' : Sp) (v' u' : Value) (w' : World) : Prop where
  is : SpIs B b v' u' s' w'
  on : Only (fun k => k = b ∨ v.ownBlock = some k ∨ u.ownBlock = some k) w w'
  fv : v'.ownBlock = v.ownBlock ∨ ∀ k, v'.ownBlock = some k → w.heap.size ≤ k
  fu : u'.ownBlock = u.ownBlock ∨ ∀ k, u'.ownBlock = some k → w.heap.size ≤ k
theorem SpTo.same {B b : Nat} {v u : Value} {s : Sp} {w w' : World} (h : SpIs B b v u s w) (hb : Below w.heap.size w w') : SpTo B b v u w s v u w' := ⟨h.next hb, Only.ofBelow hb, .inl rfl, .inl rfl⟩
theorem SpTo.below {B b : Nat} {v u v' u' : Value} {s s' : Sp} {w w' : World} (ht : SpTo B b v u w s' v' u' w') (h : SpIs B b v u s w) : Below B w w' := by
  refine ht.on.below h.led.bw ?_
  rintro k (rfl | hk | hk)
  · exact h.led.bb
  · exact (h.led.own.lt k hk).1
  · exact (h.set.lt k hk).1
/-- The ledger's turn. -/
theorem SpIs.came {B b : Nat} {v v' u : Value} {s : Sp} {w w' : World} {S' : Lg} (h : SpIs B b v u s w) (hc : CameV B b 34 (s.rest u) v w S' v' w') (hi : Inv S') : SpTo B b v u w { s with L := S' } v' u w' :=
  ⟨⟨hc.owns h.led, own_only h.set hc.2.2.1 (by
      rintro k hk (rfl | e)
      · exact own_ne h.set h.led.led (by decide) hk
      · exact own_ne2 h.set h.led.own (by decide) k hk e), hi, h.ok, h.len, h.wh⟩, hc.2.2.1.mono (fun k hk => by rcases hk with hk | hk; exact .inl hk; exact .inr (.inl hk)), hc.2.2.2, .inl rfl⟩
/-- The set's turn. -/
theorem SpIs.setTo {B b : Nat} {v u u' : Value} {s : Sp} {w w' : World} {R' : List Rg} (h : SpIs B b v u s w) (hc : SetTo (s.crs v) b B u w u' R' w') (hok : OkR R') (hlen : R'.length ≤ 200) : SpTo B b v u w { s with R := R' } v u' w' :=
  ⟨⟨⟨hc.1.at_, own_only h.led.own hc.2.1 (by
      rintro k hk (rfl | e)
      · exact own_ne h.led.own h.led.led (by decide) hk
      · exact own_ne2 h.led.own h.set (by decide) k hk e), Nat.le_trans h.led.bw hc.2.1.size, h.led.bb, h.led.ty⟩, hc.1.own, h.inv, hok, hlen, h.wh⟩, hc.2.1.mono (fun k hk => by rcases hk with hk | hk; exact .inl hk; exact .inr (.inr hk)), .inl rfl, hc.2.2⟩
/-- One of the space's own cells is written. -/
theorem SpIs.cell {B b : Nat} {v u : Value} {s s' : Sp} {w : World} (h : SpIs B b v u s w) (i : Nat) (x : Value) (hL : s'.L = s.L) (hR : s'.R = s.R) (hc : (s.L.cells v (s.rest u)).set i x = s'.L.cells v (s'.rest u)) (hw : s'.when < 2 ^ 64) : SpTo B b v u w s' v u (w.setCell ⟨b, i, none⟩ x) := by
  have hv := own_ne h.led.own h.led.led (by decide)
  have hu := own_ne h.set h.led.led (by decide)
  refine ⟨⟨⟨?_, ?_, ?_, h.led.bb, h.led.ty⟩, ?_, by rw [hL]; exact h.inv, by rw [hR]; exact h.ok, by rw [hR]; exact h.len, hw⟩, Only.setCell (p := ⟨b, i, none⟩) (Only.refl _ _) (.inl (.inl rfl)) _, .inl rfl, .inl rfl⟩
  · have := blk.set h.led.led i x
    rw [hc] at this
    exact this
  · rw [hL]
    exact ownsRow_setCell_other (a := ⟨b, i, none⟩) h.led.own hv _
  · have := h.led.bw
    simpa [World.setCell] using this
  · rw [hR]
    exact ownsRow_setCell_other (a := ⟨b, i, none⟩) h.set hu _
theorem SpTo.trans {B b : Nat} {v u v1 u1 v2 u2 : Value} {s s1 s2 : Sp} {w w1 w2 : World} (h : SpIs B b v u s w) (a : SpTo B b v u w s1 v1 u1 w1) (c : SpTo B b v1 u1 w1 s2 v2 u2 w2) : SpTo B b v u w s2 v2 u2 w2 := by
  refine ⟨c.is, a.on.then c.on ?_, ?_, ?_⟩
  · rintro i (rfl | hi | hi)
    · exact .inl (.inl rfl)
    · rcases a.fv with e | e
      · rw [e] at hi; exact .inl (.inr (.inl hi))
      · exact .inr (e i hi)
    · rcases a.fu with e | e
      · rw [e] at hi; exact .inl (.inr (.inr hi))
      · exact .inr (e i hi)
  · rcases c.fv with e | e
    · rw [e]; exact a.fv
    · exact .inr (fun k hk => Nat.le_trans a.on.size (e k hk))
  · rcases c.fu with e | e
    · rw [e]; exact a.fu
    · exact .inr (fun k hk => Nat.le_trans a.on.size (e k hk))
theorem SpTo.ahead {B b : Nat} {v u v' u' : Value} {s' : Sp} {w w1 w' : World} (hb : Below w.heap.size w w1) (c : SpTo B b v u w1 s' v' u' w') : SpTo B b v u w s' v' u' w' := by
  refine ⟨c.is, (Only.ofBelow hb).then c.on (fun i hi => .inl hi), ?_, ?_⟩
  · rcases c.fv with e | e
    · exact .inl e
    · exact .inr (fun k hk => Nat.le_trans hb.size (e k hk))
  · rcases c.fu with e | e
    · exact .inl e
    · exact .inr (fun k hk => Nat.le_trans hb.size (e k hk))
theorem SpTo.then {B b : Nat} {v u v' u' : Value} {s' : Sp} {w w1 w' : World} (c : SpTo B b v u w s' v' u' w1) (hb : Below w1.heap.size w1 w') : SpTo B b v u w s' v' u' w' :=
  ⟨c.is.next hb, c.on.trans (Only.ofBelow hb), c.fv, c.fu⟩

section
variable {B b : Nat} {v u : Value} {s : Sp} {w : World}

theorem Num_any (h : SpIs B b v u s w) : Calls Try.prog 19 #[.pointer (some ⟨b, 0, none⟩)] w fun e w' => e = .returned (.int .u64 (s.next : Int)) ∧ w = w' := by
  have hb := h.lt
  have c5 : w.cell? ⟨b, 5, none⟩ = some (.int .u64 (s.next : Int)) := h.led.led.cell (k := 5) rfl
  clear h
  go_enter Try.func19, Try.ntmps19
  go_wp2_with fail
  go_ret
  exact ⟨rfl, rfl⟩
theorem Must_any (h : SpIs B b v u s w) : Calls Try.prog 15 #[.pointer (some ⟨b, 0, none⟩)] w fun e w' => e = .returned (.bool s.must) ∧ w = w' := by
  have hb := h.lt
  have c8 : w.cell? ⟨b, 8, none⟩ = some (.bool s.must) := h.led.led.cell (k := 8) rfl
  clear h
  go_enter Try.func15, Try.ntmps15
  go_wp2_with fail
  go_ret
  exact ⟨rfl, rfl⟩

theorem most_lt {L : List Rg} (h : OkR L) : (mostR L).1 ≤ 4611686018427387903 := by
  cases L with
  | nil => exact Nat.zero_le _
  | cons r L =>
    have := OkB.below h r (by simp)
    show r.2 ≤ _
    omega
theorem Largest_any (h : SpIs B b v u s w) : Calls Try.prog 13 #[.pointer (some ⟨b, 0, none⟩)] w fun e w' => e = .returned (.int .i64 (sg (mostR s.R).2 (mostR s.R).1)) ∧ Below w.heap.size w w' := by
  have hb := h.lt
  have hm := most_lt h.ok
  have HM := Lib.hid (most_ok b B u s.R w h.setIs (by have := h.len; omega) h.ok)
  have HS := fun w => Lib.hid (signed_any (mostR s.R).1 (mostR s.R).2 w (by omega))
  clear h hm
  go_enter Try.func13, Try.ntmps13
  go_wp2_with fail
  refine HM.out.mono ?_
  rintro e w1 ⟨rfl, hb1⟩
  have HB := Lib.hid hb1
  clear hb1
  go_wp2_with fail
  refine (HS _).out.mono ?_
  rintro e w2 ⟨rfl, rfl⟩
  go_wp2_with fail
  go_ret
  exact ⟨rfl, HB.out⟩
theorem Acked_any2 (h : SpIs B b v u s w) : Calls Try.prog 36 #[.pointer (some ⟨b, 0, none⟩)] w fun e w' => e = .returned (.int .i64 (sg s.L.bi s.L.bn)) ∧ Below w.heap.size w w' := by
  have hb := h.lt
  have HM := Lib.hid (Best_any b s.L.bn s.L.bi w hb (h.led.led.cell (k := 3) rfl) (h.led.led.cell (k := 4) rfl))
  have HS := fun w => Lib.hid (signed_any s.L.bn s.L.bi w (by have := h.inv.bl; have := h.inv.ln; omega))
  clear h
  go_enter Try.func36, Try.ntmps36
  go_wp2_with fail
  refine HM.out.mono ?_
  rintro e w1 ⟨rfl, hb1⟩
  have HB := Lib.hid hb1
  clear hb1
  go_wp2_with fail
  refine (HS _).out.mono ?_
  rintro e w2 ⟨rfl, rfl⟩
  go_wp2_with fail
  go_ret
  exact ⟨rfl, HB.out⟩
theorem Came_any (n : Nat) (h : SpIs B b v u s w) : Calls Try.prog 21 #[.pointer (some ⟨b, 0, none⟩), .int .u64 (n : Int)] w fun e w' => e = .returned (.bool (coversR s.R n n)) ∧ Below w.heap.size w w' := by
  have hb := h.lt
  have HM := Lib.hid (has_ok b B u s.R w n h.setIs (by have := h.len; omega) h.ok)
  clear h
  go_enter Try.func21, Try.ntmps21
  go_wp2_with fail
  refine HM.out.mono ?_
  rintro e w1 ⟨rfl, hb1⟩
  have HB := Lib.hid hb1
  clear hb1
  go_wp2_with fail
  go_ret
  exact ⟨rfl, HB.out⟩

def lastF (l : List Pk) : Nat := l.foldl (fun m p => max m p.time) 0
theorem lastF_take {l : List Pk} {j : Nat} {p : Pk} (h : l[j]? = some p) : lastF (l.take (j + 1)) = max (lastF (l.take j)) p.time := by
  unfold lastF
  rw [List.take_add_one, h]
  simp [List.foldl_append]
set_option maxRecDepth 100000 in
set_option maxHeartbeats 1000000 in
theorem LastAsk_any (h : SpIs B b v u s w) : Calls Try.prog 31 #[.pointer (some ⟨b, 0, none⟩)] w fun e w' => e = .returned (.tuple #[.int .u64 (lastF s.L.op : Int), .bool (!s.L.op.isEmpty)]) ∧ Below w.heap.size w w' := by
  have hb := h.lt
  have hl := h.inv.len1
  have HT := Lib.hid (fun p hp => (h.inv.le p hp).2.1)
  have HO := Lib.hid (Open_any B b _ _ v s.L w h.led hl)
  obtain ⟨N, hN⟩ : ∃ N, s.L.op.length = N := ⟨_, rfl⟩
  rw [hN] at hl HO
  have HN := Lib.hid hN
  clear h hN
  go_enter Try.func31, Try.ntmps31
  go_wp2_with fail
  refine HO.out.mono ?_
  rintro e w1 ⟨vo, rfl, ho, hb1⟩
  obtain ⟨p, cap, rfl, -⟩ := own_shape ho
  have HR := Lib.hid ho
  have HB := Lib.hid hb1
  clear ho hb1 HO
  go_wp2_with fail
  go_loopw [4, 5, 7, 13] (fun a is _ i wr => ∃ j : Nat, j ≤ N ∧ i = .int .i64 j ∧ a = .int .u64 (lastF (s.L.op.take j) : Int) ∧ is = .bool (decide (0 < j)) ∧ lastF (s.L.op.take j) ≤ 1099511627776 ∧ Below w1.heap.size w1 wr) (fun _ _ _ i _ => N - (intOf i).toNat)
  case atStart => exact ⟨0, by omega, rfl, rfl, rfl, by simp [lastF], Below.refl _ _⟩
  case round =>
    obtain ⟨j, hj, rfl, rfl, rfl, hle, hbw⟩ := hrel
    by_cases hlt : j < N
    · have hjl : j < s.L.op.length := by rw [HN.out]; exact hlt
      obtain ⟨q, hq⟩ : ∃ q, s.L.op[j]? = some q := ⟨_, List.getElem?_eq_getElem hjl⟩
      obtain ⟨g, cap1, hpe, -, hg, c0, c1, c2, c3, c4⟩ := pk_cells (own_below HR.out hbw) j q hq
      injection hpe with hpe hpe2 hpe3
      have htk := lastF_take hq
      have hqt : q.time ≤ 1099511627776 := HT.out q (List.mem_of_getElem? hq)
      obtain ⟨m, hm⟩ : ∃ m, lastF (s.L.op.take j) = m := ⟨_, rfl⟩
      rw [hm] at hle htk ⊢
      have Htk := Lib.hid htk
      have Hbw := Lib.hid (hbw.alloc hbw.size (.cells #[.int .u64 (q.num : Int), .int .u64 (q.time : Int), .int .u64 (q.size : Int), .bool q.asks, .slice q.fa q.fl q.fc] 57))
      subst hpe
      clear hq htk hbw hm hjl hpe2 hpe3 HR
      go_wp2_with fail
      all_goals
        go_roundw
        case rel => exact ⟨j + 1, by omega, by go_num, by rw [Htk.out]; congr 1; omega, by simp, by rw [Htk.out]; omega, Hbw.out⟩
        case measure => simp [intOf]; omega
    · obtain rfl : j = N := by omega
      rw [List.take_of_length_le (by rw [HN.out]; exact Nat.le_refl _)]
      have Hbw := Lib.hid (HB.out.trans (hbw.mono HB.out.size))
      have he : decide (0 < j) = !s.L.op.isEmpty := by
        rw [← HN.out]
        cases s.L.op with
        | nil => rfl
        | cons x l => simp
      rw [he]
      clear hbw he
      go_wp2_with fail
      go_ret2
      exact ⟨rfl, Hbw.out⟩
end

end Go.Proofs.Ytmnmpmiocgfalaa
