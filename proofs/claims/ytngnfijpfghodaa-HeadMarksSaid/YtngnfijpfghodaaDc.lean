/- Contract of head's Write. -/
import Derived.Test.YtngnfijpfghodaaDb
import Derived.Deep.DeepMust
import Derived.Deep.DeepCutAuto
import Derived.Deep.CutBlock
namespace Go.Proofs.Ytngnfijpfghodaa
open Go.ChangeShapes Go.WideShapes Go.RowKit
set_option linter.unusedVariables false

theorem putF_len (n : Nat) : (putF n).1.length ≤ 8 := by
  unfold putF
  split
  · rw [put_length]; exact pow_le8 _ (lst_le _)
  · simp

theorem hd_cells {w : World} {b : Nat} {T : TypeId} {a c d f g h i : Value} (H : blk w b T [a, c, d, f, g, h, i]) : w.cell? ⟨b, 0, none⟩ = some a ∧ w.cell? ⟨b, 1, none⟩ = some c ∧ w.cell? ⟨b, 2, none⟩ = some d ∧ w.cell? ⟨b, 3, none⟩ = some f ∧
    w.cell? ⟨b, 4, none⟩ = some g ∧ w.cell? ⟨b, 5, none⟩ = some h ∧ w.cell? ⟨b, 6, none⟩ = some i :=
  ⟨H.cell (k := 0) rfl, H.cell (k := 1) rfl, H.cell (k := 2) rfl, H.cell (k := 3) rfl, H.cell (k := 4) rfl, H.cell (k := 5) rfl, H.cell (k := 6) rfl⟩

theorem box_below {w w1 : World} {T : TypeId} {L : List Value} (b1 : Below (w.alloc (.cells L.toArray T)).heap.size (w.alloc (.cells L.toArray T)) w1) : Below w.heap.size w w1 ∧ blk w1 w.heap.size T L :=
  ⟨((Below.refl _ _).alloc (Nat.le_refl _) _).trans (b1.mono (by simp)), (blk.new w T L).below b1 (by simp)⟩

theorem s4_call {w x x' : World} {b : Nat} {v0 v1 v2 : Value} (hb : Below x.heap.size x x') (h : Below w.heap.size w x ∧ x.cell? ⟨b, 0, none⟩ = some v0 ∧ x.cell? ⟨b, 1, none⟩ = some v1 ∧ x.cell? ⟨b, 2, none⟩ = some v2) :
    Below w.heap.size w x' ∧ x'.cell? ⟨b, 0, none⟩ = some v0 ∧ x'.cell? ⟨b, 1, none⟩ = some v1 ∧ x'.cell? ⟨b, 2, none⟩ = some v2 := by
  obtain ⟨h1, h2, h3, h4⟩ := h
  have hl := World.block_lt_of_cell? _ _ h2
  exact ⟨h1.trans (hb.mono h1.size), (hb.cell (p := ⟨b, 0, none⟩) hl).trans h2, (hb.cell (p := ⟨b, 1, none⟩) hl).trans h3, (hb.cell (p := ⟨b, 2, none⟩) hl).trans h4⟩
theorem s4_any {w x x' : World} {b n : Nat} {v0 v1 v2 : Value} (hb : Below n x x') (h : Below w.heap.size w x ∧ x.cell? ⟨b, 0, none⟩ = some v0 ∧ x.cell? ⟨b, 1, none⟩ = some v1 ∧ x.cell? ⟨b, 2, none⟩ = some v2) (hn : n = x.heap.size) :
    Below w.heap.size w x' ∧ x'.cell? ⟨b, 0, none⟩ = some v0 ∧ x'.cell? ⟨b, 1, none⟩ = some v1 ∧ x'.cell? ⟨b, 2, none⟩ = some v2 := by subst hn; exact s4_call hb h
theorem s4_alloc {w x : World} {b : Nat} {v0 v1 v2 : Value} {o : Obj} (h : Below w.heap.size w x ∧ x.cell? ⟨b, 0, none⟩ = some v0 ∧ x.cell? ⟨b, 1, none⟩ = some v1 ∧ x.cell? ⟨b, 2, none⟩ = some v2) :
    Below w.heap.size w (x.alloc o) ∧ (x.alloc o).cell? ⟨b, 0, none⟩ = some v0 ∧ (x.alloc o).cell? ⟨b, 1, none⟩ = some v1 ∧ (x.alloc o).cell? ⟨b, 2, none⟩ = some v2 :=
  s4_call ((Below.refl _ _).alloc (Nat.le_refl _) _) h

/-- 'string([]byte{x})', when more has come in between. -/
theorem conv_cell {W : World} {g x : Nat} {c : Int} (hc : c = ((x % 256 : Nat) : Int)) (h : W.cell? ⟨g, 0, none⟩ = some (.int .u8 c)) :
    (convert 44 9 (.slice (some ⟨g, 0, none⟩) 1 1)).run Try.prog W = .ok (.string (txt [UInt8.ofNat (x % 256)])) W := by
  subst hc
  refine run_convert_bytes_back (P := Try.prog) _ 44 9 5 ⟨g, 0, none⟩ 1 [UInt8.ofNat (x % 256)] Try.underlying44 Try.underlying5 Try.underlying9 ?_
  intro j hj
  match j, hj with
  | 0, _ =>
    rw [add_zero, h]
    simp

theorem cell_after {W x : World} {c : Value} {T : TypeId} (b : Below (W.alloc (.cells #[c] T)).heap.size (W.alloc (.cells #[c] T)) x) : x.cell? ⟨W.heap.size, 0, none⟩ = some c :=
  ((blk.new W T [c]).below b (by simp)).cell rfl
theorem cell_afterD {W x : World} {c : Value} {T : TypeId} (b : Below (W.alloc (.cells #[c] T)).drew.heap.size (W.alloc (.cells #[c] T)).drew x) : x.cell? ⟨W.heap.size, 0, none⟩ = some c :=
  (((blk.new W T [c]).drew).below b (by show W.heap.size < (W.alloc _).heap.size; simp)).cell rfl
theorem cell_on {W x : World} {g : Nat} {c : Value} (b : Below W.heap.size W x) (h : W.cell? ⟨g, 0, none⟩ = some c) : x.cell? ⟨g, 0, none⟩ = some c :=
  (b.cell (p := ⟨g, 0, none⟩) (World.block_lt_of_cell? _ _ h)).trans h

set_option maxRecDepth 100000 in
set_option maxHeartbeats 1000000 in
theorem write_short (dst src : List UInt8) (num b : Nat) (size : Int) (spin : Bool) (w : World) (hm : mayF ⟨3, dst, src, num, (b : Int), size, spin⟩ = true) :
    Calls Try.prog 9 #[(Hd.mk 3 dst src num (b : Int) size spin).v] w fun e w' => e = .returned (.tuple #[.string (txt (bytesF ⟨3, dst, src, num, (b : Int), size, spin⟩)), .int .i64 0]) ∧ Below w.heap.size w w' := by
  have hm2 := hm
  unfold mayF longF at hm2
  simp at hm2
  have k1 : dst.length ≤ 20 ∧ 1 ≤ b ∧ b ≤ 4 ∧ num ≤ 4611686018427387903 := by omega
  obtain ⟨k1, k2, k3, k4⟩ := k1
  have hmay := fun w => May_any ⟨3, dst, src, num, (b : Int), size, spin⟩ w
  rw [hm] at hmay
  have hlow := fun w => low_any num b w (by omega) (by omega)
  have hns := txt_size (be b num)
  have hds := txt_size dst
  rw [be_length] at hns
  obtain ⟨x, hx⟩ : ∃ x, (64 + (if spin then 32 else 0) + (b - 1)) = x := ⟨_, rfl⟩
  have hx8 : x < 256 := by rw [← hx]; split <;> omega
  have hf : bytesF ⟨3, dst, src, num, (b : Int), size, spin⟩ = [UInt8.ofNat (x % 256)] ++ dst ++ be b num := by
    unfold bytesF
    have e2 : ((b : Int) - 1).toNat = b - 1 := by omega
    simp only [e2, if_true, Int.toNat_natCast, hx, Nat.mod_eq_of_lt hx8]
    simp
  have hcv := fun w => conv_one x (x : Int) w (by rw [Nat.mod_eq_of_lt hx8])
  have hr : txt [UInt8.ofNat (x % 256)] ++ txt dst ++ txt (be b num) = txt (bytesF ⟨3, dst, src, num, (b : Int), size, spin⟩) := by rw [txt_append, txt_append, hf]
  have hq : (txt [UInt8.ofNat (x % 256)]).size = 1 := rfl
  have hq2 : (txt [UInt8.ofNat (x % 256)] ++ txt dst).size = 1 + dst.length := by rw [txt_append, txt_size]; simp; omega
  have HM := hmay
  have HL := hlow
  unfold Hd.v at HM ⊢
  simp only at HM ⊢
  generalize txt (bytesF _) = r at *
  generalize txt [UInt8.ofNat (x % 256)] = q at *
  generalize txt (be b num) = ns at *
  generalize txt dst = ds at *
  generalize txt src = ss at *
  generalize dst.length = dl at *
  have Hr := Lib.hid hr
  clear hr hm hmay hlow hf hm2 hx8
  obtain ⟨c, rfl⟩ : ∃ c, b = c + 1 := ⟨b - 1, by omega⟩
  have hc3 : c ≤ 3 := by omega
  clear k2 k3
  rw [show ((c + 1 : Nat) : Int) = (c : Int) + 1 from rfl] at HL HM ⊢
  have hbits : ((spin = true → (bits BinOp.or IntKind.u8 (c : Int) 32 = 32 + c ∧ bits BinOp.or IntKind.u8 (32 + (c : Int)) 64 = (x : Int)))) ∧ (spin = false → bits BinOp.or IntKind.u8 (c : Int) 64 = (x : Int)) := by
    subst hx
    have hc : c = 0 ∨ c = 1 ∨ c = 2 ∨ c = 3 := by omega
    refine ⟨?_, ?_⟩ <;> rintro rfl <;> rcases hc with rfl | rfl | rfl | rfl <;> decide +kernel
  have hbits1 := hbits.1
  have hbits2 := hbits.2
  clear hbits hx
  cases spin
  · have hb2 := hbits2 rfl
    clear hbits1 hbits2
    go_enter Try.func9, Try.ntmps9
    go_wp2_with fail
    refine (HM _).mono ?_
    rintro e w1 ⟨rfl, b1⟩
    obtain ⟨B1, G1⟩ := box_below (L := [_, _, _, _, _, _, _]) b1
    obtain ⟨c0, c1, c2, c3, c4, c5, c6⟩ := hd_cells G1
    have HB := Lib.hid B1
    have HG := Lib.hid G1
    clear b1 B1 G1
    go_wp2_with fail
    refine (HL _).mono ?_
    rintro e w2 ⟨rfl, b2⟩
    have B2 := HB.out.trans (b2.mono HB.out.size)
    have G2 := HG.out.below b2 HG.out.lt
    clear c0 c1 c2 c3 c4 c5 c6
    obtain ⟨c0, c1, c2, c3, c4, c5, c6⟩ := hd_cells G2
    have HB2 := Lib.hid B2
    have hlt2 := G2.lt
    clear b2 B2 G2 HG HB
    go_wp2_with fail
    go_ret2
    exact ⟨by rw [← Hr.out]; rfl, HB2.out.alloc HB2.out.size _⟩
  · obtain ⟨hb1, hb2⟩ := hbits1 rfl
    clear hbits1 hbits2
    go_enter Try.func9, Try.ntmps9
    go_wp2_with fail
    refine (HM _).mono ?_
    rintro e w1 ⟨rfl, b1⟩
    obtain ⟨B1, G1⟩ := box_below (L := [_, _, _, _, _, _, _]) b1
    obtain ⟨c0, c1, c2, c3, c4, c5, c6⟩ := hd_cells G1
    have HB := Lib.hid B1
    have HG := Lib.hid G1
    clear b1 B1 G1
    go_wp2_with fail
    refine (HL _).mono ?_
    rintro e w2 ⟨rfl, b2⟩
    have B2 := HB.out.trans (b2.mono HB.out.size)
    have G2 := HG.out.below b2 HG.out.lt
    clear c0 c1 c2 c3 c4 c5 c6
    obtain ⟨c0, c1, c2, c3, c4, c5, c6⟩ := hd_cells G2
    have HB2 := Lib.hid B2
    have hlt2 := G2.lt
    clear b2 B2 G2 HG HB
    go_wp2_with fail
    go_ret2
    exact ⟨by rw [← Hr.out]; rfl, HB2.out.alloc HB2.out.size _⟩

set_option maxRecDepth 100000 in
set_option maxHeartbeats 1000000 in
theorem write_bad (h : Hd) (w : World) (hm : mayF h = false) :
    Calls Try.prog 9 #[h.v] w fun e w' => e = .returned (.tuple #[.string ⟨#[]⟩, .int .i64 2]) ∧ Below w.heap.size w w' := by
  have HM := fun w => May_any h w
  rw [hm] at HM
  unfold Hd.v at HM ⊢
  go_enter Try.func9, Try.ntmps9
  go_wp2_with fail
  refine (HM _).mono ?_
  rintro e w1 ⟨rfl, b1⟩
  obtain ⟨B1, _⟩ := box_below (L := [_, _, _, _, _, _, _]) b1
  have HB := Lib.hid B1
  clear b1 B1
  go_wp2_with fail
  go_ret2
  exact ⟨rfl, HB.out⟩

theorem bits_long (b ty : Nat) (hb : b ≤ 3) (ht : ty = 0 ∨ ty = 2) : bits BinOp.or IntKind.u8 (bits BinOp.or IntKind.u8 (b : Int) 192) (IntKind.u8.wrap (IntKind.i64.wrap ((ty : Int) * 16))) = ((192 + (16 * ty + b) : Nat) : Int) := by
  have hc : b = 0 ∨ b = 1 ∨ b = 2 ∨ b = 3 := by omega
  rcases hc with rfl | rfl | rfl | rfl <;> rcases ht with rfl | rfl <;> decide +kernel

set_option maxRecDepth 100000 in
set_option maxHeartbeats 4000000 in
theorem write_long (ty : Nat) (dst src : List UInt8) (num b sz : Nat) (spin : Bool) (w : World) (ht : ty = 0 ∨ ty = 2) (hm : mayF ⟨(ty : Int), dst, src, num, (b : Int), (sz : Int), spin⟩ = true) :
    Calls Try.prog 9 #[(Hd.mk (ty : Int) dst src num (b : Int) (sz : Int) spin).v] w fun e w' => e = .returned (.tuple #[.string (txt (bytesF ⟨(ty : Int), dst, src, num, (b : Int), (sz : Int), spin⟩)), .int .i64 0]) ∧ Below w.heap.size w w' := by
  have hm2 := hm
  unfold mayF at hm2
  simp at hm2
  have k1 : dst.length ≤ 20 ∧ src.length ≤ 20 ∧ 1 ≤ b ∧ b ≤ 4 ∧ num ≤ 4611686018427387903 ∧ sz ≤ 16384 := by omega
  obtain ⟨k1, k2, k3, k4, k5, k6⟩ := k1
  have hmay := fun w => May_any ⟨(ty : Int), dst, src, num, (b : Int), (sz : Int), spin⟩ w
  rw [hm] at hmay
  have hlow := fun w => low_any num b w (by omega) (by omega)
  have hput := fun w => Put_any (b + sz) w
  have ht1 := fun w => text_any dst w (by omega)
  have ht2 := fun w => text_any src w (by omega)
  have ht3 := fun w => text_any [] w (by simp)
  have hp2 : (putF (b + sz)).2 = 0 := by unfold putF; rw [if_pos (by omega)]
  have hp3 := putF_len (b + sz)
  obtain ⟨x, hx⟩ : ∃ x, 192 + (16 * ty + (b - 1)) = x := ⟨_, rfl⟩
  have hx8 : x < 256 := by rw [← hx]; omega
  have hf : bytesF ⟨(ty : Int), dst, src, num, (b : Int), (sz : Int), spin⟩ = [UInt8.ofNat (x % 256)] ++ [0, 0, 0, 1] ++ textF dst ++ textF src ++ (if ty = 0 then textF [] else []) ++ (putF (b + sz)).1 ++ be b num := by
    unfold bytesF
    have e1 : ¬ ((ty : Int) = 3) := by omega
    have e2 : (16 * (ty : Int) + b - 1).toNat = 16 * ty + (b - 1) := by omega
    have e3 : ((b : Int) + (sz : Int)).toNat = b + sz := by omega
    simp only [if_neg e1, e2, e3, hx, Int.toNat_natCast, Nat.mod_eq_of_lt hx8]
    rcases ht with rfl | rfl <;> simp [textF]
  have hcv := fun w => conv_one x (x : Int) w (by rw [Nat.mod_eq_of_lt hx8])
  have HCV := Lib.hid (fun (W : World) (g : Nat) (h : W.cell? ⟨g, 0, none⟩ = some (.int .u8 (x : Int))) => conv_cell (W := W) (g := g) (x := x) (c := (x : Int)) (by rw [Nat.mod_eq_of_lt hx8]) h)
  have hcd := fun (w : World) => HCV.out (w.alloc (.cells #[.int .u8 (x : Int)] 5)).drew w.heap.size ((blk.new w 5 [.int .u8 (x : Int)]).cell (k := 0) rfl)
  have hq0 : (txt [UInt8.ofNat (x % 256)]).size = 1 := rfl
  have hq1 : txt [UInt8.ofNat (x % 256)] ++ ⟨#[0, 0, 0, 1]⟩ = txt ([UInt8.ofNat (x % 256)] ++ [0, 0, 0, 1]) := by rw [← txt_append]; rfl
  have hq2 := txt_append ([UInt8.ofNat (x % 256)] ++ [0, 0, 0, 1]) (textF dst)
  have hq3 := txt_append ([UInt8.ofNat (x % 256)] ++ [0, 0, 0, 1] ++ textF dst) (textF src)
  have hq4 := txt_append ([UInt8.ofNat (x % 256)] ++ [0, 0, 0, 1] ++ textF dst ++ textF src) (textF [])
  have hq5 := txt_append ([UInt8.ofNat (x % 256)] ++ [0, 0, 0, 1] ++ textF dst ++ textF src ++ (if ty = 0 then textF [] else [])) (putF (b + sz)).1
  have hq6 := txt_append ([UInt8.ofNat (x % 256)] ++ [0, 0, 0, 1] ++ textF dst ++ textF src ++ (if ty = 0 then textF [] else []) ++ (putF (b + sz)).1) (be b num)
  rw [← hf] at hq6
  have z1 : (txt ([UInt8.ofNat (x % 256)] ++ [0, 0, 0, 1])).size = 5 := rfl
  have z2 : (txt ([UInt8.ofNat (x % 256)] ++ [0, 0, 0, 1] ++ textF dst)).size ≤ 100 := by rw [txt_size]; simp [textF]; omega
  have z3 : (txt ([UInt8.ofNat (x % 256)] ++ [0, 0, 0, 1] ++ textF dst ++ textF src)).size ≤ 100 := by rw [txt_size]; simp [textF]; omega
  have z4 : (txt ([UInt8.ofNat (x % 256)] ++ [0, 0, 0, 1] ++ textF dst ++ textF src ++ (if ty = 0 then textF [] else []))).size ≤ 100 := by rw [txt_size]; rcases ht with rfl | rfl <;> simp [textF] <;> omega
  have z5 : (txt ([UInt8.ofNat (x % 256)] ++ [0, 0, 0, 1] ++ textF dst ++ textF src ++ (if ty = 0 then textF [] else []) ++ (putF (b + sz)).1)).size ≤ 200 := by rw [txt_size]; rcases ht with rfl | rfl <;> simp [textF] <;> omega
  have y1 : (txt (textF dst)).size ≤ 100 := by rw [txt_size]; simp [textF]; omega
  have y2 : (txt (textF src)).size ≤ 100 := by rw [txt_size]; simp [textF]; omega
  have y3 : (txt (textF [])).size ≤ 100 := by rw [txt_size]; simp [textF]
  have y4 : (txt (putF (b + sz)).1).size ≤ 100 := by rw [txt_size]; omega
  have y5 : (txt (be b num)).size ≤ 100 := by rw [txt_size, be_length]; omega
  rw [hp2] at hput
  unfold Hd.v at hmay ⊢
  simp only at hmay ⊢
  generalize bytesF _ = res at *
  obtain ⟨c, rfl⟩ : ∃ c, b = c + 1 := ⟨b - 1, by omega⟩
  have hbits := bits_long c ty (by omega) ht
  rw [show ((192 + (16 * ty + c) : Nat) : Int) = (x : Int) by omega] at hbits
  have hc3 : c ≤ 3 := by omega
  have hcs : c + sz ≤ 20000 := by omega
  rw [show ((c + 1 : Nat) : Int) = (c : Int) + 1 from rfl] at hlow hmay ⊢
  rw [show ((c + 1 + sz : Nat) : Int) = (c : Int) + 1 + (sz : Int) from by omega] at hput
  clear k3 k4 hx hx8 hp2 hp3 hf hm hm2
  have hty : ty ≤ 2 := by omega
  have hty3 : ((ty : Int) == 3) = false := by rw [beq_eq_false_iff_ne]; omega
  have hq4' : (if ty = 0 then txt ([UInt8.ofNat (x % 256)] ++ [0, 0, 0, 1] ++ textF dst ++ textF src) ++ txt (textF []) else txt ([UInt8.ofNat (x % 256)] ++ [0, 0, 0, 1] ++ textF dst ++ textF src)) = txt ([UInt8.ofNat (x % 256)] ++ [0, 0, 0, 1] ++ textF dst ++ textF src ++ (if ty = 0 then textF [] else [])) := by rcases ht with rfl | rfl <;> simp [txt_append]
  clear hq4
  generalize txt res = r at *
  generalize txt (putF (c + 1 + sz)).1 = ps at *
  generalize txt (be (c + 1) num) = ns at *
  obtain ⟨tx, htx⟩ : ∃ tx : ByteArray → ByteArray, ∀ l, tx (txt l) = txt (textF l) := ⟨fun s => txt (textF (byt s)), fun l => by simp only [byt_txt]⟩
  rw [← htx dst, ← htx src] at *
  have HT : Hid (∀ (s : ByteArray) (w : World), (s = txt dst ∨ s = txt src) → Calls Try.prog 19 #[.string s] w fun e w' => e = .returned (.string (tx s)) ∧ Below w.heap.size w w') := Lib.hid (by
    intro s w h
    rcases h with rfl | rfl
    · exact ht1 w
    · exact ht2 w)
  clear ht1 ht2 htx
  generalize txt (textF []) = te at *
  generalize txt dst = ds at *
  generalize txt src = ss at *
  generalize txt ([UInt8.ofNat (x % 256)] ++ [0, 0, 0, 1] ++ textF dst ++ textF src ++ (if ty = 0 then textF [] else []) ++ (putF (c + 1 + sz)).1) = q5 at *
  generalize txt ([UInt8.ofNat (x % 256)] ++ [0, 0, 0, 1] ++ textF dst ++ textF src ++ (if ty = 0 then textF [] else [])) = q4 at *
  generalize txt ([UInt8.ofNat (x % 256)] ++ [0, 0, 0, 1] ++ textF dst ++ textF src) = q3 at *
  generalize txt ([UInt8.ofNat (x % 256)] ++ [0, 0, 0, 1] ++ textF dst) = q2 at *
  generalize txt ([UInt8.ofNat (x % 256)] ++ [0, 0, 0, 1]) = q1 at *
  generalize txt [UInt8.ofNat (x % 256)] = q0 at *
  have HM := Lib.hid hmay
  have HL := Lib.hid hlow
  have HP := Lib.hid hput
  have HT3 := Lib.hid ht3
  clear hmay hlow hput ht3 k1 k2
  go_enter Try.func9, Try.ntmps9
  go_wp2_with fail
  refine (HM.out _).mono ?_
  rintro e w1 ⟨rfl, b1⟩
  obtain ⟨B1, G1⟩ := box_below (L := [_, _, _, _, _, _, _]) b1
  obtain ⟨c0, c1, c2, c3, c4, c5, c6⟩ := hd_cells G1
  have HB := Lib.hid B1
  have HG := Lib.hid G1
  clear b1 B1 G1
  go_wp2_with fail
  refine (HL.out _).mono ?_
  rintro e w2 ⟨rfl, b2⟩
  have HB2 := Lib.hid (HB.out.trans (b2.mono HB.out.size))
  have HG2 := Lib.hid (HG.out.below b2 HG.out.lt)
  clear c0 c1 c2 c3 c4 c5 c6
  obtain ⟨c0, c1, c2, c3, c4, c5, c6⟩ := hd_cells HG2.out
  have hlt2 := HG2.out.lt
  clear b2 HG HB
  go_wp2_with fail
  refine (HP.out _).mono ?_
  rintro e w3 ⟨rfl, b3⟩
  have HB3 := Lib.hid (HB2.out.trans (b3.mono HB2.out.size))
  have HG3 := Lib.hid (HG2.out.below b3 HG2.out.lt)
  clear c0 c1 c2 c3 c4 c5 c6 hlt2
  obtain ⟨c0, c1, c2, c3, c4, c5, c6⟩ := hd_cells HG3.out
  have hlt3 := HG3.out.lt
  clear b3 HG2 HB2
  go_wp2_with fail
  have n1 : ¬ 9223372036854775807 < 5 + (tx ds).size := by omega
  have n2 : ¬ 9223372036854775807 < q2.size + (tx ss).size := by omega
  have HZ := Lib.hid (And.intro (And.intro hq4' (And.intro hq5 hq6)) (And.intro (And.intro z4 z5) (And.intro y3 (And.intro y4 y5))))
  clear HM HL HP hq4' hq5 hq6 z4 z5 y3 y4 y5 k5 k6
  go_cut [8] (fun s8 wx => s8 = .string q3 ∧ Below w.heap.size w wx ∧ wx.cell? ⟨w.heap.size, 0, none⟩ = some (.int .i64 (ty : Int)))
  case first =>
    clear c3 c4 c5 c6
    have hS0 := And.intro HB3.out.drew (And.intro (show w3.drew.cell? ⟨w.heap.size, 0, none⟩ = _ from c0) (And.intro (show w3.drew.cell? ⟨w.heap.size, 1, none⟩ = _ from c1) (show w3.drew.cell? ⟨w.heap.size, 2, none⟩ = _ from c2)))
    go_region_held (fun w' => Below w.heap.size w w' ∧ w'.cell? ⟨w.heap.size, 0, none⟩ = some (.int .i64 (ty : Int)) ∧ w'.cell? ⟨w.heap.size, 1, none⟩ = some (.string ds) ∧ w'.cell? ⟨w.heap.size, 2, none⟩ = some (.string ss))
      (first | assumption | exact s4_alloc (x := w3.drew) hS0 | (apply s4_any; assumption; assumption; rfl) | (apply s4_alloc; assumption))
      (first | (go_at_call 19; refine (HT.out _ _ ?_).mono ?_; (first | exact .inl rfl | exact .inr rfl); rintro e x4 ⟨rfl, b4⟩; first | (have hcA := cell_afterD b4; have hcB := HCV.out _ _ hcA) | (have hcA := cell_after b4; have hcB := HCV.out _ _ hcA) | (have hcC := cell_on b4 hcA; have hcD := HCV.out _ _ hcC) | skip))
    all_goals
      go_wp2_with fail
      go_meet
      have hS := ‹Below w.heap.size w _ ∧ _›
      exact ⟨rfl, hS.1, hS.2.1⟩
  case rest =>
    obtain ⟨rfl, hbx, c0⟩ := hcut
    obtain ⟨⟨hq4, hq5, hq6⟩, ⟨z4, z5⟩, y3, y4, y5⟩ := HZ.out
    clear HZ hbits hcv HCV hcd hq0 hq1 hq2 hq3 n1 n2
    have Hb := Lib.hid hbx
    have Hr := Lib.hid hq6
    clear hbx hq6
    rcases ht with rfl | rfl
    · simp only [if_true] at hq4
      go_wp2_with fail
      refine (HT3.out _).mono ?_
      rintro e w6 ⟨rfl, b6⟩
      have Hb6 := Lib.hid (Hb.out.trans (b6.mono Hb.out.size))
      clear b6
      go_wp2_with fail
      go_ret2
      exact ⟨by rw [← Hr.out]; rfl, Hb6.out⟩
    · simp at hq4
      subst hq4
      go_wp2_with fail
      go_ret2
      exact ⟨by rw [← Hr.out]; rfl, Hb.out⟩

end Go.Proofs.Ytngnfijpfghodaa
