/- Contract of the reference's Write. -/
import Derived.Test.YtngnfijpfghodaaDr
namespace Go.Proofs.Ytngnfijpfghodaa
open Go.ChangeShapes Go.WideShapes Go.RowKit
set_option linter.unusedVariables false
set_option linter.unusedSimpArgs false

/-- 'string([]byte{..})' of six bytes. -/
theorem conv_six (x y : Nat) (c d : Int) (w : World) (hc : c = ((x % 256 : Nat) : Int)) (hd : d = ((y % 256 : Nat) : Int)) :
    (convert 44 9 (.slice (some ⟨w.heap.size, 0, none⟩) 6 6)).run Try.prog (w.alloc (.cells #[.int .u8 c, .int .u8 0, .int .u8 0, .int .u8 0, .int .u8 1, .int .u8 d] 5)) = .ok (.string (txt [UInt8.ofNat (x % 256), 0, 0, 0, 1, UInt8.ofNat (y % 256)])) (w.alloc (.cells #[.int .u8 c, .int .u8 0, .int .u8 0, .int .u8 0, .int .u8 1, .int .u8 d] 5)) := by
  subst hc hd
  have h := conv_back [UInt8.ofNat (x % 256), 0, 0, 0, 1, UInt8.ofNat (y % 256)] 6 6 w rfl
  have e : u8s [UInt8.ofNat (x % 256), 0, 0, 0, 1, UInt8.ofNat (y % 256)] = #[.int .u8 ((x % 256 : Nat) : Int), .int .u8 0, .int .u8 0, .int .u8 0, .int .u8 1, .int .u8 ((y % 256 : Nat) : Int)] := by simp [u8s]
  rw [e] at h
  exact h

/-- The start: the number's bytes, one by one. -/
def RNum (w wr : World) (k num b : Nat) (L : List Value) (v4 v5 v6 : Value) : Prop :=
  k ≤ b ∧ v6 = .int .i64 (k : Int) ∧ v4 = .string (txt (be k num)) ∧ v5 = .int .u64 ((num / 256 ^ k : Nat) : Int) ∧ blk wr w.heap.size 30 L ∧ Below w.heap.size w wr

theorem rwrite_bad (h : Hd) (w : World) (hm : mayF h = false) :
    Calls Try.prog 10 #[h.v] w fun e w' => e = .returned (.tuple #[.string ⟨#[]⟩, .int .i64 2]) ∧ Below w.heap.size w w' := by
  have HM := fun w => rMay_any h w
  rw [hm] at HM
  unfold Hd.v at HM ⊢
  go_enter Try.func10, Try.ntmps10
  go_wp2_with fail
  refine (HM _).mono ?_
  rintro e w1 ⟨rfl, b1⟩
  obtain ⟨B1, _⟩ := box_below (L := [_, _, _, _, _, _, _]) b1
  have HB := Lib.hid B1
  clear b1 B1
  go_wp2_with fail
  go_ret2
  exact ⟨rfl, HB.out⟩

set_option maxRecDepth 100000 in
set_option maxHeartbeats 4000000 in
theorem rwrite_short (dst src : List UInt8) (num b : Nat) (size : Int) (spin : Bool) (w : World) (hm : mayF ⟨3, dst, src, num, (b : Int), size, spin⟩ = true) :
    Calls Try.prog 10 #[(Hd.mk 3 dst src num (b : Int) size spin).v] w fun e w' => e = .returned (.tuple #[.string (txt (bytesF ⟨3, dst, src, num, (b : Int), size, spin⟩)), .int .i64 0]) ∧ Below w.heap.size w w' := by
  obtain ⟨m1, m2, m3, m4, m5, m6, m7, m8, m9, m10⟩ := may_facts _ hm
  simp only at m2 m3 m4 m5 m6 m7 m8
  have hmay := fun w => rMay_any ⟨3, dst, src, num, (b : Int), size, spin⟩ w
  rw [hm] at hmay
  have hds := txt_size dst
  obtain ⟨x, hx⟩ : ∃ x, (64 + (if spin then 32 else 0) + (b - 1)) = x := ⟨_, rfl⟩
  have hx8 : x < 256 := by rw [← hx]; split <;> omega
  have hf : bytesF ⟨3, dst, src, num, (b : Int), size, spin⟩ = [UInt8.ofNat (x % 256)] ++ dst ++ be b num := by
    unfold bytesF
    have e2 : ((b : Int) - 1).toNat = b - 1 := by omega
    simp only [e2, if_true, Int.toNat_natCast, hx, Nat.mod_eq_of_lt hx8]
    simp
  have hcv := fun w => conv_one x (x : Int) w (by rw [Nat.mod_eq_of_lt hx8])
  have hr : txt [UInt8.ofNat (x % 256)] ++ txt dst ++ txt (be b num) = txt (bytesF ⟨3, dst, src, num, (b : Int), size, spin⟩) := by rw [txt_append, txt_append, hf]
  have hq : (txt [UInt8.ofNat (x % 256)]).size = 1 := rfl
  have hq2 : (txt [UInt8.ofNat (x % 256)] ++ txt dst).size = 1 + dst.length := by rw [txt_append, txt_size]; simp; omega
  have HM := Lib.hid hmay
  unfold Hd.v at HM ⊢
  simp only at HM ⊢
  generalize txt (bytesF _) = r at *
  generalize txt [UInt8.ofNat (x % 256)] = q at *
  generalize txt dst = ds at *
  generalize txt src = ss at *
  generalize dst.length = dl at *
  have Hr := Lib.hid hr
  have hxi : (spin = true → 64 + (b : Int) - 1 + 32 = (x : Int)) ∧ (spin = false → 64 + (b : Int) - 1 = (x : Int)) := by
    constructor <;> rintro rfl <;> simp at hx <;> omega
  have HXI := Lib.hid hxi
  have hb1 : 1 ≤ b := by omega
  have hb4 : b ≤ 4 := by omega
  clear hr hm hmay hf m1 m5 m6 m7 m8 m9 m10 m3 hx hxi
  go_enter Try.func10, Try.ntmps10
  go_wp2_with fail
  refine (HM.out _).mono ?_
  rintro e w1 ⟨rfl, b1⟩
  obtain ⟨B1, G1⟩ := box_below (L := [_, _, _, _, _, _, _]) b1
  obtain ⟨c0, c1, c2, c3, c4, c5, c6⟩ := hd_cells G1
  have HB1 := Lib.hid B1
  have HG1 := Lib.hid G1
  clear b1 B1 G1
  go_wp2_with fail
  go_loopw [4, 5, 6] (fun v4 v5 v6 wr => ∃ k, RNum w wr k num b [.int .i64 3, .string ds, .string ss, .int .u64 (num : Int), .int .i64 (b : Int), .int .i64 size, .bool spin] v4 v5 v6) (fun _ _ i _ => b - (intOf i).toNat)
  case atStart => exact ⟨0, by omega, rfl, rfl, by simp, HG1.out, HB1.out⟩
  case round =>
    obtain ⟨k, hk, rfl, rfl, rfl, hg, hbw⟩ := hrel
    obtain ⟨m, hmm⟩ : ∃ m, num / 256 ^ k = m := ⟨_, rfl⟩
    have hmn : m ≤ num := by rw [← hmm]; exact Nat.div_le_self _ _
    rw [hmm]
    obtain ⟨y0, y1, y2, y3, y4, y5, y6⟩ := hd_cells hg
    have hlt0 := hg.lt
    have HG := Lib.hid hg
    have HBW := Lib.hid hbw
    have Hm := Lib.hid hmm
    clear hg hbw hmm c0 c1 c2 c3 c4 c5 c6
    have hbl : (txt (be k num)).size = k := by rw [txt_size, be_length]
    by_cases hlt : k < b
    · obtain ⟨y, hy⟩ : ∃ y, m % 256 = y := ⟨_, rfl⟩
      obtain ⟨m2', hm2⟩ : ∃ m2', m / 256 = m2' := ⟨_, rfl⟩
      have r1 : ((m : Int)).tmod 256 = (y : Int) := by rw [Int.tmod_eq_emod_of_nonneg (by omega), ← hy]; omega
      have r2 : ((m : Int)).tdiv 256 = (m2' : Int) := by rw [Int.tdiv_eq_ediv_of_nonneg (by omega), ← hm2]; omega
      have r3 : (m : Int) / 256 = (m2' : Int) := by omega
      have r4 : (m : Int) % 256 = (y : Int) := by omega
      have hy8 : y < 256 := by omega
      have hcy := fun w => conv_one y (y : Int) w (by rw [Nat.mod_eq_of_lt hy8])
      have hap : txt [UInt8.ofNat (y % 256)] ++ txt (be k num) = txt (be (k + 1) num) := by
        rw [txt_append, be_cons, Hm.out, hy, Nat.mod_eq_of_lt hy8]
        rfl
      have hq9 : (txt [UInt8.ofNat (y % 256)]).size = 1 := rfl
      have HHm : Hid ((num / 256 ^ (k + 1) : Nat) = m2') := Lib.hid (by rw [Nat.pow_succ, ← Nat.div_div_eq_div_mul, Hm.out, hm2])
      generalize txt [UInt8.ofNat (y % 256)] = q9 at *
      generalize txt (be k num) = bk at *
      generalize hbk1 : txt (be (k + 1) num) = bk1 at *
      have HBK := Lib.hid hbk1
      clear hy hm2 hbk1
      go_wp2_with fail
      go_roundw
      case rel => exact ⟨k + 1, by omega, by go_num, by rw [HBK.out], by rw [HHm.out], HG.out.alloc _, HBW.out.alloc HBW.out.size _⟩
      case measure => simp [intOf]; omega
    · obtain rfl : k = b := by omega
      have hrr := Hr.out
      generalize txt (be k num) = ns at *
      have HR := Lib.hid hrr
      clear hrr Hr
      cases spin
      · have hx1 := HXI.out.2 rfl
        go_wp2_with fail
        go_ret2
        exact ⟨by rw [← HR.out]; rfl, HBW.out.alloc HBW.out.size _⟩
      · have hx1 := HXI.out.1 rfl
        go_wp2_with fail
        go_ret2
        exact ⟨by rw [← HR.out]; rfl, HBW.out.alloc HBW.out.size _⟩

set_option maxRecDepth 100000 in
set_option maxHeartbeats 4000000 in
theorem rwrite_long (ty : Nat) (dst src : List UInt8) (num b sz : Nat) (spin : Bool) (w : World) (ht : ty = 0 ∨ ty = 2) (hm : mayF ⟨(ty : Int), dst, src, num, (b : Int), (sz : Int), spin⟩ = true) :
    Calls Try.prog 10 #[(Hd.mk (ty : Int) dst src num (b : Int) (sz : Int) spin).v] w fun e w' => e = .returned (.tuple #[.string (txt (bytesF ⟨(ty : Int), dst, src, num, (b : Int), (sz : Int), spin⟩)), .int .i64 0]) ∧ Below w.heap.size w w' := by
  obtain ⟨m1, m2, m3, m4, m5, m6, m7, m8, m9, m10⟩ := may_facts _ hm
  simp only at m2 m3 m4 m5 m6 m7 m8
  have hmay := fun w => rMay_any ⟨(ty : Int), dst, src, num, (b : Int), (sz : Int), spin⟩ w
  rw [hm] at hmay
  have hput := fun w => rPut_any (b + sz) w
  have hp2 : (putF (b + sz)).2 = 0 := by unfold putF; rw [if_pos (by omega)]
  have hp3 := putF_len (b + sz)
  rw [hp2] at hput
  obtain ⟨x, hx⟩ : ∃ x, 192 + 16 * ty + (b - 1) = x := ⟨_, rfl⟩
  have hx8 : x < 256 := by omega
  have hf : bytesF ⟨(ty : Int), dst, src, num, (b : Int), (sz : Int), spin⟩ = [UInt8.ofNat (x % 256), 0, 0, 0, 1, UInt8.ofNat (dst.length % 256)] ++ dst ++ [UInt8.ofNat (src.length % 256)] ++ src ++ (if ty = 0 then [0] else []) ++ (putF (b + sz)).1 ++ be b num := by
    unfold bytesF
    have e1 : ¬ ((ty : Int) = 3) := by omega
    have e2 : 192 + (16 * (ty : Int) + b - 1).toNat = x := by omega
    have e3 : ((b : Int) + (sz : Int)).toNat = b + sz := by omega
    simp only [if_neg e1, e2, e3, Int.toNat_natCast, Nat.mod_eq_of_lt hx8]
    rcases ht with rfl | rfl <;> simp [textF]
  have hc6 := fun w => conv_six x dst.length (x : Int) (dst.length : Int) w (by rw [Nat.mod_eq_of_lt hx8]) (by rw [Nat.mod_eq_of_lt (by omega)])
  have hc1 := fun w => conv_one src.length (src.length : Int) w (by rw [Nat.mod_eq_of_lt (by omega)])
  have a1 := txt_append [UInt8.ofNat (x % 256), 0, 0, 0, 1, UInt8.ofNat (dst.length % 256)] dst
  have a2 := txt_append ([UInt8.ofNat (x % 256), 0, 0, 0, 1, UInt8.ofNat (dst.length % 256)] ++ dst) [UInt8.ofNat (src.length % 256)]
  have a3 := txt_append ([UInt8.ofNat (x % 256), 0, 0, 0, 1, UInt8.ofNat (dst.length % 256)] ++ dst ++ [UInt8.ofNat (src.length % 256)]) src
  have a4 : (if ty = 0 then txt ([UInt8.ofNat (x % 256), 0, 0, 0, 1, UInt8.ofNat (dst.length % 256)] ++ dst ++ [UInt8.ofNat (src.length % 256)] ++ src) ++ ⟨#[0]⟩ else txt ([UInt8.ofNat (x % 256), 0, 0, 0, 1, UInt8.ofNat (dst.length % 256)] ++ dst ++ [UInt8.ofNat (src.length % 256)] ++ src)) = txt ([UInt8.ofNat (x % 256), 0, 0, 0, 1, UInt8.ofNat (dst.length % 256)] ++ dst ++ [UInt8.ofNat (src.length % 256)] ++ src ++ (if ty = 0 then [0] else [])) := by
    rcases ht with rfl | rfl
    · rw [if_pos rfl, if_pos rfl, ← txt_append _ [0]]
      rfl
    · rw [if_neg (by omega), if_neg (by omega), List.append_nil]
  have a5 := txt_append ([UInt8.ofNat (x % 256), 0, 0, 0, 1, UInt8.ofNat (dst.length % 256)] ++ dst ++ [UInt8.ofNat (src.length % 256)] ++ src ++ (if ty = 0 then [0] else [])) (putF (b + sz)).1
  have a6 := txt_append ([UInt8.ofNat (x % 256), 0, 0, 0, 1, UInt8.ofNat (dst.length % 256)] ++ dst ++ [UInt8.ofNat (src.length % 256)] ++ src ++ (if ty = 0 then [0] else []) ++ (putF (b + sz)).1) (be b num)
  rw [← hf] at a6
  have z0 : (txt [UInt8.ofNat (x % 256), 0, 0, 0, 1, UInt8.ofNat (dst.length % 256)]).size = 6 := rfl
  have z1 : (txt ([UInt8.ofNat (x % 256), 0, 0, 0, 1, UInt8.ofNat (dst.length % 256)] ++ dst)).size ≤ 100 := by rw [txt_size]; simp; omega
  have z2 : (txt ([UInt8.ofNat (x % 256), 0, 0, 0, 1, UInt8.ofNat (dst.length % 256)] ++ dst ++ [UInt8.ofNat (src.length % 256)])).size ≤ 100 := by rw [txt_size]; simp; omega
  have z3 : (txt ([UInt8.ofNat (x % 256), 0, 0, 0, 1, UInt8.ofNat (dst.length % 256)] ++ dst ++ [UInt8.ofNat (src.length % 256)] ++ src)).size ≤ 100 := by rw [txt_size]; simp; omega
  have z4 : (txt ([UInt8.ofNat (x % 256), 0, 0, 0, 1, UInt8.ofNat (dst.length % 256)] ++ dst ++ [UInt8.ofNat (src.length % 256)] ++ src ++ (if ty = 0 then [0] else []))).size ≤ 100 := by rw [txt_size]; rcases ht with rfl | rfl <;> simp <;> omega
  have z5 : (txt ([UInt8.ofNat (x % 256), 0, 0, 0, 1, UInt8.ofNat (dst.length % 256)] ++ dst ++ [UInt8.ofNat (src.length % 256)] ++ src ++ (if ty = 0 then [0] else []) ++ (putF (b + sz)).1)).size ≤ 200 := by rw [txt_size]; rcases ht with rfl | rfl <;> simp <;> omega
  have s1 : (txt [UInt8.ofNat (src.length % 256)]).size = 1 := rfl
  have zp : (txt (putF (b + sz)).1).size ≤ 100 := by rw [txt_size]; omega
  have hds := txt_size dst
  have hss := txt_size src
  have HM := Lib.hid hmay
  unfold Hd.v at HM ⊢
  simp only at HM ⊢
  generalize bytesF _ = res at *
  generalize txt res = r at *
  generalize txt ([UInt8.ofNat (x % 256), 0, 0, 0, 1, UInt8.ofNat (dst.length % 256)] ++ dst ++ [UInt8.ofNat (src.length % 256)] ++ src ++ (if ty = 0 then [0] else []) ++ (putF (b + sz)).1) = q5 at *
  generalize txt ([UInt8.ofNat (x % 256), 0, 0, 0, 1, UInt8.ofNat (dst.length % 256)] ++ dst ++ [UInt8.ofNat (src.length % 256)] ++ src ++ (if ty = 0 then [0] else [])) = q4 at *
  generalize txt ([UInt8.ofNat (x % 256), 0, 0, 0, 1, UInt8.ofNat (dst.length % 256)] ++ dst ++ [UInt8.ofNat (src.length % 256)] ++ src) = q3 at *
  generalize txt ([UInt8.ofNat (x % 256), 0, 0, 0, 1, UInt8.ofNat (dst.length % 256)] ++ dst ++ [UInt8.ofNat (src.length % 256)]) = q2 at *
  generalize txt ([UInt8.ofNat (x % 256), 0, 0, 0, 1, UInt8.ofNat (dst.length % 256)] ++ dst) = q1 at *
  generalize txt [UInt8.ofNat (x % 256), 0, 0, 0, 1, UInt8.ofNat (dst.length % 256)] = q0 at *
  generalize txt [UInt8.ofNat (src.length % 256)] = p1 at *
  generalize txt (putF (b + sz)).1 = ps at *
  generalize txt dst = ds at *
  generalize txt src = ss at *
  generalize dst.length = dl at *
  generalize src.length = sl at *
  have hxi : 192 + 16 * (ty : Int) + (b : Int) - 1 = (x : Int) := by omega
  have hputs : Hid (∀ w, Calls Try.prog 20 #[.int .u64 ((b : Int) + (sz : Int))] w fun e w' => e = .returned (.tuple #[.string ps, .int .i64 0]) ∧ Below w.heap.size w w') := Lib.hid hput
  have hty3 : ((ty : Int) == 3) = false := by rw [beq_eq_false_iff_ne]; omega
  have HXI := Lib.hid hxi
  have HA := Lib.hid (And.intro hc6 (And.intro hc1 (And.intro a1 (And.intro a2 (And.intro a3 (And.intro a4 (And.intro a5 a6)))))))
  have HZ := Lib.hid (And.intro z0 (And.intro z1 (And.intro z2 (And.intro z3 (And.intro z4 (And.intro z5 (And.intro s1 (And.intro zp (And.intro hds hss)))))))))
  have hb1 : 1 ≤ b := by omega
  have hb4 : b ≤ 4 := by omega
  have hszb : sz ≤ 16384 := by omega
  have htb : ty ≤ 2 := by omega
  clear hm hmay hf m1 m5 m6 m7 m8 m9 m10 hxi hx hx8 hput hp2 hp3 hc6 hc1 a1 a2 a3 a4 a5 a6 z0 z1 z2 z3 z4 z5 s1 zp hds hss
  go_enter Try.func10, Try.ntmps10
  go_wp2_with fail
  refine (HM.out _).mono ?_
  rintro e w1 ⟨rfl, b1⟩
  obtain ⟨B1, G1⟩ := box_below (L := [_, _, _, _, _, _, _]) b1
  obtain ⟨c0, c1, c2, c3, c4, c5, c6⟩ := hd_cells G1
  have HB1 := Lib.hid B1
  have HG1 := Lib.hid G1
  clear b1 B1 G1
  go_wp2_with fail
  go_loopw [4, 5, 6] (fun v4 v5 v6 wr => ∃ k, RNum w wr k num b [.int .i64 (ty : Int), .string ds, .string ss, .int .u64 (num : Int), .int .i64 (b : Int), .int .i64 (sz : Int), .bool spin] v4 v5 v6) (fun _ _ i _ => b - (intOf i).toNat)
  case atStart => exact ⟨0, by omega, rfl, rfl, by simp, HG1.out, HB1.out⟩
  case round =>
    obtain ⟨k, hk, rfl, rfl, rfl, hg, hbw⟩ := hrel
    obtain ⟨m, hmm⟩ : ∃ m, num / 256 ^ k = m := ⟨_, rfl⟩
    have hmn : m ≤ num := by rw [← hmm]; exact Nat.div_le_self _ _
    rw [hmm]
    obtain ⟨y0, y1, y2, y3, y4, y5, y6⟩ := hd_cells hg
    have hlt0 := hg.lt
    have HG := Lib.hid hg
    have HBW := Lib.hid hbw
    have Hm := Lib.hid hmm
    clear hg hbw hmm c0 c1 c2 c3 c4 c5 c6
    have hbl : (txt (be k num)).size = k := by rw [txt_size, be_length]
    by_cases hlt : k < b
    · obtain ⟨y, hy⟩ : ∃ y, m % 256 = y := ⟨_, rfl⟩
      obtain ⟨m2', hm2⟩ : ∃ m2', m / 256 = m2' := ⟨_, rfl⟩
      have r1 : ((m : Int)).tmod 256 = (y : Int) := by rw [Int.tmod_eq_emod_of_nonneg (by omega), ← hy]; omega
      have r2 : ((m : Int)).tdiv 256 = (m2' : Int) := by rw [Int.tdiv_eq_ediv_of_nonneg (by omega), ← hm2]; omega
      have r3 : (m : Int) / 256 = (m2' : Int) := by omega
      have r4 : (m : Int) % 256 = (y : Int) := by omega
      have hy8 : y < 256 := by omega
      have hcy := fun w => conv_one y (y : Int) w (by rw [Nat.mod_eq_of_lt hy8])
      have hap : txt [UInt8.ofNat (y % 256)] ++ txt (be k num) = txt (be (k + 1) num) := by
        rw [txt_append, be_cons, Hm.out, hy, Nat.mod_eq_of_lt hy8]
        rfl
      have hq9 : (txt [UInt8.ofNat (y % 256)]).size = 1 := rfl
      have HHm : Hid ((num / 256 ^ (k + 1) : Nat) = m2') := Lib.hid (by rw [Nat.pow_succ, ← Nat.div_div_eq_div_mul, Hm.out, hm2])
      generalize txt [UInt8.ofNat (y % 256)] = q9 at *
      generalize txt (be k num) = bk at *
      generalize hbk1 : txt (be (k + 1) num) = bk1 at *
      have HBK := Lib.hid hbk1
      clear hy hm2 hbk1
      go_wp2_with fail
      go_roundw
      case rel => exact ⟨k + 1, by omega, by go_num, by rw [HBK.out], by rw [HHm.out], HG.out.alloc _, HBW.out.alloc HBW.out.size _⟩
      case measure => simp [intOf]; omega
    · obtain rfl : k = b := by omega
      obtain ⟨hc6, hc1, a1, a2, a3, a4, a5, a6⟩ := HA.out
      obtain ⟨z0, z1, z2, z3, z4, z5, s1, zp, hds, hss⟩ := HZ.out
      have hnz : (txt (be k num)).size ≤ 100 := by omega
      have hxi := HXI.out
      generalize txt (be k num) = ns at *
      have HR := Lib.hid a6
      clear a6 HA HZ HXI
      go_wp2_with fail
      refine (hputs.out _).mono ?_
      rintro e w3 ⟨rfl, bb⟩
      have hg3 := HG.out.below bb HG.out.lt
      obtain ⟨c0, c1, c2, c3, c4, c5, c6⟩ := hd_cells hg3
      have B3 := Lib.hid (HBW.out.trans (bb.mono HBW.out.size))
      have hlt3 := hg3.lt
      have hc7 := hc1 (w3.alloc (.cells #[.int .u8 (x : Int), .int .u8 0, .int .u8 0, .int .u8 0, .int .u8 1, .int .u8 (dl : Int)] 5))
      rw [show (w3.alloc (.cells #[.int .u8 (x : Int), .int .u8 0, .int .u8 0, .int .u8 0, .int .u8 1, .int .u8 (dl : Int)] 5)).heap.size = w3.heap.size + 1 by simp] at hc7
      have hc6' := hc6 w3
      clear hc1 hc6
      clear bb hg3 y0 y1 y2 y3 y4 y5 y6 HG HBW
      rcases ht with rfl | rfl
      · rw [if_pos rfl] at a4
        have hxk : 192 + (k : Int) - 1 = (x : Int) := by omega
        clear hxi
        go_wp2_with fail
        go_ret2
        exact ⟨by rw [← HR.out]; rfl, (B3.out.alloc B3.out.size _).alloc (by simp; have := B3.out.size; omega) _⟩
      · rw [if_neg (by omega)] at a4
        subst a4
        have hxk : 224 + (k : Int) - 1 = (x : Int) := by omega
        clear hxi
        go_wp2_with fail
        go_ret2
        exact ⟨by rw [← HR.out]; rfl, (B3.out.alloc B3.out.size _).alloc (by simp; have := B3.out.size; omega) _⟩

theorem rWrite_any (h : Hd) (w : World) : Calls Try.prog 10 #[h.v] w fun e w' => e = .returned (.tuple #[.string (txt (writeF h).1), .int .i64 (writeF h).2]) ∧ Below w.heap.size w w' := by
  unfold writeF
  cases hm : mayF h
  · exact rwrite_bad h w hm
  · obtain ⟨m1, m2, m3, m4, m5, m6, m7, m8, m9, m10⟩ := may_facts h hm
    obtain ⟨ty, dst, src, num, bytes, size, spin⟩ := h
    simp only at *
    obtain ⟨b, rfl⟩ := Int.eq_ofNat_of_zero_le (show 0 ≤ bytes by omega)
    obtain ⟨z, rfl⟩ := Int.eq_ofNat_of_zero_le m7
    by_cases h3 : ty = 3
    · subst h3
      exact rwrite_short dst src num b _ spin w hm
    · have h4 : ty = ((ty.toNat : Nat) : Int) ∧ (ty.toNat = 0 ∨ ty.toNat = 2) := by omega
      rw [h4.1] at hm ⊢
      exact rwrite_long ty.toNat dst src num b z spin w h4.2 hm

end Go.Proofs.Ytngnfijpfghodaa
