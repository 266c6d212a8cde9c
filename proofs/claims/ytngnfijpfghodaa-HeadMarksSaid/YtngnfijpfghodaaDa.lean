/- head in plain words: a head, a reader, what is written, read and parted. No program in sight. -/
import Derived.Test.YtngnfijpfghodaaPl
import Derived.Test.YtngnfijpfghodaaV6
namespace Go.Proofs.Ytngnfijpfghodaa
open Go.RowKit
set_option linter.unusedVariables false

/-- A head. -/
structure Hd where
  ty : Int
  dst : List UInt8
  src : List UInt8
  num : Nat
  bytes : Int
  size : Int
  spin : Bool

def Hd.zero : Hd := ⟨0, [], [], 0, 0, 0, false⟩
def Hd.cs (h : Hd) : List Value := [.int .i64 h.ty, .string (txt h.dst), .string (txt h.src), .int .u64 (h.num : Int), .int .i64 h.bytes, .int .i64 h.size, .bool h.spin]
def Hd.v (h : Hd) : Value := .agg #[.int .i64 h.ty, .string (txt h.dst), .string (txt h.src), .int .u64 (h.num : Int), .int .i64 h.bytes, .int .i64 h.size, .bool h.spin]

def longF (ty : Int) : Bool := decide (ty = 0) || decide (ty = 2)
def mayF (h : Hd) : Bool :=
  (longF h.ty || decide (h.ty = 3)) && decide (h.dst.length ≤ 20) && decide (h.src.length ≤ 20) && decide (h.num ≤ 4611686018427387903) && decide (1 ≤ h.bytes) && decide (h.bytes ≤ 4) && decide (0 ≤ h.size) && decide (h.size ≤ 16384) &&
    (if longF h.ty then !h.spin else decide (h.src.length = 0))

def textF (l : List UInt8) : List UInt8 := UInt8.ofNat (l.length % 256) :: l

/-- A head's bytes. -/
def bytesF (h : Hd) : List UInt8 :=
  if h.ty = 3 then UInt8.ofNat (64 + (if h.spin then 32 else 0) + (h.bytes - 1).toNat) :: (h.dst ++ be h.bytes.toNat h.num)
  else [UInt8.ofNat (192 + (16 * h.ty + h.bytes - 1).toNat), 0, 0, 0, 1] ++ textF h.dst ++ textF h.src ++ (if h.ty = 0 then [0] else []) ++ (putF (h.bytes + h.size).toNat).1 ++ be h.bytes.toNat h.num
def writeF (h : Hd) : List UInt8 × Int := if mayF h then (bytesF h, 0) else ([], 2)

def LongF (l : List UInt8) : Bool := match l with | [] => false | b :: _ => decide (128 ≤ b.toNat)

/-- A reader. -/
structure Rd where
  s : List UInt8
  bad : Bool

def Rd.take (r : Rd) (n : Int) : List UInt8 × Rd := if r.bad = true ∨ (r.s.length : Int) < n then ([], ⟨[], true⟩) else (r.s.take n.toNat, ⟨r.s.drop n.toNat, false⟩)
def Rd.must (r : Rd) (c : Bool) : Rd := ⟨r.s, r.bad || !c⟩
def hd0 (l : List UInt8) : Nat := match l with | [] => 0 | b :: _ => b.toNat
def Rd.one (r : Rd) : Nat × Rd := (hd0 (r.take 1).1, (r.take 1).2)
def Rd.cid (r : Rd) : List UInt8 × Rd := (r.one.2.must (decide (r.one.1 ≤ 20))).take (r.one.1 : Int)
def Rd.size (r : Rd) : Int × Rd :=
  if (r.bad || !(decide ((takeL r.s).2.2 = 0) && decide ((takeL r.s).1 ≤ 16388))) = true then (0, ⟨r.s, true⟩)
  else (((takeL r.s).1 : Int), ⟨(takeL r.s).2.1, !decide (sizeF (takeL r.s).1 = r.s.length - (takeL r.s).2.1.length)⟩)

/-- What a long head's first byte says: is it one, its type, and how many bytes the number has. -/
def okFirst (x : Nat) : Bool := decide (192 ≤ x) && decide (x / 4 % 4 = 0) && longF (x / 16 % 4 : Nat)

/-- A long head up to its number. -/
def o1 (r : Rd) : Rd := (r.one.2).must (okFirst r.one.1)
def o2 (r : Rd) : Rd := ((o1 r).take 4).2.must (decide (((o1 r).take 4).1 = [0, 0, 0, 1]))
def o5 (r : Rd) : Rd := if r.one.1 / 16 % 4 = 0 then ((o2 r).cid.2.cid.2.one.2).must (decide ((o2 r).cid.2.cid.2.one.1 = 0)) else (o2 r).cid.2.cid.2
def openF (r : Rd) : Hd × Int × Rd :=
  (⟨(r.one.1 / 16 % 4 : Nat), (o2 r).cid.1, (o2 r).cid.2.cid.1, 0, (r.one.1 % 4 + 1 : Nat), 0, false⟩, (o5 r).size.1,
    (o5 r).size.2.must (decide (((r.one.1 % 4 + 1 : Nat) : Int) ≤ (o5 r).size.1) && decide ((o5 r).size.1 ≤ ((r.one.1 % 4 + 1 : Nat) : Int) + 16384)))

/-- A packet's number, and what stands behind. -/
def endF (r : Rd) (h : Hd) (behind : Int) (c : Int) : (Hd × List UInt8 × Int) × Rd :=
  (if ((r.take h.bytes).2.take behind).2.bad = true ∨ 16384 < behind then (Hd.zero, [], 2)
  else if (tellF (r.take h.bytes).1 c).2 ≠ 0 then (Hd.zero, [], (tellF (r.take h.bytes).1 c).2)
  else ({ h with num := (tellF (r.take h.bytes).1 c).1, size := behind }, ((r.take h.bytes).2.take behind).1, 0), ((r.take h.bytes).2.take behind).2)

/-- A short head up to its number. -/
def sFirst (s : List UInt8) : Rd := ((⟨s, false⟩ : Rd).one.2).must (decide ((⟨s, false⟩ : Rd).one.1 / 64 % 2 = 1) && decide ((⟨s, false⟩ : Rd).one.1 / 8 % 4 = 0))
def shortF (s : List UInt8) (cid : Int) : Hd × Rd := (⟨3, ((sFirst s).take cid).1, [], 0, ((⟨s, false⟩ : Rd).one.1 % 4 + 1 : Nat), 0, decide ((⟨s, false⟩ : Rd).one.1 / 32 % 2 = 1)⟩, ((sFirst s).take cid).2)

def readF (s : List UInt8) (cid c : Int) : Hd × List UInt8 × Int :=
  if cid < 0 ∨ 20 < cid then (Hd.zero, [], 1)
  else if LongF s then (endF (openF ⟨s, false⟩).2.2 (openF ⟨s, false⟩).1 ((openF ⟨s, false⟩).2.1 - (openF ⟨s, false⟩).1.bytes) c).1
  else (endF (shortF s cid).2 (shortF s cid).1 (max (((shortF s cid).2.s.length : Int) - (shortF s cid).1.bytes) 0) c).1

/-- One packet off a datagram. -/
def partF (s : List UInt8) : Rd := ((openF ⟨s, false⟩).2.2.take (openF ⟨s, false⟩).2.1).2
def shortOk (s : List UInt8) : Bool := match s with | [] => false | b :: _ => decide (b.toNat / 64 % 2 = 1) && decide (b.toNat / 8 % 4 = 0)

/-- A datagram's packets. -/
def wholeF : Nat → List UInt8 → Option (List (List UInt8))
  | 0, _ => none
  | k + 1, s => if LongF s = false then (if shortOk s then some [s] else none)
    else if (partF s).bad then none
    else if (partF s).s = [] then some [s]
    else (wholeF k (partF s).s).map fun l => s.take (s.length - (partF s).s.length) :: l

end Go.Proofs.Ytngnfijpfghodaa
