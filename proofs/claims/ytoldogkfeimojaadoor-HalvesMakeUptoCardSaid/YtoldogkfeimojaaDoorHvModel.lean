/- Plain model of the layers store, log, journal and halves: what both the program and the document's answer compute; no condition. -/
set_option linter.unusedVariables false
set_option linter.unusedSimpArgs false
namespace Go.Proofs.Hv

abbrev Bytes := List UInt8

/-! the log -/
def crcBit (n : Nat) : Nat := if n % 2 = 1 then (n / 2) ^^^ 3988292384 else n / 2
def crcByte (n : Nat) (c : UInt8) : Nat := Nat.repeat crcBit 8 (n ^^^ c.toNat)
def crc (l : Bytes) : Nat := 4294967295 - l.foldl crcByte 4294967295
def byteAt (n k : Nat) : UInt8 := UInt8.ofNat (n / 2 ^ (8 * k))
def frameOf (r : Bytes) : Bytes :=
  1 :: byteAt r.length 1 :: byteAt r.length 0 :: byteAt (crc r) 3 :: byteAt (crc r) 2 :: byteAt (crc r) 1 :: byteAt (crc r) 0 :: (r ++ [1])
def okRec (r : Bytes) : Bool := decide (1 ≤ r.length) && decide (r.length ≤ 400)
def sizeAt (s : Bytes) : Nat := 256 * (s.getD 1 0).toNat + (s.getD 2 0).toNat
/-- the record whose frame stands at the head -/
def one (s : Bytes) : Option Bytes :=
  if 9 ≤ s.length ∧ 1 ≤ sizeAt s ∧ sizeAt s ≤ 400 ∧ sizeAt s + 8 ≤ s.length ∧ s.take (sizeAt s + 8) = frameOf ((s.drop 7).take (sizeAt s)) then some ((s.drop 7).take (sizeAt s)) else none
def scanF : Nat → Bytes → List Bytes × Nat
  | 0, _ => ([], 0)
  | f + 1, s => match one s with
    | none => ([], 0)
    | some r => let p := scanF f (s.drop (r.length + 8)); (r :: p.1, r.length + 8 + p.2)
def scan (s : Bytes) : List Bytes × Nat := scanF s.length s

/-! the store -/
structure Sto where
  blocks : List Bytes
  fuse : Int
  pre : Nat
  down : Bool
  deriving DecidableEq

def zeros (n : Nat) : Bytes := List.replicate n 0
def newSto (n : Nat) : Sto := ⟨List.replicate n (zeros 32), -1, 0, false⟩
def Sto.blk (s : Sto) (i : Nat) : Bytes := s.blocks.getD i []
def write (s : Sto) (i : Int) (d : Bytes) : Int × Sto :=
  if s.down then (16, s)
  else if i < 0 ∨ (s.blocks.length : Int) ≤ i then (3, s)
  else if d.length ≠ 32 then (1, s)
  else if s.fuse = 0 then (16, ⟨s.blocks.set i.toNat (d.take s.pre ++ (s.blk i.toNat).drop s.pre), -1, s.pre, true⟩)
  else (0, ⟨s.blocks.set i.toNat d, max (s.fuse - 1) (-1), s.pre, false⟩)
def setFuse (s : Sto) (w p : Int) : Sto := ⟨s.blocks, max w (-1), (max p 0).toNat % 33, s.down⟩
def up (s : Sto) : Sto := ⟨s.blocks, -1, s.pre, false⟩
def Sto.bytes (s : Sto) : Bytes := s.blocks.flatten

/-! the journal -/
def isPart (s : Sto) (from_ n : Int) : Bool := decide (0 ≤ from_) && decide (1 ≤ n) && decide (from_ < s.blocks.length) && decide (n ≤ s.blocks.length - from_)
def partBytes (s : Sto) (from_ n : Nat) : Bytes := ((s.blocks.drop from_).take n).flatten
def blkOf (x : Bytes) (i : Nat) : Bytes := (x.drop (32 * i)).take 32
/-- the blocks from i on, below a place, are written, where they are unlike or must be -/
def putF (from_ : Nat) (x : Bytes) (to : Nat) (must : Bool) : Nat → Nat → Sto → Int × Sto
  | 0, _, s => (0, s)
  | f + 1, i, s =>
    if 32 * i < to then
      if must = false ∧ blkOf x i = s.blk (from_ + i) then putF from_ x to must f (i + 1) s
      else
        let p := write s (from_ + i : Nat) (blkOf x i)
        if p.1 = 0 then putF from_ x to must f (i + 1) p.2 else p
    else (0, s)
def put (from_ : Nat) (x : Bytes) (lo to : Nat) (must : Bool) (s : Sto) : Int × Sto := putF from_ x to must (to + 1) (lo / 32) s
def cleared (x : Bytes) (at_ : Nat) : Bytes := x.take at_ ++ zeros (x.length - at_)
/-- a part is opened: error, records, their end; the store -/
def part (from_ n : Nat) (s : Sto) : (Int × List Bytes × Nat) × Sto :=
  let x := partBytes s from_ n
  let sc := scan x
  let p := put from_ (cleared x sc.2) sc.2 (32 * n) false s
  if p.1 = 0 then ((0, sc.1, sc.2), p.2) else ((p.1, [], 0), p.2)
def look (from_ n : Nat) (s : Sto) : List Bytes := (scan (partBytes s from_ n)).1
structure Jr where
  from_ : Nat
  n : Nat
  fin : Nat
  down : Bool
  deriving DecidableEq
def Jr.room (j : Jr) : Int := 32 * (j.n : Int) - (j.fin : Int)
def appendJ (j : Jr) (r : Bytes) (s : Sto) : Int × Jr × Sto :=
  if okRec r = false then (3, j, s)
  else if j.room < (r.length + 8 : Nat) then (14, j, s)
  else if j.down then (16, j, s)
  else
    let x := partBytes s j.from_ j.n
    let to := j.fin + (r.length + 8)
    let p := put j.from_ (x.take j.fin ++ frameOf r ++ zeros (32 * j.n - to)) j.fin to true s
    if p.1 = 0 then (0, { j with fin := to }, p.2) else (p.1, { j with down := true }, p.2)

/-! the halves -/
def digitsF : Nat → Nat → Bytes
  | 0, _ => []
  | f + 1, n => if n < 10 then [UInt8.ofNat (48 + n)] else digitsF f (n / 10) ++ [UInt8.ofNat (48 + n % 10)]
def digits (n : Nat) : Bytes := digitsF 20 n
def isDigit (c : UInt8) : Bool := decide (48 ≤ c.toNat) && decide (c.toNat ≤ 57)
def num (l : Bytes) : Nat := l.foldl (fun n c => 10 * n + (c.toNat - 48)) 0
def age (s : Bytes) : Nat :=
  if s.take 2 = [103, 32] ∧ 3 ≤ s.length ∧ s.length ≤ 20 ∧ s.getD 2 0 ≠ 48 ∧ (s.drop 2).all isDigit = true then num (s.drop 2) else 0
def live : Bytes := [108, 105, 118, 101]
def begins (s p : Bytes) : Bool := s.take p.length == p
def takeTail : List Bytes → Option (List Bytes)
  | [] => some []
  | r :: l => if begins r [116, 32] then (takeTail l).map ((r.drop 2) :: ·) else none
def takeSnap : List Bytes → Option (List Bytes × List Bytes)
  | [] => none
  | r :: l => if begins r [115, 32] then (takeSnap l).map fun p => ((r.drop 2) :: p.1, p.2)
    else if r = live then (takeTail l).map fun t => ([], t) else none
/-- age (0: none), snapshot, tail of a half's records -/
def readHalf (l : List Bytes) : Nat × List Bytes × List Bytes :=
  match l with
  | [] => (0, [], [])
  | r :: l => if age r = 0 then (0, [], []) else match takeSnap l with
    | some p => (age r, p.1, p.2)
    | none => (0, [], [])
/-- the half is cleared -/
def wipeF : Nat → Nat → Sto → Int × Sto
  | 0, _, s => (0, s)
  | f + 1, i, s => if s.blk i = zeros 32 then wipeF f (i + 1) s else
    let p := write s i (zeros 32)
    if p.1 = 0 then wipeF f (i + 1) p.2 else p
def appendAll : List Bytes → Jr → Sto → Int × Jr × Sto
  | [], j, s => (0, j, s)
  | r :: l, j, s => let p := appendJ j r s; if p.1 = 0 then appendAll l p.2.1 p.2.2 else p
def fresh (k : Nat) (l : List Bytes) (s : Sto) : (Int × Option Jr) × Sto :=
  let n := s.blocks.length / 2
  let p := wipeF n (k * n) s
  if p.1 = 0 then
    let q := part (k * n) n p.2
    if q.1.1 = 0 then
      let a := appendAll l ⟨k * n, n, q.1.2.2, false⟩ q.2
      ((a.1, some a.2.1), a.2.2)
    else ((q.1.1, none), q.2)
  else ((p.1, none), p.2)
structure Hs where
  use : Nat
  age : Nat
  snap : List Bytes
  tail : List Bytes
  j : Jr
  down : Bool
  deriving DecidableEq
def pre2 (a b : UInt8) (l : Bytes) : Bytes := a :: b :: l
def openH (s : Sto) : (Int × Option Hs) × Sto :=
  if s.blocks.length < 4 then ((1, none), s)
  else
    let n := s.blocks.length / 2
    let a := readHalf (look 0 n s)
    let b := readHalf (look n n s)
    let u := if a.1 < b.1 then 1 else 0
    let m := if a.1 < b.1 then b else a
    if m.1 = 0 then
      let p := fresh 0 [[103, 32, 49], live] s
      if p.1.1 = 0 then ((0, p.1.2.map fun j => ⟨0, 1, [], [], j, false⟩), p.2) else ((p.1.1, none), p.2)
    else
      let q := part (u * n) n s
      if q.1.1 = 0 then ((0, some ⟨u, m.1, m.2.1, m.2.2, ⟨u * n, n, q.1.2.2, false⟩, false⟩), q.2) else ((q.1.1, none), q.2)
def appendH (h : Hs) (r : Bytes) (s : Sto) : Int × Hs × Sto :=
  if 398 < r.length then (3, h, s)
  else if h.down then (16, h, s)
  else
    let p := appendJ h.j (pre2 116 32 r) s
    (p.1, { h with j := p.2.1, tail := if p.1 = 0 then h.tail ++ [r] else h.tail, down := p.1 == 16 }, p.2.2)
def tooLong (l : List Bytes) : Bool := l.any fun r => decide (398 < r.length)
def compactH (h : Hs) (l : List Bytes) (s : Sto) : Int × Hs × Sto :=
  if tooLong l then (3, h, s)
  else if 999999999999999999 ≤ h.age then (4, h, s)
  else if h.down then (16, h, s)
  else
    let p := fresh (1 - h.use) (pre2 103 32 (digits (h.age + 1)) :: (l.map (pre2 115 32) ++ [live])) s
    if p.1.1 = 0 then
      (0, (match p.1.2 with | some j => ⟨1 - h.use, h.age + 1, l, [], j, false⟩ | none => h), p.2)
    else (p.1.1, { h with down := p.1.1 == 16 }, p.2)
end Go.Proofs.Hv
