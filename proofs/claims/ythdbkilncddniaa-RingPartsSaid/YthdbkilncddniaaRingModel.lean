/- The plain functions that layer 6's code computes: nets as lists of lists of integers. -/
set_option linter.unusedVariables false
set_option linter.unusedSimpArgs false
namespace RingM

abbrev Net := List (List Int)

def has (n : Net) (k : Int) : Bool := decide (0 ≤ k) && decide (k < n.length)
/-- the waysN of a point, those alone that lead to a point -/
def waysI (n : Net) (i : Nat) : List Int := (n.getD i []).filter (has n)
def waysN (n : Net) (i : Nat) : List Nat := (waysI n i).map Int.toNat

/-! Rings -/
structure St where
  met : Nat
  idx : List Nat
  low : List Nat
  opn : List Bool
  stk : List Nat
  out : List (List Nat)

def St.enter (s : St) (v : Nat) : St :=
  { s with met := s.met + 1, idx := s.idx.set v (s.met + 1), low := s.low.set v (s.met + 1), opn := s.opn.set v true, stk := s.stk ++ [v] }
def St.lower (s : St) (v x : Nat) : St := { s with low := s.low.set v (min (s.low.getD v 0) x) }
def unopen (o : List Bool) (r : List Nat) : List Bool := r.foldl (fun o k => o.set k false) o
def insertN (x : Nat) : List Nat → List Nat
  | [] => [x]
  | y :: r => if x ≤ y then x :: y :: r else y :: insertN x r
def sortN : List Nat → List Nat
  | [] => []
  | x :: r => insertN x (sortN r)
def St.close (s : St) (v : Nat) : St :=
  if s.low.getD v 0 ≠ s.idx.getD v 0 then s else
    { s with opn := unopen s.opn (s.stk.drop (s.stk.idxOf v)), stk := s.stk.take (s.stk.idxOf v), out := s.out ++ [sortN (s.stk.drop (s.stk.idxOf v))] }
def each (vis : Nat → St → Option St) (v : Nat) : List Nat → St → Option St
  | [], s => some s
  | k :: r, s =>
    if s.idx.getD k 0 = 0 then (vis k s).bind fun s' => each vis v r (s'.lower v (s'.low.getD k 0))
    else if s.opn.getD k false = true then each vis v r (s.lower v (s.idx.getD k 0))
    else each vis v r s
def visit (n : Net) : Nat → Nat → St → Option St
  | 0, _, _ => none
  | f + 1, v, s => (each (visit n f) v (waysN n v) (s.enter v)).map fun s' => s'.close v
def visits (n : Net) (f : Nat) : List Nat → St → Option St
  | [], s => some s
  | v :: r, s => if s.idx.getD v 0 = 0 then (visit n f v s).bind (visits n f r) else visits n f r s
def start (n : Net) : St := ⟨0, List.replicate n.length 0, List.replicate n.length 0, List.replicate n.length false, [], []⟩
def ringsRaw (n : Net) (f : Nat) : Option (List (List Nat)) := (visits n f (List.range n.length) (start n)).map St.out
def insertL (x : List Nat) : List (List Nat) → List (List Nat)
  | [] => [x]
  | y :: r => if x.headD 0 ≤ y.headD 0 then x :: y :: r else y :: insertL x r
def sortL : List (List Nat) → List (List Nat)
  | [] => []
  | x :: r => insertL x (sortL r)
def rings (n : Net) : List (List Nat) := sortL ((ringsRaw n (n.length + 1)).getD [])

/-! Reach -/
def reachLoop (n : Net) : Nat → List Bool → List Nat → Option (List Bool)
  | 0, _, _ => none
  | f + 1, seen, todo =>
    match todo.getLast? with
    | none => some seen
    | some v => if seen.getD v false = true then reachLoop n f seen todo.dropLast else reachLoop n f (seen.set v true) (todo.dropLast ++ waysN n v)
def trues (l : List Bool) : List Nat := (List.range l.length).filter fun i => l.getD i false
def reachFuel (n : Net) : Nat := (n.map List.length).sum + (n.map List.length).sum + 2
def reach (n : Net) (v : Int) : List Nat :=
  if has n v then trues ((reachLoop n (reachFuel n) (List.replicate n.length false) (waysN n v.toNat)).getD []) else []
def loops (n : Net) (v : Int) : Bool := (reach n v).any fun k => (k : Int) == v

/-! Turn -/
def turnRow (v : Nat) : List Nat → Net → Net
  | [], out => out
  | k :: r, out => if (out.getD k []).contains (v : Int) then turnRow v r out else turnRow v r (out.set k (out.getD k [] ++ [(v : Int)]))
def turnAll (n : Net) : List Nat → Net → Net
  | [], out => out
  | v :: r, out => turnAll n r (turnRow v (waysN n v) out)
def turn (n : Net) : Net := turnAll n (List.range n.length) (List.replicate n.length [])

/-! Order -/
def dec : List Int → List Int → List Int
  | [], a => a
  | k :: r, a => dec r (a.set k.toNat (a.getD k.toNat 0 - 1))
def orderLoop (forth : Net) : Nat → List Int → List Nat → Option (List Nat)
  | 0, _, l => some l
  | m + 1, ahead, l =>
    if ahead.idxOf 0 < ahead.length then orderLoop forth m (dec (forth.getD (ahead.idxOf 0) []) (ahead.set (ahead.idxOf 0) (-1))) (l ++ [ahead.idxOf 0])
    else none
/-- the points in order, and the error's number -/
def order (n : Net) : List Nat × Int :=
  match orderLoop (turn (turn n)) n.length ((turn n).map fun r => (r.length : Int)) [] with
  | none => ([], 7)
  | some l => if n.length > 200 then ([], 4) else (l, 0)

/-! Longest -/
def longRow (v : Nat) : List Nat → List Nat × Nat → List Nat × Nat
  | [], s => s
  | k :: r, (long, most) => longRow v r (long.set k (max (long.getD k 0) (long.getD v 0 + 1)), max most ((long.set k (max (long.getD k 0) (long.getD v 0 + 1))).getD k 0))
def longAll (n : Net) : List Nat → List Nat × Nat → List Nat × Nat
  | [], s => s
  | v :: r, s => longAll n r (longRow v (waysN n v) s)
def longest (n : Net) : Nat × Int :=
  match order n with
  | (l, 0) => ((longAll n l (List.replicate n.length 0, 0)).2, 0)
  | (_, e) => (0, e)

end RingM
