/- The pure interpreter on tree values, and the small code that it runs. Conditions: none (definitions alone). The check that a small code is the real one's: Boolean, for the kernel. Conditions: none (definitions alone). How tree values and the small heap stand for the machine's values and memory. Conditions: none (definitions and small laws). What the check tells of each operation. Conditions: none. Printed by a program out of the check. Each reading operation, done by the machine as the interpreter does it. Conditions: the check; the operands stand for ours. Reading operations that look into composites and memory. Conditions: the check; the operands stand for ours. -/
import Derived.CallsIn
import Derived.RangeFuncLeaves
import Derived.RangeFuncRecord
import Derived.OrdersIn
import Derived.TacticsIn
import Derived.Below
import Derived.Laws.Cells
import Derived.Great.BuildSlice
import Derived.Laws.MakeOwn
set_option linter.unusedSimpArgs false
set_option linter.unusedVariables false
namespace Go.Proofs.YtfmbdcmjgnikiaaGreatDoor.Sm
open Go Go.RowKit

/-- Values: immutable data are trees; 'own' and 'ptr' name blocks of the small heap. -/
inductive SV where
  | undef
  | int (k : IntKind) (n : Int)
  | bool (b : Bool)
  | str (s : ByteArray)
  | tree (xs : List SV) (nl tight : Bool)
  | own (id off len sz : Nat)
  | ptr (id off : Nat)
  | tptr (cs : List SV) (off : Nat)
  | fn (f : Nat) (pre caps : List SV)
  | yld (l : Nat)
  | agg (cs : List SV)
  | tup (vs : List SV)
  deriving Inhabited

inductive Arg where
  | t (n : Nat)
  | c (v : SV)
  | g (i : Nat)

/-- Operations that read alone, or lay one new block. -/
inductive ROp where
  | mov (x : Arg)
  | pick (c a b : Arg)
  | bin (op : BinOp) (x y : Arg)
  | eqb (neg : Bool) (x y : Arg)
  | eqn (neg : Bool) (x y : Arg)
  | eqa (neg : Bool) (n : Nat) (x y : Arg)
  | eqs (neg : Bool) (x y : Arg)
  | not (x : Arg)
  | neg (x : Arg)
  | conv (k : IntKind) (x : Arg)
  | len (x : Arg)
  | lenS (x : Arg)
  | lenA (n : Nat)
  | cap (x : Arg)
  | mn (x y : Arg)
  | mx (x y : Arg)
  | field (off sz : Nat) (ag : Bool) (x : Arg)
  | index (n sz : Nat) (ag : Bool) (x i : Arg)
  | indexS (x i : Arg)
  | faddr (off : Nat) (x : Arg)
  | iaddr (sz : Nat) (x i : Arg)
  | iaddrA (n sz : Nat) (x i : Arg)
  | slice (sz : Nat) (x : Arg) (lo hi mx : Option Arg)
  | sliceA (n sz : Nat) (x : Arg)
  | s2a (n : Nat) (x : Arg)
  | build (zero : List SV) (parts : List (Nat × Nat × Arg))
  | mkfn (f : Nat) (pre caps : List Arg)
  | extract (i : Nat) (x : Arg)
  | nilck (x : Arg)
  | load (sz : Nat) (ag : Bool) (x : Arg)
  | alloc (zero : List SV)
  | box (x : Arg)
  | bslice (sz : Nat) (parts : List Arg)
  | mkslice (zero : List SV) (l c : Arg)
  | mktree (zero : List SV) (l c : Arg)

/-- Operations that change the small heap. -/
inductive WOp where
  | store (sz : Nat) (x v : Arg)
  | append (sz : Nat) (x y : Arg)
  | appendT (sz : Nat) (x y : Arg)
  | appendZ (zero : List SV) (x n : Arg)
  | copy (sz : Nat) (x y : Arg)
  | bslice (sz : Nat) (parts : List Arg)
  | frz (x : Arg)
  | bfrz (zero : List SV) (parts : List (Nat × Nat × Arg))

/-- How a call is made: 'ro': what it makes is handed back as a tree, it writes nothing of the caller's; 'new': on a heap of its own that stays; 'rw': on the caller's heap. -/
inductive Mode where
  | ro | new | rw
  deriving DecidableEq

inductive MOp where
  | r (o : ROp)
  | w (o : WOp)
  | call (m : Mode) (f : Arg) (args : List Arg)

structure Ins where
  dst : Option Nat
  g : Option (Nat × Bool)
  op : MOp

inductive MCode where
  | trap
  | skip
  | ret
  | exit (id : Nat)
  | region (ops : List Ins)
  | draw (sep : List (Nat × Nat)) (ops : List Ins)
  | seq (a b : MCode)
  | cond (c : Arg) (a b : MCode)
  | block (id : Nat) (b : MCode)
  | loop (b : MCode)
  | range (f : Arg) (ps : List Nat) (assign body : MCode)
  | trim (live : List Nat) (b : MCode)
  deriving Inhabited

inductive MRes where
  | t (n : Nat)
  | cell (n sz : Nat) (ag : Bool)

structure MFun where
  code : MCode
  res : List MRes

inductive Ex where
  | norm
  | exit (id : Nat)
  | ret
  deriving DecidableEq

abbrev Env := List (Nat × SV)
abbrev Heap := List (Nat × List SV)

structure LRec where
  env : Env
  ps : List Nat
  assign : MCode
  body : MCode
  st : Nat
  pend : Ex

structure St where
  env : Env
  heap : Heap
  nx : Nat
  loops : List (Nat × LRec)
  wb : Nat

/-! ### environments, heaps -/
def getE : Env → Nat → SV
  | [], _ => .undef
  | (k, v) :: r, t => if k = t then v else getE r t
def look {α : Type} : List (Nat × α) → Nat → Option α
  | [], _ => none
  | (k, v) :: r, i => if k = i then some v else look r i
def upd {α : Type} : List (Nat × α) → Nat → α → List (Nat × α)
  | [], _, _ => []
  | (k, v) :: r, i, x => if k = i then (k, x) :: r else (k, v) :: upd r i x
def del {α : Type} : List (Nat × α) → Nat → List (Nat × α)
  | [], _ => []
  | (k, v) :: r, i => if k = i then del r i else (k, v) :: del r i
def bindE : List Nat → List SV → Env → Env
  | p :: ps, v :: vs, e => bindE ps vs ((p, v) :: e)
  | _, _, e => e
def argE : Nat → List SV → Env
  | _, [] => []
  | i, v :: vs => (i, v) :: argE (i + 1) vs

/-! ### plain values, elements -/
def pl1 : SV → Bool
  | .undef | .int .. | .bool _ | .str _ | .tree .. | .tptr .. => true
  | .fn _ [] [] => true
  | _ => false
def cellB : SV → Bool
  | .undef | .agg _ | .tup _ => false
  | _ => true
def plain : SV → Bool
  | .agg cs => cs.all pl1
  | v => pl1 v
def cellsOf : SV → List SV
  | .agg cs => cs
  | v => [v]
def flat (xs : List SV) : List SV := xs.flatMap cellsOf
def sub (cs : List SV) (off n : Nat) : List SV := (cs.drop off).take n
def els (sz len : Nat) (cs : List SV) : List SV :=
  if sz = 1 then cs else (List.range len).map fun j => .agg (sub cs (j * sz) sz)
def setc (cs : List SV) (off : Nat) : List SV → List SV
  | [] => cs
  | v :: vs => setc (cs.set off v) (off + 1) vs
/-- The own row that a value names, as a tree. -/
abbrev HL := Nat → Option (List SV)
def rowOf (h : HL) (id off len sz : Nat) : Option SV :=
  match h id with
  | some cs =>
    let c := sub cs off (len * sz)
    if c.length = len * sz ∧ c.all pl1 then some (.tree (els sz len c) false false) else none
  | none => none

/-! ### what a function hands back -/
def exp1 (lo : Nat) (h : HL) : SV → Option SV
  | .own id off len sz => if id < lo then some (.own id off len sz) else rowOf h id off len sz
  | .ptr id off => if id < lo then some (.ptr id off) else none
  | .yld _ => none
  | .agg _ => none
  | .tup _ => none
  | .fn f pre caps => if pre.isEmpty && caps.isEmpty then some (.fn f [] []) else none
  | v => some v
def expL (lo : Nat) (h : HL) : List SV → Option (List SV)
  | [] => some []
  | v :: vs => match exp1 lo h v with
    | some u => match expL lo h vs with
      | some us => some (u :: us)
      | none => none
    | none => none
def exp2 (lo : Nat) (h : HL) : SV → Option SV
  | .agg cs => (expL lo h cs).map .agg
  | v => exp1 lo h v
def exp2L (lo : Nat) (h : HL) : List SV → Option (List SV)
  | [] => some []
  | v :: vs => match exp2 lo h v with
    | some u => match exp2L lo h vs with
      | some us => some (u :: us)
      | none => none
    | none => none
def expo (lo : Nat) (h : HL) : SV → Option SV
  | .tup vs => (exp2L lo h vs).map .tup
  | v => exp2 lo h v

/-! ### operations -/
def LIM : Nat := 4294967296
def binI (op : BinOp) (k : IntKind) (a b : Int) : Option SV :=
  match op with
  | .add => some (.int k (k.wrap (a + b)))
  | .sub => some (.int k (k.wrap (a - b)))
  | .mul => some (.int k (k.wrap (a * b)))
  | .quo => if b = 0 then none else some (.int k (k.wrap (a.tdiv b)))
  | .rem => if b = 0 then none else some (.int k (a.tmod b))
  | .and => some (.int k (k.wrap (BitVec.ofInt k.bits a &&& BitVec.ofInt k.bits b).toNat))
  | .or => some (.int k (k.wrap (BitVec.ofInt k.bits a ||| BitVec.ofInt k.bits b).toNat))
  | .xor => some (.int k (k.wrap (BitVec.ofInt k.bits a ^^^ BitVec.ofInt k.bits b).toNat))
  | .eql => some (.bool (a == b))
  | .neq => some (.bool (a != b))
  | .lss => some (.bool (decide (a < b)))
  | .leq => some (.bool (decide (a ≤ b)))
  | .gtr => some (.bool (decide (a > b)))
  | .geq => some (.bool (decide (a ≥ b)))
  | _ => none
def bin (op : BinOp) : SV → SV → Option SV
  | .int k a, .int k' b =>
    match op with
    | .shl => if b < 0 then none else some (.int k (k.wrap (a * 2 ^ (min b.toNat k.bits))))
    | .shr => if b < 0 then none else some (.int k (a.fdiv (2 ^ (min b.toNat k.bits))))
    | op => if k = k' then binI op k a b else none
  | _, _ => none
def xorB (neg b : Bool) : Bool := if neg then !b else b
def eqCells : List SV → List SV → Option Bool
  | [], [] => some true
  | .int k a :: xs, .int k' b :: ys => if k = k' then (if a == b then eqCells xs ys else some false) else none
  | _, _ => none
def eqBools : List SV → List SV → Option Bool
  | [], [] => some true
  | .bool a :: xs, .bool b :: ys => if a == b then eqBools xs ys else some false
  | _, _ => none
/-- From a million on: truth values are compared. -/
def eqM (n : Nat) (a b : List SV) : Option Bool := if n < 1000000 then eqCells a b else eqBools a b
def idx : SV → Nat → Option Nat
  | .int _ i, n => if 0 ≤ i ∧ i < (n : Int) then some i.toNat else none
  | _, _ => none
/-- A bound of a slice expression: at most n. -/
def bnd (ρ : Arg → SV) : Option Arg → Nat → Nat → Option Nat
  | none, d, _ => some d
  | some a, _, n => match ρ a with
    | .int _ i => if 0 ≤ i ∧ i ≤ (n : Int) then some i.toNat else none
    | _ => none
def ldc (cs : List SV) (off sz : Nat) (ag : Bool) : Option SV :=
  if ag then (if off + sz ≤ cs.length then some (.agg (sub cs off sz)) else none) else cs[off]?
/-- Is it known how many cells the value has? -/
def okV : SV → Bool
  | .undef | .tup _ => false
  | _ => true
def hdSz (sz : Nat) : List SV → Bool
  | [] => true
  | x :: _ => (cellsOf x).length == sz
def buildC (ρ : Arg → SV) : List SV → List (Nat × Nat × Arg) → Option (List SV)
  | cs, [] => some cs
  | cs, (off, sz, a) :: ps =>
    let v := cellsOf (ρ a)
    if okV (ρ a) = true ∧ v.length = sz ∧ off + sz ≤ cs.length then buildC ρ (setc cs off v) ps else none
def elemOk (sz : Nat) (v : SV) : Bool := okV v && plain v && (cellsOf v).length == sz && (match v with | .agg _ => sz != 1 | _ => true)

/-- The value, and the new block, if one is laid (its number is the state's next). -/
def evR (h : HL) (nx : Nat) (ρ : Arg → SV) : ROp → Option (SV × Option (List SV))
  | .mov x => some (ρ x, none)
  | .pick c a b => match ρ c with
    | .bool t => some (if t then ρ a else ρ b, none)
    | _ => none
  | .bin op x y => (bin op (ρ x) (ρ y)).map (·, none)
  | .eqb neg x y => match ρ x, ρ y with
    | .bool a, .bool b => some (.bool (xorB neg (a == b)), none)
    | _, _ => none
  | .eqn neg x y => match ρ x, ρ y with
    | .tree _ nl _, .tree [] true _ => some (.bool (xorB neg nl), none)
    | .own _ _ _ _, .tree [] true _ => some (.bool (xorB neg false), none)
    | _, _ => none
  | .eqa neg n x y => match ρ x, ρ y with
    | .agg a, .agg b => if a.length = n % 1000000 ∧ b.length = n % 1000000 then (eqM n a b).map fun t => (.bool (xorB neg t), none) else none
    | _, _ => none
  | .eqs neg x y => match ρ x, ρ y with
    | .str a, .str b => some (.bool (xorB neg (a.toList == b.toList)), none)
    | _, _ => none
  | .not x => match ρ x with
    | .bool b => some (.bool (!b), none)
    | _ => none
  | .neg x => match ρ x with
    | .int k n => some (.int k (k.wrap (0 - n)), none)
    | _ => none
  | .conv k x => match ρ x with
    | .int _ n => some (.int k (k.wrap n), none)
    | _ => none
  | .len x => match ρ x with
    | .tree xs _ _ => some (.int .i64 xs.length, none)
    | .own _ _ n _ => some (.int .i64 n, none)
    | _ => none
  | .lenS x => match ρ x with
    | .str s => some (.int .i64 s.size, none)
    | _ => none
  | .lenA n => some (.int .i64 n, none)
  | .cap x => match ρ x with
    | .tree xs _ true => some (.int .i64 xs.length, none)
    | _ => none
  | .mn x y => match ρ x, ρ y with
    | .int k a, .int _ b => some (.int k (if b < a then b else a), none)
    | _, _ => none
  | .mx x y => match ρ x, ρ y with
    | .int k a, .int _ b => some (.int k (if b > a then b else a), none)
    | _, _ => none
  | .field off sz ag x => match ρ x with
    | .agg cs => (ldc cs off sz ag).map (·, none)
    | _ => none
  | .index n sz ag x i => match ρ x with
    | .agg cs => match idx (ρ i) n with
      | some j => (ldc cs (j * sz) sz ag).map (·, none)
      | none => none
    | _ => none
  | .indexS x i => match ρ x with
    | .str s => match idx (ρ i) s.size with
      | some j => some (.int .u8 ((s.data.getD j 0).toNat : Int), none)
      | none => none
    | _ => none
  | .faddr o x => match ρ x with
    | .ptr id off => some (.ptr id (off + o), none)
    | .tptr cs off => some (.tptr cs (off + o), none)
    | _ => none
  | .iaddr sz x i => match ρ x with
    | .tree xs _ _ => match idx (ρ i) xs.length with
      | some j => match xs[j]? with
        | some e => if (cellsOf e).length = sz ∧ sz ≠ 0 then some (.tptr (cellsOf e) 0, none) else none
        | none => none
      | none => none
    | .own id off len s => if s = sz then match idx (ρ i) len with
      | some j => some (.ptr id (off + j * sz), none)
      | none => none
      else none
    | _ => none
  | .iaddrA n sz x i => match idx (ρ i) n with
    | some j => match ρ x with
      | .ptr id off => some (.ptr id (off + j * sz), none)
      | .tptr cs off => some (.tptr cs (off + j * sz), none)
      | _ => none
    | none => none
  | .slice sz x lo hi mx => match ρ x with
    | .tree xs nl tight => if hdSz sz xs = false then none else match bnd ρ mx xs.length xs.length with
      | some m => match bnd ρ hi xs.length m with
        | some b => match bnd ρ lo 0 b with
          | some l => some (.tree ((xs.drop l).take (b - l)) nl (if mx.isSome then m == b else tight && b == xs.length), none)
          | none => none
        | none => none
      | none => none
    | .own id off len s => if s = sz then match bnd ρ mx len len with
      | some m => match bnd ρ hi len m with
        | some b => match bnd ρ lo 0 b with
          | some l => some (.own id (off + l * sz) (b - l) sz, none)
          | none => none
        | none => none
      | none => none
      else none
    | _ => none
  | .sliceA n sz x => match ρ x with
    | .ptr id off => match h id with
      | some cs => if off + n * sz ≤ cs.length then some (.own id off n sz, none) else none
      | none => none
    | _ => none
  | .s2a n x => match ρ x with
    | .tree xs false _ => if n ≤ xs.length ∧ xs.all (fun v => (cellsOf v).length == 1) = true ∧ xs.isEmpty = false then some (.tptr (flat xs) 0, none) else none
    | _ => none
  | .build zero ps => (buildC ρ zero ps).map fun cs => (.agg cs, none)
  | .mkfn f pre caps => some (.fn f (pre.map ρ) (caps.map ρ), none)
  | .extract i x => match ρ x with
    | .tup vs => (vs[i]?).map (·, none)
    | _ => none
  | .nilck x => match ρ x with
    | .ptr id off => some (.ptr id off, none)
    | .tptr cs off => some (.tptr cs off, none)
    | _ => none
  | .load sz ag x => match ρ x with
    | .ptr id off => match h id with
      | some cs => (ldc cs off sz ag).map (·, none)
      | none => none
    | .tptr cs off => (ldc cs off sz ag).map (·, none)
    | _ => none
  | .alloc zero => some (.ptr nx 0, some zero)
  | .box x => if okV (ρ x) then some (.ptr nx 0, some (cellsOf (ρ x))) else none
  | .bslice sz ps => let vs := ps.map ρ
    if vs.all (elemOk sz) then some (.tree vs false true, none) else none
  | .mkslice zero l c => match ρ l, ρ c with
    | .int .i64 a, .int .i64 b => if 0 ≤ a ∧ a ≤ b ∧ b ≤ (LIM : Int) then some (.own nx 0 a.toNat zero.length, some (List.replicate a.toNat zero).flatten) else none
    | _, _ => none
  | .mktree zero l c => match ρ l, ρ c with
    | .int .i64 a, .int .i64 b => if 0 ≤ a ∧ a = b ∧ b ≤ (LIM : Int) ∧ zero.all pl1 = true then some (.tree (List.replicate a.toNat (if zero.length = 1 then zero.headD .undef else .agg zero)) false true, none) else none
    | _, _ => none

/-- The cells that are appended or copied. -/
def srcOf (h : HL) (sz : Nat) : SV → Option (List SV × Nat)
  | .tree xs _ _ => if xs.all (fun v => (cellsOf v).length == sz) then some (flat xs, xs.length) else none
  | .own id off len s => if s = sz then match h id with
    | some cs => let c := sub cs off (len * sz)
      if c.length = len * sz then some (c, len) else none
    | none => none
    else none
  | _ => none
/-- Changes of the small heap. -/
abbrev Mods := List (Nat × Option (List SV))
def appF (h : HL) : Mods → HL
  | [] => h
  | (i, c) :: ms => appF (fun j => if j = i then c else h j) ms
def app1 (h : Heap) (i : Nat) : Option (List SV) → Heap
  | none => del h i
  | some c => if (look h i).isSome then upd h i c else (i, c) :: h
def appM (h : Heap) : Mods → Heap
  | [] => h
  | (i, c) :: ms => appM (app1 h i c) ms
/-- An element that is laid into a row of trees: an own row is taken over. -/
def take1 (wb : Nat) (h : HL) : SV → Option (SV × Mods)
  | .own id off len sz => if wb ≤ id then (rowOf h id off len sz).map fun v => (v, [(id, none)]) else none
  | v => if pl1 v then some (v, []) else none
def takeL (wb : Nat) (h : HL) : List SV → Option (List SV × Mods)
  | [] => some ([], [])
  | v :: vs => match take1 wb h v with
    | some (u, m1) => match takeL wb (appF h m1) vs with
      | some (us, m2) => some (u :: us, m1 ++ m2)
      | none => none
    | none => none
def take2 (wb : Nat) (h : HL) : SV → Option (SV × Mods)
  | .agg cs => (takeL wb h cs).map fun p => (.agg p.1, p.2)
  | v => take1 wb h v
def take2L (wb : Nat) (h : HL) : List SV → Option (List SV × Mods)
  | [] => some ([], [])
  | v :: vs => match take2 wb h v with
    | some (u, m1) => match take2L wb (appF h m1) vs with
      | some (us, m2) => some (u :: us, m1 ++ m2)
      | none => none
    | none => none

def isRow : SV → Bool
  | .tree .. | .own .. => true
  | _ => false
def evW (wb : Nat) (h : HL) (nx : Nat) (ρ : Arg → SV) : WOp → Option (SV × Mods × Nat)
  | .store sz x v => match ρ x with
    | .ptr id off => if wb ≤ id then match h id with
      | some cs => let u := cellsOf (ρ v)
        if u.length = sz ∧ off + sz ≤ cs.length ∧ u.all cellB = true then some (.undef, [(id, some (setc cs off u))], nx) else none
      | none => none
      else none
    | _ => none
  | .append sz x y => match srcOf h sz (ρ y) with
    | some (ys, m) => if m = 0 then (if isRow (ρ x) then some (ρ x, [], nx) else none) else if ys.all cellB = false then none else
      match ρ x with
      | .tree xs _ true => if xs.all (fun v => (cellsOf v).length == sz) ∧ xs.length + m ≤ LIM then some (.own nx 0 (xs.length + m) sz, [(nx, some (flat xs ++ ys))], nx + 1) else none
      | .own id off len s => if s = sz ∧ wb ≤ id then match h id with
        | some cs => let c := sub cs off (len * sz)
          if c.length = len * sz ∧ len + m ≤ LIM then some (.own nx 0 (len + m) sz, [(id, none), (nx, some (c ++ ys))], nx + 1) else none
        | none => none
        else none
      | _ => none
    | none => none
  | .appendT sz x y => match srcOf h sz (ρ y) with
    | some (ys, m) => if m = 0 then (match ρ x with | .tree xs nl t => some (.tree xs nl t, [], nx) | _ => none) else if ys.all (fun v => cellB v && pl1 v) = false then none else
      match ρ x with
      | .tree xs _ true => if xs.all (fun v => (cellsOf v).length == sz) ∧ xs.length + m ≤ LIM then some (.tree (els sz (xs.length + m) (flat xs ++ ys)) false false, [], nx) else none
      | .own id off len s => if s = sz ∧ wb ≤ id then match h id with
        | some cs => let c := sub cs off (len * sz)
          if c.length = len * sz ∧ len + m ≤ LIM ∧ c.all pl1 = true then some (.tree (els sz (len + m) (c ++ ys)) false false, [(id, none)], nx) else none
        | none => none
        else none
      | _ => none
    | none => none
  | .appendZ zero x n => match ρ x, ρ n with
    | .tree xs _ true, .int .i64 k =>
      if 0 ≤ k ∧ k + xs.length ≤ (LIM : Int) ∧ xs.all (fun v => (cellsOf v).length == zero.length) ∧ zero.all cellB = true then
        if k = 0 then some (ρ x, [], nx) else
        some (.own nx 0 (xs.length + k.toNat) zero.length, [(nx, some (flat xs ++ (List.replicate k.toNat zero).flatten))], nx + 1)
      else none
    | _, _ => none
  | .copy sz x y => match srcOf h sz (ρ y) with
    | some (ys, m) => match ρ x with
      | .own id off len s => if s = sz ∧ wb ≤ id then match h id with
        | some cs => if off + len * sz ≤ cs.length ∧ ys.all cellB = true then some (.int .i64 (min m len : Nat), [(id, some (setc cs off (ys.take (min m len * sz))))], nx) else none
        | none => none
        else none
      | _ => none
    | none => none
  | .bslice sz ps => match take2L wb h (ps.map ρ) with
    | some (vs, ms) => if vs.all (elemOk sz) then some (.tree vs false true, ms, nx) else none
    | none => none
  | .frz x => match take2L wb h ([x].map ρ) with
    | some ([u], ms) => some (u, ms, nx)
    | _ => none
  | .bfrz zero ps => match buildC ρ zero ps with
    | some cs => match take2L wb h [.agg cs] with
      | some ([u], ms) => some (u, ms, nx)
      | _ => none
    | none => none

/-! ### the interpreter: one step, over what runs the parts -/
abbrev Rec := MCode → St → Option (Ex × St)
structure Cx where
  fns : Nat → Option MFun
  glob : Nat → List SV

def argV (X : Cx) (env : Env) : Arg → SV
  | .t n => getE env n
  | .c v => v
  | .g i => .tptr (X.glob i) 0

def res1 (env : Env) (h : Heap) : MRes → Option SV
  | .t n => some (getE env n)
  | .cell n sz ag => match getE env n with
    | .ptr id off => match look h id with
      | some cs => ldc cs off sz ag
      | none => none
    | _ => none
def resL (env : Env) (h : Heap) : List MRes → Option (List SV)
  | [] => some []
  | r :: rs => match res1 env h r with
    | some v => match resL env h rs with
      | some vs => some (v :: vs)
      | none => none
    | none => none
def resOf (env : Env) (h : Heap) (rs : List MRes) : Option SV :=
  match resL env h rs with
  | some [v] => some v
  | some vs => some (.tup vs)
  | none => none

/-- The body of a function, run; what it hands back. -/
def runF (rec : Rec) (mf : MFun) (st : St) : Option (SV × St) :=
  match rec mf.code st with
  | some (.exit _, _) => none
  | some (_, st1) => match resOf st1.env st1.heap mf.res with
    | some r => some (r, st1)
    | none => none
  | none => none

def callF (rec : Rec) (X : Cx) (m : Mode) (f : Nat) (args : List SV) (st : St) : Option (SV × St) :=
  match X.fns f with
  | none => none
  | some mf =>
    match m with
    | .rw => match runF rec mf { st with env := argE 0 args } with
      | some (r, st1) => some (r, { st1 with env := st.env })
      | none => none
    | .new => if args.all plain then
        match runF rec mf { env := argE 0 args, heap := [], nx := st.nx, loops := [], wb := st.nx } with
        | some (r, st1) => some (r, { st with heap := st1.heap.filter (fun p => decide (st.nx ≤ p.1) && decide (p.1 < st1.nx)) ++ st.heap, nx := st1.nx })
        | none => none
      else none
    | .ro => if args.all plain then
        match runF rec mf { env := argE 0 args, heap := [], nx := 0, loops := [], wb := 0 } with
        | some (r, st1) => match expo 0 (look st1.heap) r with
          | some v => some (v, st)
          | none => none
        | none => none
      else
        match runF rec mf { env := argE 0 args, heap := st.heap, nx := st.nx, loops := [], wb := st.nx } with
        | some (r, st1) => match expo st.nx (look st1.heap) r with
          | some v => some (v, st)
          | none => none
        | none => none

def callY (rec : Rec) (l : Nat) (args : List SV) (st : St) : Option (SV × St) :=
  match look st.loops l with
  | none => none
  | some r =>
    if args.length = r.ps.length then
      match rec r.assign { st with env := bindE r.ps args r.env } with
      | some (.norm, st2) => match look st2.loops l with
        | some r2 => if r2.st = 0 then
            match rec r.body { st2 with loops := upd st2.loops l { r2 with st := 1 } } with
            | some (x, st3) => match look st3.loops l with
              | some r3 => some (.bool (x == .norm), { st3 with env := st.env, loops := upd st3.loops l { r3 with st := if x == .norm then 0 else 2, pend := x } })
              | none => none
            | none => none
          else none
        | none => none
      | _ => none
    else none

def callV (rec : Rec) (X : Cx) (m : Mode) (f : SV) (args : List SV) (st : St) : Option (SV × St) :=
  match f with
  | .fn g pre caps => callF rec X m g (pre ++ args ++ caps) st
  | .yld l => if m = .rw then callY rec l args st else none
  | _ => none

def evOp (rec : Rec) (X : Cx) (op : MOp) (st : St) : Option (SV × St) :=
  let ρ := argV X st.env
  match op with
  | .r o => match evR (look st.heap) st.nx ρ o with
    | some (v, none) => some (v, st)
    | some (v, some cs) => some (v, { st with heap := (st.nx, cs) :: st.heap, nx := st.nx + 1 })
    | none => none
  | .w o => match evW st.wb (look st.heap) st.nx ρ o with
    | some (v, ms, nx) => some (v, { st with heap := appM st.heap ms, nx := nx })
    | none => none
  | .call m f args => callV rec X m (ρ f) (args.map ρ) st

def putE (st : St) (d : Option Nat) (v : SV) : St :=
  match d with
  | some d => { st with env := (d, v) :: st.env }
  | none => st

/-- Is the operation wanted? -/
def guardB (env : Env) : Option (Nat × Bool) → Option Bool
  | none => some true
  | some (t, b) => match getE env t with
    | .bool c => some (c == b)
    | .tup [] => some false
    | _ => none

def evIns (rec : Rec) (X : Cx) (i : Ins) (st : St) : Option St :=
  match guardB st.env i.g with
  | some true => match evOp rec X i.op st with
    | some (v, st1) => some (putE st1 i.dst v)
    | none => none
  | some false => some (putE st i.dst (.tup []))
  | none => none

def evOps (rec : Rec) (X : Cx) : List Ins → St → Option St
  | [], st => some st
  | i :: is, st => match evIns rec X i st with
    | some st1 => evOps rec X is st1
    | none => none

/-- What an operation reads and writes of the small heap ('rd': these blocks, these, and lays lo up to hi), 'ro': it may read all, 'all': whatever. -/
inductive FP where
  | rd (r w : List Nat) (lo hi : Nat)
  | ro
  | all
def own1 : SV → List Nat
  | .own id _ _ _ => [id]
  | _ => []
def ptr1 : SV → List Nat
  | .ptr id _ => [id]
  | _ => []
def ownC : SV → List Nat
  | .agg cs => cs.flatMap own1
  | v => own1 v
def rdR (ρ : Arg → SV) : ROp → List Nat
  | .load _ _ x => ptr1 (ρ x)
  | .sliceA _ _ x => ptr1 (ρ x)
  | _ => []
def rdW (ρ : Arg → SV) : WOp → List Nat × List Nat
  | .store _ x _ => ([], ptr1 (ρ x))
  | .append _ x y => (own1 (ρ y), own1 (ρ x))
  | .appendT _ x y => (own1 (ρ y), own1 (ρ x))
  | .appendZ .. => ([], [])
  | .copy _ x y => (own1 (ρ y), own1 (ρ x))
  | .bslice _ ps => ([], ps.flatMap fun a => ownC (ρ a))
  | .frz x => ([], [x].flatMap fun a => ownC (ρ a))
  | .bfrz zero ps => ([], match buildC ρ zero ps with | some cs => ownC (.agg cs) | none => [])
def fpO (ρ : Arg → SV) (lo hi : Nat) : MOp → FP
  | .r o => .rd (rdR ρ o) [] lo hi
  | .w o => .rd (rdW ρ o).1 (rdW ρ o).2 lo hi
  | .call .new f _ => (match ρ f with | .fn .. => .rd [] [] lo hi | _ => .all)
  | .call .ro f args => (match ρ f with | .fn _ pre caps => if (pre ++ args.map ρ ++ caps).all plain then .rd [] [] lo hi else .ro | _ => .all)
  | .call .rw _ _ => .all
def disj (a b : List Nat) : Bool := a.all fun i => !b.contains i
def offR (lo hi : Nat) (a : List Nat) : Bool := a.all fun i => !(decide (lo ≤ i) && decide (i < hi))
/-- May the two come in either order? -/
def compat : FP → FP → Bool
  | .rd r w lo hi, .rd r' w' lo' hi' => disj w (r' ++ w') && disj w' r && offR lo hi (r' ++ w') && offR lo' hi' (r ++ w) && (decide (hi ≤ lo) || decide (hi' ≤ lo') || decide (hi ≤ lo') || decide (hi' ≤ lo))
  | .ro, .rd _ w lo hi => w.isEmpty && decide (hi ≤ lo)
  | .rd _ w lo hi, .ro => w.isEmpty && decide (hi ≤ lo)
  | .ro, .ro => true
  | .all, .rd r w lo hi => r.isEmpty && w.isEmpty && decide (hi ≤ lo)
  | .rd r w lo hi, .all => r.isEmpty && w.isEmpty && decide (hi ≤ lo)
  | _, _ => false
def fpI (X : Cx) (i : Ins) (st st1 : St) : FP :=
  match guardB st.env i.g with
  | some true => fpO (argV X st.env) st.nx st1.nx i.op
  | _ => .rd [] [] st.nx st1.nx
/-- Names that are given out are not in use. -/
def unused (h : Heap) (lo hi : Nat) : Bool := (List.range' lo (hi - lo)).all fun i => (look h i).isNone
/-- In the order told, with what each touched. -/
def evDraw (rec : Rec) (X : Cx) : List Ins → St → Option (St × List FP)
  | [], st => some (st, [])
  | i :: is, st => match evIns rec X i st with
    | some st1 => if unused st.heap st.nx st1.nx then match evDraw rec X is st1 with
      | some (st2, fs) => some (st2, fpI X i st st1 :: fs)
      | none => none
      else none
    | none => none
def sepOk (fs : List FP) (sep : List (Nat × Nat)) : Bool :=
  sep.all fun (p, q) => match fs[p]?, fs[q]? with
    | some a, some b => compat a b
    | _, _ => false

def step (rec : Rec) (X : Cx) : MCode → St → Option (Ex × St)
  | .trap, _ => none
  | .skip, st => some (.norm, st)
  | .ret, st => some (.ret, st)
  | .exit id, st => some (.exit id, st)
  | .region ops, st => match evOps rec X ops st with
    | some st1 => some (.norm, st1)
    | none => none
  | .draw sep ops, st => match evDraw rec X ops st with
    | some (st1, fs) => if sepOk fs sep then some (.norm, st1) else none
    | none => none
  | .seq a b, st => match rec a st with
    | some (.norm, st1) => rec b st1
    | r => r
  | .cond c a b, st => match argV X st.env c with
    | .bool true => rec a st
    | .bool false => rec b st
    | _ => none
  | .block id b, st => match rec b st with
    | some (.exit j, st1) => if j = id then some (.norm, st1) else some (.exit j, st1)
    | r => r
  | .loop b, st => match rec b st with
    | some (.norm, st1) => rec (.loop b) st1
    | r => r
  | .range f ps assign body, st => match argV X st.env f with
    | .fn g pre caps =>
      match callF rec X .rw g (pre ++ [.yld st.nx] ++ caps) { st with loops := (st.nx, { env := st.env, ps, assign, body, st := 0, pend := .norm }) :: st.loops, nx := st.nx + 1 } with
      | some (_, st1) => match look st1.loops st.nx with
        | some r => if r.st = 1 then none else
          some (r.pend, { st1 with env := st.env, loops := del st1.loops st.nx })
        | none => none
      | none => none
    | _ => none
  | .trim live b, st => rec b { st with env := live.map fun t => (t, getE st.env t) }

def ev (X : Cx) : Nat → Rec
  | 0 => fun _ _ => none
  | n + 1 => step (ev X n) X

end Go.Proofs.YtfmbdcmjgnikiaaGreatDoor.Sm
namespace Go.Proofs.YtfmbdcmjgnikiaaGreatDoor.Sm
open Go Go.RowKit

/-- A constant as it is known. -/
def cv1 : Value → SV → Bool
  | _, .undef => true
  | .int k n, .int k' m => k == k' && n == m
  | .bool a, .bool b => a == b
  | .string a, .str b => a.data.toList == b.data.toList
  | .slice a n c, .tree [] true true => a.isNone && n == 0 && c == 0
  | _, _ => false
def cvL : List Value → List SV → Bool
  | [], [] => true
  | v :: vs, s :: ss => cv1 v s && cvL vs ss
  | _, _ => false
def cv : Value → SV → Bool
  | .agg vs, .agg ss => cvL vs.toList ss
  | v, s => cv1 v s
def od : Operand → Arg → Bool
  | .tmp t, .t n => t == n
  | .const v, .c s => cv v s
  | .func f, .c (.fn g [] []) => f == g
  | .func _, .c .undef => true
  | .global g, .g i => g == i
  | _, _ => false
def odL : List Operand → List Arg → Bool
  | [], [] => true
  | x :: xs, a :: as => od x a && odL xs as
  | _, _ => false
def odO : Option Operand → Option Arg → Bool
  | none, none => true
  | some x, some a => od x a
  | _, _ => false

def szOf (P : Program) (t : TypeId) : Nat := match P.info? t with
  | some i => i.size
  | none => 0
def hasT (P : Program) (t : TypeId) : Bool := (P.info? t).isSome
def byOf (P : Program) (t : TypeId) : Nat := match P.info? t with
  | some i => i.bytes
  | none => 5000
def agOf (P : Program) (t : TypeId) : Bool := match P.underlying t with
  | some (.struct _) => true
  | some (.array ..) => true
  | _ => false
def zeOf (P : Program) (t : TypeId) (z : List SV) : Bool := match P.info? t with
  | some i => (match i.zero with
    | some v => cvL v.cells.toList z && v.cells.size == z.length
    | none => false)
  | none => false
def slOf (P : Program) (t : TypeId) : Option TypeId := match P.underlying t with
  | some (.slice e) => some e
  | _ => none
def arOf (P : Program) (t : TypeId) : Option (Nat × TypeId) := match P.underlying t with
  | some (.array n e) => some (n, e)
  | _ => none
def fiOf (P : Program) (t : TypeId) (f : Nat) : Option Field := match P.underlying t with
  | some (.struct fs) => fs[f]?
  | _ => none
def memT (P : Program) (t : TypeId) (sz : Nat) (ag : Bool) : Bool := hasT P t && (P.underlying t).isSome && szOf P t == sz && agOf P t == ag

/-- The parts of a composite, by their places. -/
def partsOk (P : Program) (t : TypeId) : List (Nat × Operand) → List (Nat × Nat × Arg) → Bool
  | [], [] => true
  | (i, x) :: xs, (off, sz, a) :: as => od x a && (match P.underlying t with
      | some (.struct fs) => (match fs[i]? with
        | some f => f.offset == off && hasT P f.type && szOf P f.type == sz
        | none => false)
      | some (.array _ e) => hasT P e && szOf P e == sz && off == i * sz
      | _ => false) && partsOk P t xs as
  | _, _ => false
def fieldsIn (P : Program) (t : TypeId) : Bool := match P.underlying t with
  | some (.struct fs) => fs.all fun f => hasT P f.type
  | some (.array _ e) => hasT P e
  | _ => false
/-- The parts of a slice's literal: 0, 1, .. -/
def partsS : Nat → List (Nat × Operand) → List Arg → Bool
  | _, [], [] => true
  | n, (i, x) :: xs, a :: as => i == n && od x a && partsS (n + 1) xs as
  | _, _, _ => false

def lenArr (P : Program) (t : TypeId) (n : Nat) : Bool :=
  match P.underlying t with
  | some (.array m _) => m == n
  | some (.pointer a) => (match arOf P a with
    | some (m, _) => m == n
    | none => false)
  | _ => false

def bsOk (P : Program) (t n sz : Nat) : Bool := match slOf P t with | some e => hasT P e && szOf P e == sz && decide (sz ≠ 0) && decide (n * sz ≤ 16777216) && (n * sz == 0 || (match P.info? e with | some i => (match i.zero with | some v => v.cells.size == sz | none => false) | none => false)) | none => false

def chkR (P : Program) (eqTs : List (Nat × Nat)) : Op → ROp → Bool
  | .move x, .mov a => od x a
  | .assign x, .mov a => od x a
  | .pick c x y, .pick c' a b => od c c' && od x a && od y b
  | .binOp op _ x y _, .bin op' a b => op == op' && od x a && od y b
  | .binOp op t x y _, .eqb neg a b => (if neg then op == .neq else op == .eql) && (match P.underlying t with | some .bool => true | _ => false) && od x a && od y b
  | .binOp op t x y _, .eqn neg a b => (if neg then op == .neq else op == .eql) && (slOf P t).isSome && od x a && od y b
  | .binOp op t x y _, .eqa neg n a b => (if neg then op == .neq else op == .eql) && eqTs.contains (t, n) && od x a && od y b
  | .binOp op _ x y _, .eqs neg a b => (if neg then op == .neq else op == .eql) && od x a && od y b
  | .unOp op _ x, .not a => (match op with | .not => true | _ => false) && od x a
  | .unOp op _ x, .neg a => (match op with | .neg => true | _ => false) && od x a
  | .convert s d x, .conv k a => (P.underlying s).isSome && (match P.underlying d with | some (.int k') => k == k' | _ => false) && od x a
  | .call c, .len a => (match c.callee with | .builtin .len => (match c.args.toList, c.argTypes.toList with | [x], [t] => od x a && (slOf P t).isSome | _, _ => false) | _ => false)
  | .call c, .lenS a => (match c.callee with | .builtin .len => (match c.args.toList, c.argTypes.toList with | [x], [t] => od x a && (match P.underlying t with | some .string => true | _ => false) | _, _ => false) | _ => false)
  | .call c, .lenA n => (match c.callee with | .builtin .len => (match c.args.toList, c.argTypes.toList with | [_], [t] => lenArr P t n | _, _ => false) | _ => false)
  | .call c, .cap a => (match c.callee with | .builtin .cap => (match c.args.toList, c.argTypes.toList with | [x], [t] => od x a && (slOf P t).isSome | _, _ => false) | _ => false)
  | .call c, .mn a b => (match c.callee with | .builtin .min => (match c.args.toList with | [x, y] => od x a && od y b | _ => false) | _ => false)
  | .call c, .mx a b => (match c.callee with | .builtin .max => (match c.args.toList with | [x, y] => od x a && od y b | _ => false) | _ => false)
  | .field t x f, .field off sz ag a => od x a && (match fiOf P t f with | some fd => fd.offset == off && memT P fd.type sz ag | none => false)
  | .index t x i, .index n sz ag a b => od x a && od i b && (match arOf P t with | some (m, e) => m == n && memT P e sz ag | none => false)
  | .index t x i, .indexS a b => od x a && od i b && (match P.underlying t with | some .string => true | _ => false)
  | .fieldAddr t x f, .faddr off a => od x a && (match fiOf P t f with | some fd => fd.offset == off && hasT P fd.type && szOf P fd.type != 0 | none => false)
  | .indexAddr t x i, .iaddr sz a b => od x a && od i b && (match slOf P t with | some e => hasT P e && szOf P e == sz | none => false)
  | .indexAddr t x i, .iaddrA n sz a b => od x a && od i b && (match arOf P t with | some (m, e) => m == n && hasT P e && szOf P e == sz | none => false)
  | .slice t x l h m, .slice sz a l' h' m' => od x a && odO l l' && odO h h' && odO m m' && (match slOf P t with | some e => hasT P e && szOf P e == sz | none => false) && (m.isNone || h.isSome)
  | .slice t x l h m, .sliceA n sz a => l.isNone && h.isNone && m.isNone && od x a && (match arOf P t with | some (m, e) => m == n && hasT P e && szOf P e == sz | none => false)
  | .sliceToArrayPointer t x, .s2a n a => od x a && (match arOf P t with | some (m, _) => m == n | none => false)
  | .build t ps, .build z ps' => zeOf P t z && partsOk P t ps.toList ps' && fieldsIn P t
  | .makeFunc fn first cs, .mkfn g pre as => (match fn with | .func f => f == g | _ => false) && odL first.toList pre && odL cs.toList as
  | .extract x i, .extract j a => od x a && i == j
  | .nilCheck x, .nilck a => od x a
  | .load t x, .load sz ag a => od x a && memT P t sz ag
  | .alloc t, .alloc z => zeOf P t z
  | .box _ x, .box a => od x a
  | .buildSlice t n ps, .bslice sz as => n == as.length && partsS 0 ps.toList as && bsOk P t n sz
  | .makeSlice t l c, .mkslice z a b => od l a && od c b && (match slOf P t with | some e => zeOf P e z && szOf P e == z.length && decide (byOf P e ≤ 4096) | none => false)
  | .makeSlice t l c, .mktree z a b => od l a && od c b && (match slOf P t with | some e => zeOf P e z && szOf P e == z.length && decide (byOf P e ≤ 4096) | none => false)
  | _, _ => false

def elOk (P : Program) (t sz : Nat) : Bool := match slOf P t with | some e => hasT P e && szOf P e == sz && decide (byOf P e ≤ 4096) && decide (sz ≠ 0) && (match P.info? e with | some i => (match i.zero with | some v => v.cells.size == sz | none => false) | none => false) | none => false
def chkW (P : Program) : Op → WOp → Bool
  | .store t x v, .store sz a b => od x a && od v b && hasT P t && (P.underlying t).isSome && szOf P t == sz
  | .call c, .append sz a b => (match c.callee with | .builtin .append => (match c.args.toList, c.argTypes.toList with | [x, y], [t, u] => od x a && od y b && (slOf P u).isSome && elOk P t sz | _, _ => false) | _ => false)
  | .call c, .appendT sz a b => (match c.callee with | .builtin .append => (match c.args.toList, c.argTypes.toList with | [x, y], [t, u] => od x a && od y b && (slOf P u).isSome && elOk P t sz | _, _ => false) | _ => false)
  | .call c, .appendZ z a b => (match c.callee with | .builtin .append => (match c.args.toList, c.argTypes.toList with | [x, y], [t, u] => od x a && od y b && (match P.underlying u with | some (.int _) => true | _ => false) && (match slOf P t with | some e => zeOf P e z && szOf P e == z.length && decide (byOf P e ≤ 4096) && decide (z.length ≠ 0) | none => false) | _, _ => false) | _ => false)
  | .call c, .copy sz a b => (match c.callee with | .builtin .copy => (match c.args.toList, c.argTypes.toList with | [x, y], [t, _] => od x a && od y b && decide (sz ≠ 0) && (match slOf P t with | some e => hasT P e && szOf P e == sz | none => false) | _, _ => false) | _ => false)
  | .buildSlice t n ps, .bslice sz as => n == as.length && partsS 0 ps.toList as && bsOk P t n sz
  | .move x, .frz a => od x a
  | .assign x, .frz a => od x a
  | .build t ps, .bfrz z ps' => zeOf P t z && partsOk P t ps.toList ps' && fieldsIn P t
  | _, _ => false

def chkOp (P : Program) (eqTs : List (Nat × Nat)) : Op → MOp → Bool
  | o, .r m => chkR P eqTs o m
  | o, .w m => chkW P o m
  | .call c, .call _ f as => (match c.callee with | .value g => od g f && odL c.args.toList as | _ => false)
  | _, _ => false

/-- The guard of an operation names an operation of the region by its number, ours the slot that it writes. -/
def chkG (ops : Array Oper) : Option (Nat × Bool) → Option (Nat × Bool) → Bool
  | none, none => true
  | some (j, b), some (t, c) => b == c && (match ops[j]? with | some o => o.dst == some t | none => false)
  | _, _ => false

def chkIns (P : Program) (eqTs : List (Nat × Nat)) (N : Nat) (ops : Array Oper) (o : Oper) (i : Ins) : Bool :=
  o.dst == i.dst && (match i.dst with | some d => decide (d < N) | none => true) && chkG ops o.guard i.g && chkOp P eqTs o.op i.op
def chkOps (P : Program) (eqTs : List (Nat × Nat)) (N : Nat) (ops : Array Oper) : List Oper → List Ins → Bool
  | [], [] => true
  | o :: os, i :: is => chkIns P eqTs N ops o i && chkOps P eqTs N ops os is
  | _, _ => false

/-! ### a region whose order is open -/
def argTs : Arg → List Nat
  | .t n => [n]
  | _ => []
def argsR : ROp → List Arg
  | .mov x | .not x | .neg x | .conv _ x | .len x | .lenS x | .cap x | .field _ _ _ x | .faddr _ x | .sliceA _ _ x | .s2a _ x | .extract _ x | .nilck x | .load _ _ x | .box x => [x]
  | .pick c a b => [c, a, b]
  | .bin _ x y | .eqb _ x y | .eqn _ x y | .eqa _ _ x y | .eqs _ x y | .mn x y | .mx x y | .index _ _ _ x y | .indexS x y | .iaddr _ x y | .iaddrA _ _ x y | .mkslice _ x y | .mktree _ x y => [x, y]
  | .slice _ x l h m => x :: (l.toList ++ h.toList ++ m.toList)
  | .build _ ps => ps.map (·.2.2)
  | .mkfn _ pre as => pre ++ as
  | .bslice _ as => as
  | .lenA _ | .alloc _ => []
def argsO : MOp → List Arg
  | .r o => argsR o
  | .w (.store _ x v) => [x, v]
  | .w (.append _ x y) => [x, y]
  | .w (.appendT _ x y) => [x, y]
  | .w (.appendZ _ x y) => [x, y]
  | .w (.copy _ x y) => [x, y]
  | .w (.bslice _ as) => as
  | .w (.frz x) => [x]
  | .w (.bfrz _ ps) => ps.map (·.2.2)
  | .call _ f as => f :: as
def usesI (i : Ins) : List Nat := (argsO i.op).flatMap argTs ++ (match i.g with | some (t, _) => [t] | none => [])

/-- The bits of what the operation itself waits for. -/
def direct (ops : Array Oper) (j : Nat) : List Nat := match ops[j]? with
  | some o => (o.after.toList.filter fun e => Region.binds .any e).map (·.on)
  | none => []
/-- What each operation waits for, at once or through others: a table of bits, the lower ones first. -/
def table (ops : Array Oper) : List Nat :=
  (List.range ops.size).foldl (fun T j => T ++ [(direct ops j).foldl (fun s m => s ||| 2 ^ m ||| T.getD m 0) 0]) []

def uses1 (i : Ins) (t : Nat) : Bool := (usesI i).contains t
/-- Operations that touch no memory, whatever their values. -/
def quiet : MOp → Bool
  | .r (.load ..) | .r (.sliceA ..) | .r (.alloc _) | .r (.box _) | .r (.mkslice ..) => false
  | .r _ => true
  | _ => false
def pairOk (T : List Nat) (sep : List (Nat × Nat)) (p q : Nat) (i j : Ins) : Bool :=
  (match j.dst with
        | some t => (!uses1 i t || p == q || (decide (q < p) && (T.getD p 0).testBit q) || (decide (p < q) && (T.getD q 0).testBit p)) && (p == q || i.dst != some t)
        | none => true) && (!decide (q < p) || (T.getD p 0).testBit q || quiet i.op || quiet j.op || sep.contains (q, p))
def drawOk (P : Program) (eqTs : List (Nat × Nat)) (N : Nat) (ops : Array Oper) (sep : List (Nat × Nat)) (is : List Ins) : Bool :=
  let T := table ops
  let n := ops.size
  is.length == n && T.length == n &&
  (List.range n).all (fun p => (direct ops p).all fun m => decide (m < p)) &&
  chkOps P eqTs N ops ops.toList is &&
  (List.range n).all (fun p => (List.range n).all fun q =>
    match is[p]?, is[q]? with
      | some i, some j => pairOk T sep p q i j
      | _, _ => false)

def chkC (P : Program) (eqTs : List (Nat × Nat)) (N : Nat) : MCode → Code → Bool
  | .trap, _ => true
  | .trim _ b, .scope c => chkC P eqTs N b c
  | .trim _ b, c => chkC P eqTs N b c
  | .skip, .skip => true
  | .skip, .label _ => true
  | .ret, .ret => true
  | .exit i, .exit j => i == j
  | .region is, .region _ ops false => chkOps P eqTs N ops ops.toList is
  | .draw sep is, .region _ ops true => drawOk P eqTs N ops sep is
  | .seq a b, .seq x y => chkC P eqTs N a x && chkC P eqTs N b y
  | .cond c a b, .cond c' x y => od c' c && chkC P eqTs N a x && chkC P eqTs N b y
  | .block i b, .block j x => i == j && chkC P eqTs N b x
  | .loop b, .loop x => chkC P eqTs N b x
  | .range f ps a b, .rangeFunc g qs x y => od g f && ps == qs.toList && ps.all (fun p => decide (p < N)) && chkC P eqTs N a x && chkC P eqTs N b y
  | _, _ => false

def resOk (P : Program) : List ResultVar → List MRes → Bool
  | [], [] => true
  | .tmp t :: rs, .t n :: ms => t == n && resOk P rs ms
  | .cell t ty :: rs, .cell n sz ag :: ms => t == n && memT P ty sz ag && resOk P rs ms
  | _, _ => false

/-- The function of the program, and ours. -/
def chkF (P : Program) (eqTs : List (Nat × Nat)) (fn : Func) (mf : MFun) : Bool :=
  (match fn.body with
    | some c => chkC P eqTs fn.ntmps mf.code c
    | none => false) && resOk P fn.results.toList mf.res && fn.name != "runtime.NumGoroutine"

end Go.Proofs.YtfmbdcmjgnikiaaGreatDoor.Sm
namespace Go.Proofs.YtfmbdcmjgnikiaaGreatDoor.Sm
open Go Go.RowKit

structure KK where
  W : World
  MC : Nat → Nat → Prop
  β : Nat → Nat × Nat
  dom : Nat → Prop

def shapeAt (w : World) (b n : Nat) : Prop := ∃ c T fr, w.heap[b]? = some (.cells c T fr) ∧ n ≤ c.size

/-- The machine's value stands for ours. 'MC': cells that may yet change: no tree leads to one. -/
inductive RV (K : KK) : Value → SV → Prop where
  | undef (v : Value) : RV K v .undef
  | int (k : IntKind) (n : Int) : RV K (.int k n) (.int k n)
  | bool (b : Bool) : RV K (.bool b) (.bool b)
  | str (s : ByteArray) : RV K (.string s) (.str s)
  | tree (A : Option Addr) (len cap sz : Nat) (xs : List SV) (nl tight : Bool) (c : Nat → Nat → Value)
      (hlen : xs.length = len) (hcap : len ≤ cap) (hnl : nl = A.isNone) (h0 : A = none → cap = 0) (ht : tight = true → cap = len)
      (hpl : ∀ x ∈ xs, plain x = true) (hsz : ∀ x ∈ xs, (cellsOf x).length = sz)
      (hc : ∀ j i x y, xs[j]? = some x → (cellsOf x)[i]? = some y →
        ∃ a, A = some a ∧ a.spot = none ∧ K.W.cell? ⟨a.block, a.off + (j * sz + i), none⟩ = some (c j i) ∧ ¬ K.MC a.block (a.off + (j * sz + i)))
      (hr : ∀ j i x y, xs[j]? = some x → (cellsOf x)[i]? = some y → RV K (c j i) y) : RV K (.slice A len cap) (.tree xs nl tight)
  | own (id off len sz o cap : Nat) (hd : K.dom id) (ho : cap = 0 ∨ o = (K.β id).2 + off) (hcap : len ≤ cap)
      (hs : shapeAt K.W (K.β id).1 (o + cap * sz)) : RV K (.slice (some ⟨(K.β id).1, o, none⟩) len cap) (.own id off len sz)
  | ptr (id off : Nat) (hd : K.dom id) : RV K (.pointer (some ⟨(K.β id).1, (K.β id).2 + off, none⟩)) (.ptr id off)
  | tptr (b o : Nat) (cs : List SV) (off : Nat) (c : Nat → Value) (hpl : ∀ y ∈ cs, pl1 y = true)
      (hc : ∀ i y, cs[i]? = some y → K.W.cell? ⟨b, o + i, none⟩ = some (c i) ∧ ¬ K.MC b (o + i))
      (hr : ∀ i y, cs[i]? = some y → RV K (c i) y) : RV K (.pointer (some ⟨b, o + off, none⟩)) (.tptr cs off)
  | fn (f : Nat) (pre caps : List SV) (vp vc : Array Value) (hp : vp.size = pre.length) (hk : vc.size = caps.length)
      (hpr : ∀ i y, pre[i]? = some y → RV K (vp.getD i Go.undef) y) (hcr : ∀ i y, caps[i]? = some y → RV K (vc.getD i Go.undef) y) : RV K (.func (.func f) vp vc) (.fn f pre caps)
  | yld (l : Nat) (hd : K.dom l) : RV K (.func (.yield (K.β l).1) #[] #[]) (.yld l)
  | agg (vs : Array Value) (cs : List SV) (hl : vs.size = cs.length) (hr : ∀ i y, cs[i]? = some y → RV K (vs.getD i Go.undef) y) : RV K (.agg vs) (.agg cs)
  | tup (vs : Array Value) (cs : List SV) (hl : vs.size = cs.length) (hr : ∀ i y, cs[i]? = some y → RV K (vs.getD i Go.undef) y) : RV K (.tuple vs) (.tup cs)

theorem RV.mono {K K' : KK} (hd : ∀ i, K.dom i → K'.dom i ∧ K'.β i = K.β i)
    (hc : ∀ b o v, K.W.cell? ⟨b, o, none⟩ = some v → ¬ K.MC b o → K'.W.cell? ⟨b, o, none⟩ = some v ∧ ¬ K'.MC b o)
    (hs : ∀ b n, shapeAt K.W b n → shapeAt K'.W b n) {v : Value} {s : SV} (h : RV K v s) : RV K' v s := by
  induction h with
  | undef v => exact .undef v
  | int k n => exact .int k n
  | bool b => exact .bool b
  | str s => exact .str s
  | tree A len cap sz xs nl tight c hlen hcap hnl h0 ht hpl hsz hcc hr ih =>
    refine .tree A len cap sz xs nl tight c hlen hcap hnl h0 ht hpl hsz (fun j i x y hx hy => ?_) ih
    obtain ⟨a, ha, hsp, h1, h2⟩ := hcc j i x y hx hy
    obtain ⟨h3, h4⟩ := hc _ _ _ h1 h2
    exact ⟨a, ha, hsp, h3, h4⟩
  | own id off len sz o cap hdd ho hcap hsh =>
    obtain ⟨h1, h2⟩ := hd id hdd
    rw [← h2] at ho hsh ⊢
    exact .own id off len sz o cap h1 ho hcap (hs _ _ hsh)
  | ptr id off hdd =>
    obtain ⟨h1, h2⟩ := hd id hdd
    rw [← h2]
    exact .ptr id off h1
  | tptr b o cs off c hpl hcc hr ih => exact .tptr b o cs off c hpl (fun i y hy => hc _ _ _ (hcc i y hy).1 (hcc i y hy).2) ih
  | fn f pre caps vp vc hp hk hpr hcr ihp ihc => exact .fn f pre caps vp vc hp hk ihp ihc
  | yld l hdd =>
    obtain ⟨h1, h2⟩ := hd l hdd
    rw [← h2]
    exact .yld l h1
  | agg vs cs hl hr ih => exact .agg vs cs hl ih
  | tup vs cs hl hr ih => exact .tup vs cs hl ih

theorem pl1_cell {y : SV} (h : pl1 y = true) : cellsOf y = [y] := by cases y <;> simp_all [pl1, cellsOf]
theorem plain_cells {x y : SV} (h : plain x = true) (hy : y ∈ cellsOf x) : pl1 y = true := by
  cases x <;> simp_all [plain, cellsOf]

/-- Of a plain value the names of blocks don't matter. -/
theorem RV.plain {K K' : KK} (hc : ∀ b o v, K.W.cell? ⟨b, o, none⟩ = some v → ¬ K.MC b o → K'.W.cell? ⟨b, o, none⟩ = some v ∧ ¬ K'.MC b o)
    {v : Value} {s : SV} (h : RV K v s) (hp : Sm.plain s = true) : RV K' v s := by
  induction h with
  | undef v => exact .undef v
  | int k n => exact .int k n
  | bool b => exact .bool b
  | str s => exact .str s
  | tree A len cap sz xs nl tight c hlen hcap hnl h0 ht hpl hsz hcc hr ih =>
    refine .tree A len cap sz xs nl tight c hlen hcap hnl h0 ht hpl hsz (fun j i x y hx hy => ?_) (fun j i x y hx hy => ?_)
    · obtain ⟨a, ha, hsp, h1, h2⟩ := hcc j i x y hx hy
      obtain ⟨h3, h4⟩ := hc _ _ _ h1 h2
      exact ⟨a, ha, hsp, h3, h4⟩
    · have hxm := hpl x (List.mem_of_getElem? hx)
      refine ih j i x y hx hy ?_
      have := plain_cells hxm (List.mem_of_getElem? hy)
      cases y <;> simp_all [Sm.plain, pl1]
  | own id off len sz o cap hdd ho hcap hsh => simp [Sm.plain, pl1] at hp
  | ptr id off hdd => simp [Sm.plain, pl1] at hp
  | tptr b o cs off c hpl hcc hr ih =>
    refine .tptr b o cs off c hpl (fun i y hy => hc _ _ _ (hcc i y hy).1 (hcc i y hy).2) (fun i y hy => ih i y hy ?_)
    have := hpl y (List.mem_of_getElem? hy)
    cases y <;> simp_all [Sm.plain, pl1]
  | fn f pre caps vp vc hp' hk hpr hcr ihp ihc =>
    have h1 : pre = [] ∧ caps = [] := by cases pre <;> cases caps <;> simp_all [Sm.plain, pl1]
    obtain ⟨rfl, rfl⟩ := h1
    exact .fn f [] [] vp vc hp' hk (by simp) (by simp)
  | yld l hdd => simp [Sm.plain, pl1] at hp
  | agg vs cs hl hr ih =>
    refine .agg vs cs hl (fun i y hy => ih i y hy ?_)
    have h1 : ∀ x ∈ cs, pl1 x = true := by simpa [Sm.plain] using hp
    have := h1 y (List.mem_of_getElem? hy)
    cases y <;> simp_all [Sm.plain, pl1]
  | tup vs cs hl hr ih => simp [Sm.plain, pl1] at hp

/-- One step of memory: cells of M may have changed, there may be new blocks. -/
structure WS (w w' : World) (M : Nat → Nat → Prop) : Prop where
  os : w'.os = w.os
  tape : w'.tape = w.tape
  output : w'.output = w.output
  size : w.heap.size ≤ w'.heap.size
  obj : ∀ (k : Nat) (o : Obj), w.heap[k]? = some o → (∀ c T fr, o ≠ Obj.cells c T fr) → w'.heap[k]? = some o
  cell : ∀ (k : Nat) (c : Array Value) (T : TypeId) (fr : Nat × Nat), w.heap[k]? = some (.cells c T fr) → ∃ c', w'.heap[k]? = some (.cells c' T fr) ∧ c'.size = c.size ∧ ∀ o, ¬ M k o → c'[o]? = c[o]?

def none2 : Nat → Nat → Prop := fun _ _ => False
theorem WS.refl (w : World) (M : Nat → Nat → Prop) : WS w w M := ⟨rfl, rfl, rfl, Nat.le_refl _, fun _ _ h _ => h, fun _ c _ _ h => ⟨c, h, rfl, fun _ _ => rfl⟩⟩
theorem WS.weaken {w w' : World} {M M' : Nat → Nat → Prop} (h : WS w w' M) (hm : ∀ b o, M b o → M' b o) : WS w w' M' :=
  ⟨h.os, h.tape, h.output, h.size, h.obj, fun k c T fr hk => let ⟨c', h1, h2, h3⟩ := h.cell k c T fr hk; ⟨c', h1, h2, fun o ho => h3 o fun hm' => ho (hm _ _ hm')⟩⟩
theorem WS.trans {a b c : World} {M : Nat → Nat → Prop} (h : WS a b M) (k : WS b c M) : WS a c M := by
  refine ⟨k.os.trans h.os, k.tape.trans h.tape, k.output.trans h.output, Nat.le_trans h.size k.size, fun i o hi ho => k.obj i o (h.obj i o hi ho) ho, fun i cs T fr hi => ?_⟩
  obtain ⟨c1, h1, h2, h3⟩ := h.cell i cs T fr hi
  obtain ⟨c2, k1, k2, k3⟩ := k.cell i c1 T fr h1
  exact ⟨c2, k1, k2.trans h2, fun o ho => (k3 o ho).trans (h3 o ho)⟩
theorem WS.alloc (w : World) (o : Obj) (M : Nat → Nat → Prop) : WS w (w.alloc o) M := by
  have hk : ∀ k x, w.heap[k]? = some x → (w.alloc o).heap[k]? = some x := fun k x hx => by
    rw [Below.heap_alloc w o k (Array.getElem?_eq_some_iff.1 hx).1]; exact hx
  exact ⟨rfl, rfl, rfl, by simp, fun k x hx _ => hk k x hx, fun k c T fr hx => ⟨c, hk k _ hx, rfl, fun _ _ => rfl⟩⟩

theorem cell_at {w : World} {b o : Nat} : w.cell? ⟨b, o, none⟩ = match w.heap[b]? with
  | some (.cells c _ _) => c[o]?
  | _ => none := by
  unfold World.cell?
  simp only [Option.isSome_none, Bool.false_eq_true, if_false]
  rfl
theorem cell_heap {w : World} {b o : Nat} {v : Value} (h : w.cell? ⟨b, o, none⟩ = some v) : ∃ c T fr, w.heap[b]? = some (.cells c T fr) ∧ c[o]? = some v := by
  rw [cell_at] at h
  split at h
  · rename_i c T fr hc; exact ⟨c, T, fr, hc, h⟩
  · cases h
theorem cell_of {w : World} {b o : Nat} {c : Array Value} {T : TypeId} {fr : Nat × Nat} (h : w.heap[b]? = some (.cells c T fr)) : w.cell? ⟨b, o, none⟩ = c[o]? := by
  rw [cell_at, h]

theorem WS.cell? {w w' : World} {M : Nat → Nat → Prop} (h : WS w w' M) {b o : Nat} {v : Value} (hc : w.cell? ⟨b, o, none⟩ = some v) (hm : ¬ M b o) : w'.cell? ⟨b, o, none⟩ = some v := by
  obtain ⟨c, T, fr, h1, h2⟩ := cell_heap hc
  obtain ⟨c', h3, _, h4⟩ := h.cell b c T fr h1
  rw [cell_of h3, h4 o hm, h2]
theorem WS.shape {w w' : World} {M : Nat → Nat → Prop} (h : WS w w' M) {b n : Nat} (hs : shapeAt w b n) : shapeAt w' b n := by
  obtain ⟨c, T, fr, h1, h2⟩ := hs
  obtain ⟨c', h3, h4, _⟩ := h.cell b c T fr h1
  exact ⟨c', T, fr, h3, by omega⟩
theorem WS.below {w w' : World} {M : Nat → Nat → Prop} (h : WS w w' M) {B : Nat} (hB : B ≤ w.heap.size) (hm : ∀ b o, M b o → B ≤ b) : Below B w w' := by
  refine ⟨h.os, h.tape, h.output, h.size, fun k hk => ?_⟩
  have hlt : k < w.heap.size := by omega
  have hx : w.heap[k]? = some w.heap[k] := by simp [hlt]
  rw [hx]
  cases ho : w.heap[k] with
  | cells c T fr =>
    rw [ho] at hx
    obtain ⟨c', h1, h2, h3⟩ := h.cell k c T fr hx
    have : c' = c := by
      apply Array.ext_getElem?
      intro i
      exact h3 i fun hm' => by have := hm _ _ hm'; omega
    rw [h1, this]
  | _ => exact h.obj k _ (by rw [← ho]; exact hx) (by intro c T fr hc; simp_all)

/-! ### environments -/
def EnvR (K : KK) (env : Env) (tmps : Array Value) : Prop := ∀ t, RV K (tmps.getD t Go.undef) (getE env t)

/-- A block of the small heap. -/
def HO (K : KK) (id : Nat) (cs : List SV) : Prop :=
  K.dom id ∧ ∃ c T, K.W.heap[(K.β id).1]? = some (.cells c T (0, 0)) ∧ (K.β id).2 + cs.length ≤ c.size ∧
    (∀ i x, cs[i]? = some x → ∃ v, c[(K.β id).2 + i]? = some v ∧ RV K v x) ∧ (∀ o, (K.β id).2 ≤ o → o < c.size → K.MC (K.β id).1 o)

/-- The record of a range over a function. -/
def LO (P : Program) (eqTs : List (Nat × Nat)) (K : KK) (l : Nat) (r : LRec) : Prop :=
  K.dom l ∧ ∃ L : Loop, K.W.heap[(K.β l).1]? = some (.loop L) ∧ L.params.toList = r.ps ∧ (∃ N, N ≤ L.tmps.size ∧ (∀ p ∈ r.ps, p < N) ∧
    chkC P eqTs N r.assign L.assign = true ∧ chkC P eqTs N r.body L.body = true) ∧ EnvR K r.env L.tmps ∧
    (match r.st with | 0 => L.state = .ready | 1 => L.state = .busy | _ => L.state = .done) ∧
    L.pending = (match r.pend with | .norm => none | .exit i => some (.exit i) | .ret => some .ret)

/-- What a call began with: blocks below B are not its own; what it may write has numbers from wb on. -/
structure Bs where
  B : Nat
  w0 : World
  wb : Nat
  MC0 : Nat → Nat → Prop

structure SimF (P : Program) (eqTs : List (Nat × Nat)) (bs : Bs) (h : HL) (ls : Nat → Option LRec) (K : KK) : Prop where
  bel : Below bs.B bs.w0 K.W
  bsz : bs.B ≤ bs.w0.heap.size
  mc0 : ∀ b o, b < bs.B → (K.MC b o ↔ bs.MC0 b o)
  hp : ∀ id cs, h id = some cs → HO K id cs
  inj : ∀ i j ci cj, h i = some ci → h j = some cj → i ≠ j → (K.β i).1 ≠ (K.β j).1
  low : ∀ id cs, h id = some cs → bs.wb ≤ id → bs.B ≤ (K.β id).1
  mcb : ∀ b o, K.MC b o → b < K.W.heap.size
  lp : ∀ l r, ls l = some r → LO P eqTs K l r
  linj : ∀ l l' r r', ls l = some r → ls l' = some r' → l ≠ l' → (K.β l).1 ≠ (K.β l').1
  llow : ∀ l r, ls l = some r → bs.B ≤ (K.β l).1

structure Ext (K K' : KK) : Prop where
  rv : ∀ v s, RV K v s → RV K' v s
  size : K.W.heap.size ≤ K'.W.heap.size
  defd : ∀ k : Nat, K.W.heap[k]? = some (.deferred (some [])) → K'.W.heap[k]? = some (.deferred (some []))
  lps : ∀ (k : Nat) (r : Loop), K.W.heap[k]? = some (.loop r) → ∃ r', K'.W.heap[k]? = some (.loop r')

theorem Ext.refl (K : KK) : Ext K K := ⟨fun _ _ h => h, Nat.le_refl _, fun _ h => h, fun _ r h => ⟨r, h⟩⟩
theorem Ext.trans {a b c : KK} (h : Ext a b) (k : Ext b c) : Ext a c := ⟨fun v s x => k.rv v s (h.rv v s x), Nat.le_trans h.size k.size, fun i x => k.defd i (h.defd i x), fun i r x => let ⟨r', h'⟩ := h.lps i r x; k.lps i r' h'⟩
theorem Ext.of_ws {K K' : KK} {M : Nat → Nat → Prop} (h : ∀ v s, RV K v s → RV K' v s) (hw : WS K.W K'.W M) : Ext K K' := ⟨h, hw.size, fun k hk => hw.obj k _ hk (by simp), fun k r hk => ⟨r, hw.obj k _ hk (by simp)⟩⟩
theorem EnvR.ext {K K' : KK} {env : Env} {tmps : Array Value} (h : EnvR K env tmps) (e : Ext K K') : EnvR K' env tmps := fun t => e.rv _ _ (h t)

theorem HO.mono {K K' : KK} {id : Nat} {cs : List SV} (h : HO K id cs) {M : Nat → Nat → Prop} (hw : WS K.W K'.W M) (hd : K'.dom id) (hb : K'.β id = K.β id)
    (hm : ∀ o, ¬ M (K.β id).1 o) (hmc : ∀ o, K.MC (K.β id).1 o → K'.MC (K.β id).1 o) (hrv : ∀ v s, RV K v s → RV K' v s) : HO K' id cs := by
  obtain ⟨_, c, T, h1, h2, h3, h4⟩ := h
  obtain ⟨c', k1, k2, k3⟩ := hw.cell _ c T _ h1
  refine ⟨hd, c', T, by rw [hb]; exact k1, by rw [hb]; omega, fun i x hx => ?_, fun o h5 h6 => ?_⟩
  · obtain ⟨v, h5, h6⟩ := h3 i x hx
    exact ⟨v, by rw [hb, k3 _ (hm _)]; exact h5, hrv _ _ h6⟩
  · rw [hb] at h5 ⊢
    exact hmc _ (h4 o h5 (by omega))

theorem LO.mono {P : Program} {eqTs : List (Nat × Nat)} {K K' : KK} {l : Nat} {r : LRec} (h : LO P eqTs K l r) {M : Nat → Nat → Prop} (hw : WS K.W K'.W M) (hd : K'.dom l) (hb : K'.β l = K.β l) (hrv : ∀ v s, RV K v s → RV K' v s) : LO P eqTs K' l r := by
  obtain ⟨_, L, h1, h2, h3, h6, h7, h8⟩ := h
  exact ⟨hd, L, by rw [hb]; exact hw.obj _ _ h1 (by simp), h2, h3, fun t => hrv _ _ (h6 t), h7, h8⟩

end Go.Proofs.YtfmbdcmjgnikiaaGreatDoor.Sm
namespace Go.Proofs.YtfmbdcmjgnikiaaGreatDoor.Sm
open Go

theorem inv_pick {P : Program} {e0 : List (Nat × Nat)} {opx : Op} {c' a b : _} (h : chkR P e0 opx (.pick c' a b) = true) : ∃ c x y, opx = Op.pick c x y ∧ (od c c' && od x a && od y b) = true := by
  cases opx <;> first | exact ⟨_, _, _, rfl, h⟩ | exact absurd h (by simp [chkR])
theorem inv_bin {P : Program} {e0 : List (Nat × Nat)} {opx : Op} {op' a b : _} (h : chkR P e0 opx (.bin op' a b) = true) : ∃ op y1 x y y2, opx = Op.binOp op y1 x y y2 ∧ (op == op' && od x a && od y b) = true := by
  cases opx <;> first | exact ⟨_, _, _, _, _, rfl, h⟩ | exact absurd h (by simp [chkR])
theorem inv_eqb {P : Program} {e0 : List (Nat × Nat)} {opx : Op} {neg a b : _} (h : chkR P e0 opx (.eqb neg a b) = true) : ∃ op t x y y1, opx = Op.binOp op t x y y1 ∧ ((if neg then op == .neq else op == .eql) && (match P.underlying t with | some .bool => true | _ => false) && od x a && od y b) = true := by
  cases opx <;> first | exact ⟨_, _, _, _, _, rfl, h⟩ | exact absurd h (by simp [chkR])
theorem inv_eqn {P : Program} {e0 : List (Nat × Nat)} {opx : Op} {neg a b : _} (h : chkR P e0 opx (.eqn neg a b) = true) : ∃ op t x y y1, opx = Op.binOp op t x y y1 ∧ ((if neg then op == .neq else op == .eql) && (slOf P t).isSome && od x a && od y b) = true := by
  cases opx <;> first | exact ⟨_, _, _, _, _, rfl, h⟩ | exact absurd h (by simp [chkR])
theorem inv_eqa {P : Program} {e0 : List (Nat × Nat)} {opx : Op} {neg n a b : _} (h : chkR P e0 opx (.eqa neg n a b) = true) : ∃ op t x y y1, opx = Op.binOp op t x y y1 ∧ ((if neg then op == .neq else op == .eql) && e0.contains (t, n) && od x a && od y b) = true := by
  cases opx <;> first | exact ⟨_, _, _, _, _, rfl, h⟩ | exact absurd h (by simp [chkR])
theorem inv_eqs {P : Program} {e0 : List (Nat × Nat)} {opx : Op} {neg a b : _} (h : chkR P e0 opx (.eqs neg a b) = true) : ∃ op y1 x y y2, opx = Op.binOp op y1 x y y2 ∧ ((if neg then op == .neq else op == .eql) && od x a && od y b) = true := by
  cases opx <;> first | exact ⟨_, _, _, _, _, rfl, h⟩ | exact absurd h (by simp [chkR])
theorem inv_not {P : Program} {e0 : List (Nat × Nat)} {opx : Op} {a : _} (h : chkR P e0 opx (.not a) = true) : ∃ op y1 x, opx = Op.unOp op y1 x ∧ ((match op with | .not => true | _ => false) && od x a) = true := by
  cases opx <;> first | exact ⟨_, _, _, rfl, h⟩ | exact absurd h (by simp [chkR])
theorem inv_neg {P : Program} {e0 : List (Nat × Nat)} {opx : Op} {a : _} (h : chkR P e0 opx (.neg a) = true) : ∃ op y1 x, opx = Op.unOp op y1 x ∧ ((match op with | .neg => true | _ => false) && od x a) = true := by
  cases opx <;> first | exact ⟨_, _, _, rfl, h⟩ | exact absurd h (by simp [chkR])
theorem inv_conv {P : Program} {e0 : List (Nat × Nat)} {opx : Op} {k a : _} (h : chkR P e0 opx (.conv k a) = true) : ∃ s d x, opx = Op.convert s d x ∧ ((P.underlying s).isSome && (match P.underlying d with | some (.int k') => k == k' | _ => false) && od x a) = true := by
  cases opx <;> first | exact ⟨_, _, _, rfl, h⟩ | exact absurd h (by simp [chkR])
theorem inv_len {P : Program} {e0 : List (Nat × Nat)} {opx : Op} {a : _} (h : chkR P e0 opx (.len a) = true) : ∃ c, opx = Op.call c ∧ ((match c.callee with | .builtin .len => (match c.args.toList, c.argTypes.toList with | [x], [t] => od x a && (slOf P t).isSome | _, _ => false) | _ => false)) = true := by
  cases opx <;> first | exact ⟨_, rfl, h⟩ | exact absurd h (by simp [chkR])
theorem inv_lenS {P : Program} {e0 : List (Nat × Nat)} {opx : Op} {a : _} (h : chkR P e0 opx (.lenS a) = true) : ∃ c, opx = Op.call c ∧ ((match c.callee with | .builtin .len => (match c.args.toList, c.argTypes.toList with | [x], [t] => od x a && (match P.underlying t with | some .string => true | _ => false) | _, _ => false) | _ => false)) = true := by
  cases opx <;> first | exact ⟨_, rfl, h⟩ | exact absurd h (by simp [chkR])
theorem inv_lenA {P : Program} {e0 : List (Nat × Nat)} {opx : Op} {n : _} (h : chkR P e0 opx (.lenA n) = true) : ∃ c, opx = Op.call c ∧ ((match c.callee with | .builtin .len => (match c.args.toList, c.argTypes.toList with | [_], [t] => lenArr P t n | _, _ => false) | _ => false)) = true := by
  cases opx <;> first | exact ⟨_, rfl, h⟩ | exact absurd h (by simp [chkR])
theorem inv_cap {P : Program} {e0 : List (Nat × Nat)} {opx : Op} {a : _} (h : chkR P e0 opx (.cap a) = true) : ∃ c, opx = Op.call c ∧ ((match c.callee with | .builtin .cap => (match c.args.toList, c.argTypes.toList with | [x], [t] => od x a && (slOf P t).isSome | _, _ => false) | _ => false)) = true := by
  cases opx <;> first | exact ⟨_, rfl, h⟩ | exact absurd h (by simp [chkR])
theorem inv_mn {P : Program} {e0 : List (Nat × Nat)} {opx : Op} {a b : _} (h : chkR P e0 opx (.mn a b) = true) : ∃ c, opx = Op.call c ∧ ((match c.callee with | .builtin .min => (match c.args.toList with | [x, y] => od x a && od y b | _ => false) | _ => false)) = true := by
  cases opx <;> first | exact ⟨_, rfl, h⟩ | exact absurd h (by simp [chkR])
theorem inv_mx {P : Program} {e0 : List (Nat × Nat)} {opx : Op} {a b : _} (h : chkR P e0 opx (.mx a b) = true) : ∃ c, opx = Op.call c ∧ ((match c.callee with | .builtin .max => (match c.args.toList with | [x, y] => od x a && od y b | _ => false) | _ => false)) = true := by
  cases opx <;> first | exact ⟨_, rfl, h⟩ | exact absurd h (by simp [chkR])
theorem inv_field {P : Program} {e0 : List (Nat × Nat)} {opx : Op} {off sz ag a : _} (h : chkR P e0 opx (.field off sz ag a) = true) : ∃ t x f, opx = Op.field t x f ∧ (od x a && (match fiOf P t f with | some fd => fd.offset == off && memT P fd.type sz ag | none => false)) = true := by
  cases opx <;> first | exact ⟨_, _, _, rfl, h⟩ | exact absurd h (by simp [chkR])
theorem inv_index {P : Program} {e0 : List (Nat × Nat)} {opx : Op} {n sz ag a b : _} (h : chkR P e0 opx (.index n sz ag a b) = true) : ∃ t x i, opx = Op.index t x i ∧ (od x a && od i b && (match arOf P t with | some (m, e) => m == n && memT P e sz ag | none => false)) = true := by
  cases opx <;> first | exact ⟨_, _, _, rfl, h⟩ | exact absurd h (by simp [chkR])
theorem inv_indexS {P : Program} {e0 : List (Nat × Nat)} {opx : Op} {a b : _} (h : chkR P e0 opx (.indexS a b) = true) : ∃ t x i, opx = Op.index t x i ∧ (od x a && od i b && (match P.underlying t with | some .string => true | _ => false)) = true := by
  cases opx <;> first | exact ⟨_, _, _, rfl, h⟩ | exact absurd h (by simp [chkR])
theorem inv_faddr {P : Program} {e0 : List (Nat × Nat)} {opx : Op} {off a : _} (h : chkR P e0 opx (.faddr off a) = true) : ∃ t x f, opx = Op.fieldAddr t x f ∧ (od x a && (match fiOf P t f with | some fd => fd.offset == off && hasT P fd.type && szOf P fd.type != 0 | none => false)) = true := by
  cases opx <;> first | exact ⟨_, _, _, rfl, h⟩ | exact absurd h (by simp [chkR])
theorem inv_iaddr {P : Program} {e0 : List (Nat × Nat)} {opx : Op} {sz a b : _} (h : chkR P e0 opx (.iaddr sz a b) = true) : ∃ t x i, opx = Op.indexAddr t x i ∧ (od x a && od i b && (match slOf P t with | some e => hasT P e && szOf P e == sz | none => false)) = true := by
  cases opx <;> first | exact ⟨_, _, _, rfl, h⟩ | exact absurd h (by simp [chkR])
theorem inv_iaddrA {P : Program} {e0 : List (Nat × Nat)} {opx : Op} {n sz a b : _} (h : chkR P e0 opx (.iaddrA n sz a b) = true) : ∃ t x i, opx = Op.indexAddr t x i ∧ (od x a && od i b && (match arOf P t with | some (m, e) => m == n && hasT P e && szOf P e == sz | none => false)) = true := by
  cases opx <;> first | exact ⟨_, _, _, rfl, h⟩ | exact absurd h (by simp [chkR])
theorem inv_slice {P : Program} {e0 : List (Nat × Nat)} {opx : Op} {sz a l' h' m' : _} (h : chkR P e0 opx (.slice sz a l' h' m') = true) : ∃ t x l h m, opx = Op.slice t x l h m ∧ (od x a && odO l l' && odO h h' && odO m m' && (match slOf P t with | some e => hasT P e && szOf P e == sz | none => false) && (m.isNone || h.isSome)) = true := by
  cases opx <;> first | exact ⟨_, _, _, _, _, rfl, h⟩ | exact absurd h (by simp [chkR])
theorem inv_sliceA {P : Program} {e0 : List (Nat × Nat)} {opx : Op} {n sz a : _} (h : chkR P e0 opx (.sliceA n sz a) = true) : ∃ t x l h m, opx = Op.slice t x l h m ∧ (l.isNone && h.isNone && m.isNone && od x a && (match arOf P t with | some (m, e) => m == n && hasT P e && szOf P e == sz | none => false)) = true := by
  cases opx <;> first | exact ⟨_, _, _, _, _, rfl, h⟩ | exact absurd h (by simp [chkR])
theorem inv_s2a {P : Program} {e0 : List (Nat × Nat)} {opx : Op} {n a : _} (h : chkR P e0 opx (.s2a n a) = true) : ∃ t x, opx = Op.sliceToArrayPointer t x ∧ (od x a && (match arOf P t with | some (m, _) => m == n | none => false)) = true := by
  cases opx <;> first | exact ⟨_, _, rfl, h⟩ | exact absurd h (by simp [chkR])
theorem inv_build {P : Program} {e0 : List (Nat × Nat)} {opx : Op} {z ps' : _} (h : chkR P e0 opx (.build z ps') = true) : ∃ t ps, opx = Op.build t ps ∧ (zeOf P t z && partsOk P t ps.toList ps' && fieldsIn P t) = true := by
  cases opx <;> first | exact ⟨_, _, rfl, h⟩ | exact absurd h (by simp [chkR])
theorem inv_mkfn {P : Program} {e0 : List (Nat × Nat)} {opx : Op} {g pre as : _} (h : chkR P e0 opx (.mkfn g pre as) = true) : ∃ fn first cs, opx = Op.makeFunc fn first cs ∧ ((match fn with | .func f => f == g | _ => false) && odL first.toList pre && odL cs.toList as) = true := by
  cases opx <;> first | exact ⟨_, _, _, rfl, h⟩ | exact absurd h (by simp [chkR])
theorem inv_extract {P : Program} {e0 : List (Nat × Nat)} {opx : Op} {j a : _} (h : chkR P e0 opx (.extract j a) = true) : ∃ x i, opx = Op.extract x i ∧ (od x a && i == j) = true := by
  cases opx <;> first | exact ⟨_, _, rfl, h⟩ | exact absurd h (by simp [chkR])
theorem inv_nilck {P : Program} {e0 : List (Nat × Nat)} {opx : Op} {a : _} (h : chkR P e0 opx (.nilck a) = true) : ∃ x, opx = Op.nilCheck x ∧ (od x a) = true := by
  cases opx <;> first | exact ⟨_, rfl, h⟩ | exact absurd h (by simp [chkR])
theorem inv_load {P : Program} {e0 : List (Nat × Nat)} {opx : Op} {sz ag a : _} (h : chkR P e0 opx (.load sz ag a) = true) : ∃ t x, opx = Op.load t x ∧ (od x a && memT P t sz ag) = true := by
  cases opx <;> first | exact ⟨_, _, rfl, h⟩ | exact absurd h (by simp [chkR])
theorem inv_alloc {P : Program} {e0 : List (Nat × Nat)} {opx : Op} {z : _} (h : chkR P e0 opx (.alloc z) = true) : ∃ t, opx = Op.alloc t ∧ (zeOf P t z) = true := by
  cases opx <;> first | exact ⟨_, rfl, h⟩ | exact absurd h (by simp [chkR])
theorem inv_box {P : Program} {e0 : List (Nat × Nat)} {opx : Op} {a : _} (h : chkR P e0 opx (.box a) = true) : ∃ y1 x, opx = Op.box y1 x ∧ (od x a) = true := by
  cases opx <;> first | exact ⟨_, _, rfl, h⟩ | exact absurd h (by simp [chkR])
theorem inv_bslice {P : Program} {e0 : List (Nat × Nat)} {opx : Op} {sz as : _} (h : chkR P e0 opx (.bslice sz as) = true) : ∃ t n ps, opx = Op.buildSlice t n ps ∧ (n == as.length && partsS 0 ps.toList as && bsOk P t n sz) = true := by
  cases opx <;> first | exact ⟨_, _, _, rfl, h⟩ | exact absurd h (by simp [chkR])
theorem inv_mkslice {P : Program} {e0 : List (Nat × Nat)} {opx : Op} {z a b : _} (h : chkR P e0 opx (.mkslice z a b) = true) : ∃ t l c, opx = Op.makeSlice t l c ∧ (od l a && od c b && (match slOf P t with | some e => zeOf P e z && szOf P e == z.length && decide (byOf P e ≤ 4096) | none => false)) = true := by
  cases opx <;> first | exact ⟨_, _, _, rfl, h⟩ | exact absurd h (by simp [chkR])
theorem inv_mktree {P : Program} {e0 : List (Nat × Nat)} {opx : Op} {z a b : _} (h : chkR P e0 opx (.mktree z a b) = true) : ∃ t l c, opx = Op.makeSlice t l c ∧ (od l a && od c b && (match slOf P t with | some e => zeOf P e z && szOf P e == z.length && decide (byOf P e ≤ 4096) | none => false)) = true := by
  cases opx <;> first | exact ⟨_, _, _, rfl, h⟩ | exact absurd h (by simp [chkR])
theorem inv_store {P : Program} {opx : Op} {sz a b : _} (h : chkW P opx (.store sz a b) = true) : ∃ t x v, opx = Op.store t x v ∧ (od x a && od v b && hasT P t && (P.underlying t).isSome && szOf P t == sz) = true := by
  cases opx <;> first | exact ⟨_, _, _, rfl, h⟩ | exact absurd h (by simp [chkW])
theorem inv_append {P : Program} {opx : Op} {sz a b : _} (h : chkW P opx (.append sz a b) = true) : ∃ c, opx = Op.call c ∧ ((match c.callee with | .builtin .append => (match c.args.toList, c.argTypes.toList with | [x, y], [t, u] => od x a && od y b && (slOf P u).isSome && elOk P t sz | _, _ => false) | _ => false)) = true := by
  cases opx <;> first | exact ⟨_, rfl, h⟩ | exact absurd h (by simp [chkW])
theorem inv_appendT {P : Program} {opx : Op} {sz a b : _} (h : chkW P opx (.appendT sz a b) = true) : ∃ c, opx = Op.call c ∧ ((match c.callee with | .builtin .append => (match c.args.toList, c.argTypes.toList with | [x, y], [t, u] => od x a && od y b && (slOf P u).isSome && elOk P t sz | _, _ => false) | _ => false)) = true := by
  cases opx <;> first | exact ⟨_, rfl, h⟩ | exact absurd h (by simp [chkW])
theorem inv_appendZ {P : Program} {opx : Op} {z a b : _} (h : chkW P opx (.appendZ z a b) = true) : ∃ c, opx = Op.call c ∧ ((match c.callee with | .builtin .append => (match c.args.toList, c.argTypes.toList with | [x, y], [t, u] => od x a && od y b && (match P.underlying u with | some (.int _) => true | _ => false) && (match slOf P t with | some e => zeOf P e z && szOf P e == z.length && decide (byOf P e ≤ 4096) && decide (z.length ≠ 0) | none => false) | _, _ => false) | _ => false)) = true := by
  cases opx <;> first | exact ⟨_, rfl, h⟩ | exact absurd h (by simp [chkW])
theorem inv_copy {P : Program} {opx : Op} {sz a b : _} (h : chkW P opx (.copy sz a b) = true) : ∃ c, opx = Op.call c ∧ ((match c.callee with | .builtin .copy => (match c.args.toList, c.argTypes.toList with | [x, y], [t, _] => od x a && od y b && decide (sz ≠ 0) && (match slOf P t with | some e => hasT P e && szOf P e == sz | none => false) | _, _ => false) | _ => false)) = true := by
  cases opx <;> first | exact ⟨_, rfl, h⟩ | exact absurd h (by simp [chkW])
theorem inv_frz {P : Program} {opx : Op} {a : _} (h : chkW P opx (.frz a) = true) : (∃ x, opx = Op.move x ∧ od x a = true) ∨ (∃ x, opx = Op.assign x ∧ od x a = true) := by
  cases opx <;> first | exact .inl ⟨_, rfl, h⟩ | exact .inr ⟨_, rfl, h⟩ | exact absurd h (by simp [chkW])
theorem inv_bfrz {P : Program} {e0 : List (Nat × Nat)} {opx : Op} {z ps : _} (h : chkW P opx (.bfrz z ps) = true) : chkR P e0 opx (.build z ps) = true := by
  cases opx <;> first | exact h | exact absurd h (by simp [chkW])
theorem inv_bsliceW {P : Program} {opx : Op} {sz as : _} (h : chkW P opx (.bslice sz as) = true) : ∃ t n ps, opx = Op.buildSlice t n ps ∧ (n == as.length && partsS 0 ps.toList as && bsOk P t n sz) = true := by
  cases opx <;> first | exact ⟨_, _, _, rfl, h⟩ | exact absurd h (by simp [chkW])
end Go.Proofs.YtfmbdcmjgnikiaaGreatDoor.Sm
namespace Go.Proofs.YtfmbdcmjgnikiaaGreatDoor.Sm
open Go Go.RowKit

/-- The machine's operation hands back what stands for v; of memory, new blocks alone. -/
def R1 (P : Program) (K : KK) (σ : Operand → Value) (q : Oper) (v : SV) : Prop :=
  ∃ val W', (execOp σ q).run P K.W = .ok (.value val) W' ∧ WS K.W W' none2 ∧ RV { K with W := W' } val v
theorem R1.of {P : Program} {K : KK} {σ : Operand → Value} {q : Oper} {v : SV} (val : Value) (h : (execOp σ q).run P K.W = .ok (.value val) K.W) (hr : RV K val v) : R1 P K σ q v := ⟨val, K.W, h, WS.refl _ _, hr⟩

section
variable {K : KK} {v : Value}
theorem inv_int {k : IntKind} {n : Int} (h : RV K v (.int k n)) : v = .int k n := by cases h; rfl
theorem inv_bool {b : Bool} (h : RV K v (.bool b)) : v = .bool b := by cases h; rfl
theorem inv_str {s : ByteArray} (h : RV K v (.str s)) : v = .string s := by cases h; rfl
theorem inv_agg {cs : List SV} (h : RV K v (.agg cs)) : ∃ vs : Array Value, v = .agg vs ∧ vs.size = cs.length ∧ ∀ i y, cs[i]? = some y → RV K (vs.getD i Go.undef) y := by cases h; exact ⟨_, rfl, by assumption, by assumption⟩
theorem inv_tup {cs : List SV} (h : RV K v (.tup cs)) : ∃ vs : Array Value, v = .tuple vs ∧ vs.size = cs.length ∧ ∀ i y, cs[i]? = some y → RV K (vs.getD i Go.undef) y := by cases h; exact ⟨_, rfl, by assumption, by assumption⟩
theorem inv_tree {xs : List SV} {nl tight : Bool} (h : RV K v (.tree xs nl tight)) : ∃ (A : Option Addr) (cap sz : Nat) (c : Nat → Nat → Value), v = .slice A xs.length cap ∧ xs.length ≤ cap ∧ nl = A.isNone ∧ (A = none → cap = 0) ∧ (tight = true → cap = xs.length) ∧
    (∀ x ∈ xs, plain x = true) ∧ (∀ x ∈ xs, (cellsOf x).length = sz) ∧
    (∀ j i x y, xs[j]? = some x → (cellsOf x)[i]? = some y → ∃ a, A = some a ∧ a.spot = none ∧ K.W.cell? ⟨a.block, a.off + (j * sz + i), none⟩ = some (c j i) ∧ ¬ K.MC a.block (a.off + (j * sz + i))) ∧
    (∀ j i x y, xs[j]? = some x → (cellsOf x)[i]? = some y → RV K (c j i) y) := by
  cases h with
  | tree A len cap sz xs nl tight c hlen hcap hnl h0 ht hpl hsz hc hr =>
    subst hlen
    exact ⟨A, cap, sz, c, rfl, hcap, hnl, h0, ht, hpl, hsz, hc, hr⟩
theorem inv_own {id off len sz : Nat} (h : RV K v (.own id off len sz)) : ∃ o cap, v = .slice (some ⟨(K.β id).1, o, none⟩) len cap ∧ K.dom id ∧ (cap = 0 ∨ o = (K.β id).2 + off) ∧ len ≤ cap ∧ shapeAt K.W (K.β id).1 (o + cap * sz) := by
  cases h
  exact ⟨_, _, rfl, by assumption, by assumption, by assumption, by assumption⟩
theorem inv_tptr {cs : List SV} {off : Nat} (h : RV K v (.tptr cs off)) : ∃ (b o : Nat) (c : Nat → Value), v = .pointer (some ⟨b, o + off, none⟩) ∧ (∀ y ∈ cs, pl1 y = true) ∧ (∀ i y, cs[i]? = some y → K.W.cell? ⟨b, o + i, none⟩ = some (c i) ∧ ¬ K.MC b (o + i)) ∧ (∀ i y, cs[i]? = some y → RV K (c i) y) := by
  cases h
  exact ⟨_, _, _, rfl, by assumption, by assumption, by assumption⟩
theorem inv_ptr {id off : Nat} (h : RV K v (.ptr id off)) : v = .pointer (some ⟨(K.β id).1, (K.β id).2 + off, none⟩) ∧ K.dom id := by cases h; exact ⟨rfl, by assumption⟩
end

theorem und_run {P : Program} {t : TypeId} {d : TypeDesc} {w : World} (h : P.underlying t = some d) : (underlying t).run P w = .ok d w := by
  simp [underlying, program, Sem.run, h]
theorem info_run {P : Program} {t : TypeId} {i : TypeInfo} {w : World} (h : P.info? t = some i) : (typeInfo t).run P w = .ok i w := by
  simp [typeInfo, program, Sem.run, h]
theorem size_run {P : Program} {t : TypeId} {w : World} (h : hasT P t = true) : (sizeOf t).run P w = .ok (szOf P t) w := by
  unfold hasT at h
  obtain ⟨i, hi⟩ := Option.isSome_iff_exists.1 h
  simp [sizeOf, Sem.run_bind, info_run hi, szOf, hi, Result.andThen]
theorem slOf_und {P : Program} {t e : TypeId} (h : slOf P t = some e) : P.underlying t = some (.slice e) := by
  unfold slOf at h
  split at h <;> simp_all
theorem arOf_und {P : Program} {t e : TypeId} {n : Nat} (h : arOf P t = some (n, e)) : P.underlying t = some (.array n e) := by
  unfold arOf at h
  split at h <;> simp_all
theorem fiOf_und {P : Program} {t f : Nat} {fd : Field} (h : fiOf P t f = some fd) : ∃ fs, P.underlying t = some (.struct fs) ∧ fs[f]? = some fd := by
  unfold fiOf at h
  split at h
  · exact ⟨_, by assumption, h⟩
  · cases h

theorem binI_run {P : Program} {op : BinOp} {k : IntKind} {a b : Int} {r : SV} (h : binI op k a b = some r) (hs : op ≠ .shl ∧ op ≠ .shr) (t : TypeId) (w : World) :
    ∃ val, (binOp op t (.int k a) (.int k b)).run P w = .ok val w ∧ ∀ K : KK, RV K val r := by
  cases op <;> simp only [binI, Option.some.injEq, reduceCtorEq, ne_eq, not_true, and_false, false_and] at h hs
  all_goals first
    | (subst h; exact ⟨_, by simp [binOp, Op.intArith, Op.intBits, Op.intCmp]; rfl, fun K => by constructor⟩)
    | (split at h
       · cases h
       · rename_i hb
         cases h
         exact ⟨_, by simp [binOp, Op.intDiv, hb]; rfl, fun K => by constructor⟩)

theorem bin_run {P : Program} {op : BinOp} {x y r : SV} (h : bin op x y = some r) (t : TypeId) (w : World) {K : KK} {vx vy : Value} (hx : RV K vx x) (hy : RV K vy y) :
    ∃ val, (binOp op t vx vy).run P w = .ok val w ∧ RV K val r ∧ ∃ k a k' b, vx = .int k a ∧ vy = .int k' b := by
  cases x <;> cases y <;> simp only [bin, reduceCtorEq] at h
  rename_i k a k' b
  obtain rfl := inv_int hx
  obtain rfl := inv_int hy
  by_cases h1 : op = .shl
  · subst h1
    simp only at h
    split at h
    · cases h
    · rename_i hb
      cases h
      exact ⟨_, by simp [binOp, Op.shift, hb]; rfl, by constructor, _, _, _, _, rfl, rfl⟩
  by_cases h2 : op = .shr
  · subst h2
    simp only at h
    split at h
    · cases h
    · rename_i hb
      cases h
      exact ⟨_, by simp [binOp, Op.shift, hb]; rfl, by constructor, _, _, _, _, rfl, rfl⟩
  have h3 : (if k = k' then binI op k a b else none) = some r := by
    cases op <;> simp_all
  split at h3
  · rename_i hk
    subst hk
    obtain ⟨val, hv, hr⟩ := binI_run h3 ⟨h1, h2⟩ t w
    exact ⟨val, hv, hr K, _, _, _, _, rfl, rfl⟩
  · cases h3

theorem eqGuard_int {P : Program} {op : BinOp} {t : TypeId} {x y : Operand} {k k' : IntKind} {a b : Int} {w : World} : (eqGuard op t x y (.int k a) (.int k' b)).run P w = .ok () w := by
  unfold eqGuard
  cases op <;> simp [Sem.run]

theorem equal_bool {P : Program} {t : TypeId} {a b : Bool} {w : World} (hu : P.underlying t = some .bool) : (Op.equal t (.bool a) (.bool b)).run P w = .ok (a == b) w := by
  show (Op.equalIn (9999 + 1) t (.bool a) (.bool b)).run P w = _
  rw [Op.equalIn]
  simp [Sem.run_bind, und_run hu, Result.andThen]
theorem equal_nil {P : Program} {t e : TypeId} {A : Option Addr} {n m n' m' : Nat} {w : World} (hu : P.underlying t = some (.slice e)) : (Op.equal t (.slice A n m) (.slice none n' m')).run P w = .ok A.isNone w := by
  show (Op.equalIn (9999 + 1) t (.slice A n m) (.slice none n' m')).run P w = _
  rw [Op.equalIn]
  cases A <;> simp [Sem.run_bind, und_run hu, Result.andThen]
theorem binOp_eql_bool {t : TypeId} {a b : Bool} : binOp .eql t (.bool a) (.bool b) = (do pure (.bool (← Op.equal t (.bool a) (.bool b)))) := rfl
theorem binOp_neq_bool {t : TypeId} {a b : Bool} : binOp .neq t (.bool a) (.bool b) = (do pure (.bool (!(← Op.equal t (.bool a) (.bool b))))) := rfl
theorem binOp_eql_slice {t : TypeId} {A B : Option Addr} {n m n' m' : Nat} : binOp .eql t (.slice A n m) (.slice B n' m') = (do pure (.bool (← Op.equal t (.slice A n m) (.slice B n' m')))) := rfl
theorem binOp_neq_slice {t : TypeId} {A B : Option Addr} {n m n' m' : Nat} : binOp .neq t (.slice A n m) (.slice B n' m') = (do pure (.bool (!(← Op.equal t (.slice A n m) (.slice B n' m'))))) := rfl
theorem binOp_eql_str {t : TypeId} {a b : ByteArray} : binOp .eql t (.string a) (.string b) = Op.stringOp .eql a b := rfl
theorem binOp_neq_str {t : TypeId} {a b : ByteArray} : binOp .neq t (.string a) (.string b) = Op.stringOp .neq a b := rfl
theorem guard_bool {P : Program} {op : BinOp} {t : TypeId} {x y : Operand} {a b : Bool} {w : World} : (eqGuard op t x y (.bool a) (.bool b)).run P w = .ok () w := by
  unfold eqGuard
  cases op <;> simp [Sem.run]
theorem guard_slice {P : Program} {op : BinOp} {t : TypeId} {x y : Operand} {A B : Option Addr} {n m n' m' : Nat} {w : World} : (eqGuard op t x y (.slice A n m) (.slice B n' m')).run P w = .ok () w := by
  unfold eqGuard
  cases op <;> simp [Sem.run]
theorem guard_str {P : Program} {op : BinOp} {t : TypeId} {x y : Operand} {a b : ByteArray} {w : World} : (eqGuard op t x y (.string a) (.string b)).run P w = .ok () w := by
  unfold eqGuard
  cases op <;> simp [Sem.run]
theorem exec_bin {P : Program} {σ : Operand → Value} {q : Oper} {op : BinOp} {t t' : TypeId} {x y : Operand} {w : World} (hx : q.op = .binOp op t x y t') (hg : (eqGuard op t x y (σ x) (σ y)).run P w = .ok () w) {val : Value} (hb : (binOp op t (σ x) (σ y)).run P w = .ok val w) : (execOp σ q).run P w = .ok (.value val) w := by
  simp [execOp, hx, Sem.run_bind, hg, hb, Result.andThen]

section ops
variable {P : Program} {eqTs : List (Nat × Nat)} {K : KK} {σ : Operand → Value} {ρ : Arg → SV} {q : Oper}

theorem r_mov {a : Arg} (hq : chkR P eqTs q.op (.mov a) = true) (hσ : ∀ x, od x a = true → RV K (σ x) (ρ a)) : R1 P K σ q (ρ a) := by
  have : ∃ x, (q.op = .move x ∨ q.op = .assign x) ∧ od x a = true := by
    revert hq
    cases q.op <;> intro hq <;> first | exact ⟨_, .inl rfl, hq⟩ | exact ⟨_, .inr rfl, hq⟩ | exact absurd hq (by simp [chkR])
  obtain ⟨x, hx | hx, ho⟩ := this
  · exact R1.of (σ x) (by simp [execOp, hx]) (hσ x ho)
  · exact R1.of (σ x) (by simp [execOp, hx]) (hσ x ho)

theorem r_pick {c a b : Arg} {t : Bool} (hq : chkR P eqTs q.op (.pick c a b) = true) (hc : ∀ x, od x c = true → RV K (σ x) (ρ c)) (ha : ∀ x, od x a = true → RV K (σ x) (ρ a)) (hb : ∀ x, od x b = true → RV K (σ x) (ρ b)) (ht : ρ c = .bool t) :
    R1 P K σ q (if t then ρ a else ρ b) := by
  obtain ⟨x, y, z, hx, ho⟩ := inv_pick hq
  simp only [Bool.and_eq_true] at ho
  have h1 := hc x ho.1.1
  rw [ht] at h1
  refine R1.of (if t then σ y else σ z) (by simp [execOp, hx, inv_bool h1, asBool]) ?_
  cases t
  · exact hb z ho.2
  · exact ha y ho.1.2

theorem r_bin {op : BinOp} {a b : Arg} {v : SV} (hq : chkR P eqTs q.op (.bin op a b) = true) (ha : ∀ x, od x a = true → RV K (σ x) (ρ a)) (hb : ∀ x, od x b = true → RV K (σ x) (ρ b)) (he : bin op (ρ a) (ρ b) = some v) : R1 P K σ q v := by
  obtain ⟨op', t, x, y, _, hx, ho⟩ := inv_bin hq
  simp only [Bool.and_eq_true, beq_iff_eq] at ho
  obtain ⟨⟨rfl, h1⟩, h2⟩ := ho
  obtain ⟨val, hv, hr, k, c, k', d, e1, e2⟩ := bin_run (P := P) he t K.W (ha x h1) (hb y h2)
  refine R1.of val ?_ hr
  have hg := eqGuard_int (P := P) (op := op') (t := t) (x := x) (y := y) (k := k) (k' := k') (a := c) (b := d) (w := K.W)
  rw [e1, e2] at hv
  simp [execOp, hx, e1, e2, Sem.run_bind, hg, hv, Result.andThen]

theorem r_eqb {neg : Bool} {a b : Arg} {c d : Bool} (hq : chkR P eqTs q.op (.eqb neg a b) = true) (ha : ∀ x, od x a = true → RV K (σ x) (ρ a)) (hb : ∀ x, od x b = true → RV K (σ x) (ρ b)) (h1 : ρ a = .bool c) (h2 : ρ b = .bool d) : R1 P K σ q (.bool (xorB neg (c == d))) := by
  obtain ⟨op, t, x, y, _, hx, ho⟩ := inv_eqb hq
  simp only [Bool.and_eq_true] at ho
  obtain ⟨⟨⟨h3, h4⟩, h5⟩, h6⟩ := ho
  have e1 := ha x h5
  have e2 := hb y h6
  rw [h1] at e1
  rw [h2] at e2
  have hu : P.underlying t = some .bool := by
    split at h4
    · assumption
    · cases h4
  refine R1.of (.bool (xorB neg (c == d))) (exec_bin hx (by rw [inv_bool e1, inv_bool e2]; exact guard_bool) ?_) (.bool _)
  rw [inv_bool e1, inv_bool e2]
  cases neg
  · obtain rfl : op = .eql := by simpa using h3
    simp [binOp_eql_bool, Sem.run_bind, equal_bool hu, Result.andThen, xorB]
  · obtain rfl : op = .neq := by simpa using h3
    simp [binOp_neq_bool, Sem.run_bind, equal_bool hu, Result.andThen, xorB]

theorem r_eqn {neg : Bool} {a b : Arg} {xs : List SV} {nl tg tg' : Bool} (hq : chkR P eqTs q.op (.eqn neg a b) = true) (ha : ∀ x, od x a = true → RV K (σ x) (ρ a)) (hb : ∀ x, od x b = true → RV K (σ x) (ρ b)) (h1 : ρ a = .tree xs nl tg) (h2 : ρ b = .tree [] true tg') : R1 P K σ q (.bool (xorB neg nl)) := by
  obtain ⟨op, t, x, y, _, hx, ho⟩ := inv_eqn hq
  simp only [Bool.and_eq_true] at ho
  obtain ⟨⟨⟨h3, h4⟩, h5⟩, h6⟩ := ho
  obtain ⟨e, he⟩ := Option.isSome_iff_exists.1 h4
  have hu := slOf_und he
  have e1 := ha x h5
  have e2 := hb y h6
  rw [h1] at e1
  rw [h2] at e2
  obtain ⟨A, cap, sz, c, hA, _, hn, _⟩ := inv_tree e1
  obtain ⟨A', cap', sz', c', hB, _, hn', _⟩ := inv_tree e2
  obtain rfl : A' = none := by
    cases A' with
    | none => rfl
    | some _ => exact absurd hn' (by simp)
  subst hn
  refine R1.of (.bool (xorB neg A.isNone)) (exec_bin hx (by rw [hA, hB]; exact guard_slice) ?_) (.bool _)
  rw [hA, hB]
  cases neg
  · obtain rfl : op = .eql := by simpa using h3
    simp [binOp_eql_slice, Sem.run_bind, equal_nil hu, Result.andThen, xorB]
  · obtain rfl : op = .neq := by simpa using h3
    simp [binOp_neq_slice, Sem.run_bind, equal_nil hu, Result.andThen, xorB]

theorem r_eqno {neg : Bool} {a b : Arg} {i1 i2 i3 i4 : Nat} {tg' : Bool} (hq : chkR P eqTs q.op (.eqn neg a b) = true) (ha : ∀ x, od x a = true → RV K (σ x) (ρ a)) (hb : ∀ x, od x b = true → RV K (σ x) (ρ b)) (h1 : ρ a = .own i1 i2 i3 i4) (h2 : ρ b = .tree [] true tg') : R1 P K σ q (.bool (xorB neg false)) := by
  obtain ⟨op, t, x, y, _, hx, ho⟩ := inv_eqn hq
  simp only [Bool.and_eq_true] at ho
  obtain ⟨⟨⟨h3, h4⟩, h5⟩, h6⟩ := ho
  obtain ⟨e, he⟩ := Option.isSome_iff_exists.1 h4
  have hu := slOf_und he
  have e1 := ha x h5
  have e2 := hb y h6
  rw [h1] at e1
  rw [h2] at e2
  obtain ⟨o, cap, hA, _⟩ := inv_own e1
  obtain ⟨A', cap', sz', c', hB, _, hn', _⟩ := inv_tree e2
  obtain rfl : A' = none := by
    cases A' with
    | none => rfl
    | some _ => exact absurd hn' (by simp)
  refine R1.of (.bool (xorB neg false)) (exec_bin hx (by rw [hA, hB]; exact guard_slice) ?_) (.bool _)
  rw [hA, hB]
  cases neg
  · obtain rfl : op = .eql := by simpa using h3
    simp [binOp_eql_slice, Sem.run_bind, equal_nil hu, Result.andThen, xorB]
  · obtain rfl : op = .neq := by simpa using h3
    simp [binOp_neq_slice, Sem.run_bind, equal_nil hu, Result.andThen, xorB]

theorem r_eqs {neg : Bool} {a b : Arg} {c d : ByteArray} (hq : chkR P eqTs q.op (.eqs neg a b) = true) (ha : ∀ x, od x a = true → RV K (σ x) (ρ a)) (hb : ∀ x, od x b = true → RV K (σ x) (ρ b)) (h1 : ρ a = .str c) (h2 : ρ b = .str d) : R1 P K σ q (.bool (xorB neg (c.toList == d.toList))) := by
  obtain ⟨op, t, x, y, _, hx, ho⟩ := inv_eqs hq
  simp only [Bool.and_eq_true] at ho
  obtain ⟨⟨h3, h5⟩, h6⟩ := ho
  have e1 := ha x h5
  have e2 := hb y h6
  rw [h1] at e1
  rw [h2] at e2
  refine R1.of (.bool (xorB neg (c.toList == d.toList))) (exec_bin hx (by rw [inv_str e1, inv_str e2]; exact guard_str) ?_) (.bool _)
  rw [inv_str e1, inv_str e2]
  cases neg
  · obtain rfl : op = .eql := by simpa using h3
    simp [binOp_eql_str, Op.stringOp, xorB]
  · obtain rfl : op = .neq := by simpa using h3
    simp [binOp_neq_str, Op.stringOp, xorB]

theorem r_not {a : Arg} {b : Bool} (hq : chkR P eqTs q.op (.not a) = true) (ha : ∀ x, od x a = true → RV K (σ x) (ρ a)) (h1 : ρ a = .bool b) : R1 P K σ q (.bool (!b)) := by
  obtain ⟨op, _, x, hx, ho⟩ := inv_not hq
  simp only [Bool.and_eq_true] at ho
  have e1 := ha x ho.2
  rw [h1] at e1
  have : op = .not := by cases op <;> simp_all
  subst this
  exact R1.of (.bool (!b)) (by simp [execOp, hx, inv_bool e1, Op.unary]) (.bool _)

theorem r_neg {a : Arg} {k : IntKind} {n : Int} (hq : chkR P eqTs q.op (.neg a) = true) (ha : ∀ x, od x a = true → RV K (σ x) (ρ a)) (h1 : ρ a = .int k n) : R1 P K σ q (.int k (k.wrap (0 - n))) := by
  obtain ⟨op, _, x, hx, ho⟩ := inv_neg hq
  simp only [Bool.and_eq_true] at ho
  have e1 := ha x ho.2
  rw [h1] at e1
  have : op = .neg := by cases op <;> simp_all
  subst this
  exact R1.of (.int k (k.wrap (0 - n))) (by simp [execOp, hx, inv_int e1, Op.unary, Op.intArith]) (.int _ _)

theorem r_conv {a : Arg} {k k0 : IntKind} {n : Int} (hq : chkR P eqTs q.op (.conv k a) = true) (ha : ∀ x, od x a = true → RV K (σ x) (ρ a)) (h1 : ρ a = .int k0 n) : R1 P K σ q (.int k (k.wrap n)) := by
  obtain ⟨s, d, x, hx, ho⟩ := inv_conv hq
  simp only [Bool.and_eq_true] at ho
  obtain ⟨⟨h2, h3⟩, h4⟩ := ho
  have e1 := ha x h4
  rw [h1] at e1
  obtain ⟨u, hu⟩ := Option.isSome_iff_exists.1 h2
  have hd : P.underlying d = some (.int k) := by
    split at h3
    · rename_i k' hk
      rw [hk, beq_iff_eq.1 h3]
    · cases h3
  exact R1.of (.int k (k.wrap n)) (by simp [execOp, hx, inv_int e1, convert, Sem.run_bind, und_run hu, und_run hd, Result.andThen, Conv.intToInt]) (.int _ _)

theorem add_addr (a : Addr) (n : Nat) (h : a.spot = none ∨ n ≠ 0) : a.add n = ⟨a.block, a.off + n, none⟩ := by
  unfold Addr.add
  obtain ⟨b, o, s⟩ := a
  by_cases hn : n = 0
  · subst hn
    rcases h with h | h
    · simp only at h; simp [h]
    · exact absurd rfl h
  · simp [hn]
theorem args1 {A : Array Operand} {T : Array TypeId} {p : Operand → TypeId → Bool} (h : (match A.toList, T.toList with | [x], [t] => p x t | _, _ => false) = true) : ∃ x t, A = #[x] ∧ T = #[t] ∧ p x t = true := by
  split at h
  · rename_i x t h1 h2
    exact ⟨x, t, by cases A; simp_all, by cases T; simp_all, h⟩
  · cases h
theorem args2 {A : Array Operand} {p : Operand → Operand → Bool} (h : (match A.toList with | [x, y] => p x y | _ => false) = true) : ∃ x y, A = #[x, y] ∧ p x y = true := by
  split at h
  · rename_i x y h1
    exact ⟨x, y, by cases A; simp_all, h⟩
  · cases h
theorem args22 {A : Array Operand} {T : Array TypeId} {p : Operand → Operand → TypeId → TypeId → Bool} (h : (match A.toList, T.toList with | [x, y], [t, u] => p x y t u | _, _ => false) = true) : ∃ x y t u, A = #[x, y] ∧ T = #[t, u] ∧ p x y t u = true := by
  split at h
  · rename_i x y t u h1 h2
    exact ⟨x, y, t, u, by cases A; simp_all, by cases T; simp_all, h⟩
  · cases h

theorem r_len {a : Arg} {n : Nat} (hq : chkR P eqTs q.op (.len a) = true) (ha : ∀ x, od x a = true → RV K (σ x) (ρ a))
    (h1 : (∃ xs nl t, ρ a = .tree xs nl t ∧ n = xs.length) ∨ ∃ id off sz, ρ a = .own id off n sz) : R1 P K σ q (.int .i64 n) := by
  obtain ⟨⟨callee, A, T⟩, hx, ho⟩ := inv_len hq
  simp only at ho
  split at ho
  · obtain ⟨x, t, rfl, rfl, hp⟩ := args1 ho
    simp only [Bool.and_eq_true] at hp
    obtain ⟨e, he⟩ := Option.isSome_iff_exists.1 hp.2
    have hu := slOf_und he
    have hr := ha x hp.1
    have hv : ∃ A cap, σ x = .slice A n cap := by
      rcases h1 with ⟨xs, nl, t, h1, rfl⟩ | ⟨id, off, sz, h1⟩
      · rw [h1] at hr
        obtain ⟨A, cap, _, _, h, _⟩ := inv_tree hr
        exact ⟨A, cap, h⟩
      · rw [h1] at hr
        obtain ⟨o, cap, h, _⟩ := inv_own hr
        exact ⟨_, cap, h⟩
    obtain ⟨A, cap, hv⟩ := hv
    exact R1.of (.int .i64 n) (by simp [execOp, hx, resolve, invoke, builtin, Builtin.len_, hv, Sem.run_bind, und_run hu, Result.andThen, goInt]) (.int _ _)
  · cases ho

theorem r_lenS {a : Arg} {s : ByteArray} (hq : chkR P eqTs q.op (.lenS a) = true) (ha : ∀ x, od x a = true → RV K (σ x) (ρ a)) (h1 : ρ a = .str s) : R1 P K σ q (.int .i64 s.size) := by
  obtain ⟨⟨callee, A, T⟩, hx, ho⟩ := inv_lenS hq
  simp only at ho
  split at ho
  · obtain ⟨x, t, rfl, rfl, hp⟩ := args1 ho
    simp only [Bool.and_eq_true] at hp
    have hu : P.underlying t = some .string := by
      have := hp.2
      split at this
      · assumption
      · cases this
    have hr := ha x hp.1
    rw [h1] at hr
    exact R1.of (.int .i64 s.size) (by simp [execOp, hx, resolve, invoke, builtin, Builtin.len_, inv_str hr, Sem.run_bind, und_run hu, Result.andThen, goInt]) (.int _ _)
  · cases ho

theorem r_lenA {n : Nat} (hq : chkR P eqTs q.op (.lenA n) = true) : R1 P K σ q (.int .i64 n) := by
  obtain ⟨⟨callee, A, T⟩, hx, ho⟩ := inv_lenA hq
  simp only at ho
  split at ho
  · obtain ⟨x, t, rfl, rfl, hp⟩ := args1 ho
    unfold lenArr at hp
    split at hp
    · rename_i m e hu
      obtain rfl := beq_iff_eq.1 hp
      refine R1.of (.int .i64 m) ?_ (.int _ _)
      simp only [execOp, hx, resolve, invoke, builtin, Builtin.len_, Sem.run_bind, Sem.run_pure, Result.andThen_ok, List.map_toArray, List.map_cons, List.map_nil]
      generalize σ x = z
      cases z <;> simp [Sem.run_bind, und_run hu, Result.andThen, goInt]
    · rename_i p hu
      split at hp
      · rename_i m e hm
        obtain rfl := beq_iff_eq.1 hp
        have hu2 := arOf_und hm
        refine R1.of (.int .i64 m) ?_ (.int _ _)
        simp only [execOp, hx, resolve, invoke, builtin, Builtin.len_, Sem.run_bind, Sem.run_pure, Result.andThen_ok, List.map_toArray, List.map_cons, List.map_nil]
        generalize σ x = z
        cases z <;> simp [Sem.run_bind, und_run hu, und_run hu2, Result.andThen, goInt]
      · cases hp
    · cases hp
  · cases ho

theorem r_cap {a : Arg} {xs : List SV} {nl : Bool} (hq : chkR P eqTs q.op (.cap a) = true) (ha : ∀ x, od x a = true → RV K (σ x) (ρ a)) (h1 : ρ a = .tree xs nl true) : R1 P K σ q (.int .i64 xs.length) := by
  obtain ⟨⟨callee, A, T⟩, hx, ho⟩ := inv_cap hq
  simp only at ho
  split at ho
  · obtain ⟨x, t, rfl, rfl, hp⟩ := args1 ho
    simp only [Bool.and_eq_true] at hp
    obtain ⟨e, he⟩ := Option.isSome_iff_exists.1 hp.2
    have hu := slOf_und he
    have hr := ha x hp.1
    rw [h1] at hr
    obtain ⟨A, cap, _, _, hv, _, _, _, ht, _⟩ := inv_tree hr
    obtain rfl := ht rfl
    exact R1.of (.int .i64 xs.length) (by simp [execOp, hx, resolve, invoke, builtin, Builtin.cap_, hv, Sem.run_bind, und_run hu, Result.andThen, goInt]) (.int _ _)
  · cases ho

theorem r_mn {a b : Arg} {k k' : IntKind} {m n : Int} (hq : chkR P eqTs q.op (.mn a b) = true) (ha : ∀ x, od x a = true → RV K (σ x) (ρ a)) (hb : ∀ x, od x b = true → RV K (σ x) (ρ b)) (h1 : ρ a = .int k m) (h2 : ρ b = .int k' n) : R1 P K σ q (.int k (if n < m then n else m)) := by
  obtain ⟨⟨callee, A, T⟩, hx, ho⟩ := inv_mn hq
  simp only at ho
  split at ho
  · obtain ⟨x, y, rfl, hp⟩ := args2 ho
    simp only [Bool.and_eq_true] at hp
    have e1 := ha x hp.1
    have e2 := hb y hp.2
    rw [h1] at e1
    rw [h2] at e2
    exact R1.of (.int k (if n < m then n else m)) (by simp [execOp, hx, resolve, invoke, builtin, Builtin.min_, Builtin.min2, inv_int e1, inv_int e2, Sem.run_bind, Result.andThen]) (.int _ _)
  · cases ho
theorem r_mx {a b : Arg} {k k' : IntKind} {m n : Int} (hq : chkR P eqTs q.op (.mx a b) = true) (ha : ∀ x, od x a = true → RV K (σ x) (ρ a)) (hb : ∀ x, od x b = true → RV K (σ x) (ρ b)) (h1 : ρ a = .int k m) (h2 : ρ b = .int k' n) : R1 P K σ q (.int k (if n > m then n else m)) := by
  obtain ⟨⟨callee, A, T⟩, hx, ho⟩ := inv_mx hq
  simp only at ho
  split at ho
  · obtain ⟨x, y, rfl, hp⟩ := args2 ho
    simp only [Bool.and_eq_true] at hp
    have e1 := ha x hp.1
    have e2 := hb y hp.2
    rw [h1] at e1
    rw [h2] at e2
    exact R1.of (.int k (if n > m then n else m)) (by simp [execOp, hx, resolve, invoke, builtin, Builtin.max_, Builtin.max2, inv_int e1, inv_int e2, Sem.run_bind, Result.andThen]) (.int _ _)
  · cases ho

end ops
end Go.Proofs.YtfmbdcmjgnikiaaGreatDoor.Sm
namespace Go.Proofs.YtfmbdcmjgnikiaaGreatDoor.Sm
open Go Go.RowKit

theorem isAgg_run {P : Program} {t : TypeId} {w : World} (h : (P.underlying t).isSome = true) : (isAgg t).run P w = .ok (agOf P t) w := by
  obtain ⟨d, hd⟩ := Option.isSome_iff_exists.1 h
  unfold isAgg agOf
  rw [Sem.run_bind, und_run hd, hd]
  cases d <;> rfl

/-- The cells of a composite stand for a list. -/
def CR (K : KK) (vs : Array Value) (cs : List SV) : Prop := vs.size = cs.length ∧ ∀ i y, cs[i]? = some y → RV K (vs.getD i Go.undef) y

theorem getD_of {vs : Array Value} {i : Nat} {v : Value} (h : vs[i]? = some v) : vs.getD i Go.undef = v := by
  simp [Array.getD_eq_getD_getElem?, h]
theorem get_of_lt {vs : Array Value} {i : Nat} (h : i < vs.size) : vs[i]? = some (vs.getD i Go.undef) := by
  simp [Array.getD_eq_getD_getElem?, h]

theorem CR.sub {K : KK} {vs : Array Value} {cs : List SV} (h : CR K vs cs) (off n : Nat) (hn : off + n ≤ cs.length) : CR K (vs.extract off (off + n)) (Sm.sub cs off n) := by
  obtain ⟨h1, h2⟩ := h
  refine ⟨by simp [Sm.sub, h1]; omega, fun i y hy => ?_⟩
  have hi : i < n := by
    have := (List.getElem?_eq_some_iff.1 hy).1
    simp [Sm.sub] at this; omega
  have hy2 : cs[off + i]? = some y := by
    simpa [Sm.sub, hi, List.getElem?_take, List.getElem?_drop] using hy
  have h3 := h2 _ _ hy2
  have h4 : (vs.extract off (off + n)).getD i Go.undef = vs.getD (off + i) Go.undef := by
    simp only [Array.getD_eq_getD_getElem?, Array.getElem?_extract]
    rw [if_pos (by omega)]
  rw [h4]; exact h3

theorem part_run {P : Program} {K : KK} {vs : Array Value} {cs : List SV} {t : TypeId} {off sz : Nat} {ag : Bool} {v : SV} (h : CR K vs cs) (hm : memT P t sz ag = true) (he : ldc cs off sz ag = some v) (w : World) :
    ∃ val, (part t vs off).run P w = .ok val w ∧ RV K val v := by
  simp only [memT, Bool.and_eq_true, beq_iff_eq] at hm
  obtain ⟨⟨⟨h1, h2⟩, h3⟩, h4⟩ := hm
  unfold part
  rw [Sem.run_bind, isAgg_run h2, Result.andThen_ok, h4]
  unfold ldc at he
  cases ag
  · simp only [if_false, Bool.false_eq_true] at he ⊢
    have hlt := (List.getElem?_eq_some_iff.1 he).1
    have hv := get_of_lt (vs := vs) (i := off) (by rw [h.1]; exact hlt)
    rw [hv]
    exact ⟨_, rfl, h.2 _ _ he⟩
  · simp only [if_true] at he ⊢
    split at he
    · rename_i hle
      cases he
      refine ⟨.agg (vs.extract off (off + sz)), by simp [Sem.run_bind, size_run h1, h3, Result.andThen], ?_⟩
      have := h.sub off sz hle
      exact .agg _ _ this.1 this.2
    · cases he

theorem loadAt_run {P : Program} {K : KK} {cs : List SV} {t : TypeId} {b o off sz : Nat} {ag : Bool} {v : SV}
    (h : ∀ i y, cs[i]? = some y → ∃ u, K.W.cell? ⟨b, o + i, none⟩ = some u ∧ RV K u y) (hm : memT P t sz ag = true) (he : ldc cs off sz ag = some v) :
    ∃ val, (Instr.loadAt t (.pointer (some ⟨b, o + off, none⟩))).run P K.W = .ok val K.W ∧ RV K val v := by
  simp only [memT, Bool.and_eq_true, beq_iff_eq] at hm
  obtain ⟨⟨⟨h1, h2⟩, h3⟩, h4⟩ := hm
  unfold Instr.loadAt Instr.sureAddr loadVar
  simp only [Sem.run_bind, Sem.run_pure, Result.andThen_ok, isAgg_run h2, h4]
  unfold ldc at he
  cases ag
  · simp only [if_false, Bool.false_eq_true] at he ⊢
    obtain ⟨u, hu, hr⟩ := h _ _ he
    exact ⟨u, by simp [load, Sem.run, hu], hr⟩
  · simp only [if_true] at he ⊢
    split at he
    · rename_i hle
      cases he
      let f : Nat → Value := fun j => (K.W.cell? ⟨b, o + off + j, none⟩).getD Go.undef
      have hf : ∀ j y, (Sm.sub cs off sz)[j]? = some y → K.W.cell? ⟨b, o + off + j, none⟩ = some (f j) ∧ RV K (f j) y := by
        intro j y hy
        have hj : j < sz := by
          have := (List.getElem?_eq_some_iff.1 hy).1
          simp [Sm.sub] at this; omega
        have hy2 : cs[off + j]? = some y := by
          simpa [Sm.sub, hj, List.getElem?_take, List.getElem?_drop] using hy
        obtain ⟨u, hu, hr⟩ := h _ _ hy2
        rw [← Nat.add_assoc] at hu
        simp only [f, hu, Option.getD_some]
        exact ⟨trivial, hr⟩
      have hlen : (Sm.sub cs off sz).length = sz := by simp [Sm.sub]; omega
      have hl := run_loadCells (P := P) K.W ⟨b, o + off, none⟩ sz f (fun j hj => by
        rw [add_addr _ _ (.inl rfl)]
        exact (hf j _ (List.getElem?_eq_getElem (by rw [hlen]; exact hj))).1)
      refine ⟨.agg ((List.range sz).map f).toArray, by simp [Sem.run_bind, size_run h1, h3, Result.andThen, hl], .agg _ _ (by simp [hlen]) fun i y hy => ?_⟩
      have hi : i < sz := by
        have := (List.getElem?_eq_some_iff.1 hy).1
        omega
      rw [getD_of (v := f i) (by simp [hi])]
      exact (hf i y hy).2
    · cases he

theorem asIntOf_int {P : Program} {k : IntKind} {n : Int} {w : World} : (asIntOf (.int k n)).run P w = .ok (k, n) w := rfl

section ops
variable {P : Program} {eqTs : List (Nat × Nat)} {K : KK} {σ : Operand → Value} {ρ : Arg → SV} {q : Oper}

theorem r_field {off sz : Nat} {ag : Bool} {a : Arg} {cs : List SV} {v : SV} (hq : chkR P eqTs q.op (.field off sz ag a) = true) (ha : ∀ x, od x a = true → RV K (σ x) (ρ a)) (h1 : ρ a = .agg cs) (he : ldc cs off sz ag = some v) : R1 P K σ q v := by
  obtain ⟨t, x, f, hx, ho⟩ := inv_field hq
  simp only [Bool.and_eq_true] at ho
  obtain ⟨h2, h3⟩ := ho
  split at h3
  · rename_i fd hfd
    simp only [Bool.and_eq_true, beq_iff_eq] at h3
    obtain ⟨fs, hu, hf⟩ := fiOf_und hfd
    have hr := ha x h2
    rw [h1] at hr
    obtain ⟨vs, hv, h4, h5⟩ := inv_agg hr
    obtain ⟨val, h6, h7⟩ := part_run (P := P) ⟨h4, h5⟩ h3.2 he K.W
    rw [← h3.1] at h6
    exact R1.of val (by simp [execOp, hx, hv, Instr.field, Sem.run_bind, und_run hu, hf, asAgg, h6, Result.andThen]) h7
  · cases h3

theorem r_index {n sz : Nat} {ag : Bool} {a b : Arg} {cs : List SV} {j : Nat} {v : SV} (hq : chkR P eqTs q.op (.index n sz ag a b) = true) (ha : ∀ x, od x a = true → RV K (σ x) (ρ a)) (hb : ∀ x, od x b = true → RV K (σ x) (ρ b)) (h1 : ρ a = .agg cs) (hj : idx (ρ b) n = some j) (he : ldc cs (j * sz) sz ag = some v) : R1 P K σ q v := by
  obtain ⟨t, x, i, hx, ho⟩ := inv_index hq
  simp only [Bool.and_eq_true] at ho
  obtain ⟨⟨h2, h2'⟩, h3⟩ := ho
  split at h3
  · rename_i m e hfd
    simp only [Bool.and_eq_true, beq_iff_eq] at h3
    have hu := arOf_und hfd
    have hr := ha x h2
    have hi := hb i h2'
    rw [h1] at hr
    obtain ⟨vs, hv, h4, h5⟩ := inv_agg hr
    obtain ⟨rfl, hm⟩ := h3
    obtain ⟨val, h6, h7⟩ := part_run (P := P) ⟨h4, h5⟩ hm he K.W
    cases hb2 : ρ b <;> simp only [hb2, idx, reduceCtorEq] at hj
    rename_i k z
    split at hj
    · rename_i hz
      cases hj
      rw [hb2] at hi
      have hs : hasT P e = true ∧ szOf P e = sz := by
        simp only [memT, Bool.and_eq_true, beq_iff_eq] at hm
        exact ⟨hm.1.1.1, hm.1.2⟩
      rw [← hs.2] at h6
      exact R1.of val (by simp [execOp, hx, hv, inv_int hi, Instr.index, Sem.run_bind, und_run hu, asIntOf, hz, size_run hs.1, h6, Result.andThen]) h7
    · cases hj
  · cases h3

theorem r_indexS {a b : Arg} {s : ByteArray} {j : Nat} (hq : chkR P eqTs q.op (.indexS a b) = true) (ha : ∀ x, od x a = true → RV K (σ x) (ρ a)) (hb : ∀ x, od x b = true → RV K (σ x) (ρ b)) (h1 : ρ a = .str s) (hj : idx (ρ b) s.size = some j) : R1 P K σ q (.int .u8 ((s.data.getD j 0).toNat : Int)) := by
  obtain ⟨t, x, i, hx, ho⟩ := inv_indexS hq
  simp only [Bool.and_eq_true] at ho
  obtain ⟨⟨h2, h2'⟩, h3⟩ := ho
  have hu : P.underlying t = some .string := by
    split at h3
    · assumption
    · cases h3
  have hr := ha x h2
  have hi := hb i h2'
  rw [h1] at hr
  cases hb2 : ρ b <;> simp only [hb2, idx, reduceCtorEq] at hj
  rename_i k z
  split at hj
  · rename_i hz
    cases hj
    rw [hb2] at hi
    have hlt : z.toNat < s.size := by omega
    have hs : s[z.toNat]? = some (s.data.getD z.toNat 0) := by
      rw [getElem?_pos s z.toNat hlt]
      congr 1
      have : z.toNat < s.data.size := hlt
      show s.data[z.toNat] = _
      simp [Array.getD, this]
      omega
    exact R1.of (.int .u8 ((s.data.getD z.toNat 0).toNat : Int)) (by simp [execOp, hx, inv_str hr, inv_int hi, Instr.index, Sem.run_bind, und_run hu, asIntOf, hz.1, hs, Result.andThen]) (.int _ _)
  · cases hj

theorem r_faddr {o : Nat} {a : Arg} (hq : chkR P eqTs q.op (.faddr o a) = true) (ha : ∀ x, od x a = true → RV K (σ x) (ρ a)) :
    (∀ id off, ρ a = .ptr id off → R1 P K σ q (.ptr id (off + o))) ∧ (∀ cs off, ρ a = .tptr cs off → R1 P K σ q (.tptr cs (off + o))) := by
  obtain ⟨t, x, f, hx, ho⟩ := inv_faddr hq
  simp only [Bool.and_eq_true] at ho
  obtain ⟨h2, h3⟩ := ho
  split at h3
  · rename_i fd hfd
    simp only [Bool.and_eq_true, beq_iff_eq, bne_iff_ne, ne_eq] at h3
    obtain ⟨⟨h4, h5⟩, h6⟩ := h3
    obtain ⟨fs, hu, hf⟩ := fiOf_und hfd
    have hr := ha x h2
    have run : ∀ b p, σ x = .pointer (some ⟨b, p, none⟩) → (execOp σ q).run P K.W = .ok (.value (.pointer (some ⟨b, p + o, none⟩))) K.W := fun b p hv => by
      simp [execOp, hx, hv, Instr.fieldAt, Instr.sureAddr, fieldPlace, Sem.run_bind, und_run hu, hf, size_run h5, h6, add_addr, h4, Result.andThen]
    refine ⟨fun id off h1 => ?_, fun cs off h1 => ?_⟩
    · rw [h1] at hr
      obtain ⟨hv, hd⟩ := inv_ptr hr
      refine R1.of _ (run _ _ hv) ?_
      rw [Nat.add_assoc]
      exact .ptr id (off + o) hd
    · rw [h1] at hr
      obtain ⟨b, p, c, hv, h7, h8, h9⟩ := inv_tptr hr
      refine R1.of _ (run _ _ hv) ?_
      rw [Nat.add_assoc]
      exact .tptr b p cs (off + o) c h7 h8 h9
  · cases h3

theorem r_iaddr {sz : Nat} {a b : Arg} (hq : chkR P eqTs q.op (.iaddr sz a b) = true) (ha : ∀ x, od x a = true → RV K (σ x) (ρ a)) (hb : ∀ x, od x b = true → RV K (σ x) (ρ b)) :
    (∀ xs nl tg j e, ρ a = .tree xs nl tg → idx (ρ b) xs.length = some j → xs[j]? = some e → (cellsOf e).length = sz → sz ≠ 0 → R1 P K σ q (.tptr (cellsOf e) 0)) ∧
    (∀ id off len j, ρ a = .own id off len sz → idx (ρ b) len = some j → R1 P K σ q (.ptr id (off + j * sz))) := by
  obtain ⟨t, x, i, hx, ho⟩ := inv_iaddr hq
  simp only [Bool.and_eq_true] at ho
  obtain ⟨⟨h2, h2'⟩, h3⟩ := ho
  split at h3
  · rename_i e hfd
    simp only [Bool.and_eq_true, beq_iff_eq] at h3
    have hu := slOf_und hfd
    have hr := ha x h2
    have hi := hb i h2'
    have run : ∀ (A : Addr) len cap j, A.spot = none → σ x = .slice (some A) len cap → idx (ρ b) len = some j → (execOp σ q).run P K.W = .ok (.value (.pointer (some ⟨A.block, A.off + j * sz, none⟩))) K.W := fun A len cap j hA hv hj => by
      cases hb2 : ρ b <;> simp only [hb2, idx, reduceCtorEq] at hj
      rename_i k z
      split at hj
      · rename_i hz
        cases hj
        rw [hb2] at hi
        simp [execOp, hx, hv, inv_int hi, Instr.indexAt, Sem.run_bind, und_run hu, asIntOf, hz, size_run h3.1, h3.2, add_addr, hA, Result.andThen]
      · cases hj
    refine ⟨fun xs nl tg j e' h1 hj he hs h0 => ?_, fun id off len j h1 hj => ?_⟩
    · rw [h1] at hr
      obtain ⟨A, cap, sz', c, hv, hcap, hnl, hA0, htg, hpl, hsz, hc, hrv⟩ := inv_tree hr
      have hse := hsz _ (List.mem_of_getElem? he)
      obtain rfl : sz' = sz := by omega
      have hy0 : (cellsOf e')[0]? = some ((cellsOf e')[0]'(by omega)) := List.getElem?_eq_getElem _
      obtain ⟨A', rfl, hsp, _⟩ := hc j 0 e' _ he hy0
      refine R1.of _ (run A' _ _ j hsp hv hj) (.tptr A'.block (A'.off + j * sz') (cellsOf e') 0 (c j) (fun y hy => plain_cells (hpl _ (List.mem_of_getElem? he)) hy) (fun i y hy => ?_) fun i y hy => hrv j i e' y he hy)
      obtain ⟨a', h7, _, h8, h9⟩ := hc j i e' y he hy
      cases h7
      rw [Nat.add_assoc]
      exact ⟨h8, h9⟩
    · rw [h1] at hr
      obtain ⟨o, cap, hv, hd, h4, h5, h6⟩ := inv_own hr
      have hlen : 0 < len := by
        cases hb2 : ρ b <;> simp only [hb2, idx, reduceCtorEq] at hj
        split at hj
        · omega
        · cases hj
      obtain rfl : o = (K.β id).2 + off := by omega
      refine R1.of _ (run _ _ _ j rfl hv hj) ?_
      simp only
      rw [Nat.add_assoc]
      exact .ptr id _ hd
  · cases h3

theorem r_iaddrA {n sz : Nat} {a b : Arg} {j : Nat} (hq : chkR P eqTs q.op (.iaddrA n sz a b) = true) (ha : ∀ x, od x a = true → RV K (σ x) (ρ a)) (hb : ∀ x, od x b = true → RV K (σ x) (ρ b)) (hj : idx (ρ b) n = some j) :
    (∀ id off, ρ a = .ptr id off → R1 P K σ q (.ptr id (off + j * sz))) ∧ (∀ cs off, ρ a = .tptr cs off → R1 P K σ q (.tptr cs (off + j * sz))) := by
  obtain ⟨t, x, i, hx, ho⟩ := inv_iaddrA hq
  simp only [Bool.and_eq_true] at ho
  obtain ⟨⟨h2, h2'⟩, h3⟩ := ho
  split at h3
  · rename_i m e hfd
    simp only [Bool.and_eq_true, beq_iff_eq] at h3
    obtain ⟨⟨rfl, h4⟩, h5⟩ := h3
    have hu := arOf_und hfd
    have hr := ha x h2
    have hi := hb i h2'
    have run : ∀ b p, σ x = .pointer (some ⟨b, p, none⟩) → (execOp σ q).run P K.W = .ok (.value (.pointer (some ⟨b, p + j * sz, none⟩))) K.W := fun b' p hv => by
      cases hb2 : ρ b <;> simp only [hb2, idx, reduceCtorEq] at hj
      rename_i k z
      split at hj
      · rename_i hz
        cases hj
        rw [hb2] at hi
        simp [execOp, hx, hv, inv_int hi, Instr.indexAt, Instr.sureAddr, Sem.run_bind, und_run hu, asIntOf, hz, size_run h4, h5, add_addr, Result.andThen]
      · cases hj
    refine ⟨fun id off h1 => ?_, fun cs off h1 => ?_⟩
    · rw [h1] at hr
      obtain ⟨hv, hd⟩ := inv_ptr hr
      refine R1.of _ (run _ _ hv) ?_
      rw [Nat.add_assoc]
      exact .ptr id _ hd
    · rw [h1] at hr
      obtain ⟨b, p, c, hv, h7, h8, h9⟩ := inv_tptr hr
      refine R1.of _ (run _ _ hv) ?_
      rw [Nat.add_assoc]
      exact .tptr b p cs _ c h7 h8 h9
  · cases h3

theorem r_extract {i : Nat} {a : Arg} {vs : List SV} {v : SV} (hq : chkR P eqTs q.op (.extract i a) = true) (ha : ∀ x, od x a = true → RV K (σ x) (ρ a)) (h1 : ρ a = .tup vs) (he : vs[i]? = some v) : R1 P K σ q v := by
  obtain ⟨x, j, hx, ho⟩ := inv_extract hq
  simp only [Bool.and_eq_true, beq_iff_eq] at ho
  obtain ⟨h2, rfl⟩ := ho
  have hr := ha x h2
  rw [h1] at hr
  obtain ⟨us, hv, h3, h4⟩ := inv_tup hr
  have hlt := (List.getElem?_eq_some_iff.1 he).1
  have hg := get_of_lt (vs := us) (i := j) (by omega)
  exact R1.of (us.getD j Go.undef) (by simp only [execOp, hx, hv, Instr.extract, hg, Sem.run_bind]; rfl) (h4 _ _ he)

theorem r_nilck {a : Arg} (hq : chkR P eqTs q.op (.nilck a) = true) (ha : ∀ x, od x a = true → RV K (σ x) (ρ a)) (h1 : (∃ id off, ρ a = .ptr id off) ∨ ∃ cs off, ρ a = .tptr cs off) : R1 P K σ q (ρ a) := by
  obtain ⟨x, hx, ho⟩ := inv_nilck hq
  have hr := ha x ho
  have : ∃ A, σ x = .pointer (some A) := by
    rcases h1 with ⟨id, off, h1⟩ | ⟨cs, off, h1⟩
    · rw [h1] at hr; exact ⟨_, (inv_ptr hr).1⟩
    · rw [h1] at hr
      obtain ⟨b, p, c, hv, _⟩ := inv_tptr hr
      exact ⟨_, hv⟩
  obtain ⟨A, hA⟩ := this
  exact R1.of (σ x) (by simp [execOp, hx, hA]) hr

theorem r_load_t {sz : Nat} {ag : Bool} {a : Arg} {cs : List SV} {off : Nat} {v : SV} (hq : chkR P eqTs q.op (.load sz ag a) = true) (ha : ∀ x, od x a = true → RV K (σ x) (ρ a)) (h1 : ρ a = .tptr cs off) (he : ldc cs off sz ag = some v) : R1 P K σ q v := by
  obtain ⟨t, x, hx, ho⟩ := inv_load hq
  simp only [Bool.and_eq_true] at ho
  have hr := ha x ho.1
  rw [h1] at hr
  obtain ⟨b, p, c, hv, h7, h8, h9⟩ := inv_tptr hr
  obtain ⟨val, h2, h3⟩ := loadAt_run (P := P) (fun i y hy => ⟨c i, (h8 i y hy).1, h9 i y hy⟩) ho.2 he
  exact R1.of val (by simp [execOp, hx, hv, Sem.run_bind, h2, Result.andThen]) h3

theorem HO.cell {K : KK} {id : Nat} {cs : List SV} (h : HO K id cs) : ∀ i y, cs[i]? = some y → ∃ u, K.W.cell? ⟨(K.β id).1, (K.β id).2 + i, none⟩ = some u ∧ RV K u y := by
  obtain ⟨_, c, T, h1, h2, h3, h4⟩ := h
  intro i y hy
  obtain ⟨v, h5, h6⟩ := h3 i y hy
  exact ⟨v, by rw [cell_of h1]; exact h5, h6⟩

theorem r_load_p {sz : Nat} {ag : Bool} {a : Arg} {cs : List SV} {id off : Nat} {v : SV} (hq : chkR P eqTs q.op (.load sz ag a) = true) (ha : ∀ x, od x a = true → RV K (σ x) (ρ a)) (h1 : ρ a = .ptr id off) (hh : HO K id cs) (he : ldc cs off sz ag = some v) : R1 P K σ q v := by
  obtain ⟨t, x, hx, ho⟩ := inv_load hq
  simp only [Bool.and_eq_true] at ho
  have hr := ha x ho.1
  rw [h1] at hr
  obtain ⟨hv, hd⟩ := inv_ptr hr
  obtain ⟨val, h2, h3⟩ := loadAt_run (P := P) hh.cell ho.2 he
  exact R1.of val (by simp [execOp, hx, hv, Sem.run_bind, h2, Result.andThen]) h3

theorem r_sliceA {n sz : Nat} {a : Arg} {cs : List SV} {id off : Nat} (hq : chkR P eqTs q.op (.sliceA n sz a) = true) (ha : ∀ x, od x a = true → RV K (σ x) (ρ a)) (h1 : ρ a = .ptr id off) (hh : HO K id cs) (he : off + n * sz ≤ cs.length) : R1 P K σ q (.own id off n sz) := by
  obtain ⟨t, x, l, h, m, hx, ho⟩ := inv_sliceA hq
  simp only [Bool.and_eq_true, Option.isNone_iff_eq_none] at ho
  obtain ⟨⟨⟨⟨rfl, rfl⟩, rfl⟩, h2⟩, h3⟩ := ho
  split at h3
  · rename_i m e hfd
    simp only [Bool.and_eq_true, beq_iff_eq] at h3
    obtain ⟨⟨rfl, h4⟩, h5⟩ := h3
    have hu := arOf_und hfd
    have hr := ha x h2
    rw [h1] at hr
    obtain ⟨hv, hd⟩ := inv_ptr hr
    obtain ⟨_, c, T, k1, k2, k3, k4⟩ := hh
    refine R1.of (.slice (some ⟨(K.β id).1, (K.β id).2 + off, none⟩) m m) ?_ (.own id off m sz _ m hd (.inr rfl) (Nat.le_refl _) ⟨c, T, _, k1, by omega⟩)
    simp only [execOp, hx, hv, Instr.sliceAt, Instr.sureAddr, Instr.sliceBounds, Option.map_none, Sem.run_bind, Sem.run_pure, Result.andThen_ok, und_run hu, size_run h4]
    have : (if m = 0 then (⟨(K.β id).1, (K.β id).2 + off, none⟩ : Addr) else (⟨(K.β id).1, (K.β id).2 + off, none⟩ : Addr).add (0 * szOf P e)) = ⟨(K.β id).1, (K.β id).2 + off, none⟩ := by
      rw [add_addr _ _ (.inl rfl)]; simp
    rw [this]
    rfl
  · cases h3

end ops
end Go.Proofs.YtfmbdcmjgnikiaaGreatDoor.Sm
