/- AM, part 3: the abstract code, how the program's code is turned into it, and how it runs. -/
import Derived.Test.YtompkmidoklppaaAmPrim
namespace AM
open Go
set_option linter.unusedVariables false

inductive Opd where
  | t (i : Nat)
  | k (v : V)
  | f (n : Nat)
  deriving Inhabited

/-- Kinds of cells, as '==' tells them apart. -/
inductive Kd where
  | b | i | s | p | sl | m | f
  deriving DecidableEq, Inhabited

/-- Abstract operations: what hangs on types is reckoned already. -/
inductive AOp where
  | mv (x : Opd)
  | bin (o : BinOp) (x y : Opd)
  | eqf (neg agg : Bool) (ks : List (Nat × Kd)) (x y : Opd)
  | un (o : UnOp) (x : Opd)
  | pick (c a b : Opd)
  | nck (x : Opd)
  | load (n : Option Nat) (x : Opd)
  | store (n : Nat) (x v : Opd)
  | alloc (t : Nat) (z : List V)
  | box (t : Nat) (x : Opd)
  | build (z : List V) (ps : List (Nat × Nat × Opd))
  | bslice (t e : Nat) (z : List V) (ps : List (Nat × Nat × Opd))
  | faddr (off : Nat) (x : Opd)
  | field (off : Nat) (n : Option Nat) (x : Opd)
  | iaddrA (len e : Nat) (x i : Opd)
  | iaddrS (e : Nat) (x i : Opd)
  | idxA (len e : Nat) (n : Option Nat) (x i : Opd)
  | idxS (x i : Opd)
  | slS (x : Opd) (lo hi : Option Opd)
  | slL (e : Nat) (x : Opd) (lo hi : Option Opd)
  | slA (len e : Nat) (x : Opd) (lo hi : Option Opd)
  | toInt (k : IntKind) (x : Opd)
  | toStr (x : Opd)
  | cpS (x : Opd)
  | toBytes (t : Nat) (x : Opd)
  | extract (x : Opd) (i : Nat)
  | mkf (f : Nat) (a b : List Opd)
  | mki (t : Nat) (x : Opd)
  | call (f : Nat) (args : List Opd)
  | callv (x : Opd) (args : List Opd)
  | lenS (x : Opd)
  | lenL (x : Opd)
  | lenA (n : Nat)
  | copyS (x y : Opd)
  | copyL (e : Nat) (x y : Opd)
  | clearL (e : Nat) (z : List V) (x : Opd)
  | minmax (mx : Bool) (xs : List Opd)
  | app (t e bytes : Nat) (z : List V) (x y : Opd)
  | appS (t bytes : Nat) (z : List V) (x y : Opd)
  | mkSlice (t e bytes : Nat) (z : List V) (l c : Opd)
  | mkMap
  | lookup (kd : Kd) (z : V) (ok : Bool) (m k : Opd)
  | mapSet (kd : Kd) (m k x : Opd)
  | mapDel (kd : Kd) (m k : Opd)
  | lenM (m : Opd)
  | clearM (m : Opd)
  | panic (x : Opd)
  deriving Inhabited

structure AO where
  d : Option Nat
  op : AOp
  g : Option (Nat × Bool)
  deriving Inhabited

inductive AC where
  | skip
  | region (ops : List AO) (draw : Bool)
  | seq (a b : AC)
  | cond (c : Opd) (a b : AC)
  | block (id : Nat) (c : AC)
  | loop (c : AC)
  | exit (id : Nat)
  | scope (c : AC)
  | label (l : Nat)
  | ret
  deriving Inhabited

inductive RV where
  | t (i : Nat)
  | c (i : Nat) (n : Option Nat)
  deriving Inhabited

structure AF where
  n : Nat
  res : List RV
  body : AC
  deriving Inhabited

inductive Out where
  | val (v : V)
  | pan (v : V)
  deriving Inhabited

inductive Ex where
  | norm
  | exit (id : Nat)
  | ret
  | pan (v : V)
  deriving Inhabited

abbrev CallF := Nat → List V → Heap → Option (Out × Option Heap)

class Slots (σ : Type) where
  get : σ → Nat → V
  put : σ → Nat → V → σ
  law : ∀ s d v i, get (put s d v) i = if i = d then v else get s i

def undefV : V := .tuple []

def fput (S : Nat → V) (d : Nat) (v : V) : Nat → V := fun i => if i = d then v else S i
instance : Slots (Nat → V) := ⟨fun s => s, fput, fun _ _ _ _ => rfl⟩

section
variable {σ : Type} [Slots σ]
open Slots

def Opd.ev (S : σ) : Opd → V
  | .t i => get S i
  | .k v => v
  | .f n => .fn n [] []

def putO (S : σ) : Option Nat → V → σ
  | some d, v => put S d v
  | none, _ => S
end

def intA (o : BinOp) (k : IntKind) (a b : Int) : Option V :=
  match o with
  | .add => some (.int k (k.wrap (a + b)))
  | .sub => some (.int k (k.wrap (a - b)))
  | .mul => some (.int k (k.wrap (a * b)))
  | .quo => if b = 0 then none else some (.int k (k.wrap (a.tdiv b)))
  | .rem => if b = 0 then none else some (.int k (a.tmod b))
  | .and | .or | .xor | .andNot => some (.int k (bits o k a b))
  | .eql => some (.bool (a == b))
  | .neq => some (.bool (a != b))
  | .lss => some (.bool (decide (a < b)))
  | .leq => some (.bool (decide (a ≤ b)))
  | .gtr => some (.bool (decide (b < a)))
  | .geq => some (.bool (decide (b ≤ a)))
  | _ => none

def shiftA (o : BinOp) (k : IntKind) (a b : Int) : Option V :=
  if b < 0 then none else
  match o with
  | .shl => some (.int k (k.wrap (a * 2 ^ (min b.toNat k.bits))))
  | .shr => some (.int k (a.fdiv (2 ^ (min b.toNat k.bits))))
  | _ => none

def strA (o : BinOp) (a b : List UInt8) : Option V :=
  match o with
  | .add => if a.length + b.length ≤ 9223372036854775807 then some (.str (a ++ b)) else none
  | .eql => some (.bool (a == b))
  | .neq => some (.bool (!(a == b)))
  | .lss => some (.bool (Op.bytesLess a b))
  | .leq => some (.bool (Op.bytesLess a b || a == b))
  | .gtr => some (.bool (!(Op.bytesLess a b || a == b)))
  | .geq => some (.bool (!Op.bytesLess a b))
  | _ => none

def binA (o : BinOp) (x y : V) : Option V :=
  match x, y with
  | .int k a, .int k' b =>
    match o with
    | .shl | .shr => shiftA o k a b
    | _ => if k = k' then intA o k a b else none
  | .str a, .str b => strA o a b
  | _, _ => none

/-- One cell against another one. -/
def eqK (k : Kd) (x y : V) : Option Bool :=
  match k with
  | .b => match x, y with
    | .bool a, .bool b => some (a == b)
    | _, _ => none
  | .i => match x, y with
    | .int k a, .int k' b => if k = k' then some (a == b) else none
    | _, _ => none
  | .s => match x, y with
    | .str a, .str b => some (a == b)
    | _, _ => none
  | .p => match x, y with
    | .nilp, .nilp => some true
    | .nilp, .ptr .. | .ptr .., .nilp => some false
    | .ptr l a, .ptr l' b => if l = l' then some (a == b) else none
    | _, _ => none
  | .sl => match x, y with
    | .nils, .nils => some true
    | .nils, .slice .. | .slice .., .nils => some false
    | _, _ => none
  | .m => match x, y with
    | .nilm, .nilm => some true
    | .nilm, .map _ | .map _, .nilm => some false
    | _, _ => none
  | .f => match x, y with
    | .nilf, .nilf => some true
    | .nilf, .fn .. | .fn .., .nilf => some false
    | _, _ => none

def eqKs : List Kd → List V → List V → Option Bool
  | [], [], [] => some true
  | k :: ks, x :: xs, y :: ys =>
    match eqK k x y, eqKs ks xs ys with
    | some a, some b => some (a && b)
    | _, _ => none
  | _, _, _ => none

def kdsOf : List (Nat × Kd) → List Kd
  | [] => []
  | (n, k) :: r => List.replicate n k ++ kdsOf r

def eqA (agg : Bool) (ks : List (Nat × Kd)) (x y : V) : Option Bool :=
  if agg = true then
    match x, y with
    | .agg xs, .agg ys => eqKs (kdsOf ks) xs ys
    | _, _ => none
  else
    match ks with
    | [(_, k)] => eqK k x y
    | _ => none

def unA (o : UnOp) (x : V) : Option V :=
  match o, x with
  | .not, .bool b => some (.bool (!b))
  | .neg, .int k n => some (.int k (k.wrap (0 - n)))
  | .xor, .int k n => some (.int k (bits .xor k (if k.signed then -1 else k.max) n))
  | _, _ => none

/-- Parts laid over cells. -/
def fillA (cs : List V) : List (Nat × Nat × V) → Option (List V)
  | [] => some cs
  | (off, n, v) :: r => if v.cells.length = n ∧ off + n ≤ cs.length then fillA (splice cs off v.cells) r else none

def partA (cs : List V) (off : Nat) : Option Nat → Option V
  | some n => if off + n ≤ cs.length then some (.agg ((cs.drop off).take n)) else none
  | none => cs[off]?

def idxOf (n : Nat) : V → Option Nat
  | .int _ i => if 0 ≤ i ∧ i < n then some i.toNat else none
  | _ => none

/-- The bounds of a slice expression. -/
def hiB (len cap : Nat) : Option V → Option Nat
  | none => some len
  | some (.int _ i) => if 0 ≤ i ∧ i ≤ (cap : Int) then some i.toNat else none
  | _ => none
def loB (b : Nat) : Option V → Option Nat
  | none => some 0
  | some (.int _ i) => if 0 ≤ i ∧ i ≤ (b : Int) then some i.toNat else none
  | _ => none
def boundsA (len cap : Nat) (lo hi : Option V) : Option (Nat × Nat) :=
  match hiB len cap hi with
  | some b => match loB b lo with
    | some a => some (a, b)
    | none => none
  | none => none

def Heap.cellsAt (h : Heap) (l : Nat) : Option (List V) :=
  match h.o[l]? with
  | some (.cells _ _ _ cs) => some cs
  | _ => none

/-- Are so many cells of an object known? -/
def Heap.holds (h : Heap) (l n : Nat) : Bool :=
  match h.o[l]? with
  | some (.cells _ _ _ cs) => decide (n ≤ cs.length)
  | _ => false

def Heap.exact (h : Heap) (l : Nat) : Bool :=
  match h.o[l]? with
  | some (.cells .ex _ _ _) => true
  | _ => false

def Heap.new (h : Heap) (o : Obj) : Heap := ⟨h.o ++ [o], h.e, h.d⟩

def bytesA (s : List UInt8) : List V := s.map fun b => .int .u8 (b.toNat : Int)

def strOf : List V → Option (List UInt8)
  | [] => some []
  | .int .u8 n :: r => match strOf r with
    | some s => some (UInt8.ofNat n.toNat :: s)
    | none => none
  | _ => none

def maxi (mx : Bool) (a b : Int) : Int := if mx then (if b > a then b else a) else (if b < a then b else a)

def minmaxA (mx : Bool) (x : V) : List V → Option V
  | [] => some x
  | y :: r => match x, y with
    | .int k a, .int k' b => if k = k' then minmaxA mx (.int k (maxi mx a b)) r else none
    | _, _ => none

def evs {σ : Type} [Slots σ] (S : σ) (l : List Opd) : List V := l.map (Opd.ev S)

def reps (z : List V) : Nat → List V
  | 0 => []
  | n + 1 => z ++ reps z n

/-- What an operation without calls does: its value; the heap, if it has turned. -/
def mapFind (kd : Kd) (k : V) : List (V × V) → Option (Option V)
  | [] => some none
  | (k', v) :: r => match eqK kd k k' with
    | some true => some (some v)
    | some false => mapFind kd k r
    | none => none

def mapPut (kd : Kd) (k x : V) : List (V × V) → Option (List (V × V))
  | [] => some [(k, x)]
  | (k', v) :: r => match eqK kd k k' with
    | some true => some ((k, x) :: r)
    | some false => match mapPut kd k x r with
      | some r' => some ((k', v) :: r')
      | none => none
    | none => none

def mapDrop (kd : Kd) (k : V) : List (V × V) → Option (List (V × V))
  | [] => some []
  | (k', v) :: r => match eqK kd k k' with
    | some true => some r
    | some false => match mapDrop kd k r with
      | some r' => some ((k', v) :: r')
      | none => none
    | none => none

/-- A key that a map may have: an integer, a bool, a text. -/
def V.key (kd : Kd) : V → Bool
  | .int .. => decide (kd = .i)
  | .bool _ => decide (kd = .b)
  | .str _ => decide (kd = .s)
  | _ => false

def Heap.setMap (h : Heap) (l : Nat) (es : List (V × V)) (pl : Bool) : Heap :=
  ⟨h.o.set l (.map es), if pl = true then h.e else min h.e l, min h.d l⟩

def ok1 : Nat := 281474976710656
/-- Room for so many elements, as append asks for it. -/
def roomOk (n bytes : Nat) : Bool := decide ((2 * n + 1024) * bytes ≤ ok1 ∧ n ≤ ok1)

/-- What is appended to a slice. 'new': the new cells, k of them elements. -/
def appendA (h : Heap) (t e bytes : Nat) (x : V) (k : Nat) (new : List V) : Option (V × Option Heap) :=
  match x with
  | .nils => if k = 0 then some (.nils, none) else if roomOk k bytes = true then some (.slice h.o.length 0 k e, some (h.new (.cells .gr t 0 new))) else none
  | .slice l o n e' =>
    if e' = e then
      match h.o[l]? with
      | some (.cells ck t' fz cs) =>
        if o + n * e ≤ cs.length then
          if k = 0 then some (.slice l o n e, none)
          else if o + (n + k) * e ≤ cs.length then (h.sets l (o + n * e) new).map fun h' => (.slice l o (n + k) e, some h')
          else if o + n * e = cs.length ∧ roomOk (n + k) bytes = true then
            match ck with
            | .ro => none
            | .ex => some (.slice h.o.length 0 (n + k) e, some (h.new (.cells .gr t 0 (cs.drop o ++ new))))
            | .gr => if o = 0 ∧ fz ≤ cs.length ∧ t' = t then some (.slice h.o.length 0 (n + k) e, some ⟨h.o.set l .dead ++ [.cells .gr t fz (cs ++ new)], h.e, min h.d l⟩) else none
          else none
        else none
      | _ => none
    else none
  | _ => none

def ok (v : V) : Option (V × Option Heap) := some (v, none)
def okh (v : V) (h : Heap) : Option (V × Option Heap) := some (v, some h)

section
variable {σ : Type} [Slots σ]

def stepV (op : AOp) (S : σ) (h : Heap) : Option (V × Option Heap) :=
  match op with
  | .mv x => ok (x.ev S)
  | .bin o x y => (binA o (x.ev S) (y.ev S)).bind ok
  | .eqf neg agg ks x y => (eqA agg ks (x.ev S) (y.ev S)).bind fun b => ok (.bool (if neg = true then !b else b))
  | .un o x => (unA o (x.ev S)).bind ok
  | .pick c a b => match c.ev S with
    | .bool t => ok (if t = true then a.ev S else b.ev S)
    | _ => none
  | .nck x => match x.ev S with
    | .ptr l o => ok (.ptr l o)
    | _ => none
  | .load n x => match x.ev S with
    | .ptr l o => match n with
      | none => (h.get l o).bind ok
      | some n => (h.gets l o n).bind fun cs => ok (.agg cs)
    | _ => none
  | .store n x v => match x.ev S with
    | .ptr l o => if (v.ev S).cells.length = n then (h.sets l o (v.ev S).cells).bind fun h' => okh undefV h' else none
    | _ => none
  | .alloc t z => okh (.ptr h.o.length 0) (h.new (.cells .ex t 0 z))
  | .box t x => okh (.ptr h.o.length 0) (h.new (.cells .ex t 0 (x.ev S).cells))
  | .build z ps => (fillA z (ps.map fun p => (p.1, p.2.1, p.2.2.ev S))).bind fun cs => ok (.agg cs)
  | .bslice t e z ps => (fillA z (ps.map fun p => (p.1, p.2.1, p.2.2.ev S))).bind fun cs =>
      okh (.slice h.o.length 0 (z.length / e) e) (h.new (.cells .ex t 0 cs))
  | .faddr off x => match x.ev S with
    | .ptr l o => ok (.ptr l (o + off))
    | _ => none
  | .field off n x => match x.ev S with
    | .agg cs => (partA cs off n).bind ok
    | _ => none
  | .iaddrA len e x i => match x.ev S with
    | .ptr l o => (idxOf len (i.ev S)).bind fun j => ok (.ptr l (o + j * e))
    | _ => none
  | .iaddrS e x i => match x.ev S with
    | .slice l o n e' => if e' = e then (idxOf n (i.ev S)).bind fun j => ok (.ptr l (o + j * e)) else none
    | _ => none
  | .idxA len e n x i => match x.ev S with
    | .agg cs => (idxOf len (i.ev S)).bind fun j => (partA cs (j * e) n).bind ok
    | _ => none
  | .idxS x i => match x.ev S with
    | .str s => (idxOf s.length (i.ev S)).bind fun j => match s[j]? with
      | some b => ok (.int .u8 (b.toNat : Int))
      | none => none
    | _ => none
  | .slS x lo hi => match x.ev S with
    | .str s => (boundsA s.length s.length (lo.map (Opd.ev S)) (hi.map (Opd.ev S))).bind fun p => ok (.str ((s.take p.2).drop p.1))
    | _ => none
  | .slL e x lo hi => match x.ev S with
    | .slice l o n e' => if e' = e ∧ 0 < e ∧ h.holds l (o + n * e) = true then
        (boundsA n n (lo.map (Opd.ev S)) (hi.map (Opd.ev S))).bind fun p =>
          if p.1 = 0 then ok (.slice l o p.2 e)
          else if p.1 < p.2 then ok (.slice l (o + p.1 * e) (p.2 - p.1) e)
          else okh (.slice h.o.length 0 0 e) (h.new .dead)
      else none
    | .nils => (boundsA 0 0 (lo.map (Opd.ev S)) (hi.map (Opd.ev S))).bind fun _ => ok .nils
    | _ => none
  | .slA len e x lo hi => match x.ev S with
    | .ptr l o => match h.cellsAt l with
      | some cs => if h.exact l = true ∧ o = 0 ∧ cs.length = len * e ∧ 0 < e then
          (boundsA len len (lo.map (Opd.ev S)) (hi.map (Opd.ev S))).bind fun p =>
            if p.1 = 0 then ok (.slice l 0 p.2 e) else if p.1 < len then ok (.slice l (p.1 * e) (p.2 - p.1) e) else none
        else none
      | none => none
    | _ => none
  | .toInt k x => match x.ev S with
    | .int _ n => ok (.int k (k.wrap n))
    | _ => none
  | .toStr x => match x.ev S with
    | .nils => ok (.str [])
    | .slice l o n 1 => (h.gets l o n).bind fun cs => (strOf cs).bind fun s => ok (.str s)
    | _ => none
  | .cpS x => match x.ev S with
    | .str s => ok (.str s)
    | _ => none
  | .toBytes t x => match x.ev S with
    | .str s => okh (.slice h.o.length 0 s.length 1) (h.new (.cells .gr t 0 (bytesA s)))
    | _ => none
  | .extract x i => match x.ev S with
    | .tuple vs => (vs[i]?).bind ok
    | _ => none
  | .mkf f a b => ok (.fn f (evs S a) (evs S b))
  | .mki t x => ok (.iface t (x.ev S))
  | .call .. | .callv .. | .panic _ => none
  | .lenS x => match x.ev S with
    | .str s => ok (.int .i64 (s.length : Int))
    | _ => none
  | .lenL x => match x.ev S with
    | .slice _ _ n _ => ok (.int .i64 (n : Int))
    | .nils => ok (.int .i64 0)
    | _ => none
  | .lenA n => ok (.int .i64 (n : Int))
  | .copyS x y => match x.ev S, y.ev S with
    | .slice l o n 1, .str s => (h.sets l o (bytesA (s.take n))).bind fun h' => okh (.int .i64 ((min s.length n : Nat) : Int)) h'
    | _, _ => none
  | .copyL e x y => match x.ev S, y.ev S with
    | .slice l o n e', .slice l' o' n' e'' => if e' = e ∧ e'' = e then
        (h.gets l' o' (min n' n * e)).bind fun cs => (h.sets l o cs).bind fun h' => okh (.int .i64 ((min n' n : Nat) : Int)) h'
      else none
    | .slice .., .nils | .nils, .slice .. | .nils, .nils => ok (.int .i64 0)
    | _, _ => none
  | .clearL e z x => match x.ev S with
    | .nils => ok undefV
    | .slice l o n e' => if n = 0 then ok undefV else if e' = e ∧ z.length = e then (h.sets l o (reps z n)).bind fun h' => okh undefV h' else none
    | _ => none
  | .minmax mx xs => match evs S xs with
    | v :: r => (minmaxA mx v r).bind ok
    | [] => none
  | .app t e bytes _ x y => match y.ev S with
    | .nils => (appendA h t e bytes (x.ev S) 0 [])
    | .slice l o n e' => if e' = e then (h.gets l o (n * e)).bind fun cs => if cs.all V.one = true then appendA h t e bytes (x.ev S) n cs else none else none
    | _ => none
  | .appS t bytes _ x y => match y.ev S with
    | .str s => (appendA h t 1 bytes (x.ev S) s.length (bytesA s))
    | _ => none
  | .mkSlice t e bytes z l c => match l.ev S, c.ev S with
    | .int _ ln, .int _ cp => if 0 ≤ ln ∧ ln ≤ cp ∧ cp * bytes ≤ ok1 ∧ cp ≤ ok1 then okh (.slice h.o.length 0 ln.toNat e) (h.new (.cells .ex t 0 (reps z cp.toNat))) else none
    | _, _ => none
  | .mkMap => okh (.map h.o.length) (h.new (.map []))
  | .lookup kd z cok m k => if (k.ev S).key kd = true then
      match m.ev S with
      | .nilm => ok (if cok = true then .tuple [z, .bool false] else z)
      | .map l => match h.o[l]? with
        | some (.map es) => (mapFind kd (k.ev S) es).bind fun r => ok (if cok = true then .tuple [r.getD z, .bool r.isSome] else r.getD z)
        | _ => none
      | _ => none
    else none
  | .mapSet kd m k x => if (k.ev S).key kd = true then
      match m.ev S with
      | .map l => match h.o[l]? with
        | some (.map es) => (mapPut kd (k.ev S) (x.ev S) es).bind fun es' => okh undefV (h.setMap l es' (x.ev S).plain)
        | _ => none
      | _ => none
    else none
  | .mapDel kd m k => if (k.ev S).key kd = true then
      match m.ev S with
      | .nilm => ok undefV
      | .map l => match h.o[l]? with
        | some (.map es) => (mapDrop kd (k.ev S) es).bind fun es' => okh undefV (h.setMap l es' true)
        | _ => none
      | _ => none
    else none
  | .lenM m => match m.ev S with
    | .nilm => ok (.int .i64 0)
    | .map l => match h.o[l]? with
      | some (.map es) => ok (.int .i64 (es.length : Int))
      | _ => none
    | _ => none
  | .clearM m => match m.ev S with
    | .nilm => ok undefV
    | .map l => match h.o[l]? with
      | some (.map es) => okh undefV (h.setMap l [] true)
      | _ => none
    | _ => none

def stepA (call : CallF) (op : AOp) (S : σ) (h : Heap) : Option (Out × Option Heap) :=
  match op with
  | .call f args => call f (evs S args) h
  | .callv x args => match x.ev S with
    | .fn f first caps => call f (first ++ evs S args ++ caps) h
    | _ => none
  | .panic x => match x.ev S with
    | .iface t v => some (.pan (.iface t v), none)
    | _ => none
  | op => match stepV op S h with
    | some (v, oh) => some (.val v, oh)
    | none => none

def wantedA (S : σ) : Option (Nat × Bool) → Bool
  | none => true
  | some (j, want) => match Slots.get S j with
    | .bool b => b == want
    | _ => false

def execOps (call : CallF) : List AO → σ → Heap → Option (Ex × σ × Heap)
  | [], S, h => some (.norm, S, h)
  | o :: r, S, h =>
    if wantedA S o.g = true then
      match stepA call o.op S h with
      | some (.val v, none) => execOps call r (putO S o.d v) h
      | some (.val v, some h') => execOps call r (putO S o.d v) h'
      | some (.pan v, none) => some (.pan v, S, h)
      | some (.pan v, some h') => some (.pan v, S, h')
      | none => none
    else execOps call r (putO S o.d undefV) h

/-- A region whose order is open: nothing in it may turn the heap. -/
def execQ (call : CallF) : List AO → σ → Heap → Option (Ex × σ × Heap)
  | [], S, h => some (.norm, S, h)
  | o :: r, S, h =>
    if wantedA S o.g = true then
      match stepA call o.op S h with
      | some (.val v, none) => execQ call r (putO S o.d v) h
      | _ => none
    else execQ call r (putO S o.d undefV) h

def exec (call : CallF) : Nat → AC → σ → Heap → Option (Ex × σ × Heap)
  | 0, _, _, _ => none
  | n + 1, c, S, h =>
    match c with
    | .skip | .label _ => some (.norm, S, h)
    | .region ops d => if d = true then execQ call ops S h else execOps call ops S h
    | .seq a b => match exec call n a S h with
      | some (.norm, S', h') => exec call n b S' h'
      | r => r
    | .cond c a b => match c.ev S with
      | .bool true => exec call n a S h
      | .bool false => exec call n b S h
      | _ => none
    | .block id c => match exec call n c S h with
      | some (.exit i, S', h') => if i = id then some (.norm, S', h') else some (.exit i, S', h')
      | r => r
    | .loop c => match exec call n c S h with
      | some (.norm, S', h') => exec call n (.loop c) S' h'
      | r => r
    | .exit id => some (.exit id, S, h)
    | .scope c => exec call n c S h
    | .ret => some (.ret, S, h)

def resOne (S : σ) (h : Heap) : RV → Option V
  | .t i => some (Slots.get S i)
  | .c i n => match Slots.get S i with
    | .ptr l o => match n with
      | none => h.get l o
      | some n => (h.gets l o n).map .agg
    | _ => none

def resAll (S : σ) (h : Heap) : List RV → Option (List V)
  | [] => some []
  | r :: rs => match resOne S h r, resAll S h rs with
    | some v, some vs => some (v :: vs)
    | _, _ => none

/-- The results as one value. -/
def resV : List V → V
  | [v] => v
  | vs => .tuple vs

/-- What a call leaves for the caller: all that it made is let go, where nothing leads to it. -/
def leave (h h' : Heap) (v : V) : Option Heap :=
  if h.o.length ≤ h'.e ∧ v.plain = true then
    if h.o.length ≤ h'.d then none else some ⟨h'.o.take h.o.length, h.e, min h.d h'.d⟩
  else some ⟨h'.o, min h.e h'.e, min h.d h'.d⟩

def finish (f : AF) (h : Heap) : Option (Ex × σ × Heap) → Option (Out × Option Heap)
  | some (.norm, S, h') | some (.ret, S, h') => match resAll S h' f.res with
    | some vs => some (.val (resV vs), leave h h' (resV vs))
    | none => none
  | some (.pan v, S, h') => some (.pan v, leave h h' v)
  | _ => none

def enter (h : Heap) : Heap := ⟨h.o, h.o.length, h.o.length⟩
end

def initS (args : List V) : Nat → V := fun i => args.getD i undefV

/-- Calls, to a depth; 'ext' answers for some functions. -/
def callN (F : Nat → Option AF) (ext : CallF → Nat → Option (List V → Heap → Option (Out × Option Heap))) : Nat → CallF
  | 0, _, _, _ => none
  | n + 1, f, args, h =>
    match ext (callN F ext n) f with
    | some g => g args h
    | none => match F f with
      | none => none
      | some a => if args.length ≤ a.n then finish a h (exec (callN F ext n) n a.body (initS args) (enter h)) else none

end AM
