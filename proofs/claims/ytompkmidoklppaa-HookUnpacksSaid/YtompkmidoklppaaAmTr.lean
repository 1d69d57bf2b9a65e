/- AM, part 4: the program's code turned into abstract code. -/
import Derived.Test.YtompkmidoklppaaAmCode
import Derived.Still
namespace AM
open Go
set_option linter.unusedVariables false

def ofCell : Value → Option V
  | .bool b => some (.bool b)
  | .int k n => some (.int k n)
  | .string s => some (.str s.data.toList)
  | .pointer none => some .nilp
  | .slice none 0 0 => some .nils
  | .map none => some .nilm
  | .chan none => some .nilc
  | .nilFunc => some .nilf
  | .nilIface => some .nili
  | _ => none

def ofCells : List Value → Option (List V)
  | [] => some []
  | v :: r => match ofCell v, ofCells r with
    | some x, some xs => some (x :: xs)
    | _, _ => none

def ofVal : Value → Option V
  | .agg cs => (ofCells cs.toList).map .agg
  | v => ofCell v

def trOpd : Operand → Option Opd
  | .tmp t => some (.t t)
  | .const v => (ofVal v).map .k
  | .func f => some (.f f)
  | .global _ => none

def trOpds : List Operand → Option (List Opd)
  | [] => some []
  | x :: r => match trOpd x, trOpds r with
    | some y, some ys => some (y :: ys)
    | _, _ => none

def szOf (P : Program) (t : Nat) : Option Nat := (P.info? t).map (·.size)
def bytesOf (P : Program) (t : Nat) : Option Nat := (P.info? t).map (·.bytes)
def isAggD : TypeDesc → Bool
  | .struct _ | .array _ _ => true
  | _ => false
/-- What a part or a variable of a type is: so many cells, or one. -/
def parOf (P : Program) (t : Nat) : Option (Option Nat) :=
  match P.underlying t with
  | some d => if isAggD d = true then (szOf P t).map some else some none
  | none => none
def zeroOf (P : Program) (t : Nat) : Option V := ((P.info? t).bind (·.zero)).bind ofVal
def isByte (P : Program) (t : Nat) : Bool := match P.underlying t with
  | some (.int .u8) => true
  | _ => false

/-- Fields that lie one behind the other from a cell on. -/
def fieldsLie (P : Program) : List Field → Nat → Option Nat
  | [], off => some off
  | f :: r, off => if f.offset = off then match szOf P f.type with
    | some n => fieldsLie P r (off + n)
    | none => none
    else none

/-- The kinds of the cells of a type whose values are alike just if their cells are. -/
def flatT (P : Program) : Nat → Nat → Option (List (Nat × Kd))
  | 0, _ => none
  | d + 1, t =>
    match P.underlying t with
    | some .bool => if szOf P t = some 1 then some [(1, .b)] else none
    | some (.int _) => if szOf P t = some 1 then some [(1, .i)] else none
    | some .string => if szOf P t = some 1 then some [(1, .s)] else none
    | some (.struct fs) =>
      if P.stoodInHeld t = false ∧ (szOf P t).isSome = true ∧ fieldsLie P fs.toList 0 = szOf P t then flatF (flatT P d) fs.toList else none
    | some (.array n e) => match flatT P d e, szOf P e, szOf P t with
      | some ks, some a, some b => if n * a = b then (match ks with
          | [(m, k)] => some [(n * m, k)]
          | _ => some (List.replicate n ks).flatten) else none
      | _, _, _ => none
    | _ => none
where
  flatF (g : Nat → Option (List (Nat × Kd))) : List Field → Option (List (Nat × Kd))
    | [] => some []
    | f :: r => if f.name ≠ "_" then match g f.type, flatF g r with
      | some a, some b => some (a ++ b)
      | _, _ => none
      else none

/-- Where the parts of a struct, of an array lie. -/
def plF (P : Program) (fs : Array Field) (i : Nat) : Option (Nat × Nat) :=
  match fs[i]? with
  | some f => (szOf P f.type).map fun n => (f.offset, n)
  | none => none
def plA (n : Nat) (i : Nat) : Option (Nat × Nat) := some (i * n, n)

def trParts : List (Nat × Operand) → (Nat → Option (Nat × Nat)) → Option (List (Nat × Nat × Opd))
  | [], _ => some []
  | (i, x) :: r, pl => match pl i, trOpd x, trParts r pl with
    | some (off, n), some y, some ys => some ((off, n, y) :: ys)
    | _, _, _ => none

def trOpt : Option Operand → Option (Option Opd)
  | none => some none
  | some x => (trOpd x).map some

def keyOk (P : Program) (kt : Nat) : Option Kd := match P.underlying kt with
  | some .bool => some .b
  | some (.int _) => some .i
  | some .string => some .s
  | _ => none

def trBuiltin (P : Program) (b : Builtin) (argTypes : List Nat) (args : List Opd) : Option AOp :=
  match b, argTypes, args with
  | .len, [t], [x] => match P.underlying t with
    | some .string => some (.lenS x)
    | some (.slice _) => some (.lenL x)
    | some (.array n _) => some (.lenA n)
    | some (.map _ _) => some (.lenM x)
    | some (.pointer e) => match P.underlying e with
      | some (.array n _) => some (.lenA n)
      | _ => none
    | _ => none
  | .copy, [t, u], [x, y] => match P.underlying t, P.underlying u with
    | some (.slice e), some .string => if szOf P e = some 1 then some (.copyS x y) else none
    | some (.slice e), some (.slice _) => (szOf P e).map fun n => .copyL n x y
    | _, _ => none
  | .append, [t, u], [x, y] => match P.underlying t, P.underlying u with
    | some (.slice e), some .string => match szOf P e, bytesOf P e, zeroOf P e with
      | some 1, some b, some z => if z.cells.length = 1 then some (.appS e b z.cells x y) else none
      | _, _, _ => none
    | some (.slice e), some (.slice _) => match szOf P e, bytesOf P e, zeroOf P e with
      | some n, some b, some z => if 0 < n ∧ z.cells.length = n then some (.app e n b z.cells x y) else none
      | _, _, _ => none
    | _, _ => none
  | .clear, [t], [x] => match P.underlying t with
    | some (.slice e) => match szOf P e, zeroOf P e with
      | some n, some z => if z.cells.length = n ∧ 0 < n then some (.clearL n z.cells x) else none
      | _, _ => none
    | some (.map _ _) => some (.clearM x)
    | _ => none
  | .max, _, xs => some (.minmax true xs)
  | .min, _, xs => some (.minmax false xs)
  | .delete, [t, _], [m, k] => match P.underlying t with
    | some (.map kt _) => (keyOk P kt).map fun kd => .mapDel kd m k
    | _ => none
  | .panic, _, [x] => some (.panic x)
  | _, _, _ => none

def callOk (P : Program) (f : Nat) : Bool := match P.funcs[f]? with
  | some fn => fn.name != "runtime.NumGoroutine" && fn.body.isSome
  | none => false

def trOp (P : Program) (o : Op) (type : Nat) : Option AOp :=
  match o with
  | .move x | .assign x => (trOpd x).map .mv
  | .pick c a b => match trOpd c, trOpd a, trOpd b with
    | some c, some a, some b => some (.pick c a b)
    | _, _, _ => none
  | .alloc t => (zeroOf P t).map fun z => .alloc t z.cells
  | .box t x => (trOpd x).map fun x => .box t x
  | .build t parts => match zeroOf P t, P.underlying t with
    | some z, some (.struct fs) => (trParts parts.toList (plF P fs)).bind fun ps =>
        if fs.toList.all (fun f => (szOf P f.type).isSome) = true then some (.build z.cells ps) else none
    | some z, some (.array _ e) => (szOf P e).bind fun n => (trParts parts.toList (plA n)).map fun ps => .build z.cells ps
    | _, _ => none
  | .buildSlice t len parts => match P.underlying t with
    | some (.slice e) => match szOf P e, zeroOf P e with
      | some n, some z => if 0 < n ∧ len * n ≤ 16777216 ∧ z.cells.length = n then
          (trParts parts.toList (plA n)).map fun ps => .bslice e n (reps z.cells len) ps
        else none
      | _, _ => none
    | _ => none
  | .load t x => match parOf P t, trOpd x with
    | some n, some x => some (.load n x)
    | _, _ => none
  | .store t x v => match szOf P t, trOpd x, trOpd v with
    | some n, some x, some v => some (.store n x v)
    | _, _, _ => none
  | .nilCheck x => (trOpd x).map .nck
  | .binOp op t x y _ => match trOpd x, trOpd y with
    | some x, some y =>
      if op = .eql ∨ op = .neq then
        match P.underlying t with
        | some (.int _) | some .string => some (.bin op x y)
        | some (.pointer e) => if szOf P e ≠ some 0 ∧ (szOf P e).isSome = true then some (.eqf (op == .neq) false [(1, .p)] x y) else none
        | some .bool => some (.eqf (op == .neq) false [(1, .b)] x y)
        | some (.slice _) => some (.eqf (op == .neq) false [(1, .sl)] x y)
        | some (.map _ _) => some (.eqf (op == .neq) false [(1, .m)] x y)
        | some (.func _ _ _) => some (.eqf (op == .neq) false [(1, .f)] x y)
        | some (.struct _) | some (.array _ _) => match flatT P 40 t with
          | some ks => if P.eqGuardType P.depth t = false then some (.eqf (op == .neq) true ks x y) else none
          | none => none
        | _ => none
      else some (.bin op x y)
    | _, _ => none
  | .unOp op _ x => (trOpd x).map fun x => .un op x
  | .convert s d x => match trOpd x, P.underlying s, P.underlying d with
    | some x, some (.int _), some (.int k) => some (.toInt k x)
    | some x, some .string, some .string => some (.cpS x)
    | some x, some (.slice e), some .string => if isByte P e = true then some (.toStr x) else none
    | some x, some .string, some (.slice e) => if isByte P e = true then some (.toBytes e x) else none
    | _, _, _ => none
  | .makeInterface t x => match P.underlying t, trOpd x with
    | some (.interface _), _ => none
    | some _, some x => some (.mki t x)
    | _, _ => none
  | .makeFunc (.func f) a b => match trOpds a.toList, trOpds b.toList with
    | some a, some b => some (.mkf f a b)
    | _, _ => none
  | .makeMap _ none => some .mkMap
  | .makeSlice t l c => match P.underlying t with
    | some (.slice e) => match szOf P e, bytesOf P e, zeroOf P e, trOpd l, trOpd c with
      | some n, some b, some z, some l, some c => if 0 < n ∧ z.cells.length = n then some (.mkSlice e n b z.cells l c) else none
      | _, _, _, _, _ => none
    | _ => none
  | .fieldAddr s x f => match P.underlying s, trOpd x with
    | some (.struct fs), some x => match fs[f]? with
      | some fd => match szOf P fd.type with
        | some n => if n = 0 then none else some (.faddr fd.offset x)
        | none => none
      | none => none
    | _, _ => none
  | .field s x f => match P.underlying s, trOpd x with
    | some (.struct fs), some x => match fs[f]? with
      | some fd => (parOf P fd.type).map fun n => .field fd.offset n x
      | none => none
    | _, _ => none
  | .indexAddr t x i => match P.underlying t, trOpd x, trOpd i with
    | some (.array n e), some x, some i => (szOf P e).map fun s => .iaddrA n s x i
    | some (.slice e), some x, some i => (szOf P e).map fun s => .iaddrS s x i
    | _, _, _ => none
  | .index t x i => match P.underlying t, trOpd x, trOpd i with
    | some (.array n e), some x, some i => match szOf P e, parOf P e with
      | some s, some p => some (.idxA n s p x i)
      | _, _ => none
    | some .string, some x, some i => some (.idxS x i)
    | _, _, _ => none
  | .slice t x lo hi none => match P.underlying t, trOpd x, trOpt lo, trOpt hi with
    | some .string, some x, some lo, some hi => some (.slS x lo hi)
    | some (.slice e), some x, some lo, some hi => (szOf P e).map fun n => .slL n x lo hi
    | some (.array n e), some x, some lo, some hi => (szOf P e).map fun s => .slA n s x lo hi
    | some (.pointer q), some x, some lo, some hi => match P.underlying q with
      | some (.array n e) => (szOf P e).map fun s => .slA n s x lo hi
      | _ => none
    | _, _, _, _ => none
  | .extract x i => (trOpd x).map fun x => .extract x i
  | .lookup t m k cok => match P.underlying t, trOpd m, trOpd k with
    | some (.map kt e), some m, some k => match zeroOf P e with
      | some z => (keyOk P kt).map fun kd => .lookup kd z cok m k
      | none => none
    | _, _, _ => none
  | .mapUpdate t m k x => match P.underlying t, trOpd m, trOpd k, trOpd x with
    | some (.map kt _), some m, some k, some x => (keyOk P kt).map fun kd => .mapSet kd m k x
    | _, _, _, _ => none
  | .call c => match c.callee, trOpds c.args.toList with
    | .value (.func f), some l => if callOk P f = true then some (.call f l) else none
    | .value (.tmp t), some l => some (.callv (.t t) l)
    | .builtin b, some l => trBuiltin P b c.argTypes.toList l
    | _, _ => none
  | .panic x => (trOpd x).map .panic
  | _ => none

def trGuard (ops : Array Oper) : Option (Nat × Bool) → Option (Option (Nat × Bool))
  | none => some none
  | some (j, want) => match (ops[j]?).bind (·.dst) with
    | some d => some (some (d, want))
    | none => none

/-- n: how many slots there are. -/
def trOper (P : Program) (n : Nat) (ops : Array Oper) (o : Oper) : Option AO :=
  match trOp P o.op o.type, trGuard ops o.guard with
  | some op, some g => match o.dst with
    | none => some ⟨none, op, g⟩
    | some d => if d < n then some ⟨some d, op, g⟩ else none
  | _, _ => none

def trOpers (P : Program) (n : Nat) (ops : Array Oper) : List Oper → Option (List AO)
  | [] => some []
  | o :: r => match trOper P n ops o, trOpers P n ops r with
    | some x, some xs => some (x :: xs)
    | _, _ => none

def trCode (P : Program) (n : Nat) : Code → Option AC
  | .skip => some .skip
  | .region _ ops d => if d = true ∧ Region.lexB .any ops = false then none else (trOpers P n ops ops.toList).map fun l => .region l d
  | .seq a b => match trCode P n a, trCode P n b with
    | some a, some b => some (.seq a b)
    | _, _ => none
  | .cond c a b => match trOpd c, trCode P n a, trCode P n b with
    | some c, some a, some b => some (.cond c a b)
    | _, _, _ => none
  | .block id c => (trCode P n c).map fun c => .block id c
  | .loop c => (trCode P n c).map fun c => .loop c
  | .exit id => some (.exit id)
  | .scope c => (trCode P n c).map fun c => .scope c
  | .label l => some (.label l)
  | .ret => some .ret
  | _ => none

def trRes (P : Program) : List ResultVar → Option (List RV)
  | [] => some []
  | .tmp t :: r => (trRes P r).map fun l => .t t :: l
  | .cell a t :: r => match parOf P t, trRes P r with
    | some n, some l => some (.c a n :: l)
    | _, _ => none

def trFunc (P : Program) (f : Func) : Option AF :=
  match f.body with
  | some c => match trCode P f.ntmps c, trRes P f.results.toList with
    | some b, some r => some ⟨f.ntmps, r, b⟩
    | _, _ => none
  | none => none

def trProg (P : Program) (f : Nat) : Option AF :=
  match P.funcs[f]? with
  | some fn => if fn.name != "runtime.NumGoroutine" then trFunc P fn else none
  | none => none

end AM
