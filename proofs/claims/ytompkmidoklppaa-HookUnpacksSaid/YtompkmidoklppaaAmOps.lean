/- AM, part 5: each abstract operation is what the program's own operation does. -/
import Derived.Test.YtompkmidoklppaaAmTr
import Derived.Deep.Quiet
namespace AM
open Go
set_option linter.unusedVariables false
set_option linter.unusedSimpArgs false
set_option linter.unusedSectionVars false

section
variable {σ : Type} [Slots σ]
open Slots

structure SR (ι : Map) (S : σ) (n : Nat) (tmps : Array Value) (N : Nat) : Prop where
  size : tmps.size = n
  val : ∀ i, tmps.getD i undef = (get S i).real ι
  sc : ∀ i, (get S i).sc N

theorem ofCell_real {v : Value} {x : V} (h : ofCell v = some x) : x.plain = true ∧ ∀ ι, x.real ι = v := by
  unfold ofCell at h
  split at h <;> first
    | (simp only [Option.some.injEq] at h; subst h; exact ⟨rfl, fun ι => rfl⟩)
    | (simp at h)

theorem ofCells_real : ∀ {l : List Value} {xs : List V}, ofCells l = some xs → V.plains xs = true ∧ ∀ ι, V.reals ι xs = l
  | [], xs, h => by simp only [ofCells, Option.some.injEq] at h; subst h; exact ⟨rfl, fun ι => rfl⟩
  | v :: r, xs, h => by
    simp only [ofCells] at h
    split at h
    · rename_i x ys hx hys
      simp only [Option.some.injEq] at h
      subst h
      obtain ⟨a1, a2⟩ := ofCell_real hx
      obtain ⟨b1, b2⟩ := ofCells_real hys
      exact ⟨by simp [V.plains, a1, b1], fun ι => by simp [V.reals, a2 ι, b2 ι]⟩
    · simp at h

theorem ofVal_real {v : Value} {x : V} (h : ofVal v = some x) : x.plain = true ∧ ∀ ι, x.real ι = v := by
  unfold ofVal at h
  split at h
  · rename_i cs
    cases hc : ofCells cs.toList with
    | none => simp [hc] at h
    | some xs =>
      simp only [hc, Option.map_some, Option.some.injEq] at h
      subst h
      obtain ⟨a, b⟩ := ofCells_real hc
      exact ⟨a, fun ι => by simp [V.real, b ι]⟩
  · exact ofCell_real h

variable {P : Program} {ι : Map} {h : Heap} {w : World} {S : σ} {n : Nat} {a : Act}

theorem ev_ok (hs : SR ι S n a.tmps h.o.length) {x : Operand} {y : Opd} (hx : trOpd x = some y) : a.eval x = (y.ev S).real ι := by
  cases x with
  | tmp t => simp only [trOpd, Option.some.injEq] at hx; subst hx; exact hs.val t
  | const v =>
    simp only [trOpd] at hx
    cases hv : ofVal v with
    | none => simp [hv] at hx
    | some z =>
      simp only [hv, Option.map_some, Option.some.injEq] at hx
      subst hx
      exact ((ofVal_real hv).2 ι).symm
  | func f => simp only [trOpd, Option.some.injEq] at hx; subst hx; rfl
  | global g => simp [trOpd] at hx

theorem ev_sc (hs : SR ι S n a.tmps h.o.length) {x : Operand} {y : Opd} (hx : trOpd x = some y) : (y.ev S).sc h.o.length := by
  cases x with
  | tmp t => simp only [trOpd, Option.some.injEq] at hx; subst hx; exact hs.sc t
  | const v =>
    simp only [trOpd] at hx
    cases hv : ofVal v with
    | none => simp [hv] at hx
    | some z =>
      simp only [hv, Option.map_some, Option.some.injEq] at hx
      subst hx
      exact V.sc_of_plain _ _ (ofVal_real hv).1
  | func f => simp only [trOpd, Option.some.injEq] at hx; subst hx; exact ⟨trivial, trivial⟩
  | global g => simp [trOpd] at hx

theorem evs_ok (hs : SR ι S n a.tmps h.o.length) : ∀ {l : List Operand} {ys : List Opd}, trOpds l = some ys → l.map a.eval = V.reals ι (evs S ys) ∧ V.scs h.o.length (evs S ys)
  | [], ys, hx => by simp only [trOpds, Option.some.injEq] at hx; subst hx; exact ⟨rfl, trivial⟩
  | x :: r, ys, hx => by
    simp only [trOpds] at hx
    split at hx
    · rename_i y zs hy hzs
      simp only [Option.some.injEq] at hx
      subst hx
      obtain ⟨b1, b2⟩ := evs_ok hs hzs
      exact ⟨by simp [evs, V.reals, ev_ok hs hy] at b1 ⊢; exact b1, ev_sc hs hy, b2⟩
    · simp at hx

theorem evs_ok_arr (hs : SR ι S n a.tmps h.o.length) {l : Array Operand} {ys : List Opd} (hx : trOpds l.toList = some ys) : l.map a.eval = (V.reals ι (evs S ys)).toArray := by
  rw [← (evs_ok hs hx).1]
  apply Array.ext'
  simp

/-- What an operation that enters no function comes to. -/
def Good (P : Program) (a : Act) (o : Oper) (ι : Map) (h : Heap) (w : World) (v : V) (oh : Option Heap) : Prop :=
  ∃ κ w' r, (execOp a.eval o).run P w = .ok r w' ∧ (r = .value (v.real κ) ∨ (r = .skip ∧ v = undefV)) ∧ Nx ι h w κ (oh.getD h) w' ∧ v.sc (oh.getD h).o.length ∧ (oh = none → κ = ι ∧ w' = w)

theorem Good.same {o : Oper} {v : V} (hr : HR ι h.o w) (hv : v.sc h.o.length) (hrun : (execOp a.eval o).run P w = .ok (.value (v.real ι)) w) : Good P a o ι h w v none :=
  ⟨ι, w, _, hrun, .inl rfl, Nx.refl hr, hv, fun _ => ⟨rfl, rfl⟩⟩

theorem intA_ok {op : BinOp} {k : IntKind} {x y : Int} {v : V} (hv : intA op k x y = some v) (w : World) (t : Nat) :
    v.plain = true ∧ (binOp op t (.int k x) (.int k y)).run P w = .ok (v.real ι) w := by
  cases op <;> simp only [intA, Option.some.injEq] at hv <;> first
    | (subst hv; exact ⟨rfl, by simp [binOp, Op.intArith, Op.intDiv, Op.intBits, Op.intCmp, V.real, bits]⟩)
    | (split at hv
       · simp at hv
       · rename_i hb
         simp only [Option.some.injEq] at hv
         subst hv
         exact ⟨rfl, by simp [binOp, Op.intDiv, hb, V.real]⟩)
    | (simp at hv)

theorem shiftA_ok {op : BinOp} {k k' : IntKind} {x y : Int} {v : V} (hop : op = .shl ∨ op = .shr) (hv : shiftA op k x y = some v) (w : World) (t : Nat) :
    v.plain = true ∧ (binOp op t (.int k x) (.int k' y)).run P w = .ok (v.real ι) w := by
  unfold shiftA at hv
  split at hv
  · simp at hv
  · rename_i hb
    rcases hop with rfl | rfl <;> (simp only [Option.some.injEq] at hv; subst hv; exact ⟨rfl, by simp [binOp, Op.shift, hb, V.real]⟩)

theorem toList_mk (l : List UInt8) : (⟨l.toArray⟩ : ByteArray).toList = l := by rw [ByteArray.toList_eq]

theorem size_mk (l : List UInt8) : (⟨l.toArray⟩ : ByteArray).size = l.length := by simp [ByteArray.size]

theorem append_mk (x y : List UInt8) : (⟨x.toArray⟩ : ByteArray) ++ ⟨y.toArray⟩ = ⟨(x ++ y).toArray⟩ := by
  apply ByteArray.ext
  rw [ByteArray.data_append]
  simp

theorem strA_ok {op : BinOp} {x y : List UInt8} {v : V} (hv : strA op x y = some v) (w : World) (t : Nat) :
    v.plain = true ∧ (binOp op t (.string ⟨x.toArray⟩) (.string ⟨y.toArray⟩)).run P w = .ok (v.real ι) w := by
  cases op <;> simp only [strA, Option.some.injEq] at hv <;> first
    | (subst hv; exact ⟨rfl, by simp [binOp, Op.stringOp, V.real, toList_mk]⟩)
    | (split at hv
       · rename_i hb
         simp only [Option.some.injEq] at hv
         subst hv
         refine ⟨rfl, ?_⟩
         have hn : ¬ ((((⟨x.toArray⟩ : ByteArray).size + (⟨y.toArray⟩ : ByteArray).size : Nat) : Int) > IntKind.i64.max) := by
           rw [size_mk, size_mk]
           have : IntKind.i64.max = 9223372036854775807 := by decide
           omega
         simp only [binOp, Op.stringOp, if_neg hn, Sem.run_pure, V.real, append_mk]
       · simp at hv)
    | (simp at hv)

theorem binA_ok {op : BinOp} {x y v : V} (hv : binA op x y = some v) (w : World) (t : Nat) :
    v.plain = true ∧ (binOp op t (x.real ι) (y.real ι)).run P w = .ok (v.real ι) w := by
  unfold binA at hv
  split at hv
  · rename_i k a k' b
    split at hv
    · exact shiftA_ok (.inl rfl) hv w t
    · exact shiftA_ok (.inr rfl) hv w t
    · split at hv
      · rename_i hk
        subst hk
        exact intA_ok hv w t
      · simp at hv
  · exact strA_ok hv w t
  · simp at hv

/-- The guard of '==' lets numbers and texts by. -/
theorem binA_guard {op : BinOp} {x y v : V} (hv : binA op x y = some v) (w : World) (t : Nat) (ox oy : Operand) :
    (eqGuard op t ox oy (x.real ι) (y.real ι)).run P w = .ok () w := by
  unfold binA at hv
  split at hv
  · cases op <;> simp [eqGuard, V.real]
  · cases op <;> simp [eqGuard, V.real]
  · simp at hv

theorem good_bin (hr : HR ι h.o w) (hs : SR ι S n a.tmps h.o.length) {d : Option Nat} {op : BinOp} {t u ty : Nat} {pos : String} {af : Array Edge} {g : Option (Nat × Bool)} {x y : Operand} {x' y' : Opd}
    (hx : trOpd x = some x') (hy : trOpd y = some y') {v : V} (hv : binA op (x'.ev S) (y'.ev S) = some v) :
    Good P a ⟨d, .binOp op t x y u, ty, pos, af, g⟩ ι h w v none := by
  obtain ⟨h1, h2⟩ := binA_ok (P := P) (ι := ι) hv w t
  refine Good.same hr (V.sc_of_plain _ _ h1) ?_
  have hg := binA_guard (P := P) (ι := ι) hv w t x y
  simp only [execOp, Sem.run_bind, ev_ok hs hx, ev_ok hs hy, hg, h2, Result.andThen_ok, Sem.run_pure]

end
end AM
