/- AM, part 8: more operations. -/
import Derived.Test.YtompkmidoklppaaAmOps2
namespace AM
open Go
set_option linter.unusedVariables false
set_option linter.unusedSimpArgs false
set_option linter.unusedSectionVars false

section
variable {P : Program} {ι : Map} {σ : Type} [Slots σ] {h : Heap} {w : World} {S : σ} {n : Nat} {a : Act}

theorem good_build (hr : HR ι h.o w) (hs : SR ι S n a.tmps h.o.length) {d : Option Nat} {t ty : Nat} {pos : String} {af : Array Edge} {g : Option (Nat × Bool)} {parts : Array (Nat × Operand)} {z : V} (hz : zeroOf P t = some z)
    (pl : Nat → Option (Nat × Nat)) {ps : List (Nat × Nat × Opd)} (hps : trParts parts.toList pl = some ps) {cs : List V} (hf : fillA z.cells (ps.map fun p => (p.1, p.2.1, p.2.2.ev S)) = some cs)
    (hpl : (∃ fs, P.underlying t = some (.struct fs) ∧ fs.toList.all (fun f => (szOf P f.type).isSome) = true ∧ pl = plF P fs) ∨
      (∃ m e s, P.underlying t = some (.array m e) ∧ szOf P e = some s ∧ pl = plA s)) :
    Good P a ⟨d, .build t parts, ty, pos, af, g⟩ ι h w (.agg cs) none := by
  obtain ⟨z1, z2⟩ := zero_run (ι := ι) hz w
  obtain ⟨e1, e2, e3⟩ := fill_ok (ι := ι) pl hs hps hf (V.scs_of_plains _ _ (V.cells_plains _ z2))
  refine Good.same hr e2 ?_
  rw [← Array.toList_map] at e1
  rcases hpl with ⟨fs, hu, hall, rfl⟩ | ⟨m, e, s, hu, hsz, rfl⟩
  · have hpe : (fun i => (fs.map fun f => (f.offset, (szOf P f.type).getD 0))[i]?) = plF P fs := by
      funext i
      unfold plF
      rw [Array.getElem?_map]
      cases hfi : fs[i]? with
      | none => rfl
      | some f =>
        have hm : f ∈ fs.toList := by
          rw [← Array.getElem?_toList] at hfi
          exact List.mem_of_getElem? hfi
        obtain ⟨q, hq⟩ := Option.isSome_iff_exists.1 (List.all_eq_true.1 hall f hm)
        simp [hq]
    simp only [execOp, Instr.build, Sem.run_bind, z1, Result.andThen_ok, run_underlying hu, listMapM_places fs hall, V.cells_real]
    rw [hpe]
    simp only [Array.toList_map] at e1
    simp only [Array.toList_map]
    rw [e1]
    simp [V.real]
  · simp only [Array.toList_map] at e1
    rw [show plA s = fun i => some (i * s, s) from rfl] at e1
    simp only [execOp, Instr.build, Sem.run_bind, z1, Result.andThen_ok, run_underlying hu, sizeOf_run hsz, V.cells_real, Array.toList_map]
    rw [e1]
    simp [V.real]

theorem reps_length (z : List V) (k : Nat) : (reps z k).length = k * z.length := by
  induction k with
  | zero => simp [reps]
  | succ k ih => simp [reps, ih, Nat.succ_mul, Nat.add_comm]

theorem reps_get (z : List V) (hz : 0 < z.length) : ∀ (k i : Nat), i < k * z.length → (reps z k)[i]? = z[i % z.length]?
  | 0, i, h => by simp at h
  | k + 1, i, h => by
    simp only [reps, List.getElem?_append]
    split
    · rename_i hi
      rw [Nat.mod_eq_of_lt hi]
    · rename_i hi
      rw [reps_get z hz k (i - z.length) (by rw [Nat.succ_mul] at h; omega)]
      congr 1
      rw [Nat.mod_eq_sub_mod (a := i) (by omega)]

/-- Zero cells, laid one behind the other. -/
theorem zeros_eq (z : List V) (k : Nat) (hz : 0 < z.length) : ((Array.range (k * z.length)).map ((V.reals ι z).toArray[· % (V.reals ι z).toArray.size]!)) = (V.reals ι (reps z k)).toArray := by
  have hsz : (V.reals ι z).toArray.size = z.length := by simp [V.reals_eq]
  apply Array.ext'
  apply List.ext_getElem?
  intro i
  simp only [Array.toList_map, Array.toList_range, List.getElem?_map, hsz]
  by_cases hi : i < k * z.length
  · rw [List.getElem?_range hi]
    simp only [Option.map_some]
    rw [V.reals_eq, V.reals_eq, List.getElem?_map, reps_get z hz k i hi]
    have hm : i % z.length < z.length := Nat.mod_lt _ hz
    rw [List.getElem?_eq_getElem hm]
    simp [List.getElem!_toArray, hm]
  · rw [List.getElem?_eq_none (by simp; omega), List.getElem?_eq_none (by rw [V.reals_eq, List.length_map, reps_length]; omega)]
    rfl

theorem reps_plains (z : List V) (hz : V.plains z = true) (k : Nat) : V.plains (reps z k) = true := by
  induction k with
  | zero => rfl
  | succ k ih => rw [V.plains_iff] at *; intro v hv; simp only [reps, List.mem_append] at hv; exact hv.elim (hz v) (ih v)

theorem good_bslice (hr : HR ι h.o w) (hs : SR ι S n a.tmps h.o.length) {d : Option Nat} {t ty len e s : Nat} {pos : String} {af : Array Edge} {g : Option (Nat × Bool)} {parts : Array (Nat × Operand)} {z : V}
    (hu : P.underlying t = some (.slice e)) (hsz : szOf P e = some s) (hz : zeroOf P e = some z) (h0 : 0 < s) (hl : len * s ≤ 16777216) (hzl : z.cells.length = s)
    {ps : List (Nat × Nat × Opd)} (hps : trParts parts.toList (plA s) = some ps) {cs : List V} (hf : fillA (reps z.cells len) (ps.map fun p => (p.1, p.2.1, p.2.2.ev S)) = some cs) :
    Good P a ⟨d, .buildSlice t len parts, ty, pos, af, g⟩ ι h w (.slice h.o.length 0 ((reps z.cells len).length / s) s) (some (h.new (.cells .ex e 0 cs))) := by
  obtain ⟨z1, z2⟩ := zero_run (ι := ι) hz w
  have hpz := reps_plains z.cells (V.cells_plains _ z2) len
  obtain ⟨e1, e2, e3⟩ := fill_ok (ι := ι) _ hs hps hf (V.scs_of_plains _ _ hpz)
  obtain ⟨κ, w', k1, k2, k3⟩ := newRow_ok (P := P) hr e cs e2
  rw [show plA s = fun i => some (i * s, s) from rfl] at e1
  have hrl : (reps z.cells len).length = len * s := by rw [reps_length, hzl]
  have hdiv : len * s / s = len := Nat.mul_div_cancel _ h0
  refine ⟨κ, w', _, ?_, .inl rfl, k2, by simp [Heap.new, V.sc], fun h => by simp at h⟩
  have hg : ¬ (len * s > 2 ^ 24) := by omega
  by_cases hls : len * s = 0
  · have h00 : len = 0 := by rcases Nat.mul_eq_zero.1 hls with h | h <;> omega
    subst h00
    have hz2 : (Array.map (fun x => (#[] : Array Value)[x % (#[] : Array Value).size]!) (Array.range (0 * s))) = (V.reals ι (reps z.cells 0)).toArray := by simp [reps, V.reals]
    simp only [execOp, Instr.buildSlice, Sem.run_bind, run_underlying hu, Result.andThen_ok, sizeOf_run hsz, if_neg hg, if_pos hls, Sem.run_pure, hz2, Array.toList_map, e1, k1]
    simp only [V.real, hrl, hdiv, Nat.add_zero, Nat.sub_zero, k3, e3]
  · have hz2 := zeros_eq (ι := ι) z.cells len (by omega)
    rw [hzl] at hz2
    simp only [execOp, Instr.buildSlice, Sem.run_bind, run_underlying hu, Result.andThen_ok, sizeOf_run hsz, if_neg hg, if_neg hls, z1, V.cells_real, Sem.run_pure, hz2, Array.toList_map, e1, k1]
    simp only [V.real, hrl, hdiv, Nat.add_zero, Nat.sub_zero, k3, e3]

theorem good_faddr (hr : HR ι h.o w) (hs : SR ι S n a.tmps h.o.length) {d : Option Nat} {t ty f m : Nat} {pos : String} {af : Array Edge} {g : Option (Nat × Bool)} {x : Operand} {x' : Opd} (hx : trOpd x = some x')
    {fs : Array Field} (hu : P.underlying t = some (.struct fs)) {fd : Field} (hfd : fs[f]? = some fd) (hsz : szOf P fd.type = some m) (hm : m ≠ 0) {l o : Nat} (he : x'.ev S = .ptr l o) :
    Good P a ⟨d, .fieldAddr t x f, ty, pos, af, g⟩ ι h w (.ptr l (o + fd.offset)) none := by
  have hsc := ev_sc hs hx
  rw [he] at hsc
  refine Good.same hr hsc ?_
  simp only [execOp, Instr.fieldAt, Sem.run_bind, run_underlying hu, Result.andThen_ok, hfd, ev_ok hs hx, he, V.real, Instr.sureAddr, Sem.run_pure, fieldPlace, sizeOf_run hsz, hm, if_false, Addr_add, Nat.add_assoc]

theorem good_field (hr : HR ι h.o w) (hs : SR ι S n a.tmps h.o.length) {d : Option Nat} {t ty f : Nat} {pos : String} {af : Array Edge} {g : Option (Nat × Bool)} {x : Operand} {x' : Opd} (hx : trOpd x = some x')
    {fs : Array Field} (hu : P.underlying t = some (.struct fs)) {fd : Field} (hfd : fs[f]? = some fd) {par : Option Nat} (hp : parOf P fd.type = some par) {cs : List V} (he : x'.ev S = .agg cs) {v : V} (hv : partA cs fd.offset par = some v) :
    Good P a ⟨d, .field t x f, ty, pos, af, g⟩ ι h w v none := by
  have hsc := ev_sc hs hx
  rw [he] at hsc
  obtain ⟨h1, h2⟩ := partA_ok (ι := ι) hp hv _ hsc w
  refine Good.same hr h1 ?_
  simp only [execOp, Instr.field, Sem.run_bind, run_underlying hu, Result.andThen_ok, hfd, ev_ok hs hx, he, V.real, asAgg, Sem.run_pure, h2]

theorem good_iaddrA (hr : HR ι h.o w) (hs : SR ι S n a.tmps h.o.length) {d : Option Nat} {t ty len e s : Nat} {pos : String} {af : Array Edge} {g : Option (Nat × Bool)} {x y : Operand} {x' y' : Opd} (hx : trOpd x = some x') (hy : trOpd y = some y')
    (hu : P.underlying t = some (.array len e)) (hsz : szOf P e = some s) {l o j : Nat} (he : x'.ev S = .ptr l o) (hj : idxOf len (y'.ev S) = some j) :
    Good P a ⟨d, .indexAddr t x y, ty, pos, af, g⟩ ι h w (.ptr l (o + j * s)) none := by
  have hsc := ev_sc hs hx
  rw [he] at hsc
  obtain ⟨k, i, hi, h0, hlt, rfl⟩ := idxOf_ok hj
  refine Good.same hr hsc ?_
  simp only [execOp, Instr.indexAt, Sem.run_bind, run_underlying hu, Result.andThen_ok, ev_ok hs hx, ev_ok hs hy, he, hi, V.real, asIntOf, Instr.sureAddr, Sem.run_pure, if_pos (And.intro h0 hlt), sizeOf_run hsz, Addr_add, Nat.add_assoc]

theorem good_iaddrS (hr : HR ι h.o w) (hs : SR ι S n a.tmps h.o.length) {d : Option Nat} {t ty e s : Nat} {pos : String} {af : Array Edge} {g : Option (Nat × Bool)} {x y : Operand} {x' y' : Opd} (hx : trOpd x = some x') (hy : trOpd y = some y')
    (hu : P.underlying t = some (.slice e)) (hsz : szOf P e = some s) {l o m j : Nat} (he : x'.ev S = .slice l o m s) (hj : idxOf m (y'.ev S) = some j) :
    Good P a ⟨d, .indexAddr t x y, ty, pos, af, g⟩ ι h w (.ptr l (o + j * s)) none := by
  have hsc := ev_sc hs hx
  rw [he] at hsc
  obtain ⟨k, i, hi, h0, hlt, rfl⟩ := idxOf_ok hj
  refine Good.same hr hsc ?_
  simp only [execOp, Instr.indexAt, Sem.run_bind, run_underlying hu, Result.andThen_ok, ev_ok hs hx, ev_ok hs hy, he, hi, V.real, asIntOf, Sem.run_pure, if_pos (And.intro h0 hlt), sizeOf_run hsz, Addr_add, Nat.add_assoc]

theorem good_idxA (hr : HR ι h.o w) (hs : SR ι S n a.tmps h.o.length) {d : Option Nat} {t ty len e s : Nat} {pos : String} {af : Array Edge} {g : Option (Nat × Bool)} {x y : Operand} {x' y' : Opd} (hx : trOpd x = some x') (hy : trOpd y = some y')
    (hu : P.underlying t = some (.array len e)) (hsz : szOf P e = some s) {par : Option Nat} (hp : parOf P e = some par) {cs : List V} {j : Nat} (he : x'.ev S = .agg cs) (hj : idxOf len (y'.ev S) = some j) {v : V} (hv : partA cs (j * s) par = some v) :
    Good P a ⟨d, .index t x y, ty, pos, af, g⟩ ι h w v none := by
  have hsc := ev_sc hs hx
  rw [he] at hsc
  obtain ⟨k, i, hi, h0, hlt, rfl⟩ := idxOf_ok hj
  obtain ⟨h1, h2⟩ := partA_ok (ι := ι) hp hv _ hsc w
  refine Good.same hr h1 ?_
  simp only [execOp, Instr.index, Sem.run_bind, run_underlying hu, Result.andThen_ok, ev_ok hs hx, ev_ok hs hy, he, hi, V.real, asIntOf, Sem.run_pure, if_pos (And.intro h0 hlt), sizeOf_run hsz, h2]

theorem good_idxS (hr : HR ι h.o w) (hs : SR ι S n a.tmps h.o.length) {d : Option Nat} {t ty : Nat} {pos : String} {af : Array Edge} {g : Option (Nat × Bool)} {x y : Operand} {x' y' : Opd} (hx : trOpd x = some x') (hy : trOpd y = some y')
    (hu : P.underlying t = some .string) {s : List UInt8} {j : Nat} (he : x'.ev S = .str s) (hj : idxOf s.length (y'.ev S) = some j) {b : UInt8} (hv : s[j]? = some b) :
    Good P a ⟨d, .index t x y, ty, pos, af, g⟩ ι h w (.int .u8 (b.toNat : Int)) none := by
  obtain ⟨k, i, hi, h0, hlt, rfl⟩ := idxOf_ok hj
  refine Good.same hr trivial ?_
  have hb : (⟨s.toArray⟩ : ByteArray)[i.toNat]? = some b := by
    have hl := (List.getElem?_eq_some_iff.1 hv)
    obtain ⟨hl1, hl2⟩ := hl
    rw [getElem?_pos (⟨s.toArray⟩ : ByteArray) i.toNat (by rw [size_mk]; exact hl1)]
    congr 1
  simp only [execOp, Instr.index, Sem.run_bind, run_underlying hu, Result.andThen_ok, ev_ok hs hx, ev_ok hs hy, he, hi, V.real, asIntOf, Sem.run_pure, if_pos h0, hb]

theorem bound_ok {k : IntKind} {i : Int} {c : Nat} (h : 0 ≤ i ∧ i ≤ (c : Int)) (code : BoundsCode) (w : World) : (Instr.sliceBound (.int k i) c code).run P w = .ok i.toNat w := by
  simp only [Instr.sliceBound, asIntOf, Sem.run_bind, Sem.run_pure, Result.andThen_ok, if_pos h]

theorem loB_ok {b : Nat} {lo : Option V} {q : Nat} (hb : loB b lo = some q) (w : World) :
    q ≤ b ∧ (match lo.map (V.real ι) with | some v => Instr.sliceBound v b .sliceB | none => pure 0 : Sem Nat).run P w = .ok q w := by
  cases lo with
  | none => simp only [loB, Option.some.injEq] at hb; subst hb; exact ⟨Nat.zero_le _, rfl⟩
  | some v =>
    cases v <;> simp only [loB, reduceCtorEq] at hb
    rename_i k i
    split at hb
    · rename_i hc'
      simp only [Option.some.injEq] at hb
      subst hb
      exact ⟨by omega, by simp only [Option.map_some, V.real, bound_ok hc']⟩
    · simp at hb

theorem bounds_ok {isSlice : Bool} {len cap cap' : Nat} (hc : cap' ≤ cap) {lo hi : Option V} {p : Nat × Nat} (hp : boundsA len cap' lo hi = some p) (w : World) :
    (Instr.sliceBounds isSlice len cap (lo.map (V.real ι)) (hi.map (V.real ι)) none).run P w = .ok (p.1, p.2, cap) w ∧ p.1 ≤ p.2 ∧ p.2 ≤ max len cap' := by
  unfold boundsA at hp
  split at hp
  · rename_i b hb
    split at hp
    · rename_i q hq
      simp only [Option.some.injEq] at hp
      subst hp
      obtain ⟨h2, h3⟩ := loB_ok (P := P) (ι := ι) hq w
      cases hi with
      | none =>
        simp only [hiB, Option.some.injEq] at hb
        subst hb
        refine ⟨?_, h2, Nat.le_max_left _ _⟩
        cases lo with
        | none =>
          simp only [Option.map_none, Sem.run_pure, Result.ok.injEq, and_true] at h3
          simp only [Instr.sliceBounds, Sem.run_bind, Sem.run_pure, Result.andThen_ok, Option.map_none, h3]
        | some v =>
          simp only [Option.map_some] at h3
          simp only [Instr.sliceBounds, Sem.run_bind, Sem.run_pure, Result.andThen_ok, Option.map_none, Option.map_some, Option.isSome_none, Bool.false_eq_true, if_false, h3]
      | some v =>
        cases v <;> simp only [hiB, reduceCtorEq] at hb
        rename_i k i
        split at hb
        · rename_i hc'
          simp only [Option.some.injEq] at hb
          subst hb
          have hbd := fun code => bound_ok (P := P) (k := k) (show 0 ≤ i ∧ i ≤ (cap : Int) by omega) code w
          refine ⟨?_, h2, by have := Nat.le_max_right len cap'; omega⟩
          cases lo with
          | none =>
            simp only [Option.map_none, Sem.run_pure, Result.ok.injEq, and_true] at h3
            simp only [Instr.sliceBounds, Sem.run_bind, Sem.run_pure, Result.andThen_ok, Option.map_none, Option.map_some, V.real, hbd, h3]
          | some v =>
            simp only [Option.map_some] at h3
            simp only [Instr.sliceBounds, Sem.run_bind, Sem.run_pure, Result.andThen_ok, Option.map_none, Option.map_some, V.real, hbd, Option.isSome_none, Bool.false_eq_true, if_false, h3]
        · simp at hb
    · simp at hp
  · simp at hp

theorem opt_ok (hs : SR ι S n a.tmps h.o.length) {x : Option Operand} {y : Option Opd} (hx : trOpt x = some y) : x.map a.eval = (y.map (Opd.ev S)).map (V.real ι) := by
  cases x with
  | none => simp only [trOpt, Option.some.injEq] at hx; subst hx; rfl
  | some x =>
    simp only [trOpt] at hx
    cases hq : trOpd x with
    | none => simp [hq] at hx
    | some q => simp only [hq, Option.map_some, Option.some.injEq] at hx; subst hx; simp [ev_ok hs hq]

theorem extract_mk (s : List UInt8) (i j : Nat) : (⟨s.toArray⟩ : ByteArray).extract i j = ⟨((s.take j).drop i).toArray⟩ := by
  apply ByteArray.ext
  rw [ByteArray.data_extract]
  apply Array.ext'
  simp only [Array.toList_extract, List.extract_eq_take_drop]
  rw [List.take_drop]
  by_cases hij : i ≤ j
  · rw [show i + (j - i) = j by omega]
  · rw [show i + (j - i) = i by omega, List.drop_of_length_le (by simp; omega), List.drop_of_length_le (by simp; omega)]

theorem good_slS (hr : HR ι h.o w) (hs : SR ι S n a.tmps h.o.length) {d : Option Nat} {t ty : Nat} {pos : String} {af : Array Edge} {g : Option (Nat × Bool)} {x : Operand} {x' : Opd} {lo hi : Option Operand} {lo' hi' : Option Opd} (hx : trOpd x = some x') (hlo : trOpt lo = some lo') (hhi : trOpt hi = some hi')
    (hu : P.underlying t = some .string) {s : List UInt8} (he : x'.ev S = .str s) {p : Nat × Nat} (hp : boundsA s.length s.length (lo'.map (Opd.ev S)) (hi'.map (Opd.ev S)) = some p) :
    Good P a ⟨d, .slice t x lo hi none, ty, pos, af, g⟩ ι h w (.str ((s.take p.2).drop p.1)) none := by
  obtain ⟨h1, h2, h3⟩ := bounds_ok (P := P) (ι := ι) (isSlice := false) (Nat.le_refl s.length) hp w
  refine Good.same hr trivial ?_
  simp only [execOp, Instr.sliceAt, Sem.run_bind, run_underlying hu, Result.andThen_ok, ev_ok hs hx, he, V.real, opt_ok hs hlo, opt_ok hs hhi, Option.map_none, Instr.slice, size_mk, h1, Option.isSome_none, Bool.false_eq_true, if_false, Sem.run_pure, extract_mk]

theorem good_extract (hr : HR ι h.o w) (hs : SR ι S n a.tmps h.o.length) {d : Option Nat} {i ty : Nat} {pos : String} {af : Array Edge} {g : Option (Nat × Bool)} {x : Operand} {x' : Opd} (hx : trOpd x = some x') {vs : List V} (he : x'.ev S = .tuple vs) {v : V} (hv : vs[i]? = some v) :
    Good P a ⟨d, .extract x i, ty, pos, af, g⟩ ι h w v none := by
  have hsc := ev_sc hs hx
  rw [he] at hsc
  refine Good.same hr ((V.scs_iff _ _).1 hsc v (List.mem_of_getElem? hv)) ?_
  have hq : (V.reals ι vs).toArray[i]? = some (v.real ι) := by rw [List.getElem?_toArray, V.reals_eq, List.getElem?_map, hv]; rfl
  simp only [execOp, Instr.extract, ev_ok hs hx, he, V.real, hq, Sem.run_bind, Sem.run_pure, Result.andThen_ok]

end
end AM
