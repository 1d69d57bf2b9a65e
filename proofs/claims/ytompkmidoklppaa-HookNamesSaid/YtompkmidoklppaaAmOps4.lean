/- AM, part 9: slices, conversions, copies, maps. -/
import Derived.Test.YtompkmidoklppaaAmOps3
namespace AM
open Go
set_option linter.unusedVariables false
set_option linter.unusedSimpArgs false
set_option linter.unusedSectionVars false

section
variable {P : Program} {ι : Map} {σ : Type} [Slots σ] {h : Heap} {w : World} {S : σ} {n : Nat} {a : Act}

/-- A number for an object of which nothing is known. -/
theorem Nx.deadNew (hr : HR ι h.o w) (p : Place) : Nx ι h w (ι.upd h.o.length p) (h.new .dead) w := by
  have ag := Map.agree_upd ι h.o.length p
  have look : ∀ (k : Nat) (y : Obj), (h.o ++ [Obj.dead])[k]? = some y → (k = h.o.length ∧ y = .dead) ∨ (k < h.o.length ∧ h.o[k]? = some y) := by
    intro k y hy
    rw [List.getElem?_append] at hy
    split at hy
    · exact .inr ⟨by assumption, hy⟩
    · have hk : k - h.o.length = 0 := by
        rcases Nat.eq_zero_or_pos (k - h.o.length) with h0 | h0
        · exact h0
        · rw [List.getElem?_eq_none (by simp; omega)] at hy; simp at hy
      rw [hk] at hy
      simp at hy
      exact .inl ⟨by omega, hy.symm⟩
  refine ⟨⟨fun k y hy => ?_, fun k k' y y' hkk hy hy' hyo hyl => ?_, fun k y hy => ?_⟩, ag, by simp [Heap.new], ⟨rfl, rfl, rfl, Nat.le_refl _, fun b _ _ => rfl, fun b hb hb' hc => ?_⟩, fun k m hkn hke hc y hy => ?_, ⟨Nat.le_refl _, Nat.le_refl _⟩, fun k hk _ => List.getElem?_append_left hk⟩
  · rcases look k y hy with ⟨rfl, rfl⟩ | ⟨hk, hy'⟩
    · trivial
    · rw [ag k hk]; exact (hr.obj k y hy').agree ag (hr.sc k y hy')
  · rcases look k y hy with ⟨rfl, rfl⟩ | ⟨hk, hyy⟩
    · simp [Obj.own] at hyo
    · rcases look k' y' hy' with ⟨rfl, rfl⟩ | ⟨hk', hyy'⟩
      · simp [Obj.live] at hyl
      · rw [ag k hk, ag k' hk']
        exact hr.apart k k' y y' hkk hyy hyy' hyo hyl
  · simp only [Heap.new, List.length_append, List.length_cons, List.length_nil]
    rcases look k y hy with ⟨rfl, rfl⟩ | ⟨hk, hy'⟩
    · trivial
    · exact Obj.sc_mono (by omega) (hr.sc k y hy')
  · obtain ⟨k, y, hy, hyo, hb2⟩ := hc
    rcases look k y hy with ⟨rfl, rfl⟩ | ⟨hk, hy'⟩
    · simp [Obj.own] at hyo
    · rw [ag k hk] at hb2
      exact hb' ⟨k, y, hy', hyo, hb2⟩
  · rcases look k y hy with ⟨rfl, rfl⟩ | ⟨hk', hy'⟩
    · trivial
    · exact hc y hy'

theorem holds_ok (hr : HR ι h.o w) {l m : Nat} (hh : h.holds l m = true) : m ≤ (ι l).size := by
  unfold Heap.holds at hh
  split at hh
  · rename_i k t fz cs hc
    obtain ⟨arr, t', lo, hi, hb, h1, h2, _⟩ := hr.obj l _ hc
    have := of_decide_eq_true hh
    omega
  · simp at hh

theorem good_slL (hr : HR ι h.o w) (hs : SR ι S n a.tmps h.o.length) {d : Option Nat} {t ty e s : Nat} {pos : String} {af : Array Edge} {g : Option (Nat × Bool)} {x : Operand} {x' : Opd} {lo hi : Option Operand} {lo' hi' : Option Opd} (hx : trOpd x = some x') (hlo : trOpt lo = some lo') (hhi : trOpt hi = some hi')
    (hu : P.underlying t = some (.slice e)) (hsz : szOf P e = some s) (h0 : 0 < s) {l o m : Nat} (he : x'.ev S = .slice l o m s) (hh : h.holds l (o + m * s) = true) {p : Nat × Nat} (hp : boundsA m m (lo'.map (Opd.ev S)) (hi'.map (Opd.ev S)) = some p)
    {v : V} {oh : Option Heap} (hv : (if p.1 = 0 then ok (.slice l o p.2 s) else if p.1 < p.2 then ok (.slice l (o + p.1 * s) (p.2 - p.1) s) else okh (.slice h.o.length 0 0 s) (h.new .dead)) = some (v, oh)) :
    Good P a ⟨d, .slice t x lo hi none, ty, pos, af, g⟩ ι h w v oh := by
  have hsc := ev_sc hs hx
  rw [he] at hsc
  have hsize := holds_ok hr hh
  have hcap : m ≤ ((ι l).size - o) / s := by rw [Nat.le_div_iff_mul_le h0]; omega
  obtain ⟨h1, h2, h3⟩ := bounds_ok (P := P) (ι := ι) (isSlice := true) hcap hp w
  have h3' : p.2 ≤ m := by simpa using h3
  have hrun : (execOp a.eval ⟨d, .slice t x lo hi none, ty, pos, af, g⟩).run P w =
      .ok (.value (.slice (if ((ι l).size - o) / s = p.1 then some ⟨(ι l).blk, (ι l).base + o, none⟩ else some ⟨(ι l).blk, (ι l).base + o + p.1 * s, none⟩) (p.2 - p.1) (((ι l).size - o) / s - p.1))) w := by
    simp only [execOp, Instr.sliceAt, Sem.run_bind, run_underlying hu, Result.andThen_ok, ev_ok hs hx, he, V.real, opt_ok hs hlo, opt_ok hs hhi, Option.map_none, Instr.slice, h1, sizeOf_run hsz, Sem.run_pure, Option.map_some, Addr_add]
  by_cases hp1 : p.1 = 0
  · rw [if_pos hp1] at hv
    simp only [ok, Option.some.injEq, Prod.mk.injEq] at hv
    obtain ⟨rfl, rfl⟩ := hv
    refine Good.same hr hsc ?_
    rw [hrun, hp1]
    simp [V.real]
  · rw [if_neg hp1] at hv
    by_cases hlt : p.1 < p.2
    · rw [if_pos hlt] at hv
      simp only [ok, Option.some.injEq, Prod.mk.injEq] at hv
      obtain ⟨rfl, rfl⟩ := hv
      refine Good.same hr hsc ?_
      rw [hrun, if_neg (by omega)]
      simp only [V.real, Nat.add_assoc]
      have : ((ι l).size - o) / s - p.1 = ((ι l).size - (o + p.1 * s)) / s := by
        rw [← Nat.sub_sub, Nat.mul_comm, Nat.sub_mul_div]
      rw [this]
    · rw [if_neg hlt] at hv
      simp only [okh, Option.some.injEq, Prod.mk.injEq] at hv
      obtain ⟨rfl, rfl⟩ := hv
      have hpe : p.2 - p.1 = 0 := by omega
      refine ⟨ι.upd h.o.length ⟨(ι l).blk, (if ((ι l).size - o) / s = p.1 then (ι l).base + o else (ι l).base + o + p.1 * s), (((ι l).size - o) / s - p.1) * s⟩, w, _, hrun, .inl ?_, Nx.deadNew hr _, by simp [Heap.new, V.sc], fun h => by simp at h⟩
      simp only [V.real, Map.upd_same, hpe, Nat.add_zero, Nat.sub_zero, Nat.mul_div_cancel _ h0]
      split <;> rfl

theorem good_slNil (hr : HR ι h.o w) (hs : SR ι S n a.tmps h.o.length) {d : Option Nat} {t ty e s : Nat} {pos : String} {af : Array Edge} {g : Option (Nat × Bool)} {x : Operand} {x' : Opd} {lo hi : Option Operand} {lo' hi' : Option Opd} (hx : trOpd x = some x') (hlo : trOpt lo = some lo') (hhi : trOpt hi = some hi')
    (hu : P.underlying t = some (.slice e)) (hsz : szOf P e = some s) (he : x'.ev S = .nils) {p : Nat × Nat} (hp : boundsA 0 0 (lo'.map (Opd.ev S)) (hi'.map (Opd.ev S)) = some p) :
    Good P a ⟨d, .slice t x lo hi none, ty, pos, af, g⟩ ι h w .nils none := by
  obtain ⟨h1, h2, h3⟩ := bounds_ok (P := P) (ι := ι) (isSlice := true) (Nat.le_refl 0) hp w
  have e2 : p.2 = 0 := by simpa using h3
  have e1 : p.1 = 0 := by omega
  refine Good.same hr trivial ?_
  simp only [execOp, Instr.sliceAt, Sem.run_bind, run_underlying hu, Result.andThen_ok, ev_ok hs hx, he, V.real, opt_ok hs hlo, opt_ok hs hhi, Option.map_none, Instr.slice, h1, sizeOf_run hsz, Sem.run_pure, Option.map_none, e1, e2, if_true, Nat.sub_zero]

theorem exact_ok (hr : HR ι h.o w) {l : Nat} {cs : List V} (hx : h.exact l = true) (hc : h.cellsAt l = some cs) : (ι l).size = cs.length := by
  unfold Heap.exact at hx
  unfold Heap.cellsAt at hc
  split at hx
  · rename_i t fz cs' hq
    rw [hq] at hc
    simp only [Option.some.injEq] at hc
    subst hc
    obtain ⟨arr, t', lo, hi, _, _, _, _, h5, _⟩ := hr.obj l _ hq
    exact h5 rfl
  · simp at hx

theorem good_slA (hr : HR ι h.o w) (hs : SR ι S n a.tmps h.o.length) {d : Option Nat} {t ty len e s : Nat} {pos : String} {af : Array Edge} {g : Option (Nat × Bool)} {x : Operand} {x' : Opd} {lo hi : Option Operand} {lo' hi' : Option Opd} (hx : trOpd x = some x') (hlo : trOpt lo = some lo') (hhi : trOpt hi = some hi')
    (hu : P.underlying t = some (.array len e) ∨ ∃ q, P.underlying t = some (.pointer q) ∧ P.underlying q = some (.array len e)) (hsz : szOf P e = some s) (h0 : 0 < s) {l : Nat} (he : x'.ev S = .ptr l 0) {cs : List V} (hx2 : h.exact l = true) (hc : h.cellsAt l = some cs) (hlen : cs.length = len * s)
    {p : Nat × Nat} (hp : boundsA len len (lo'.map (Opd.ev S)) (hi'.map (Opd.ev S)) = some p)
    {v : V} (hv : (if p.1 = 0 then ok (.slice l 0 p.2 s) else if p.1 < len then ok (.slice l (p.1 * s) (p.2 - p.1) s) else none) = some (v, none)) :
    Good P a ⟨d, .slice t x lo hi none, ty, pos, af, g⟩ ι h w v none := by
  have hsc := ev_sc hs hx
  rw [he] at hsc
  have hsize := exact_ok hr hx2 hc
  obtain ⟨h1, h2, h3⟩ := bounds_ok (P := P) (ι := ι) (isSlice := false) (Nat.le_refl len) hp w
  have hrun : (execOp a.eval ⟨d, .slice t x lo hi none, ty, pos, af, g⟩).run P w =
      .ok (.value (.slice (some (if len = p.1 then ⟨(ι l).blk, (ι l).base, none⟩ else ⟨(ι l).blk, (ι l).base + p.1 * s, none⟩)) (p.2 - p.1) (len - p.1))) w := by
    rcases hu with hu | ⟨q, hu, hu2⟩
    · simp only [execOp, Instr.sliceAt, Sem.run_bind, run_underlying hu, Result.andThen_ok, ev_ok hs hx, he, V.real, Instr.sureAddr, opt_ok hs hlo, opt_ok hs hhi, Option.map_none, h1, sizeOf_run hsz, Sem.run_pure, Addr_add, Nat.add_zero]
    · simp only [execOp, Instr.sliceAt, Instr.slice, Sem.run_bind, run_underlying hu, run_underlying hu2, Result.andThen_ok, ev_ok hs hx, he, V.real, asAddr, opt_ok hs hlo, opt_ok hs hhi, Option.map_none, h1, sizeOf_run hsz, Sem.run_pure, Addr_add, Nat.add_zero]
  have hd : ∀ q, (len * s - q * s) / s = len - q := by
    intro q
    rw [← Nat.sub_mul, Nat.mul_div_cancel _ h0]
  by_cases hp1 : p.1 = 0
  · rw [if_pos hp1] at hv
    simp only [ok, Option.some.injEq, Prod.mk.injEq] at hv
    obtain ⟨rfl, _⟩ := hv
    refine Good.same hr hsc ?_
    rw [hrun, hp1]
    have := hd 0
    simp only [Nat.zero_mul, Nat.sub_zero] at this
    simp [V.real, hsize, hlen, this]
  · rw [if_neg hp1] at hv
    split at hv
    · rename_i hlt
      simp only [ok, Option.some.injEq, Prod.mk.injEq] at hv
      obtain ⟨rfl, _⟩ := hv
      refine Good.same hr hsc ?_
      rw [hrun, if_neg (by omega)]
      simp only [V.real, hsize, hlen, hd]
    · simp at hv

theorem good_toInt (hr : HR ι h.o w) (hs : SR ι S n a.tmps h.o.length) {d : Option Nat} {t u ty : Nat} {pos : String} {af : Array Edge} {g : Option (Nat × Bool)} {x : Operand} {x' : Opd} (hx : trOpd x = some x')
    {k0 k k1 : IntKind} (h1 : P.underlying t = some (.int k0)) (h2 : P.underlying u = some (.int k)) {i : Int} (he : x'.ev S = .int k1 i) :
    Good P a ⟨d, .convert t u x, ty, pos, af, g⟩ ι h w (.int k (k.wrap i)) none := by
  refine Good.same hr trivial ?_
  simp only [execOp, convert, Sem.run_bind, run_underlying h1, run_underlying h2, Result.andThen_ok, ev_ok hs hx, he, V.real, Conv.intToInt, Sem.run_pure]

theorem good_strStr (hr : HR ι h.o w) (hs : SR ι S n a.tmps h.o.length) {d : Option Nat} {t u ty : Nat} {pos : String} {af : Array Edge} {g : Option (Nat × Bool)} {x : Operand} {x' : Opd} (hx : trOpd x = some x')
    (h1 : P.underlying t = some .string) (h2 : P.underlying u = some .string) {s : List UInt8} (he : x'.ev S = .str s) :
    Good P a ⟨d, .convert t u x, ty, pos, af, g⟩ ι h w (.str s) none := by
  refine Good.same hr trivial ?_
  simp only [execOp, convert, Sem.run_bind, run_underlying h1, run_underlying h2, Result.andThen_ok, ev_ok hs hx, he, V.real, Sem.run_pure]

theorem isByte_ok {e : Nat} (h : isByte P e = true) : P.underlying e = some (.int .u8) := by
  unfold isByte at h
  split at h
  · assumption
  · simp at h

theorem pushes (w : World) (f : Value → ByteArray → Sem (ForInStep ByteArray)) (hf : ∀ b r, f (.int .u8 b) r = pure (ForInStep.yield (r.push (UInt8.ofNat b.toNat)))) : ∀ (cs : List V) (s : List UInt8) (acc : ByteArray), strOf cs = some s →
    (forIn (V.reals ι cs) acc f : Sem ByteArray).run P w = .ok (acc ++ ⟨s.toArray⟩) w
  | [], s, acc, h => by
    simp only [strOf, Option.some.injEq] at h
    subst h
    simp only [V.reals, List.forIn_nil, Sem.run_pure]
    congr 1
    apply ByteArray.ext
    simp
  | c :: r, s, acc, h => by
    unfold strOf at h
    split at h
    · simp_all
    · rename_i b r' hc
      simp only [List.cons.injEq] at hc
      obtain ⟨rfl, rfl⟩ := hc
      split at h
      · rename_i s' hs'
        simp only [Option.some.injEq] at h
        subst h
        have := pushes w f hf r s' (acc.push (UInt8.ofNat b.toNat)) hs'
        simp only [V.reals, V.real, List.forIn_cons, hf, Sem.run_bind, Sem.run_pure, Result.andThen_ok, this]
        congr 1
        apply ByteArray.ext
        simp [ByteArray.data_append, ByteArray.data_push]
      · simp at h
    · simp at h

theorem good_toStr (hr : HR ι h.o w) (hs : SR ι S n a.tmps h.o.length) {d : Option Nat} {t u e ty : Nat} {pos : String} {af : Array Edge} {g : Option (Nat × Bool)} {x : Operand} {x' : Opd} (hx : trOpd x = some x')
    (h1 : P.underlying t = some (.slice e)) (h2 : P.underlying u = some .string) (h3 : isByte P e = true) {l o m : Nat} (he : x'.ev S = .slice l o m 1) {cs : List V} (hg : h.gets l o m = some cs) {s : List UInt8} (hst : strOf cs = some s) :
    Good P a ⟨d, .convert t u x, ty, pos, af, g⟩ ι h w (.str s) none := by
  refine Good.same hr trivial ?_
  simp only [execOp, convert, Sem.run_bind, run_underlying h1, run_underlying h2, run_underlying (isByte_ok h3), Result.andThen_ok, ev_ok hs hx, he, V.real, Conv.bytesToString, run_loadCells_gets hr hg, List.forIn_toArray]
  rw [pushes (P := P) (ι := ι) w _ (fun _ _ => rfl) cs s ByteArray.empty hst]
  simp only [Result.andThen_ok, Sem.run_pure]
  congr 3

theorem good_toStrNil (hr : HR ι h.o w) (hs : SR ι S n a.tmps h.o.length) {d : Option Nat} {t u e ty : Nat} {pos : String} {af : Array Edge} {g : Option (Nat × Bool)} {x : Operand} {x' : Opd} (hx : trOpd x = some x')
    (h1 : P.underlying t = some (.slice e)) (h2 : P.underlying u = some .string) (h3 : isByte P e = true) (he : x'.ev S = .nils) :
    Good P a ⟨d, .convert t u x, ty, pos, af, g⟩ ι h w (.str []) none := by
  refine Good.same hr trivial ?_
  simp only [execOp, convert, Sem.run_bind, run_underlying h1, run_underlying h2, run_underlying (isByte_ok h3), Result.andThen_ok, ev_ok hs hx, he, V.real, Conv.bytesToString, Sem.run_pure]
  rfl

theorem freeze_new (w : World) (arr : Array Value) (t : Nat) : (w.alloc (.cells arr t (0, 0))).freeze { block := w.heap.size, off := arr.size } 1 = w.alloc (.cells arr t (arr.size, arr.size + 1)) := by
  have : ((w.heap.push (.cells arr t (0, 0))).modify w.heap.size fun
      | .cells c elem (lo, hi) => .cells c elem (if lo == hi then (arr.size, arr.size + 1) else (min lo arr.size, max hi (arr.size + 1)))
      | o => o) = w.heap.push (.cells arr t (arr.size, arr.size + 1)) := by
    apply Array.ext
    · simp
    · intro i h1 h2
      rw [Array.getElem_modify]
      simp only [Array.getElem_push]
      split
      · rename_i hi
        subst hi
        simp
      · rename_i hi
        split
        · rfl
        · simp at h2; omega
  unfold World.freeze
  rw [if_neg (show ¬ ((1 : Nat) = 0) by omega)]
  exact congrArg (fun hp => ({ w with heap := hp } : World)) this

theorem good_toBytes (hr : HR ι h.o w) (hs : SR ι S n a.tmps h.o.length) {d : Option Nat} {t u e ty : Nat} {pos : String} {af : Array Edge} {g : Option (Nat × Bool)} {x : Operand} {x' : Opd} (hx : trOpd x = some x')
    (h1 : P.underlying t = some .string) (h2 : P.underlying u = some (.slice e)) (h3 : isByte P e = true) {s : List UInt8} (he : x'.ev S = .str s) :
    Good P a ⟨d, .convert t u x, ty, pos, af, g⟩ ι h w (.slice h.o.length 0 s.length 1) (some (h.new (.cells .gr e 0 (bytesA s)))) := by
  let q := Question.appendCap s.length 0 e
  let c := q.cut (w.tape w.drawn q)
  let w1 : World := { w with drawn := w.drawn + 1 }
  have hc : s.length ≤ c := by show s.length ≤ s.length + _; omega
  let rest : List Value := List.replicate (c - s.length) (.int .u8 0)
  have hbl : (bytesA s).length = s.length := by simp [bytesA]
  have hn1 : Nx ι h w ι h w1 := Nx.drew hr rfl rfl rfl rfl
  have hbp : V.plains (bytesA s) = true := by rw [V.plains_iff]; intro v hv; simp only [bytesA, List.mem_map] at hv; obtain ⟨b, _, rfl⟩ := hv; rfl
  let arr : Array Value := (V.reals (ι.upd h.o.length ⟨w1.heap.size, 0, (bytesA s).length + rest.length⟩) (bytesA s) ++ rest).toArray
  have hn2 := newCells_sound hn1.hr .gr (by simp) e (bytesA s) rest (V.scs_of_plains _ _ hbp) (arr.size, arr.size + 1) (by
    intro i hi
    simp only [arr, List.size_toArray, List.length_append, V.reals_eq, List.length_map]
    omega) (by simp)
  simp only at hn2
  have harr : (V.reals ι (bytesA s) : List Value) = s.map fun b => .int .u8 b.toNat := by
    rw [V.reals_eq, bytesA, List.map_map]
    rfl
  have harr2 : arr = (⟨s.toArray⟩ : ByteArray).data.map (fun b => Value.int .u8 (b.toNat : Int)) ++ Array.replicate (c - s.length) (.int .u8 0) := by
    simp only [arr]
    rw [V.reals_agree (Map.agree_upd ι h.o.length _) (bytesA s) (V.scs_of_plains _ _ hbp), harr]
    apply Array.ext'
    simp [rest]
  refine ⟨_, _, _, ?_, .inl rfl, hn1.trans hn2, by simp [Heap.new, V.sc], fun h => by simp at h⟩
  have hfz := freeze_new w1 arr e
  have hsh : (w1.alloc (.cells arr e (0, 0))).shape? w1.heap.size = some (e, arr.size) := by
    show (match (w1.heap.push _)[w1.heap.size]? with | some (.cells c elem _) => some (elem, c.size) | _ => none) = _
    simp [Array.getElem?_push]
  have hsize : arr.size = c := by
    simp only [arr, List.size_toArray, List.length_append, V.reals_eq, List.length_map, hbl, rest, List.length_replicate]; omega
  simp only [execOp, convert, Sem.run_bind, run_underlying h1, run_underlying h2, run_underlying (isByte_ok h3), Result.andThen_ok, ev_ok hs hx, he, V.real, Conv.stringToBytes, run_choose, size_mk]
  rw [if_neg (by simp [Question.forced])]
  simp only [Result.andThen_ok, newRow, Sem.run_bind, run_newObj, Sem.run_pure, markStringish, run_shape]
  rw [← harr2]
  show Result.andThen (Result.andThen (Sem.run P (match (w1.alloc (.cells arr e (0, 0))).shape? w1.heap.size with | some (_, n) => freeze { block := w1.heap.size, off := n } 1 | _ => pure ()) (w1.alloc (.cells arr e (0, 0)))) _) _ = _
  rw [hsh]
  simp only [run_freeze, Result.andThen_ok, hfz, Map.upd_same, hbl, rest, List.length_replicate, Nat.add_zero, Nat.sub_zero, Nat.div_one]
  have hcc : s.length + (c - s.length) = c := by omega
  have harr3 : arr = (V.reals (ι.upd h.o.length ⟨w1.heap.size, 0, c⟩) (bytesA s) ++ List.replicate (c - s.length) (Value.int .u8 0)).toArray := by
    simp only [arr, rest, List.length_replicate, hbl, hcc]
  rw [hcc, ← harr3]

end
end AM
