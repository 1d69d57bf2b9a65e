/- AM, part 7: comparisons, cells, calls: what they come to. -/
import Derived.Test.YtompkmidoklppaaAmEq
namespace AM
open Go
set_option linter.unusedVariables false
set_option linter.unusedSimpArgs false
set_option linter.unusedSectionVars false

section
variable {P : Program} {ι : Map}

def okT (P : Program) (t : Nat) : Kd → Prop
  | .b => P.underlying t = some .bool
  | .i => ∃ k, P.underlying t = some (.int k)
  | .s => P.underlying t = some .string
  | .p => ∃ e m, P.underlying t = some (.pointer e) ∧ szOf P e = some m ∧ m ≠ 0
  | .sl => ∃ e, P.underlying t = some (.slice e)
  | .m => ∃ k e, P.underlying t = some (.map k e)
  | .f => ∃ a b c, P.underlying t = some (.func a b c)

theorem eqK_run {k : Kd} {x y : V} {b : Bool} (hk : eqK k x y = some b) {t : Nat} (ht : okT P t k) (D : Nat) (w : World) :
    (Op.equalIn (D + 1) t (x.real ι) (y.real ι)).run P w = .ok b w := by
  cases k with
  | b => exact eqK_scalar hk ht rfl D w
  | i => obtain ⟨k, ht⟩ := ht; exact eqK_scalar hk ht rfl D w
  | s => exact eqK_scalar hk ht rfl D w
  | p =>
    obtain ⟨e, m, ht, hm, hm0⟩ := ht
    simp only [eqK] at hk
    split at hk
    · simp only [Option.some.injEq] at hk; subst hk; simp [Op.equalIn, run_underlying ht, V.real]
    · simp only [Option.some.injEq] at hk; subst hk; simp [Op.equalIn, run_underlying ht, V.real]
    · simp only [Option.some.injEq] at hk; subst hk; simp [Op.equalIn, run_underlying ht, V.real]
    · split at hk
      · rename_i l o l' o' hl
        subst hl
        simp only [Option.some.injEq] at hk; subst hk
        simp only [Op.equalIn, Sem.run_bind, run_underlying ht, V.real, Result.andThen_ok, sizeOf_run hm, ne_eq, hm0, not_false_eq_true, if_true, sameAddr, beq_self_eq_true, Sem.run_pure]
        congr 1
        rw [Bool.eq_iff_iff]
        simp
      · simp at hk
    · simp at hk
  | sl =>
    obtain ⟨e, ht⟩ := ht
    simp only [eqK] at hk
    split at hk <;> first
      | (simp only [Option.some.injEq] at hk; subst hk; simp [Op.equalIn, run_underlying ht, V.real]; done)
      | simp at hk
  | m =>
    obtain ⟨q, e, ht⟩ := ht
    simp only [eqK] at hk
    split at hk <;> first
      | (simp only [Option.some.injEq] at hk; subst hk; simp [Op.equalIn, run_underlying ht, V.real]; done)
      | simp at hk
  | f =>
    obtain ⟨q, e, c, ht⟩ := ht
    simp only [eqK] at hk
    split at hk <;> first
      | (simp only [Option.some.injEq] at hk; subst hk; simp [Op.equalIn, run_underlying ht, V.real]; done)
      | simp at hk

theorem eqK_guard {k : Kd} {x y : V} {b : Bool} (hk : eqK k x y = some b) (op : BinOp) (t : Nat) (ox oy : Operand) (w : World) : (eqGuard op t ox oy (x.real ι) (y.real ι)).run P w = .ok () w := by
  cases k <;> simp only [eqK] at hk <;> split at hk <;> first
    | (simp at hk; done)
    | (cases op <;> simp [eqGuard, V.real])

theorem eqK_bin {k : Kd} (h1 : k ≠ .i) (h2 : k ≠ .s) {x y : V} {b : Bool} (hk : eqK k x y = some b) {op : BinOp} (hop : op = .eql ∨ op = .neq) (t : Nat) :
    binOp op t (x.real ι) (y.real ι) = (do let r ← Op.equal t (x.real ι) (y.real ι); pure (.bool (if op = .neq then !r else r))) := by
  cases k <;> first
    | exact absurd rfl h1
    | exact absurd rfl h2
    | (simp only [eqK] at hk; split at hk <;> first
        | (simp at hk; done)
        | (rcases hop with rfl | rfl <;> simp [binOp, V.real]))

variable {σ : Type} [Slots σ] {h : Heap} {w : World} {S : σ} {n : Nat} {a : Act}

theorem good_eqk (hr : HR ι h.o w) (hs : SR ι S n a.tmps h.o.length) {d : Option Nat} {op : BinOp} (hop : op = .eql ∨ op = .neq) {t u ty : Nat} {pos : String} {af : Array Edge} {g : Option (Nat × Bool)} {x y : Operand} {x' y' : Opd}
    (hx : trOpd x = some x') (hy : trOpd y = some y') {k : Kd} (h1 : k ≠ .i) (h2 : k ≠ .s) (ht : okT P t k) {b : Bool} (hv : eqK k (x'.ev S) (y'.ev S) = some b) :
    Good P a ⟨d, .binOp op t x y u, ty, pos, af, g⟩ ι h w (.bool (if (op == .neq) = true then !b else b)) none := by
  refine Good.same hr trivial ?_
  simp only [execOp, Sem.run_bind, ev_ok hs hx, ev_ok hs hy, eqK_guard hv op t x y w, eqK_bin h1 h2 hv hop t, Result.andThen_ok, Sem.run_pure, Op.equal, Op.maxDepth, eqK_run hv ht 9999 w, V.real]
  rcases hop with rfl | rfl <;> simp

theorem good_eqa (hr : HR ι h.o w) (hs : SR ι S n a.tmps h.o.length) {d : Option Nat} {op : BinOp} (hop : op = .eql ∨ op = .neq) {t u ty : Nat} {pos : String} {af : Array Edge} {g : Option (Nat × Bool)} {x y : Operand} {x' y' : Opd}
    (hx : trOpd x = some x') (hy : trOpd y = some y') {ks : List (Nat × Kd)} {dd : TypeDesc} (hu : P.underlying t = some dd) (hd : isAggD dd = true) (hf : flatT P 40 t = some ks) (hg : P.eqGuardType P.depth t = false) {b : Bool}
    (hv : eqA true ks (x'.ev S) (y'.ev S) = some b) :
    Good P a ⟨d, .binOp op t x y u, ty, pos, af, g⟩ ι h w (.bool (if (op == .neq) = true then !b else b)) none := by
  refine Good.same hr trivial ?_
  simp only [eqA, if_true] at hv
  split at hv
  · rename_i xs ys hx' hy'
    have hq := flat_ok (ι := ι) 40 t ks hf 10000 (by omega) xs ys b w hv
    rw [mkV_agg hu hd, mkV_agg hu hd] at hq
    have ex := ev_ok hs hx
    have ey := ev_ok hs hy
    rw [hx'] at ex
    rw [hy'] at ey
    simp only [V.real] at ex ey
    rcases hop with rfl | rfl
    · simp only [execOp, Sem.run_bind, ex, ey, run_eqGuard_agg w _ t x y _ _ hg, Result.andThen_ok, run_eql_struct w t, hq, Sem.run_pure, V.real]
      rfl
    · simp only [execOp, Sem.run_bind, ex, ey, run_eqGuard_agg w _ t x y _ _ hg, Result.andThen_ok, run_neq_struct w t, hq, Sem.run_pure, V.real]
      rfl
  · simp at hv

theorem unA_ok {op : UnOp} {x v : V} (hv : unA op x = some v) (w : World) : v.plain = true ∧ (Op.unary op (x.real ι)).run P w = .ok (v.real ι) w := by
  unfold unA at hv
  split at hv <;> first
    | (simp only [Option.some.injEq] at hv; subst hv; exact ⟨rfl, by simp [Op.unary, Op.intArith, Op.intBits, V.real, bits]⟩)
    | simp at hv

theorem idxOf_ok {m : Nat} {v : V} {j : Nat} (hv : idxOf m v = some j) : ∃ k i, v = .int k i ∧ 0 ≤ i ∧ i < (m : Int) ∧ j = i.toNat := by
  unfold idxOf at hv
  split at hv
  · rename_i k i
    split at hv
    · rename_i hc
      simp only [Option.some.injEq] at hv
      exact ⟨k, i, rfl, hc.1, hc.2, hv.symm⟩
    · simp at hv
  · simp at hv

theorem partA_ok {t : Nat} {par : Option Nat} (hp : parOf P t = some par) {cs : List V} {off : Nat} {v : V} (hv : partA cs off par = some v) (N : Nat) (hsc : V.scs N cs) (w : World) :
    v.sc N ∧ (part t (V.reals ι cs).toArray off).run P w = .ok (v.real ι) w := by
  unfold parOf at hp
  split at hp
  · rename_i d hu
    split at hp
    · rename_i hd
      cases hz : szOf P t with
      | none => simp [hz] at hp
      | some m =>
        simp only [hz, Option.map_some, Option.some.injEq] at hp
        subst hp
        simp only [partA] at hv
        split at hv
        · rename_i hle
          simp only [Option.some.injEq] at hv
          subst hv
          refine ⟨scs_take (scs_drop hsc), ?_⟩
          rw [part_run hu hz (.inl hd) (by rw [V.reals_eq, List.length_map]; exact hle) w, mkV_agg hu hd]
          simp only [V.real, V.reals_eq, List.map_take, List.map_drop]
        · simp at hv
    · rename_i hd
      simp only [Option.some.injEq] at hp
      subst hp
      simp only [partA] at hv
      refine ⟨(V.scs_iff _ _).1 hsc v (List.mem_of_getElem? hv), ?_⟩
      have hlt := (List.getElem?_eq_some_iff.1 hv).1
      have hdf : isAggD d = false := by simpa using hd
      unfold part
      rw [Sem.run_bind, isAgg_run hu w, hdf]
      have : (V.reals ι cs).toArray[off]? = some (v.real ι) := by
        rw [List.getElem?_toArray, V.reals_eq, List.getElem?_map, hv]; rfl
      simp [this]
  · simp at hp

theorem load_ok {t : Nat} {par : Option Nat} (hp : parOf P t = some par) (hr : HR ι h.o w) {l o : Nat} {v : V}
    (hv : (match par with | none => h.get l o | some m => (h.gets l o m).map .agg) = some v) :
    v.sc h.o.length ∧ (loadVar t ⟨(ι l).blk, (ι l).base + o, none⟩).run P w = .ok (v.real ι) w := by
  unfold parOf at hp
  split at hp
  · rename_i d hu
    split at hp
    · rename_i hd
      cases hz : szOf P t with
      | none => simp [hz] at hp
      | some m =>
        simp only [hz, Option.map_some, Option.some.injEq] at hp
        subst hp
        cases hg : h.gets l o m with
        | none => simp [hg] at hv
        | some cs =>
          simp only [hg, Option.map_some, Option.some.injEq] at hv
          subst hv
          refine ⟨gets_sc hr hg, ?_⟩
          unfold loadVar
          rw [Sem.run_bind, isAgg_run hu w, hd]
          simp only [Result.andThen_ok, if_true, Sem.run_bind, sizeOf_run hz w, run_loadCells_gets hr hg, Sem.run_pure, V.real]
    · rename_i hd
      have hdf : isAggD d = false := by simpa using hd
      simp only [Option.some.injEq] at hp
      subst hp
      refine ⟨get_sc hr hv, ?_⟩
      unfold loadVar
      rw [Sem.run_bind, isAgg_run hu w, hdf]
      simp only [Result.andThen_ok, Bool.false_eq_true, if_false]
      exact run_load_get hr hv
  · simp at hp

theorem good_load (hr : HR ι h.o w) (hs : SR ι S n a.tmps h.o.length) {d : Option Nat} {t ty : Nat} {pos : String} {af : Array Edge} {g : Option (Nat × Bool)} {x : Operand} {x' : Opd}
    (hx : trOpd x = some x') {par : Option Nat} (hp : parOf P t = some par) {l o : Nat} (he : x'.ev S = .ptr l o) {v : V} (hv : (match par with | none => h.get l o | some m => (h.gets l o m).map .agg) = some v) :
    Good P a ⟨d, .load t x, ty, pos, af, g⟩ ι h w v none := by
  obtain ⟨h1, h2⟩ := load_ok hp hr hv
  refine Good.same hr h1 ?_
  simp only [execOp, Sem.run_bind, ev_ok hs hx, he, V.real, Instr.loadAt, Instr.sureAddr, Sem.run_pure, Result.andThen_ok, h2]

theorem good_store (hr : HR ι h.o w) (hs : SR ι S n a.tmps h.o.length) {d : Option Nat} {t ty : Nat} {pos : String} {af : Array Edge} {g : Option (Nat × Bool)} {x y : Operand} {x' y' : Opd}
    (hx : trOpd x = some x') (hy : trOpd y = some y') {m : Nat} (hz : szOf P t = some m) {l o : Nat} (he : x'.ev S = .ptr l o) (hm : (y'.ev S).cells.length = m) {h' : Heap} (hv : h.sets l o (y'.ev S).cells = some h') :
    Good P a ⟨d, .store t x y, ty, pos, af, g⟩ ι h w undefV (some h') := by
  obtain ⟨w', h1, h2⟩ := sets_sound hr hv (V.cells_sc _ _ (ev_sc hs hy))
  refine ⟨ι, w', .skip, ?_, .inr ⟨rfl, rfl⟩, h2, trivial, fun h => by simp at h⟩
  have e1 : ((y'.ev S).real ι).cells.size = m := by rw [V.cells_real]; simp [V.reals_eq, hm]
  have e2 : ((y'.ev S).real ι).cells.toList = V.reals ι (y'.ev S).cells := by rw [V.cells_real]
  simp only [execOp, Sem.run_bind, ev_ok hs hx, ev_ok hs hy, he, V.real, Instr.storeAt, Instr.sureAddr, Sem.run_pure, Result.andThen_ok, storeVar, sizeOf_run hz, e1, ne_eq, not_true_eq_false, if_false, e2, h1 P]

theorem Nx.get {h' : Heap} {κ : Map} {w' : World} (hn : Nx ι h w κ h' w') : Nx ι h w κ ((some h').getD h) w' := hn

theorem scs_mono' {N M : Nat} (hm : N ≤ M) {cs : List V} (hs : V.scs N cs) : V.scs M cs := V.scs_mono hm cs hs

/-- A new variable. -/
theorem newRow_ok (hr : HR ι h.o w) (t : Nat) (cs : List V) (hsc : V.scs h.o.length cs) :
    ∃ κ w', (newRow t (V.reals ι cs).toArray).run P w = .ok ⟨(κ h.o.length).blk, (κ h.o.length).base, none⟩ w' ∧ Nx ι h w κ (h.new (.cells .ex t 0 cs)) w' ∧ (κ h.o.length).size = cs.length := by
  have hc := V.scs_mono (Nat.le_succ h.o.length) cs hsc
  have := newCells_sound hr .ex (by simp) t cs [] hc (0, 0) (by simp) (fun _ => rfl)
  simp only [List.length_nil, Nat.add_zero, List.append_nil] at this
  refine ⟨_, _, ?_, this, ?_⟩
  · rw [V.reals_agree (Map.agree_upd ι h.o.length _) cs hsc, Map.upd_same]
    simp only [newRow, Sem.run_bind, run_newObj, Result.andThen_ok, Sem.run_pure]
    rfl
  · rw [Map.upd_same]

theorem zero_run {t : Nat} {z : V} (hz : zeroOf P t = some z) (w : World) : (zeroValue t).run P w = .ok (z.real ι) w ∧ z.plain = true := by
  unfold zeroOf at hz
  cases hi : P.info? t with
  | none => simp [hi] at hz
  | some i =>
    cases hz0 : i.zero with
    | none => simp [hi, hz0] at hz
    | some v =>
      simp only [hi, hz0, Option.bind_some] at hz
      obtain ⟨h1, h2⟩ := ofVal_real hz
      exact ⟨by simp [zeroValue, typeInfo, hi, hz0, h2 ι], h1⟩

theorem good_alloc (hr : HR ι h.o w) {d : Option Nat} {t ty : Nat} {pos : String} {af : Array Edge} {g : Option (Nat × Bool)} {z : V} (hz : zeroOf P t = some z) :
    Good P a ⟨d, .alloc t, ty, pos, af, g⟩ ι h w (.ptr h.o.length 0) (some (h.new (.cells .ex t 0 z.cells))) := by
  obtain ⟨z1, z2⟩ := zero_run (ι := ι) hz w
  obtain ⟨κ, w', h1, h2, _⟩ := newRow_ok (P := P) hr t z.cells (V.scs_of_plains _ _ (V.cells_plains _ z2))
  refine ⟨κ, w', _, ?_, .inl rfl, h2, by simp [Heap.new, V.sc], fun h => by simp at h⟩
  simp only [execOp, Instr.alloc, Sem.run_bind, z1, Result.andThen_ok, newVar, V.cells_real, h1, Sem.run_pure, V.real, Nat.add_zero]

theorem good_box (hr : HR ι h.o w) (hs : SR ι S n a.tmps h.o.length) {d : Option Nat} {t ty : Nat} {pos : String} {af : Array Edge} {g : Option (Nat × Bool)} {x : Operand} {x' : Opd} (hx : trOpd x = some x') :
    Good P a ⟨d, .box t x, ty, pos, af, g⟩ ι h w (.ptr h.o.length 0) (some (h.new (.cells .ex t 0 (x'.ev S).cells))) := by
  obtain ⟨κ, w', h1, h2, _⟩ := newRow_ok (P := P) hr t (x'.ev S).cells (V.cells_sc _ _ (ev_sc hs hx))
  refine ⟨κ, w', _, ?_, .inl rfl, h2, by simp [Heap.new, V.sc], fun h => by simp at h⟩
  simp only [execOp, Instr.box, ev_ok hs hx, Sem.run_bind, Result.andThen_ok, newVar, V.cells_real, h1, Sem.run_pure, V.real, Nat.add_zero]

/-- Parts laid over cells. -/
theorem fill_ok (pl : Nat → Option (Nat × Nat)) (hs : SR ι S n a.tmps h.o.length) : ∀ {l : List (Nat × Operand)} {ps : List (Nat × Nat × Opd)} {cs out : List V}, trParts l pl = some ps →
    fillA cs (ps.map fun p => (p.1, p.2.1, p.2.2.ev S)) = some out → V.scs h.o.length cs →
    Instr.fill pl (V.reals ι cs).toArray (l.map fun p => (p.1, a.eval p.2)) = some (V.reals ι out).toArray ∧ V.scs h.o.length out ∧ out.length = cs.length
  | [], ps, cs, out, hp, hf, hsc => by
    simp only [trParts, Option.some.injEq] at hp
    subst hp
    simp only [List.map_nil, fillA, Option.some.injEq] at hf
    subst hf
    exact ⟨rfl, hsc, rfl⟩
  | (i, x) :: r, ps, cs, out, hp, hf, hsc => by
    simp only [trParts] at hp
    split at hp
    · rename_i off m y ys hpl hy hys
      simp only [Option.some.injEq] at hp
      subst hp
      simp only [List.map_cons, fillA] at hf
      split at hf
      · rename_i hc
        obtain ⟨hc1, hc2⟩ := hc
        have hys' := V.cells_sc _ _ (ev_sc hs hy)
        obtain ⟨e1, e2, e3⟩ := fill_ok pl hs hys hf (splice_sc hsc hys')
        refine ⟨?_, e2, by rw [e3, splice_length (by rw [hc1]; exact hc2)]⟩
        simp only [List.map_cons, Instr.fill, hpl, ev_ok hs hy, V.cells_real]
        have s1 : (V.reals ι (y.ev S).cells).toArray.size = m := by simp [V.reals_eq, hc1]
        have s2 : (V.reals ι cs).toArray.size = cs.length := by simp [V.reals_eq]
        rw [s1, s2]
        have hcond : (decide (m ≠ m) || decide (off + m > cs.length)) = false := by simp; omega
        simp only [hcond, Bool.false_eq_true, if_false]
        rw [← e1]
        congr 1
        -- writing one by one is laying over
        have key : ∀ (vs : List Value) (j : Nat) (cur : List Value), off + j + vs.length ≤ cur.length →
            (vs.zipIdx j).foldl (fun cs (p : Value × Nat) => cs.setIfInBounds (off + p.2) p.1) cur.toArray = (cur.take (off + j) ++ vs ++ cur.drop (off + j + vs.length)).toArray := by
          intro vs
          induction vs with
          | nil => intro j cur hl; simp
          | cons v vs ih =>
            intro j cur hl
            have e := ih (j + 1) (cur.set (off + j) v) (by simp at hl ⊢; omega)
            simp only [List.zipIdx_cons, List.foldl_cons, List.setIfInBounds_toArray] at e ⊢
            rw [e]
            congr 1
            simp at hl
            rw [List.set_eq_take_append_cons_drop, if_pos (by omega)]
            simp [List.take_append, List.drop_append, Nat.min_eq_left (show off + j ≤ cur.length by omega)]
            have a1 : off + (j + 1) - (off + j) = 1 := by omega
            have a2 : off + (j + 1) + vs.length - (off + j) = vs.length + 1 := by omega
            have a3 : List.take (off + (j + 1)) (List.take (off + j) cur) = List.take (off + j) cur := by rw [List.take_take, Nat.min_eq_right (by omega)]
            have a4 : List.drop (off + (j + 1) + vs.length) (List.take (off + j) cur) = [] := by rw [List.drop_eq_nil_iff]; simp; omega
            rw [a1, a2, a3, a4]
            simp [List.drop_drop, Nat.add_comm, Nat.add_left_comm]
        have := key (V.reals ι (y.ev S).cells) 0 (V.reals ι cs) (by simp only [V.reals_eq, List.length_map]; omega)
        simp only [Nat.add_zero] at this
        rw [← Array.foldl_toList, Array.toList_zipIdx]
        rw [this]
        congr 1
        simp only [splice, V.reals_eq, List.map_append, List.map_take, List.map_drop, List.length_map]
      · simp at hf
    · simp at hp

theorem listMapM_places {w : World} (fs : Array Field) (hall : fs.toList.all (fun f => (szOf P f.type).isSome) = true) :
    (fs.mapM (m := Sem) fun f => do pure (f.offset, ← Go.sizeOf f.type)).run P w = .ok (fs.map fun f => (f.offset, (szOf P f.type).getD 0)) w := by
  rw [Array.mapM_eq_mapM_toList]
  have key : ∀ (l : List Field), l.all (fun f => (szOf P f.type).isSome) = true →
      (l.mapM (m := Sem) fun f => do pure (f.offset, ← Go.sizeOf f.type)).run P w = .ok (l.map fun f => (f.offset, (szOf P f.type).getD 0)) w := by
    intro l
    induction l with
    | nil => intro _; simp
    | cons f r ih =>
      intro hl
      simp only [List.all_cons, Bool.and_eq_true] at hl
      obtain ⟨m, hm⟩ := Option.isSome_iff_exists.1 hl.1
      simp only [List.mapM_cons, Sem.run_bind, sizeOf_run hm, Result.andThen_ok, Sem.run_pure, ih hl.2, List.map_cons, hm, Option.getD_some]
  simp only [Sem.run_map, key fs.toList hall, Result.andThen_ok]
  congr 1
  apply Array.ext'
  simp

end
end AM
