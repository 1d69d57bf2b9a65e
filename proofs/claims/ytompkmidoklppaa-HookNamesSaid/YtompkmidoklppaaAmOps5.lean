/- AM, part 10: lengths, copies, maps. -/
import Derived.Test.YtompkmidoklppaaAmOps4
namespace AM
open Go
set_option linter.unusedVariables false
set_option linter.unusedSimpArgs false
set_option linter.unusedSectionVars false

section
variable {P : Program} {ι : Map} {σ : Type} [Slots σ] {h : Heap} {w : World} {S : σ} {n : Nat} {a : Act}

/-- What a builtin comes to. -/
theorem good_builtin {b : Builtin} {d : Option Nat} {args : Array Operand} {ats : Array Nat} {ty : Nat} {pos : String} {af : Array Edge} {g : Option (Nat × Bool)} {v : V} {oh : Option Heap} {κ : Map} {w' : World}
    (hn : Nx ι h w κ (oh.getD h) w') (hsc : v.sc (oh.getD h).o.length) (hk : oh = none → κ = ι ∧ w' = w)
    (hrun : (builtin b ats ty (args.map fun | .const _ => true | _ => false) (args.map a.eval)).run P w = .ok (.value (v.real κ)) w') :
    Good P a ⟨d, .call ⟨.builtin b, args, ats⟩, ty, pos, af, g⟩ ι h w v oh := by
  refine ⟨κ, w', _, ?_, .inl rfl, hn, hsc, hk⟩
  simp only [execOp, resolve, Sem.run_bind, Sem.run_pure, Result.andThen_ok, invoke]
  exact hrun

theorem run_len {ats : Array Nat} {t ty : Nat} (ha : ats[0]? = some t) {args : Array Value} {x : Value} (hx : args[0]? = some x) {r : Value} (cs : Array Bool)
    (hr : (match P.underlying t, x with
      | some .string, .string s => r = goInt s.size
      | some (.array n _), _ => r = goInt n
      | some (.slice _), .slice _ n _ => r = goInt n
      | some (.pointer e), _ => (match P.underlying e with | some (.array n _) => r = goInt n | _ => False)
      | _, _ => False)) (w : World) : (builtin .len ats ty cs args).run P w = .ok (.value r) w := by
  simp only [builtin, Builtin.len_, ha, hx, Sem.run_bind]
  split at hr
  · rename_i s hu; subst hr; simp [run_underlying hu]
  · rename_i n e hu; subst hr; simp [run_underlying hu]
  · rename_i e n c hu; subst hr; simp [run_underlying hu]
  · rename_i e hu
    split at hr
    · rename_i n q hu2; subst hr; simp [run_underlying hu, run_underlying hu2]
    · exact hr.elim
  · exact hr.elim

theorem first_cells_str (s : List UInt8) (k m : Nat) (w : World) : (Builtin.firstCells k m (.string ⟨s.toArray⟩)).run P w = .ok (V.reals ι (bytesA (s.take m))).toArray w := by
  simp only [Builtin.firstCells, Sem.run_pure]
  congr 1
  rw [extract_mk]
  apply Array.ext'
  simp only [Array.toList_map, V.reals_eq, bytesA, List.map_map, List.drop_zero]
  rfl

theorem bytesA_len (s : List UInt8) : (bytesA s).length = s.length := by simp [bytesA]

theorem bytesA_plains (s : List UInt8) : V.plains (bytesA s) = true := by
  rw [V.plains_iff]; intro v hv; simp only [bytesA, List.mem_map] at hv; obtain ⟨b, _, rfl⟩ := hv; rfl

theorem run_copyS (hr : HR ι h.o w) {ats : Array Nat} {t u e ty : Nat} (ha : ats[0]? = some t) (ha1 : ats[1]? = some u) (hu : P.underlying t = some (.slice e)) (hsz : szOf P e = some 1) {args : Array Value}
    {l o m : Nat} {s : List UInt8} (h0 : args[0]? = some ((V.slice l o m 1).real ι)) (h1 : args[1]? = some ((V.str s).real ι)) (cs : Array Bool) {h' : Heap} (hs : h.sets l o (bytesA (s.take m)) = some h') :
    ∃ w', (builtin .copy ats ty cs args).run P w = .ok (.value ((V.int .i64 ((min s.length m : Nat) : Int)).real ι)) w' ∧ Nx ι h w ι h' w' := by
  obtain ⟨w', k1, k2⟩ := sets_sound hr hs (V.scs_of_plains _ _ (bytesA_plains _))
  refine ⟨w', ?_, k2⟩
  have ht : s.take (Nat.min s.length m) = s.take m := by
    rcases Nat.le_total s.length m with hm | hm
    · rw [show Nat.min s.length m = s.length from Nat.min_eq_left hm, List.take_of_length_le (Nat.le_refl _), List.take_of_length_le hm]
    · rw [show Nat.min s.length m = m from Nat.min_eq_right hm]
  simp only [builtin, Builtin.copy_, ha, h0, h1, Sem.run_bind, run_underlying hu, Result.andThen_ok, V.real, Builtin.lenOf, Sem.run_pure, sizeOf_run hsz, size_mk, first_cells_str (ι := ι), ht, k1 P]
  rfl

theorem run_copyL (hr : HR ι h.o w) {ats : Array Nat} {t e s ty : Nat} (ha : ats[0]? = some t) (hu : P.underlying t = some (.slice e)) (hsz : szOf P e = some s) {args : Array Value}
    {l o m l' o' m' : Nat} (h0 : args[0]? = some ((V.slice l o m s).real ι)) (h1 : args[1]? = some ((V.slice l' o' m' s).real ι)) (bs : Array Bool) {cs : List V} (hg : h.gets l' o' (min m' m * s) = some cs) {h' : Heap} (hs : h.sets l o cs = some h') :
    ∃ w', (builtin .copy ats ty bs args).run P w = .ok (.value ((V.int .i64 ((min m' m : Nat) : Int)).real ι)) w' ∧ Nx ι h w ι h' w' := by
  obtain ⟨w', k1, k2⟩ := sets_sound hr hs (gets_sc hr hg)
  refine ⟨w', ?_, k2⟩
  have hmin : Nat.min m' m = min m' m := rfl
  simp only [builtin, Builtin.copy_, ha, h0, h1, Sem.run_bind, run_underlying hu, Result.andThen_ok, V.real, Builtin.lenOf, Builtin.firstCells, Sem.run_pure, sizeOf_run hsz, hmin, run_loadCells_gets hr hg, k1 P]
  rfl

theorem run_copyNil (hr : HR ι h.o w) {ats : Array Nat} {t e s ty : Nat} (ha : ats[0]? = some t) (hu : P.underlying t = some (.slice e)) (hsz : szOf P e = some s) {args : Array Value} {x y : V}
    (hxy : (∃ l o m e', x = .slice l o m e' ∧ y = .nils) ∨ (x = .nils ∧ (y = .nils ∨ ∃ l o m e', y = .slice l o m e')))
    (h0 : args[0]? = some (x.real ι)) (h1 : args[1]? = some (y.real ι)) (bs : Array Bool) :
    (builtin .copy ats ty bs args).run P w = .ok (.value ((V.int .i64 0).real ι)) w := by
  rcases hxy with ⟨l, o, m, e', rfl, rfl⟩ | ⟨rfl, rfl | ⟨l, o, m, e', rfl⟩⟩ <;>
    simp [builtin, Builtin.copy_, ha, h0, h1, Sem.run_bind, run_underlying hu, Result.andThen_ok, V.real, Builtin.lenOf, Builtin.firstCells, Sem.run_pure, sizeOf_run hsz, loadCells, loadCellsFrom, storeCells, goInt]

theorem zeroCells_eq (z : List V) (k : Nat) (hz : 0 < z.length) : Builtin.zeroCells (V.reals ι z).toArray k = (V.reals ι (reps z k)).toArray := by
  have := zeros_eq (ι := ι) z k hz
  unfold Builtin.zeroCells
  rw [show (V.reals ι z).toArray.size = z.length by simp [V.reals_eq]] at this ⊢
  exact this

theorem run_clearL (hr : HR ι h.o w) {ats : Array Nat} {t e s ty : Nat} (ha : ats[0]? = some t) (hu : P.underlying t = some (.slice e)) {z : V} (hz : zeroOf P e = some z) (hzl : z.cells.length = s) (h0s : 0 < s) {args : Array Value}
    {l o m : Nat} (h0 : args[0]? = some ((V.slice l o m s).real ι)) (bs : Array Bool) (hm : m ≠ 0) {h' : Heap} (hs : h.sets l o (reps z.cells m) = some h') :
    ∃ w', (builtin .clear ats ty bs args).run P w = .ok (.value (undefV.real ι)) w' ∧ Nx ι h w ι h' w' := by
  obtain ⟨z1, z2⟩ := zero_run (ι := ι) hz w
  obtain ⟨w', k1, k2⟩ := sets_sound hr hs (V.scs_of_plains _ _ (reps_plains _ (V.cells_plains _ z2) m))
  refine ⟨w', ?_, k2⟩
  obtain ⟨q, rfl⟩ : ∃ q, m = q + 1 := ⟨m - 1, by omega⟩
  simp only [builtin, Builtin.clear_, ha, h0, Sem.run_bind, run_underlying hu, Result.andThen_ok, V.real, z1, V.cells_real, zeroCells_eq (ι := ι) z.cells (q + 1) (by omega), k1 P, Sem.run_pure]
  rfl

theorem run_clearNo {ats : Array Nat} {t e ty : Nat} (ha : ats[0]? = some t) (hu : P.underlying t = some (.slice e)) {args : Array Value} {x : V} (hx : x = .nils ∨ ∃ l o e', x = .slice l o 0 e') (h0 : args[0]? = some (x.real ι)) (bs : Array Bool) :
    (builtin .clear ats ty bs args).run P w = .ok (.value (undefV.real ι)) w := by
  rcases hx with rfl | ⟨l, o, e', rfl⟩ <;>
    (simp only [builtin, Builtin.clear_, ha, h0, Sem.run_bind, run_underlying hu, Result.andThen_ok, V.real, Sem.run_pure]; rfl)

theorem minmax_ok (mx : Bool) (w : World) : ∀ (r : List V) (x v : V), minmaxA mx x r = some v → v.plain = true ∧
    (((V.reals ι r).foldlM (if mx = true then Builtin.max2 else Builtin.min2) (x.real ι) : Sem Value)).run P w = .ok (v.real ι) w ∨ (r = [] ∧ v = x)
  | [], x, v, h => by simp only [minmaxA, Option.some.injEq] at h; exact .inr ⟨rfl, h.symm⟩
  | y :: r, x, v, h => by
    left
    simp only [minmaxA] at h
    split at h
    · rename_i k a k' b
      split at h
      · rename_i hk
        subst hk
        have hstep : ((if mx = true then Builtin.max2 else Builtin.min2) ((V.int k a).real ι) ((V.int k b).real ι)).run P w = .ok ((V.int k (maxi mx a b)).real ι) w := by
          cases mx <;> simp [Builtin.max2, Builtin.min2, V.real, maxi]
        rcases minmax_ok mx w r _ v h with ⟨h1, h2⟩ | ⟨rfl, rfl⟩
        · refine ⟨h1, ?_⟩
          simp only [V.reals, List.foldlM_cons, Sem.run_bind, hstep, Result.andThen_ok, h2]
        · refine ⟨rfl, ?_⟩
          simp only [V.reals, List.foldlM_cons, List.foldlM_nil, Sem.run_bind, hstep, Result.andThen_ok, Sem.run_pure]
      · simp at h
    · simp at h

/-! Maps -/

theorem eqK_scal {P : Program} {kt : Nat} {kd : Kd} (h : keyOk P kt = some kd) : ∃ dd, P.underlying kt = some dd ∧ okKd kd dd = true ∧ okT P kt kd ∧ (kd = .b ∨ kd = .i ∨ kd = .s) := by
  unfold keyOk at h
  split at h <;> simp only [Option.some.injEq, reduceCtorEq] at h <;> subst h
  · rename_i hu; exact ⟨_, hu, rfl, hu, .inl rfl⟩
  · rename_i k hu; exact ⟨_, hu, rfl, ⟨_, hu⟩, .inr (.inl rfl)⟩
  · rename_i hu; exact ⟨_, hu, rfl, hu, .inr (.inr rfl)⟩

theorem sameNow_ok {kd : Kd} {dd : TypeDesc} (hd : okKd kd dd = true) {x y : V} {b : Bool} (hk : eqK kd x y = some b) : Instr.sameNow dd (x.real ι) (y.real ι) = some b := by
  cases kd <;> cases dd <;> simp [okKd] at hd <;> simp only [eqK] at hk <;> split at hk <;> first
    | (simp at hk; done)
    | (simp only [Option.some.injEq] at hk; subst hk
       first
       | rfl
       | (simp only [V.real, Instr.sameNow]; rw [beq_toListBytes, toList_mk, toList_mk]))
    | (split at hk
       · rename_i hkk; simp only [Option.some.injEq] at hk; subst hk; simp only [V.real, Instr.sameNow, if_pos hkk]
       · simp at hk)

/-- Where a key stands. -/
def mapIdx (kd : Kd) (k : V) : List (V × V) → Option (Option Nat)
  | [] => some none
  | (k', v) :: r => match eqK kd k k' with
    | some true => some (some 0)
    | some false => (mapIdx kd k r).map (Option.map (· + 1))
    | none => none

theorem mapFind_idx (kd : Kd) (k : V) : ∀ es : List (V × V), mapFind kd k es = (mapIdx kd k es).map (fun r => r.bind fun i => (es[i]?).map (·.2))
  | [] => rfl
  | (k', v) :: r => by
    simp only [mapFind, mapIdx]
    split <;> rename_i hk <;> simp only [hk]
    · rfl
    · rw [mapFind_idx kd k r]
      cases mapIdx kd k r with
      | none => rfl
      | some q => cases q <;> rfl
    · rfl

theorem mapPut_idx (kd : Kd) (k x : V) : ∀ es : List (V × V), mapPut kd k x es = (mapIdx kd k es).map (fun r => match r with | some i => es.set i (k, x) | none => es ++ [(k, x)])
  | [] => rfl
  | (k', v) :: r => by
    simp only [mapPut, mapIdx]
    split <;> rename_i hk <;> simp only [hk]
    · rfl
    · rw [mapPut_idx kd k x r]
      cases mapIdx kd k r with
      | none => rfl
      | some q => cases q <;> rfl
    · rfl

theorem mapDrop_idx (kd : Kd) (k : V) : ∀ es : List (V × V), mapDrop kd k es = (mapIdx kd k es).map (fun r => match r with | some i => es.eraseIdx i | none => es)
  | [] => rfl
  | (k', v) :: r => by
    simp only [mapDrop, mapIdx]
    split <;> rename_i hk <;> simp only [hk]
    · rfl
    · rw [mapDrop_idx kd k r]
      cases mapIdx kd k r with
      | none => rfl
      | some q => cases q <;> rfl
    · rfl

theorem mapIdx_lt {kd : Kd} {k : V} : ∀ {es : List (V × V)} {i : Nat}, mapIdx kd k es = some (some i) → i < es.length ∧ ∃ e, es[i]? = some e ∧ eqK kd k e.1 = some true
  | [], i, h => by simp [mapIdx] at h
  | (k', v) :: r, i, h => by
    simp only [mapIdx] at h
    split at h
    · rename_i hk
      simp only [Option.some.injEq] at h
      subst h
      exact ⟨by simp, (k', v), rfl, hk⟩
    · cases hq : mapIdx kd k r with
      | none => simp [hq] at h
      | some q =>
        cases q with
        | none => simp [hq] at h
        | some j =>
          simp only [hq, Option.map_some, Option.some.injEq] at h
          subst h
          obtain ⟨h1, e, h2, h3⟩ := mapIdx_lt hq
          exact ⟨by simp; omega, e, by simpa using h2, h3⟩
    · simp at h

theorem findNow_ok {kd : Kd} {dd : TypeDesc} (hd : okKd kd dd = true) {k : V} : ∀ {es : List (V × V)} {ents : List MapEntry} {r : Option Nat} (j : Nat), ents.map (fun e => (e.key, e.val)) = es.map (fun e => (e.1.real ι, e.2.real ι)) → mapIdx kd k es = some r →
    Instr.findNow dd (k.real ι) ents j = some (r.bind fun i => (es[i]?).map fun e => (j + i, e.2.real ι))
  | [], ents, r, j, he, hi => by
    cases ents with
    | nil => simp only [mapIdx, Option.some.injEq] at hi; subst hi; rfl
    | cons e r => simp at he
  | (k', v) :: es, ents, r, j, he, hi => by
    cases ents with
    | nil => simp at he
    | cons e ents =>
      simp only [List.map_cons, List.cons.injEq, Prod.mk.injEq] at he
      obtain ⟨⟨he1, he2⟩, he3⟩ := he
      simp only [mapIdx] at hi
      split at hi
      · rename_i hk
        simp only [Option.some.injEq] at hi
        subst hi
        simp only [Instr.findNow, he1, sameNow_ok hd hk, he2]
        rfl
      · rename_i hk
        cases hq : mapIdx kd k es with
        | none => simp [hq] at hi
        | some q =>
          simp only [hq, Option.map_some, Option.some.injEq] at hi
          subst hi
          simp only [Instr.findNow, he1, sameNow_ok hd hk]
          rw [findNow_ok hd (j + 1) he3 hq]
          cases q with
          | none => rfl
          | some i => simp only [Option.map_some, Option.bind_some, List.getElem?_cons_succ]; rw [show j + 1 + i = j + (i + 1) by omega]
      · simp at hi

theorem run_checkKey {kt : Nat} {dd : TypeDesc} {kd : Kd} (hu : P.underlying kt = some dd) (hd : okKd kd dd = true) (b : Bool) (v : V) (m : Nat) : (Instr.checkKey b (m + 1) kt (v.real ι)).run P w = .ok () w := by
  cases kd <;> cases dd <;> simp [okKd] at hd <;> simp [Instr.checkKey, run_underlying hu]

theorem run_findKey {kt : Nat} {dd : TypeDesc} {kd : Kd} (hu : P.underlying kt = some dd) (hd : okKd kd dd = true) {k : V} {es : List (V × V)} {ents : List MapEntry} {r : Option Nat} (he : ents.map (fun e => (e.key, e.val)) = es.map (fun e => (e.1.real ι, e.2.real ι))) (hi : mapIdx kd k es = some r) :
    (Instr.findKey kt (k.real ι) ents).run P w = .ok (r.bind fun i => (es[i]?).map fun e => (i, e.2.real ι)) w := by
  have := findNow_ok hd (ι := ι) 0 he hi
  simp only [Nat.zero_add] at this
  simp only [Instr.findKey, Sem.run_bind, run_underlying hu, Result.andThen_ok, this, Sem.run_pure]

theorem map_obj (hr : HR ι h.o w) {l : Nat} {es : List (V × V)} (hl : h.o[l]? = some (.map es)) : ∃ (ents : Array MapEntry) (clock : Nat), w.heap[(ι l).blk]? = some (.map ents clock) ∧
    ents.toList.map (fun e => (e.key, e.val)) = es.map (fun e => (e.1.real ι, e.2.real ι)) ∧ (∀ e ∈ ents.toList, e.born < clock) ∧ (ents.toList.map (·.born)).Nodup := hr.obj l _ hl

theorem run_getMap {b : Nat} {ents : Array MapEntry} {clock : Nat} (hb : w.heap[b]? = some (.map ents clock)) : (getObj b).run P w = .ok (.map ents clock) w := by
  simp [getObj, Sem.run, hb]

theorem run_setMap {b : Nat} {ents : Array MapEntry} {clock : Nat} (hb : w.heap[b]? = some (.map ents clock)) (o : Go.Obj) : (setObj b o).run P w = .ok () { w with heap := w.heap.setIfInBounds b o } := by
  simp [setObj, Sem.run, hb]

/-- A map is another one now. -/
theorem setMap_nx (hr : HR ι h.o w) {l : Nat} {es es' : List (V × V)} (hl : h.o[l]? = some (.map es)) {ents : Array MapEntry} {clock : Nat} (he : ents.toList.map (fun e => (e.key, e.val)) = es'.map (fun e => (e.1.real ι, e.2.real ι)))
    (hb : ∀ e ∈ ents.toList, e.born < clock) (hnd : (ents.toList.map (·.born)).Nodup) (hsc : ∀ e ∈ es', e.1.sc h.o.length ∧ e.2.sc h.o.length) (pl : Bool) (hpl : pl = true → ∀ m, (∀ e ∈ es, e.1.sc m ∧ e.2.sc m) → ∀ e ∈ es', e.1.sc m ∧ e.2.sc m) :
    Nx ι h w ι (h.setMap l es' pl) { w with heap := w.heap.setIfInBounds (ι l).blk (.map ents clock) } := by
  obtain ⟨en0, c0, hw, _⟩ := map_obj hr hl
  have hlt : (ι l).blk < w.heap.size := (Array.getElem?_eq_some_iff.1 hw).1
  refine Nx.upd hr hl rfl (o' := .map es') rfl _ _ rfl rfl rfl (by simp) (fun b hb => ?_) ⟨ents, clock, ?_, he, hb, hnd⟩ hsc ?_ (Nat.min_le_left _ _) (Nat.min_le_right _ _) ?_
  · show (w.heap.setIfInBounds _ _)[b]? = _
    rw [Array.getElem?_setIfInBounds, if_neg (fun e => hb e.symm)]
  · show (w.heap.setIfInBounds _ _)[_]? = _
    rw [Array.getElem?_setIfInBounds, if_pos rfl, if_pos hlt]
  · split <;> omega
  · cases pl with
    | true => exact .inr fun m hm => hpl rfl m hm
    | false => exact .inl (Nat.min_le_right _ _)

end
end AM
