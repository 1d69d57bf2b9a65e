/- AM, part 11: maps' operations; new slices; appends. -/
import Derived.Test.YtompkmidoklppaaAmOps5
namespace AM
open Go
set_option linter.unusedVariables false
set_option linter.unusedSimpArgs false
set_option linter.unusedSectionVars false

section
variable {P : Program} {ι : Map} {σ : Type} [Slots σ] {h : Heap} {w : World} {S : σ} {n : Nat} {a : Act}

theorem eraseIdx_map' {α β : Type} (f : α → β) : ∀ (l : List α) (i : Nat), (l.map f).eraseIdx i = (l.eraseIdx i).map f
  | [], _ => rfl
  | _ :: _, 0 => rfl
  | a :: l, i + 1 => by simp [eraseIdx_map' f l i]

theorem good_lookup (hr : HR ι h.o w) (hs : SR ι S n a.tmps h.o.length) {d : Option Nat} {t kt e ty : Nat} {pos : String} {af : Array Edge} {g : Option (Nat × Bool)} {m k : Operand} {m' k' : Opd} {cok : Bool} (hm : trOpd m = some m') (hk : trOpd k = some k')
    (hu : P.underlying t = some (.map kt e)) {z : V} (hz : zeroOf P e = some z) {kd : Kd} (hkd : keyOk P kt = some kd) {r : Option V}
    (hv : (m'.ev S = .nilm ∧ r = none) ∨ ∃ l es, m'.ev S = .map l ∧ h.o[l]? = some (.map es) ∧ mapFind kd (k'.ev S) es = some r) :
    Good P a ⟨d, .lookup t m k cok, ty, pos, af, g⟩ ι h w (if cok = true then .tuple [r.getD z, .bool r.isSome] else r.getD z) none := by
  obtain ⟨dd, hdu, hdd, _, _⟩ := eqK_scal hkd
  obtain ⟨z1, z2⟩ := zero_run (ι := ι) hz w
  have ck := fun b => run_checkKey (ι := ι) (w := w) hdu hdd b (k'.ev S) 9999
  rcases hv with ⟨he, rfl⟩ | ⟨l, es, he, hl, hf⟩
  · have hzs := V.sc_of_plain h.o.length z z2
    refine Good.same hr ?_ ?_
    · split
      · exact ⟨hzs, trivial, trivial⟩
      · exact hzs
    · have hfk := run_findKey (ι := ι) (w := w) hdu hdd (k := k'.ev S) (es := []) (ents := []) rfl rfl
      simp only [execOp, Instr.lookup, Sem.run_bind, run_underlying hu, Result.andThen_ok, ev_ok hs hm, he, V.real, Sem.run_pure, ev_ok hs hk, ck, hfk, z1, Option.bind_none]
      cases cok <;> simp [V.real, V.reals]
  · obtain ⟨ents, clock, h1, h2, h3, h4⟩ := map_obj hr hl
    rw [mapFind_idx] at hf
    cases hi : mapIdx kd (k'.ev S) es with
    | none => simp [hi] at hf
    | some q =>
      have hfk := run_findKey (ι := ι) (w := w) hdu hdd h2 hi
      simp only [hi, Option.map_some, Option.some.injEq] at hf
      have hsc := hr.sc l _ hl
      cases q with
      | none =>
        simp only [Option.bind_none] at hf
        subst hf
        have hzs := V.sc_of_plain h.o.length z z2
        refine Good.same hr ?_ ?_
        · split
          · exact ⟨hzs, trivial, trivial⟩
          · exact hzs
        · simp only [execOp, Instr.lookup, Sem.run_bind, run_underlying hu, Result.andThen_ok, ev_ok hs hm, he, V.real, run_getMap h1, Sem.run_pure, ev_ok hs hk, ck, hfk, z1, Option.bind_none]
          cases cok <;> simp [V.real, V.reals]
      | some i =>
        obtain ⟨hlt, e0, he0, _⟩ := mapIdx_lt hi
        simp only [Option.bind_some, he0, Option.map_some] at hf
        subst hf
        have hes := (hsc e0 (List.mem_of_getElem? he0)).2
        refine Good.same hr ?_ ?_
        · split
          · exact ⟨hes, trivial, trivial⟩
          · exact hes
        · simp only [execOp, Instr.lookup, Sem.run_bind, run_underlying hu, Result.andThen_ok, ev_ok hs hm, he, V.real, run_getMap h1, Sem.run_pure, ev_ok hs hk, ck, hfk, Option.bind_some, he0, Option.map_some]
          cases cok <;> simp [V.real, V.reals]

theorem sameBits_eq {kd : Kd} {x y : V} (hx : x.key kd = true) (hk : eqK kd x y = some true) : Instr.sameBits 10000 (y.real ι) (x.real ι) = true := by
  cases kd <;> simp only [eqK] at hk <;> split at hk <;> simp [V.key] at hx <;> first
    | (simp at hk; done)
    | (simp only [Option.some.injEq, beq_iff_eq] at hk; subst hk; simp [V.real, Instr.sameBits]; done)
    | (split at hk
       · rename_i hkk
         simp only [Option.some.injEq, beq_iff_eq] at hk; subst hk; subst hkk; simp [V.real, Instr.sameBits]
       · simp at hk)
    | (simp only [Option.some.injEq, beq_iff_eq] at hk; subst hk; simp only [V.real, Instr.sameBits]; rw [beq_toListBytes]; simp)

theorem good_mapSet (hr : HR ι h.o w) (hs : SR ι S n a.tmps h.o.length) {d : Option Nat} {t kt e ty : Nat} {pos : String} {af : Array Edge} {g : Option (Nat × Bool)} {m k x : Operand} {m' k' x' : Opd} (hm : trOpd m = some m') (hk : trOpd k = some k') (hx : trOpd x = some x')
    (hu : P.underlying t = some (.map kt e)) {kd : Kd} (hkd : keyOk P kt = some kd) (hkey : (k'.ev S).key kd = true) {l : Nat} {es es' : List (V × V)} (he : m'.ev S = .map l) (hl : h.o[l]? = some (.map es)) (hp : mapPut kd (k'.ev S) (x'.ev S) es = some es') :
    Good P a ⟨d, .mapUpdate t m k x, ty, pos, af, g⟩ ι h w undefV (some (h.setMap l es' (x'.ev S).plain)) := by
  obtain ⟨dd, hdu, hdd, _, _⟩ := eqK_scal hkd
  have ck := fun b => run_checkKey (ι := ι) (w := w) hdu hdd b (k'.ev S) 9999
  obtain ⟨ents, clock, h1, h2, h3, h4⟩ := map_obj hr hl
  have hsc := hr.sc l _ hl
  have ksc := ev_sc hs hk
  have xsc := ev_sc hs hx
  have kpl : (k'.ev S).plain = true := by cases hq : k'.ev S <;> simp_all [V.key, V.plain]
  rw [mapPut_idx] at hp
  cases hi : mapIdx kd (k'.ev S) es with
  | none => simp [hi] at hp
  | some q =>
    have hfk := run_findKey (ι := ι) (w := w) hdu hdd h2 hi
    simp only [hi, Option.map_some, Option.some.injEq] at hp
    have hlen : ents.size = es.length := by have := congrArg List.length h2; simpa using this
    cases q with
    | none =>
      simp only at hp
      subst hp
      have hnx := setMap_nx hr hl (ents := ents.push { key := (k'.ev S).real ι, val := (x'.ev S).real ι, born := clock }) (clock := clock + 1) (es' := es ++ [(k'.ev S, x'.ev S)])
        (by simp [h2]) (by intro e0 he0; simp at he0; rcases he0 with he0 | rfl; exact Nat.lt_succ_of_lt (h3 e0 (by simpa using he0)); simp)
        (by
          simp only [Array.toList_push, List.map_append, List.map_cons, List.map_nil]
          rw [List.nodup_append]
          refine ⟨h4, by simp, ?_⟩
          intro x hx y hy
          simp only [List.mem_map] at hx
          obtain ⟨e0, he0, rfl⟩ := hx
          simp only [List.mem_singleton] at hy
          subst hy
          have := h3 e0 he0
          omega)
        (by intro e0 he0; simp at he0; rcases he0 with he0 | rfl; exact hsc e0 he0; exact ⟨ksc, xsc⟩) (x'.ev S).plain
        (by intro hpl m hm' e0 he0; simp at he0; rcases he0 with he0 | rfl; exact hm' e0 he0; exact ⟨V.sc_of_plain _ _ kpl, V.sc_of_plain _ _ hpl⟩)
      refine ⟨ι, _, .skip, ?_, .inr ⟨rfl, rfl⟩, hnx, trivial, fun h => by simp at h⟩
      simp only [execOp, Instr.mapUpdate, Sem.run_bind, run_underlying hu, Result.andThen_ok, ev_ok hs hm, he, V.real, run_getMap h1, ev_ok hs hk, ck, hfk, Option.bind_none, ev_ok hs hx, run_setMap h1, Sem.run_pure]
    | some i =>
      simp only at hp
      subst hp
      obtain ⟨hlt, e0, he0, heq⟩ := mapIdx_lt hi
      have hki : ents[i]? = some ents[i] := by rw [Array.getElem?_eq_getElem (by omega)]
      have hkv : ents[i].key = e0.1.real ι := by
        have := congrArg (fun l => l[i]?) h2
        simp only [List.getElem?_map, he0, Option.map_some] at this
        rw [List.getElem?_eq_getElem (by simpa using (by omega : i < ents.size))] at this
        simp at this
        exact this.1
      have hst : (Instr.keyThatStays ((ents[i]?.map (·.key)).getD ((k'.ev S).real ι)) ((k'.ev S).real ι)).run P w = .ok ((k'.ev S).real ι) w := by
        simp only [hki, Option.map_some, Option.getD_some, hkv, Instr.keyThatStays, sameBits_eq hkey heq, if_true, Sem.run_pure]
      have hmod : ∀ (f : MapEntry → MapEntry), (ents.modify i f).toList = ents.toList.set i (f ents[i]) := by
        intro f
        apply List.ext_getElem?
        intro j
        rw [Array.getElem?_toList, Array.getElem?_modify, List.getElem?_set]
        by_cases hij : i = j
        · subst hij; simp [hki, (by omega : i < ents.size)]
        · simp [hij]
      have hnx := setMap_nx hr hl (ents := ents.modify i fun e => { e with key := (k'.ev S).real ι, val := (x'.ev S).real ι }) (clock := clock) (es' := es.set i (k'.ev S, x'.ev S))
        (by rw [hmod, List.map_set, List.map_set, h2])
        (by intro y hy; rw [hmod] at hy; rcases List.mem_or_eq_of_mem_set hy with hy | rfl; exact h3 y hy; exact h3 ents[i] (by simp))
        (by
          rw [hmod, List.map_set]
          have : (ents.toList.map (·.born)).set i ents[i].born = ents.toList.map (·.born) := by
            apply List.ext_getElem?
            intro j
            rw [List.getElem?_set]
            by_cases hij : i = j
            · subst hij; simp [(by omega : i < ents.size)]
            · simp [hij]
          rw [this]
          exact h4)
        (by intro y hy; rcases List.mem_or_eq_of_mem_set hy with hy | rfl; exact hsc y hy; exact ⟨ksc, xsc⟩) (x'.ev S).plain
        (by intro hpl m hm' y hy; rcases List.mem_or_eq_of_mem_set hy with hy | rfl; exact hm' y hy; exact ⟨V.sc_of_plain _ _ kpl, V.sc_of_plain _ _ hpl⟩)
      refine ⟨ι, _, .skip, ?_, .inr ⟨rfl, rfl⟩, hnx, trivial, fun h => by simp at h⟩
      simp only [execOp, Instr.mapUpdate, Sem.run_bind, run_underlying hu, Result.andThen_ok, ev_ok hs hm, he, V.real, run_getMap h1, ev_ok hs hk, ck, hfk, Option.bind_some, he0, Option.map_some, ev_ok hs hx, hst, run_setMap h1, Sem.run_pure]

theorem run_mapDel (hr : HR ι h.o w) {ats : Array Nat} {t kt e ty : Nat} (ha : ats[0]? = some t) (hu : P.underlying t = some (.map kt e)) {kd : Kd} (hkd : keyOk P kt = some kd) {args : Array Value} {k : V} {l : Nat} {es es' : List (V × V)}
    (h0 : args[0]? = some ((V.map l).real ι)) (h1' : args[1]? = some (k.real ι)) (hl : h.o[l]? = some (.map es)) (hp : mapDrop kd k es = some es') (bs : Array Bool) :
    ∃ w', (builtin .delete ats ty bs args).run P w = .ok (.value (undefV.real ι)) w' ∧ Nx ι h w ι (h.setMap l es' true) w' := by
  obtain ⟨dd, hdu, hdd, _, _⟩ := eqK_scal hkd
  have ck := fun b => run_checkKey (ι := ι) (w := w) hdu hdd b k 9999
  obtain ⟨ents, clock, h1, h2, h3, h4⟩ := map_obj hr hl
  have hsc := hr.sc l _ hl
  rw [mapDrop_idx] at hp
  cases hi : mapIdx kd k es with
  | none => simp [hi] at hp
  | some q =>
    have hfk := run_findKey (ι := ι) (w := w) hdu hdd h2 hi
    simp only [hi, Option.map_some, Option.some.injEq] at hp
    have hlen : ents.size = es.length := by have := congrArg List.length h2; simpa using this
    cases q with
    | none =>
      simp only at hp
      subst hp
      have hnx := setMap_nx hr hl (ents := ents) (clock := clock) h2 h3 h4 hsc true (fun _ _ h => h)
      refine ⟨_, ?_, hnx⟩
      simp only [builtin, Builtin.delete_, ha, h0, h1', Sem.run_bind, run_underlying hu, Result.andThen_ok, V.real, run_getMap h1, ck, hfk, Option.bind_none, run_setMap h1, Sem.run_pure]
      rfl
    | some i =>
      simp only at hp
      subst hp
      obtain ⟨hlt, e0, he0, heq⟩ := mapIdx_lt hi
      have her : (ents.eraseIdxIfInBounds i).toList = ents.toList.eraseIdx i := by
        simp [Array.eraseIdxIfInBounds, (by omega : i < ents.size)]
      have hnx := setMap_nx hr hl (ents := ents.eraseIdxIfInBounds i) (clock := clock) (es' := es.eraseIdx i)
        (by rw [her]; rw [← eraseIdx_map', ← eraseIdx_map', h2])
        (by intro y hy; rw [her] at hy; exact h3 y (List.mem_of_mem_eraseIdx hy))
        (by rw [her, ← eraseIdx_map']; exact h4.sublist (List.eraseIdx_sublist _ _))
        (by intro y hy; exact hsc y (List.mem_of_mem_eraseIdx hy)) true (by intro _ m hm' y hy; exact hm' y (List.mem_of_mem_eraseIdx hy))
      refine ⟨_, ?_, hnx⟩
      simp only [builtin, Builtin.delete_, ha, h0, h1', Sem.run_bind, run_underlying hu, Result.andThen_ok, V.real, run_getMap h1, ck, hfk, Option.bind_some, he0, Option.map_some, run_setMap h1, Sem.run_pure]
      rfl

theorem run_mapDelNil {ats : Array Nat} {t kt e ty : Nat} (ha : ats[0]? = some t) (hu : P.underlying t = some (.map kt e)) {kd : Kd} (hkd : keyOk P kt = some kd) {args : Array Value} {k : V}
    (h0 : args[0]? = some (V.nilm.real ι)) (h1' : args[1]? = some (k.real ι)) (bs : Array Bool) :
    (builtin .delete ats ty bs args).run P w = .ok (.value (undefV.real ι)) w := by
  obtain ⟨dd, hdu, hdd, _, _⟩ := eqK_scal hkd
  have ck := fun b => run_checkKey (ι := ι) (w := w) hdu hdd b k 9999
  simp only [builtin, Builtin.delete_, ha, h0, h1', Sem.run_bind, run_underlying hu, Result.andThen_ok, V.real, ck, Sem.run_pure]
  rfl

theorem run_lenM (hr : HR ι h.o w) {ats : Array Nat} {t kt e ty : Nat} (ha : ats[0]? = some t) (hu : P.underlying t = some (.map kt e)) {args : Array Value} {x : V} {r : Nat} (h0 : args[0]? = some (x.real ι))
    (hx : (x = .nilm ∧ r = 0) ∨ ∃ l es, x = .map l ∧ h.o[l]? = some (.map es) ∧ r = es.length) (bs : Array Bool) :
    (builtin .len ats ty bs args).run P w = .ok (.value ((V.int .i64 (r : Int)).real ι)) w := by
  rcases hx with ⟨rfl, rfl⟩ | ⟨l, es, rfl, hl, rfl⟩
  · simp only [builtin, Builtin.len_, ha, h0, Sem.run_bind, run_underlying hu, Result.andThen_ok, V.real, Sem.run_pure]
    rfl
  · obtain ⟨ents, clock, h1, h2, h3, h4⟩ := map_obj hr hl
    have hlen : ents.size = es.length := by have := congrArg List.length h2; simpa using this
    simp only [builtin, Builtin.len_, ha, h0, Sem.run_bind, run_underlying hu, Result.andThen_ok, V.real, run_getMap h1, Sem.run_pure, hlen]
    rfl

theorem run_clearM (hr : HR ι h.o w) {ats : Array Nat} {t kt e ty : Nat} (ha : ats[0]? = some t) (hu : P.underlying t = some (.map kt e)) {args : Array Value} {l : Nat} {es : List (V × V)} (h0 : args[0]? = some ((V.map l).real ι)) (hl : h.o[l]? = some (.map es)) (bs : Array Bool) :
    ∃ w', (builtin .clear ats ty bs args).run P w = .ok (.value (undefV.real ι)) w' ∧ Nx ι h w ι (h.setMap l [] true) w' := by
  obtain ⟨ents, clock, h1, h2, h3, h4⟩ := map_obj hr hl
  have hnx := setMap_nx hr hl (ents := #[]) (clock := clock) (es' := []) rfl (by simp) (by simp) (by simp) true (by simp)
  refine ⟨_, ?_, hnx⟩
  simp only [builtin, Builtin.clear_, ha, h0, Sem.run_bind, run_underlying hu, Result.andThen_ok, V.real, run_getMap h1, run_setMap h1, Sem.run_pure]
  rfl

theorem run_clearMNil {ats : Array Nat} {t kt e ty : Nat} (ha : ats[0]? = some t) (hu : P.underlying t = some (.map kt e)) {args : Array Value} (h0 : args[0]? = some (V.nilm.real ι)) (bs : Array Bool) :
    (builtin .clear ats ty bs args).run P w = .ok (.value (undefV.real ι)) w := by
  simp only [builtin, Builtin.clear_, ha, h0, Sem.run_bind, run_underlying hu, Result.andThen_ok, V.real, Sem.run_pure]
  rfl

theorem good_mkMap (hr : HR ι h.o w) {d : Option Nat} {t ty : Nat} {pos : String} {af : Array Edge} {g : Option (Nat × Bool)} :
    Good P a ⟨d, .makeMap t none, ty, pos, af, g⟩ ι h w (.map h.o.length) (some (h.new (.map []))) := by
  have hn := Nx.new hr (.map #[] 0) (.map []) ⟨w.heap.size, 0, 0⟩ rfl ⟨#[], 0, by show (w.heap.push _)[w.heap.size]? = _; simp, by simp, by simp, by simp⟩ (by intro e he; simp at he)
  refine ⟨_, _, _, ?_, .inl rfl, hn, by simp [Heap.new, V.sc], fun h => by simp at h⟩
  simp only [execOp, Instr.makeMap, Option.map_none, Sem.run_bind, Sem.run_pure, Result.andThen_ok, run_newObj, V.real, Map.upd_same]
  rfl

end
end AM
