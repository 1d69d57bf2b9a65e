/- AM, part 14: every operation that enters no function. -/
import Derived.Test.YtompkmidoklppaaAmOps8
namespace AM
open Go
set_option linter.unusedVariables false
set_option linter.unusedSimpArgs false
set_option linter.unusedSectionVars false

section
variable {P : Program} {ι : Map} {σ : Type} [Slots σ] {h : Heap} {w : World} {S : σ} {n : Nat} {a : Act}

theorem ok_inj {x v : V} {oh : Option Heap} (h : ok x = some (v, oh)) : v = x ∧ oh = none := by
  simp only [ok, Option.some.injEq, Prod.mk.injEq] at h
  exact ⟨h.1.symm, h.2.symm⟩
theorem okh_inj {x v : V} {h' : Heap} {oh : Option Heap} (h : okh x h' = some (v, oh)) : v = x ∧ oh = some h' := by
  simp only [okh, Option.some.injEq, Prod.mk.injEq] at h
  exact ⟨h.1.symm, h.2.symm⟩

theorem one_arg {ys : List Opd} {x : Opd} {l : Array Operand} (hl : trOpds l.toList = some ys) (hy : ys = [x]) (hs : SR ι S n a.tmps h.o.length) : (l.map a.eval)[0]? = some ((x.ev S).real ι) ∧ (x.ev S).sc h.o.length := by
  subst hy
  have h1 := evs_ok_arr hs hl
  have h2 := (evs_ok hs hl).2
  rw [h1]
  exact ⟨rfl, h2.1⟩

theorem two_args {ys : List Opd} {x y : Opd} {l : Array Operand} (hl : trOpds l.toList = some ys) (hy : ys = [x, y]) (hs : SR ι S n a.tmps h.o.length) :
    (l.map a.eval)[0]? = some ((x.ev S).real ι) ∧ (l.map a.eval)[1]? = some ((y.ev S).real ι) ∧ (x.ev S).sc h.o.length ∧ (y.ev S).sc h.o.length := by
  subst hy
  have h1 := evs_ok_arr hs hl
  have h2 := (evs_ok hs hl).2
  rw [h1]
  exact ⟨rfl, rfl, h2.1, h2.2.1⟩

theorem arr0 {α : Type} {l : Array α} {x : α} {r : List α} (h : l.toList = x :: r) : l[0]? = some x := by rw [← Array.getElem?_toList, h]; rfl
theorem arr1 {α : Type} {l : Array α} {x y : α} {r : List α} (h : l.toList = x :: y :: r) : l[1]? = some y := by rw [← Array.getElem?_toList, h]; rfl

theorem builtin_good (hr : HR ι h.o w) (hs : SR ι S n a.tmps h.o.length) {b : Builtin} {ats : Array Nat} {args : Array Operand} {ys : List Opd} (hys : trOpds args.toList = some ys) {op : AOp} (htr : trBuiltin P b ats.toList ys = some op)
    {v : V} {oh : Option Heap} (hst : stepV op S h = some (v, oh)) {d : Option Nat} {ty : Nat} {pos : String} {af : Array Edge} {g : Option (Nat × Bool)} :
    Good P a ⟨d, .call ⟨.builtin b, args, ats⟩, ty, pos, af, g⟩ ι h w v oh := by
  unfold trBuiltin at htr
  split at htr
  · -- len
    rename_i t x hat
    obtain ⟨q1, q2⟩ := one_arg hys rfl hs
    have ha := arr0 hat
    split at htr
    · rename_i hu
      simp only [Option.some.injEq] at htr; subst htr
      simp only [stepV] at hst
      split at hst
      · rename_i s he
        obtain ⟨rfl, rfl⟩ := ok_inj hst
        rw [he] at q1
        exact good_builtin (Nx.refl hr) trivial (fun _ => ⟨rfl, rfl⟩) (run_len ha q1 _ (by simp only [hu, V.real, size_mk]; rfl) w)
      · simp at hst
    · rename_i e hu
      simp only [Option.some.injEq] at htr; subst htr
      simp only [stepV] at hst
      split at hst
      · rename_i l o m e' he
        obtain ⟨rfl, rfl⟩ := ok_inj hst
        rw [he] at q1
        exact good_builtin (Nx.refl hr) trivial (fun _ => ⟨rfl, rfl⟩) (run_len ha q1 _ (by simp only [hu, V.real]; rfl) w)
      · rename_i he
        obtain ⟨rfl, rfl⟩ := ok_inj hst
        rw [he] at q1
        exact good_builtin (Nx.refl hr) trivial (fun _ => ⟨rfl, rfl⟩) (run_len ha q1 _ (by simp only [hu, V.real]; rfl) w)
      · simp at hst
    · rename_i m e hu
      simp only [Option.some.injEq] at htr; subst htr
      simp only [stepV] at hst
      obtain ⟨rfl, rfl⟩ := ok_inj hst
      exact good_builtin (Nx.refl hr) trivial (fun _ => ⟨rfl, rfl⟩) (run_len ha q1 _ (by simp only [hu, V.real]; rfl) w)
    · rename_i kt e hu
      simp only [Option.some.injEq] at htr; subst htr
      simp only [stepV] at hst
      split at hst
      · rename_i he
        obtain ⟨rfl, rfl⟩ := ok_inj hst
        exact good_builtin (Nx.refl hr) trivial (fun _ => ⟨rfl, rfl⟩) (run_lenM hr ha hu q1 (.inl ⟨he, rfl⟩) _)
      · rename_i l he
        split at hst
        · rename_i es hl
          obtain ⟨rfl, rfl⟩ := ok_inj hst
          exact good_builtin (Nx.refl hr) trivial (fun _ => ⟨rfl, rfl⟩) (run_lenM hr ha hu q1 (.inr ⟨l, es, he, hl, rfl⟩) _)
        · simp at hst
      · simp at hst
    · rename_i e hu
      split at htr
      · rename_i m e2 hu2
        simp only [Option.some.injEq] at htr; subst htr
        simp only [stepV] at hst
        obtain ⟨rfl, rfl⟩ := ok_inj hst
        exact good_builtin (Nx.refl hr) trivial (fun _ => ⟨rfl, rfl⟩) (run_len ha q1 _ (by simp only [hu, hu2, V.real]; rfl) w)
      · simp at htr
    · simp at htr
  · -- copy
    rename_i t u x y hat
    obtain ⟨q1, q2, q3, q4⟩ := two_args hys rfl hs
    have ha := arr0 hat
    have ha1 := arr1 hat
    split at htr
    · rename_i e hu hu1
      split at htr
      · rename_i hsz
        simp only [Option.some.injEq] at htr; subst htr
        simp only [stepV] at hst
        split at hst
        · rename_i l o m s hex hey
          rw [hex] at q1
          rw [hey] at q2
          cases hse : h.sets l o (bytesA (s.take m)) with
          | none => simp [hse] at hst
          | some h' =>
            simp only [hse, Option.bind_some] at hst
            obtain ⟨rfl, rfl⟩ := okh_inj hst
            obtain ⟨w', k1, k2⟩ := run_copyS hr ha ha1 hu hsz q1 q2 _ hse
            exact good_builtin k2 trivial (fun h => by simp at h) k1
        · simp at hst
      · simp at htr
    · rename_i e e2 hu hu1
      cases hsz : szOf P e with
      | none => simp [hsz] at htr
      | some s =>
        simp only [hsz, Option.map_some, Option.some.injEq] at htr; subst htr
        simp only [stepV] at hst
        split at hst
        · rename_i l o m e' l' o' m' e'' hex hey
          split at hst
          · rename_i hee
            obtain ⟨he1, he2⟩ := hee
            rw [he1] at hex
            rw [he2] at hey
            rw [hex] at q1
            rw [hey] at q2
            cases hg : h.gets l' o' (min m' m * s) with
            | none => simp [hg] at hst
            | some cs =>
              cases hse : h.sets l o cs with
              | none => simp [hg, hse] at hst
              | some h' =>
                simp only [hg, hse, Option.bind_some] at hst
                obtain ⟨rfl, rfl⟩ := okh_inj hst
                obtain ⟨w', k1, k2⟩ := run_copyL hr ha hu hsz q1 q2 _ hg hse
                exact good_builtin k2 trivial (fun h => by simp at h) k1
          · simp at hst
        · rename_i l o m e' hex hey
          obtain ⟨rfl, rfl⟩ := ok_inj hst
          exact good_builtin (Nx.refl hr) trivial (fun _ => ⟨rfl, rfl⟩) (run_copyNil hr ha hu hsz (.inl ⟨l, o, m, e', hex, hey⟩) q1 q2 _)
        · rename_i l o m e' hex hey
          obtain ⟨rfl, rfl⟩ := ok_inj hst
          exact good_builtin (Nx.refl hr) trivial (fun _ => ⟨rfl, rfl⟩) (run_copyNil hr ha hu hsz (.inr ⟨hex, .inr ⟨l, o, m, e', hey⟩⟩) q1 q2 _)
        · rename_i hex hey
          obtain ⟨rfl, rfl⟩ := ok_inj hst
          exact good_builtin (Nx.refl hr) trivial (fun _ => ⟨rfl, rfl⟩) (run_copyNil hr ha hu hsz (.inr ⟨hex, .inl hey⟩) q1 q2 _)
        · simp at hst
    · simp at htr
  · -- append
    rename_i t u x y hat
    obtain ⟨q1, q2, q3, q4⟩ := two_args hys rfl hs
    have ha := arr0 hat
    have ha1 := arr1 hat
    split at htr
    · rename_i e hu hu1
      split at htr
      · rename_i b z hsz hb hz
        split at htr
        case isFalse => simp at htr
        rename_i hzl
        simp only [Option.some.injEq] at htr; subst htr
        simp only [stepV] at hst
        split at hst
        · rename_i s hey
          rw [hey] at q2
          cases hap : appendA h e 1 b (x.ev S) s.length (bytesA s) with
          | none => simp [hap] at hst
          | some p =>
            obtain ⟨pv, poh⟩ := p
            simp only [hap, Option.bind_some, Option.some.injEq, Prod.mk.injEq] at hst
            obtain ⟨rfl, rfl⟩ := hst
            have hno : (bytesA s).all V.one = true := by
              rw [List.all_eq_true]; intro v hv; simp only [bytesA, List.mem_map] at hv; obtain ⟨b, _, rfl⟩ := hv; rfl
            obtain ⟨κ, w', k1, k2, k3, k4⟩ := append_ok hr ha hu hsz hb hz hzl (by omega) ha1 (.inl hu1) q1 q2 (fun w => by simp [V.real, Builtin.lenOf, size_mk]) (new := bytesA s)
              (fun w' _ => by have := first_cells_str (P := P) (ι := ι) s 1 s.length w'; rwa [List.take_length] at this) (by simp [bytesA_len]) (V.scs_of_plains _ _ (bytesA_plains s)) hno q3 _ hap
            exact good_builtin k2 k3 k4 k1
        · simp at hst
      · simp at htr
    · rename_i e e2 hu hu1
      split at htr
      · rename_i s b z hsz hb hz
        split at htr
        · rename_i hc
          obtain ⟨hs0, hzl⟩ := hc
          simp only [Option.some.injEq] at htr; subst htr
          simp only [stepV] at hst
          split at hst
          · rename_i hey
            rw [hey] at q2
            cases hap : appendA h e s b (x.ev S) 0 [] with
            | none => simp [hap] at hst
            | some p =>
              obtain ⟨pv, poh⟩ := p
              simp only [hap, Option.bind_some, Option.some.injEq, Prod.mk.injEq] at hst
              obtain ⟨rfl, rfl⟩ := hst
              obtain ⟨κ, w', k1, k2, k3, k4⟩ := append_ok hr ha hu hsz hb hz hzl hs0 ha1 (.inr ⟨_, hu1⟩) q1 q2 (fun w => rfl) (new := []) (fun w' _ => rfl) (by simp) trivial rfl q3 _ hap
              exact good_builtin k2 k3 k4 k1
          · rename_i l o m e' hey
            split at hst
            · rename_i hee
              rw [hee] at hey
              rw [hey] at q2
              cases hg : h.gets l o (m * s) with
              | none => simp [hg] at hst
              | some cs =>
                simp only [hg, Option.bind_some] at hst
                split at hst
                · rename_i hone
                  cases hap : appendA h e s b (x.ev S) m cs with
                  | none => simp [hap] at hst
                  | some p =>
                    obtain ⟨pv, poh⟩ := p
                    simp only [hap, Option.bind_some, Option.some.injEq, Prod.mk.injEq] at hst
                    obtain ⟨rfl, rfl⟩ := hst
                    obtain ⟨κ, w', k1, k2, k3, k4⟩ := append_ok hr ha hu hsz hb hz hzl hs0 ha1 (.inr ⟨_, hu1⟩) q1 q2 (fun w => rfl) (new := cs)
                      (fun w' hw' => by
                        have hr' : HR ι h.o w' := ⟨fun l o hl => (hr.obj l o hl).of_block (by rw [hw']), hr.apart, hr.sc⟩
                        simp only [V.real, Builtin.firstCells]
                        exact run_loadCells_gets hr' hg) (gets_get hg).1 (gets_sc hr hg) hone q3 _ hap
                    exact good_builtin k2 k3 k4 k1
                · simp at hst
            · simp at hst
          · simp at hst
        · simp at htr
      · simp at htr
    · simp at htr
  · -- clear
    rename_i t x hat
    obtain ⟨q1, q2⟩ := one_arg hys rfl hs
    have ha := arr0 hat
    split at htr
    · rename_i e hu
      split at htr
      · rename_i s z hsz hz
        split at htr
        · rename_i hc
          obtain ⟨hzl, hs0⟩ := hc
          simp only [Option.some.injEq] at htr; subst htr
          simp only [stepV] at hst
          split at hst
          · rename_i he
            obtain ⟨rfl, rfl⟩ := ok_inj hst
            exact good_builtin (Nx.refl hr) trivial (fun _ => ⟨rfl, rfl⟩) (run_clearNo ha hu (.inl he) q1 _)
          · rename_i l o m e' he
            split at hst
            · rename_i hm
              subst hm
              obtain ⟨rfl, rfl⟩ := ok_inj hst
              exact good_builtin (Nx.refl hr) trivial (fun _ => ⟨rfl, rfl⟩) (run_clearNo ha hu (.inr ⟨l, o, e', he⟩) q1 _)
            · rename_i hm
              split at hst
              · rename_i hee
                obtain ⟨rfl, hzl2⟩ := hee
                cases hse : h.sets l o (reps z.cells m) with
                | none => simp [hse] at hst
                | some h' =>
                  simp only [hse, Option.bind_some] at hst
                  obtain ⟨rfl, rfl⟩ := okh_inj hst
                  rw [he] at q1
                  obtain ⟨w', k1, k2⟩ := run_clearL hr ha hu hz hzl hs0 q1 _ hm hse
                  exact good_builtin k2 trivial (fun h => by simp at h) k1
              · simp at hst
          · simp at hst
        · simp at htr
      · simp at htr
    · rename_i kt e hu
      simp only [Option.some.injEq] at htr; subst htr
      simp only [stepV] at hst
      split at hst
      · rename_i he
        obtain ⟨rfl, rfl⟩ := ok_inj hst
        rw [he] at q1
        exact good_builtin (Nx.refl hr) trivial (fun _ => ⟨rfl, rfl⟩) (run_clearMNil ha hu q1 _)
      · rename_i l he
        split at hst
        · rename_i es hl
          obtain ⟨rfl, rfl⟩ := okh_inj hst
          rw [he] at q1
          obtain ⟨w', k1, k2⟩ := run_clearM hr ha hu q1 hl _
          exact good_builtin k2 trivial (fun h => by simp at h) k1
        · simp at hst
      · simp at hst
    · simp at htr
  · -- max
    simp only [Option.some.injEq] at htr; subst htr
    simp only [stepV] at hst
    split at hst
    · rename_i x r hev
      cases hm : minmaxA true x r with
      | none => simp [hm] at hst
      | some v' =>
        simp only [hm, Option.bind_some] at hst
        obtain ⟨rfl, rfl⟩ := ok_inj hst
        have hargs := evs_ok_arr hs hys
        have hsc := (evs_ok hs hys).2
        rw [hev] at hargs hsc
        rcases minmax_ok (P := P) (ι := ι) true w r x v hm with ⟨h1, h2⟩ | ⟨rfl, rfl⟩
        · refine good_builtin (Nx.refl hr) (V.sc_of_plain _ _ h1) (fun _ => ⟨rfl, rfl⟩) ?_
          simp only [if_true] at h2
          simp only [builtin, hargs, Builtin.max_, V.reals, Sem.run_bind, h2, Result.andThen_ok, Sem.run_pure]
        · refine good_builtin (Nx.refl hr) hsc.1 (fun _ => ⟨rfl, rfl⟩) ?_
          simp only [builtin, hargs, Builtin.max_, V.reals, Sem.run_bind, List.foldlM_nil, Result.andThen_ok, Sem.run_pure]
    · simp at hst
  · -- min
    simp only [Option.some.injEq] at htr; subst htr
    simp only [stepV] at hst
    split at hst
    · rename_i x r hev
      cases hm : minmaxA false x r with
      | none => simp [hm] at hst
      | some v' =>
        simp only [hm, Option.bind_some] at hst
        obtain ⟨rfl, rfl⟩ := ok_inj hst
        have hargs := evs_ok_arr hs hys
        have hsc := (evs_ok hs hys).2
        rw [hev] at hargs hsc
        rcases minmax_ok (P := P) (ι := ι) false w r x v hm with ⟨h1, h2⟩ | ⟨rfl, rfl⟩
        · refine good_builtin (Nx.refl hr) (V.sc_of_plain _ _ h1) (fun _ => ⟨rfl, rfl⟩) ?_
          simp only [Bool.false_eq_true, if_false] at h2
          simp only [builtin, hargs, Builtin.min_, V.reals, Sem.run_bind, h2, Result.andThen_ok, Sem.run_pure]
        · refine good_builtin (Nx.refl hr) hsc.1 (fun _ => ⟨rfl, rfl⟩) ?_
          simp only [builtin, hargs, Builtin.min_, V.reals, Sem.run_bind, List.foldlM_nil, Result.andThen_ok, Sem.run_pure]
    · simp at hst
  · -- delete
    rename_i t u m k hat
    obtain ⟨q1, q2, q3, q4⟩ := two_args hys rfl hs
    have ha := arr0 hat
    split at htr
    · rename_i kt e hu
      cases hkd : keyOk P kt with
      | none => simp [hkd] at htr
      | some kd =>
        simp only [hkd, Option.map_some, Option.some.injEq] at htr; subst htr
        simp only [stepV] at hst
        split at hst
        · split at hst
          · rename_i he
            obtain ⟨rfl, rfl⟩ := ok_inj hst
            rw [he] at q1
            exact good_builtin (Nx.refl hr) trivial (fun _ => ⟨rfl, rfl⟩) (run_mapDelNil ha hu hkd q1 q2 _)
          · rename_i l he
            split at hst
            · rename_i es hl
              cases hd : mapDrop kd (k.ev S) es with
              | none => simp [hd] at hst
              | some es' =>
                simp only [hd, Option.bind_some] at hst
                obtain ⟨rfl, rfl⟩ := okh_inj hst
                rw [he] at q1
                obtain ⟨w', k1, k2⟩ := run_mapDel hr ha hu hkd q1 q2 hl hd _
                exact good_builtin k2 trivial (fun h => by simp at h) k1
            · simp at hst
          · simp at hst
        · simp at hst
    · simp at htr
  · -- panic
    simp only [Option.some.injEq] at htr; subst htr
    simp [stepV] at hst
  · simp at htr
end
end AM
