/- AM, part 17: regions, code, calls. -/
import Derived.Test.YtompkmidoklppaaAmSound
namespace AM
open Go
set_option linter.unusedVariables false
set_option linter.unusedSimpArgs false
set_option linter.unusedSectionVars false

section
variable {P : Program} {σ : Type} [Slots σ]

theorem trOper_inv {n : Nat} {ops : Array Oper} {o : Oper} {ao : AO} (h : trOper P n ops o = some ao) : trOp P o.op o.type = some ao.op ∧ trGuard ops o.guard = some ao.g ∧ o.dst = ao.d ∧ ∀ i, o.dst = some i → i < n := by
  unfold trOper at h
  split at h
  · rename_i op g hop hg
    split at h
    · rename_i hd
      simp only [Option.some.injEq] at h
      subst h
      exact ⟨hop, hg, hd, fun i hi => by rw [hd] at hi; simp at hi⟩
    · rename_i d hd
      split at h
      · rename_i hlt
        simp only [Option.some.injEq] at h
        subst h
        exact ⟨hop, hg, hd, fun i hi => by rw [hd] at hi; simp only [Option.some.injEq] at hi; exact hi ▸ hlt⟩
      · simp at h
  · simp at h

theorem undef_real (ι : Map) : undefV.real ι = undef := rfl

theorem execOps_ok {call : CallF} (hcall : CallOk P call) {n : Nat} {ops : Array Oper} {ds : List Deferred} {x : Ex} {S' : σ} {h' : Heap} {Q : Exit → Act → World → Prop} : ∀ {ol : List Oper} {l : List AO} {S : σ} {h : Heap} {ι : Map} {w : World} {a : Act},
    trOpers P n ops ol = some l → HR ι h.o w → SR ι S n a.tmps h.o.length → a.defers = ds → execOps call l S h = some (x, S', h') → (∀ e a' w', Post ι h w n ds x S' h' e a' w' → Q e a' w') → wpList P ops Q ol a w
  | [], l, S, h, ι, w, a, htr, hr, hs, hd, he, hQ => by
    simp only [trOpers, Option.some.injEq] at htr
    subst htr
    simp only [execOps, Option.some.injEq, Prod.mk.injEq] at he
    obtain ⟨rfl, rfl, rfl⟩ := he
    exact hQ _ _ _ ⟨ι, Nx.refl hr, hs, hd, rfl⟩
  | o :: ol, l, S, h, ι, w, a, htr, hr, hs, hd, he, hQ => by
    simp only [trOpers] at htr
    split at htr
    · rename_i ao l' hao hl'
      simp only [Option.some.injEq] at htr
      subst htr
      obtain ⟨h1, h2, h3, h4⟩ := trOper_inv hao
      have hw := wanted_ok hs h2
      simp only [execOps] at he
      unfold wpList
      rw [hw]
      split at he
      · rename_i hwt
        rw [if_pos hwt]
        refine .inl ?_
        cases hst : stepA call ao.op S h with
        | none => rw [hst] at he; simp at he
        | some r =>
          obtain ⟨out, oh⟩ := r
          rw [hst] at he
          refine oper_ok hcall hr hs h1 h4 hst (fun v hv κ w' hn hsr => ?_) (fun v hv κ w' hn hsc => ?_)
          · subst hv
            have he' : execOps call l' (putO S ao.d v) (oh.getD h) = some (x, S', h') := by
              cases oh with
              | none => exact he
              | some h2 => exact he
            rw [← h3] at he'
            exact execOps_ok hcall (ds := ds) hl' hn.hr hsr (by rw [put_defers']; exact hd) he' (fun e a' w' hp => hQ _ _ _ (Post.trans hn hp))
          · subst hv
            have he' : x = .pan v ∧ S' = S ∧ h' = oh.getD h := by
              cases oh with
              | none => simp only [Option.some.injEq, Prod.mk.injEq] at he; obtain ⟨rfl, rfl, rfl⟩ := he; exact ⟨rfl, rfl, rfl⟩
              | some h2 => simp only [Option.some.injEq, Prod.mk.injEq] at he; obtain ⟨rfl, rfl, rfl⟩ := he; exact ⟨rfl, rfl, rfl⟩
            obtain ⟨rfl, rfl, rfl⟩ := he'
            exact hQ _ _ _ ⟨κ, hn, hs.mono hn.ag hn.len, hd, rfl, hsc⟩
      · rename_i hwt
        rw [if_neg hwt]
        rw [← h3] at he
        have hsr := hs.put (v := undefV) trivial h4
        rw [undef_real] at hsr
        exact execOps_ok hcall hl' hr hsr (by rw [put_defers']; exact hd) he hQ
    · simp at htr

/-- The value of a quiet operation. -/
theorem quiet_ok {call : CallF} (hcall : CallOk P call) {ι : Map} {h : Heap} {w0 : World} {S : σ} {n : Nat} {a : Act} (hs : SR ι S n a.tmps h.o.length) {o : Oper} {op : AOp} (htr : trOp P o.op o.type = some op)
    {v : V} (hst : stepA call op S h = some (.val v, none)) {w : World} (hw : Nx ι h w0 ι h w) : o.quietAt P a (fun w' => Nx ι h w0 ι h w') w (v.real ι) ∧ v.sc h.o.length := by
  have hform := trOp_form htr
  have hr := hw.hr
  have back : ∀ {κ : Map} {w' : World}, Nx ι h w κ h w' → Nx ι h w0 ι h w' := by
    intro κ w' hn
    have hag : Agree κ ι h.o.length := fun l hl => (hn.ag l hl).symm
    have hh : ∀ l o, h.o[l]? = some o → l < h.o.length := fun l o hl => (List.getElem?_eq_some_iff.1 hl).1
    have h1 : Nx ι h w ι h w' := by
      refine ⟨⟨fun l o hl => ?_, fun l l' o o' hne hl hl' ho ho' => ?_, hr.sc⟩, Agree.refl _ _, Nat.le_refl _, ⟨hn.fr.os, hn.fr.tape, hn.fr.output, hn.fr.size, hn.fr.keep, fun b _ h => h⟩, fun _ _ _ _ h => h, ⟨Nat.le_refl _, Nat.le_refl _⟩, fun _ _ _ => rfl⟩
      · have := (hn.hr.obj l o hl).agree hag (hr.sc l o hl)
        rwa [hn.ag l (hh l o hl)] at this
      · exact hr.apart l l' o o' hne hl hl' ho ho'
    exact hw.trans h1
  have calls : ∀ {f args}, (execOp a.eval o).run P w = .ok (.enter f (V.reals ι args).toArray) w → V.scs h.o.length args → call f args h = some (.val v, none) → o.quietAt P a (fun w' => Nx ι h w0 ι h w') w (v.real ι) ∧ v.sc h.o.length := by
    intro f args hrun hsc hc
    have hcc := (hcall f args h (.val v) none hc).2 ι w hr hsc
    have hvs : v.sc h.o.length := by
      obtain ⟨e, w', fr, ⟨κ, hn, hm, hv⟩, _⟩ := hcc []
      exact hv
    refine ⟨?_, hvs⟩
    unfold Oper.quietAt
    rw [hrun]
    refine ⟨rfl, hcc.mono fun e w' ⟨κ, hn, hm, hv⟩ => ⟨?_, back hn⟩⟩
    rw [hm, V.real_agree hn.ag v hvs]
  have vals : op.isCall = false → stepA call op S h = (match stepV op S h with | some (v, oh) => some (.val v, oh) | none => none) → o.quietAt P a (fun w' => Nx ι h w0 ι h w') w (v.real ι) ∧ v.sc h.o.length := by
    intro hcl he
    rw [he] at hst
    split at hst
    · rename_i v' oh' hv
      simp only [Option.some.injEq, Prod.mk.injEq, Out.val.injEq] at hst
      obtain ⟨rfl, rfl⟩ := hst
      obtain ⟨κ, w', r, hrun, hrv, hn, hsc, hk⟩ := step_good hr hs htr hcl hv
      obtain ⟨rfl, rfl⟩ := hk rfl
      refine ⟨?_, hsc⟩
      unfold Oper.quietAt
      rw [hrun]
      rcases hrv with rfl | ⟨rfl, rfl⟩
      · exact ⟨rfl, rfl⟩
      · exact ⟨rfl, rfl⟩
    · simp at hst
  cases op with
  | call f l =>
    obtain ⟨args, ats, ho, hok, hl⟩ := hform
    simp only [stepA] at hst
    refine calls ?_ (evs_ok hs hl).2 hst
    simp only [execOp, ho, resolve, Act.eval, Deferred.ofValue, Sem.run_bind, Sem.run_pure, Result.andThen_ok, invoke]
    have h1 : (args.map a.eval) = (V.reals ι (evs S l)).toArray := evs_ok_arr hs hl
    simp only [Array.append_empty, Array.empty_append]
    rw [callFunc_run hok]
    rw [← h1]
  | callv x l =>
    obtain ⟨t, args, ats, rfl, ho, hl⟩ := hform
    simp only [stepA] at hst
    split at hst
    · rename_i f fs cs he
      have hok := (hcall f _ h _ _ hst).1
      have hsc : (Opd.ev S (.t t)).sc h.o.length := hs.sc t
      rw [he] at hsc
      refine calls ?_ (scs_append.2 ⟨scs_append.2 ⟨hsc.1, (evs_ok hs hl).2⟩, hsc.2⟩) hst
      have het : a.eval (.tmp t) = .func (.func f) (V.reals ι fs).toArray (V.reals ι cs).toArray := by
        have := hs.val t
        rw [show Slots.get S t = .fn f fs cs from he] at this
        exact this
      simp only [execOp, ho, resolve, het, Deferred.ofValue, Sem.run_bind, Sem.run_pure, Result.andThen_ok, invoke, evs_ok_arr hs hl]
      rw [callFunc_run hok]
      congr 2
      simp [V.reals_eq]
    · simp at hst
  | panic x' =>
    simp only [stepA] at hst
    split at hst <;> simp at hst
  | _ => exact vals rfl rfl


theorem execQ_ok {call : CallF} (hcall : CallOk P call) {ι : Map} {h : Heap} {w0 : World} {n : Nat} {ops : Array Oper} {ds : List Deferred} {x : Ex} {S' : σ} {h' : Heap} {Q : Act → Prop} (hw0 : HR ι h.o w0) : ∀ {ol : List Oper} {l : List AO} {S : σ} {a : Act},
    trOpers P n ops ol = some l → SR ι S n a.tmps h.o.length → a.defers = ds → execQ call l S h = some (x, S', h') →
    (x = .norm → h' = h → ∀ a', SR ι S' n a'.tmps h.o.length → a'.defers = ds → Q a') → wpQuiet P ops (fun w' => Nx ι h w0 ι h w') Q ol a
  | [], l, S, a, htr, hs, hd, he, hQ => by
    simp only [trOpers, Option.some.injEq] at htr
    subst htr
    simp only [execQ, Option.some.injEq, Prod.mk.injEq] at he
    obtain ⟨rfl, rfl, rfl⟩ := he
    exact hQ rfl rfl _ hs hd
  | o :: ol, l, S, a, htr, hs, hd, he, hQ => by
    simp only [trOpers] at htr
    split at htr
    · rename_i ao l' hao hl'
      simp only [Option.some.injEq] at htr
      subst htr
      obtain ⟨h1, h2, h3, h4⟩ := trOper_inv hao
      have hw := wanted_ok hs h2
      simp only [execQ] at he
      unfold wpQuiet
      rw [hw]
      split at he
      · rename_i hwt
        rw [if_pos hwt]
        split at he
        · rename_i v hst
          have hq := fun (w : World) (hw : Nx ι h w0 ι h w) => quiet_ok hcall hs h1 hst hw
          have hvs := (hq w0 (Nx.refl hw0)).2
          refine ⟨v.real ι, fun w hw => (hq w hw).1, ?_⟩
          rw [← h3] at he
          exact execQ_ok hcall hw0 hl' (hs.put hvs h4) (by rw [put_defers']; exact hd) he hQ
        · simp at he
      · rename_i hwt
        rw [if_neg hwt]
        rw [← h3] at he
        have hsr := hs.put (v := undefV) trivial h4
        rw [undef_real] at hsr
        exact execQ_ok hcall hw0 hl' hsr (by rw [put_defers']; exact hd) he hQ
    · simp at htr

theorem execQ_end {call : CallF} : ∀ {l : List AO} {S : σ} {h : Heap} {x : Ex} {S' : σ} {h' : Heap}, execQ call l S h = some (x, S', h') → x = .norm ∧ h' = h
  | [], S, h, x, S', h', he => by
    simp only [execQ, Option.some.injEq, Prod.mk.injEq] at he
    exact ⟨he.1.symm, he.2.2.symm⟩
  | o :: l, S, h, x, S', h', he => by
    simp only [execQ] at he
    split at he
    · split at he
      · exact execQ_end he
      · simp at he
    · exact execQ_end he

theorem exec_ok {call : CallF} (hcall : CallOk P call) (hm : P.follows .mixedOrders = true) {n : Nat} {ds : List Deferred} : ∀ (k : Nat) {c : Code} {ac : AC} {S : σ} {h : Heap} {ι : Map} {w : World} {a : Act} {x : Ex} {S' : σ} {h' : Heap},
    trCode P n c = some ac → HR ι h.o w → SR ι S n a.tmps h.o.length → a.defers = ds → exec call k ac S h = some (x, S', h') → c.wp P (Post ι h w n ds x S' h') a w
  | 0, c, ac, S, h, ι, w, a, x, S', h', htr, hr, hs, hd, he => by simp [exec] at he
  | k + 1, c, ac, S, h, ι, w, a, x, S', h', htr, hr, hs, hd, he => by
    cases c with
    | skip =>
      simp only [trCode, Option.some.injEq] at htr; subst htr
      simp only [exec, Option.some.injEq, Prod.mk.injEq] at he
      obtain ⟨rfl, rfl, rfl⟩ := he
      exact wp_skip ⟨ι, Nx.refl hr, hs, hd, rfl⟩
    | label l =>
      simp only [trCode, Option.some.injEq] at htr; subst htr
      simp only [exec, Option.some.injEq, Prod.mk.injEq] at he
      obtain ⟨rfl, rfl, rfl⟩ := he
      exact wp_label ⟨ι, Nx.refl hr, hs, hd, rfl⟩
    | ret =>
      simp only [trCode, Option.some.injEq] at htr; subst htr
      simp only [exec, Option.some.injEq, Prod.mk.injEq] at he
      obtain ⟨rfl, rfl, rfl⟩ := he
      exact wp_ret ⟨ι, Nx.refl hr, hs, hd, rfl⟩
    | exit id =>
      simp only [trCode, Option.some.injEq] at htr; subst htr
      simp only [exec, Option.some.injEq, Prod.mk.injEq] at he
      obtain ⟨rfl, rfl, rfl⟩ := he
      exact wp_exit ⟨ι, Nx.refl hr, hs, hd, rfl⟩
    | region id ops d =>
      simp only [trCode] at htr
      split at htr
      · simp at htr
      · rename_i hlex
        simp only [Option.map_eq_some_iff] at htr
        obtain ⟨l, hl, rfl⟩ := htr
        simp only [exec] at he
        cases d with
        | true =>
          have hB : Region.lexB .any ops = true := by simpa using hlex
          simp only [if_true] at he
          obtain ⟨rfl, rfl⟩ := execQ_end he
          refine wp_region_quiet (C := fun w' => Nx ι h' w ι h' w') hm hB (Nx.drew hr rfl rfl rfl rfl) ?_
          exact execQ_ok hcall hr hl hs hd he (fun _ _ a' hs' hd' w' hw' => ⟨ι, hw', hs', hd', rfl⟩)
        | false =>
          simp only [Bool.false_eq_true, if_false] at he
          exact wp_region_list (execOps_ok hcall hl hr hs hd he (fun e a' w' hp => hp))
    | seq c1 c2 =>
      simp only [trCode] at htr
      split at htr
      · rename_i a1 a2 h1 h2
        simp only [Option.some.injEq] at htr; subst htr
        simp only [exec] at he
        apply wp_seq
        split at he
        · rename_i S1 hp1 he1
          refine wp_mono (exec_ok hcall hm k h1 hr hs hd he1) ?_
          rintro e a' w' ⟨κ, hn, hs', hd', rfl⟩
          exact wp_mono (exec_ok hcall hm k h2 hn.hr hs' hd' he) (fun e a w hp => Post.trans hn hp)
        · rename_i hne
          refine wp_mono (exec_ok hcall hm k h1 hr hs hd he) ?_
          rintro e a' w' ⟨κ, hn, hs', hd', hx⟩
          cases x with
          | norm => exact (hne _ _ he).elim
          | exit id => subst hx; exact ⟨κ, hn, hs', hd', rfl⟩
          | ret => subst hx; exact ⟨κ, hn, hs', hd', rfl⟩
          | pan v => obtain ⟨rfl, hv⟩ := hx; exact ⟨κ, hn, hs', hd', rfl, hv⟩
      · simp at htr
    | cond o c1 c2 =>
      simp only [trCode] at htr
      split at htr
      · rename_i o' a1 a2 ho h1 h2
        simp only [Option.some.injEq] at htr; subst htr
        simp only [exec] at he
        have hev := ev_ok hs ho
        split at he
        · rename_i hb
          rw [hb] at hev
          exact wp_cond (t := true) hev (by simp only [if_true]; exact exec_ok hcall hm k h1 hr hs hd he)
        · rename_i hb
          rw [hb] at hev
          exact wp_cond (t := false) hev (by simp only [Bool.false_eq_true, if_false]; exact exec_ok hcall hm k h2 hr hs hd he)
        · simp at he
      · simp at htr
    | block id c =>
      simp only [trCode, Option.map_eq_some_iff] at htr
      obtain ⟨a1, h1, rfl⟩ := htr
      simp only [exec] at he
      apply wp_block
      split at he
      · rename_i i S1 hp1 he1
        refine wp_mono (exec_ok hcall hm k h1 hr hs hd he1) ?_
        rintro e a' w' ⟨κ, hn, hs', hd', rfl⟩
        simp only [Exit.inBlock]
        split at he
        · rename_i hi
          simp only [Option.some.injEq, Prod.mk.injEq] at he
          obtain ⟨rfl, rfl, rfl⟩ := he
          rw [if_pos hi]
          exact ⟨κ, hn, hs', hd', rfl⟩
        · rename_i hi
          simp only [Option.some.injEq, Prod.mk.injEq] at he
          obtain ⟨rfl, rfl, rfl⟩ := he
          rw [if_neg hi]
          exact ⟨κ, hn, hs', hd', rfl⟩
      · rename_i hne
        refine wp_mono (exec_ok hcall hm k h1 hr hs hd he) ?_
        rintro e a' w' ⟨κ, hn, hs', hd', hx⟩
        cases x with
        | norm => subst hx; exact ⟨κ, hn, hs', hd', rfl⟩
        | exit id => exact (hne _ _ _ he).elim
        | ret => subst hx; exact ⟨κ, hn, hs', hd', rfl⟩
        | pan v => obtain ⟨rfl, hv⟩ := hx; exact ⟨κ, hn, hs', hd', rfl, hv⟩
    | loop c =>
      simp only [trCode, Option.map_eq_some_iff] at htr
      obtain ⟨a1, h1, rfl⟩ := htr
      refine wp_loop_ghost (fun m a' w' => m ≤ k + 1 ∧ ∃ (S1 : σ) (h2 : Heap) (κ : Map), Nx ι h w κ h2 w' ∧ SR κ S1 n a'.tmps h2.o.length ∧ a'.defers = ds ∧ exec call m (.loop a1) S1 h2 = some (x, S', h')) (k + 1) ⟨Nat.le_refl _, S, h, ι, Nx.refl hr, hs, hd, he⟩ ?_
      rintro m a' w' ⟨hmk, S1, h2, κ, hn, hs1, hd1, he1⟩
      cases m with
      | zero => simp [exec] at he1
      | succ m =>
        simp only [exec] at he1
        split at he1
        · rename_i S2 h3 he2
          refine wp_mono (exec_ok hcall hm m h1 hn.hr hs1 hd1 he2) ?_
          rintro e a2 w2 ⟨μ, hn2, hs2, hd2, rfl⟩
          exact ⟨m, Nat.lt_succ_self _, by omega, S2, h3, μ, hn.trans hn2, hs2, hd2, he1⟩
        · rename_i hne
          refine wp_mono (exec_ok hcall hm m h1 hn.hr hs1 hd1 he1) ?_
          rintro e a2 w2 ⟨μ, hn2, hs2, hd2, hx⟩
          cases x with
          | norm => exact (hne _ _ he1).elim
          | exit id => subst hx; exact ⟨μ, hn.trans hn2, hs2, hd2, rfl⟩
          | ret => subst hx; exact ⟨μ, hn.trans hn2, hs2, hd2, rfl⟩
          | pan v => obtain ⟨rfl, hv⟩ := hx; exact ⟨μ, hn.trans hn2, hs2, hd2, rfl, hv⟩
    | scope c =>
      simp only [trCode, Option.map_eq_some_iff] at htr
      obtain ⟨a1, h1, rfl⟩ := htr
      simp only [exec] at he
      apply wp_scope_straight
      refine wp_mono (exec_ok hcall hm k h1 hr hs hd he) ?_
      rintro e a' w' ⟨κ, hn, hs', hd', hx⟩
      cases x with
      | norm => subst hx; exact ⟨κ, hn, hs', hd', rfl⟩
      | exit id => subst hx; exact ⟨κ, hn, hs', hd', rfl⟩
      | ret => subst hx; exact ⟨κ, hn, hs', hd', rfl⟩
      | pan v => obtain ⟨rfl, hv⟩ := hx; exact ⟨κ, hn, hs', hd', rfl, hv⟩
    | rangeFunc _ _ _ _ => simp [trCode] at htr
    | goto l => simp [trCode] at htr
    | refuse _ => simp [trCode] at htr
termination_by k => k


/-! Calls -/

theorem results_ok {ι : Map} {h : Heap} {w : World} {S : σ} {n : Nat} {tmps : Array Value} (hr : HR ι h.o w) (hs : SR ι S n tmps h.o.length) (f : ResultVar → Sem Value) (hf1 : ∀ t, f (.tmp t) = pure (tmps.getD t undef)) (hf2 : ∀ a t, f (.cell a t) = (do loadVar t (← asAddr (tmps.getD a undef)))) : ∀ {rvs : List ResultVar} {res : List RV} {vs : List V}, trRes P rvs = some res → resAll S h res = some vs →
    (rvs.mapM (m := Sem) f).run P w = .ok (V.reals ι vs) w ∧ V.scs h.o.length vs
  | [], res, vs, ht, hv => by
    simp only [trRes, Option.some.injEq] at ht; subst ht
    simp only [resAll, Option.some.injEq] at hv; subst hv
    exact ⟨by simp [V.reals], trivial⟩
  | .tmp t :: rvs, res, vs, ht, hv => by
    simp only [trRes, Option.map_eq_some_iff] at ht
    obtain ⟨l, hl, rfl⟩ := ht
    simp only [resAll, resOne] at hv
    split at hv
    · rename_i v vs' hv1 hv2
      simp only [Option.some.injEq] at hv hv1; subst hv; subst hv1
      obtain ⟨e1, e2⟩ := results_ok hr hs f hf1 hf2 hl hv2
      refine ⟨?_, hs.sc t, e2⟩
      rw [List.mapM_cons, hf1]
      simp only [Sem.run_bind, Sem.run_pure, Result.andThen_ok, e1, hs.val, V.reals]
    · simp at hv
  | .cell a t :: rvs, res, vs, ht, hv => by
    simp only [trRes] at ht
    split at ht
    · rename_i par l hp hl
      simp only [Option.some.injEq] at ht; subst ht
      simp only [resAll] at hv
      split at hv
      · rename_i v vs' hv1 hv2
        simp only [Option.some.injEq] at hv; subst hv
        obtain ⟨e1, e2⟩ := results_ok hr hs f hf1 hf2 hl hv2
        simp only [resOne] at hv1
        split at hv1
        · rename_i l0 o0 hg
          obtain ⟨k1, k2⟩ := load_ok hp hr (l := l0) (o := o0) (v := v) (by cases par with | none => exact hv1 | some m => exact hv1)
          have hva := hs.val a
          rw [hg] at hva
          refine ⟨?_, k1, e2⟩
          rw [List.mapM_cons, hf2, hva]
          have hasa : ∀ q, (asAddr (.pointer (some q))).run P w = .ok q w := fun _ => rfl
          simp only [Sem.run_bind, Sem.run_pure, V.real, hasa, Result.andThen_ok, k2, e1, V.reals]
        · simp at hv1
      · simp at hv
    · simp at ht

theorem resV_ok {ι : Map} {N : Nat} {vs : List V} (hs : V.scs N vs) : (resV vs).sc N ∧ (resV vs).real ι = (if h : (V.reals ι vs).toArray.size = 1 then (V.reals ι vs).toArray[0] else .tuple (V.reals ι vs).toArray) := by
  match vs with
  | [] => exact ⟨trivial, rfl⟩
  | [v] => exact ⟨hs.1, rfl⟩
  | v :: u :: r => exact ⟨hs, by simp [resV, V.real, V.reals]⟩

theorem results_run {ι : Map} {h : Heap} {w : World} {S : σ} {n : Nat} {tmps : Array Value} (hr : HR ι h.o w) (hs : SR ι S n tmps h.o.length) {fn : Func} {res : List RV} {vs : List V} (ht : trRes P fn.results.toList = some res) (hv : resAll S h res = some vs) :
    (results fn tmps).run P w = .ok ((resV vs).real ι) w ∧ (resV vs).sc h.o.length := by
  have key := fun f hf1 hf2 => (results_ok (P := P) hr hs f hf1 hf2 ht hv)
  have e2 := (key (fun | .tmp t => pure (tmps.getD t undef) | .cell a t => do loadVar t (← asAddr (tmps.getD a undef))) (fun _ => rfl) (fun _ _ => rfl)).2
  obtain ⟨e3, e4⟩ := resV_ok (ι := ι) e2
  refine ⟨?_, e3⟩
  rw [e4]
  unfold results
  rw [Array.mapM_eq_mapM_toList]
  simp only [Sem.run_bind, Sem.run_map]
  rw [(key _ (fun _ => rfl) (fun _ _ => rfl)).1]
  simp only [Result.andThen_ok, Sem.run_pure]

/-- What a call leaves. -/
theorem leave_ok {ι κ : Map} {h h' : Heap} {w w' : World} (hr : HR ι h.o w) (hn : Nx ι (enter h) w κ h' w') {v : V} (hv : v.sc h'.o.length) : Nx ι h w κ ((leave h h' v).getD h) w' ∧ v.sc ((leave h h' v).getD h).o.length := by
  have hlen : h.o.length ≤ h'.o.length := hn.len
  have hed1 : h'.e ≤ h.o.length := hn.ed.1
  have hed2 : h'.d ≤ h.o.length := hn.ed.2
  unfold leave
  split
  · rename_i hc
    obtain ⟨hce, hcp⟩ := hc
    have tk : ∀ (l : Nat) (o : Obj), (h'.o.take h.o.length)[l]? = some o → l < h.o.length ∧ h'.o[l]? = some o := by
      intro l o hl
      rw [List.getElem?_take] at hl
      split at hl
      · exact ⟨by assumption, hl⟩
      · simp at hl
    have tkl : (h'.o.take h.o.length).length = h.o.length := by simp; omega
    have hr2 : HR κ (h'.o.take h.o.length) w' := by
      refine ⟨fun l o hl => hn.hr.obj l o (tk l o hl).2, fun l l' o o' hne hl hl' ho ho' => hn.hr.apart l l' o o' hne (tk l o hl).2 (tk l' o' hl').2 ho ho', fun l o hl => ?_⟩
      rw [tkl]
      obtain ⟨h1, h2⟩ := tk l o hl
      exact hn.cl l h.o.length h1 (Nat.lt_of_lt_of_le h1 hce) (fun o ho => hr.sc l o ho) o h2
    have hfr : Fr ι h.o w κ (h'.o.take h.o.length) w' := ⟨hn.fr.os, hn.fr.tape, hn.fr.output, hn.fr.size, hn.fr.keep, fun b hb hb' ⟨l, o, hl, ho, hbl⟩ => hn.fr.own b hb hb' ⟨l, o, (tk l o hl).2, ho, hbl⟩⟩
    split
    · rename_i hcd
      have heq : h'.o.take h.o.length = h.o := by
        apply List.ext_getElem?
        intro l
        rw [List.getElem?_take]
        split
        · rename_i hl
          exact hn.un l hl (Nat.lt_of_lt_of_le hl hcd)
        · rename_i hl
          rw [List.getElem?_eq_none (by omega)]
      rw [heq] at hr2 hfr
      exact ⟨⟨hr2, hn.ag, Nat.le_refl _, hfr, fun _ _ _ _ h => h, ⟨Nat.le_refl _, Nat.le_refl _⟩, fun _ _ _ => rfl⟩, V.sc_of_plain _ _ hcp⟩
    · refine ⟨⟨hr2, hn.ag, by show h.o.length ≤ _; simp only [Option.getD_some]; omega, hfr, fun l n hl he h0 o ho => ?_, ⟨Nat.le_refl _, Nat.min_le_left _ _⟩, fun l hl hd => ?_⟩, V.sc_of_plain _ _ hcp⟩
      · obtain ⟨h1, h2⟩ := tk l o ho
        exact hn.cl l n h1 (Nat.lt_of_lt_of_le h1 hce) h0 o h2
      · simp only [Option.getD_some] at hd ⊢
        rw [List.getElem?_take, if_pos hl]
        exact hn.un l hl (by omega)
  · refine ⟨⟨hn.hr, hn.ag, hlen, hn.fr, fun l n hl he h0 o ho => ?_, ⟨Nat.min_le_left _ _, Nat.min_le_left _ _⟩, fun l hl hd => ?_⟩, hv⟩
    · simp only [Option.getD_some] at he ho
      exact hn.cl l n hl (by omega) h0 o ho
    · simp only [Option.getD_some] at hd ⊢
      exact hn.un l hl (by omega)

theorem callOk_of {f : Nat} {fn : Func} (hf : P.funcs[f]? = some fn) (hn : (fn.name != "runtime.NumGoroutine") = true) {c : Code} (hb : fn.body = some c) : callOk P f = true := by
  simp [callOk, hf, hn, hb]

theorem initS_SR {ι : Map} {N n : Nat} {args : List V} (hsc : V.scs N args) (hle : args.length ≤ n) : SR ι (initS args) n ((V.reals ι args).toArray ++ Array.replicate (n - (V.reals ι args).toArray.size) undef) N := by
  have hl : (V.reals ι args).length = args.length := by rw [V.reals_eq, List.length_map]
  refine ⟨by simp [hl]; omega, fun i => ?_, fun i => ?_⟩
  · show _ = (initS args i).real ι
    simp only [initS, Array.getD_eq_getD_getElem?, Array.getElem?_append, List.size_toArray, hl, List.getElem?_toArray]
    by_cases hi : i < args.length
    · rw [if_pos hi, V.reals_eq, List.getElem?_map, List.getD_eq_getElem?_getD, List.getElem?_eq_getElem hi]
      rfl
    · rw [if_neg hi, List.getD_eq_getElem?_getD, List.getElem?_eq_none (by omega)]
      simp only [Option.getD_none, undef_real]
      rw [Array.getElem?_replicate]
      split <;> rfl
  · show (initS args i).sc N
    unfold initS
    rw [List.getD_eq_getElem?_getD]
    cases hg : args[i]? with
    | none => trivial
    | some v => exact (V.scs_iff _ _).1 hsc v (List.mem_of_getElem? hg)

/-- Calls, to a depth. -/
theorem callN_ok (hm : P.follows .mixedOrders = true) {F : Nat → Option AF} (hF : ∀ f af, F f = some af → trProg P f = some af) {ext : CallF → Nat → Option (List V → Heap → Option (Out × Option Heap))}
    (hext : ∀ call, CallOk P call → ∀ f g args h out oh, ext call f = some g → g args h = some (out, oh) → callOk P f = true ∧ ∀ ι w, HR ι h.o w → V.scs h.o.length args →
      Calls P f (V.reals ι args).toArray w fun e w' => ∃ κ, Nx ι h w κ (oh.getD h) w' ∧ OutOk κ (oh.getD h).o.length e out) : ∀ k, CallOk P (callN F ext k)
  | 0 => fun f args h out oh he => by simp [callN] at he
  | k + 1 => fun f args h out oh he => by
    have ih := callN_ok hm hF hext k
    simp only [callN] at he
    split at he
    · rename_i g hg
      exact hext _ ih f g args h out oh hg he
    · split at he
      · simp at he
      · rename_i af haf
        have htr := hF f af haf
        unfold trProg at htr
        split at htr
        · rename_i fn hfn
          split at htr
          · rename_i hname
            unfold trFunc at htr
            split at htr
            · rename_i c hb
              split at htr
              · rename_i b r hc hres
                simp only [Option.some.injEq] at htr
                subst htr
                split at he
                · rename_i hle
                  refine ⟨callOk_of hfn hname hb, fun ι w hr hsc => ?_⟩
                  have hs0 := initS_SR (ι := ι) hsc hle
                  cases hex : exec (callN F ext k) k b (initS args) (enter h) with
                  | none => rw [hex] at he; simp [finish] at he
                  | some r =>
                    obtain ⟨x, S', h'⟩ := r
                    rw [hex] at he
                    refine calls_of_wp hfn hb (wp_mono (exec_ok ih hm (ds := []) k hc (h := enter h) hr hs0 rfl hex) ?_)
                    rintro e a' w' ⟨κ, hn, hs', hd', hx⟩
                    have fin : ∀ {vs : List V}, resAll S' h' r = some vs → out = .val (resV vs) → oh = leave h h' (resV vs) → bodyPost P fn (fun e w' => ∃ κ, Nx ι h w κ (oh.getD h) w' ∧ OutOk κ (oh.getD h).o.length e out) .normal a' w' := by
                      intro vs hvs hout hoh
                      subst hout; subst hoh
                      obtain ⟨q1, q2⟩ := results_run hn.hr hs' hres hvs
                      obtain ⟨q3, q4⟩ := leave_ok hr hn q2
                      exact ⟨hd', _, q1, κ, q3, rfl, q4⟩
                    cases x with
                    | norm =>
                      subst hx
                      simp only [finish] at he
                      split at he
                      · rename_i vs hvs
                        simp only [Option.some.injEq, Prod.mk.injEq] at he
                        exact fin hvs he.1.symm he.2.symm
                      · simp at he
                    | ret =>
                      subst hx
                      simp only [finish] at he
                      split at he
                      · rename_i vs hvs
                        simp only [Option.some.injEq, Prod.mk.injEq] at he
                        exact fin hvs he.1.symm he.2.symm
                      · simp at he
                    | exit id => simp [finish] at he
                    | pan v =>
                      obtain ⟨rfl, hv⟩ := hx
                      simp only [finish, Option.some.injEq, Prod.mk.injEq] at he
                      obtain ⟨rfl, rfl⟩ := he
                      obtain ⟨q3, q4⟩ := leave_ok hr hn hv
                      exact ⟨hd', κ, q3, rfl, q4⟩
                · simp at he
              · simp at htr
            · simp at htr
          · simp at htr
        · simp at htr

end
end AM
