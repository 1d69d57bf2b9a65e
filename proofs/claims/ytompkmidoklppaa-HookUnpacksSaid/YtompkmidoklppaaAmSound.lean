/- AM, part 16: abstract code is what the program's code does. -/
import Derived.Test.YtompkmidoklppaaAmStep2
import Derived.Deep.LoopGhost
namespace AM
open Go
set_option linter.unusedVariables false
set_option linter.unusedSimpArgs false
set_option linter.unusedSectionVars false

section
variable {P : Program} {σ : Type} [Slots σ]

/-- How a call ends. -/
def OutOk (κ : Map) (N : Nat) (e : Ending) : Out → Prop
  | .val v => e = .returned (v.real κ) ∧ v.sc N
  | .pan v => e = .panicked [{ v := v.real κ, recovered := false }] ∧ v.sc N

/-- What is known of calls. -/
def CallOk (P : Program) (call : CallF) : Prop := ∀ f args h out oh, call f args h = some (out, oh) → callOk P f = true ∧ ∀ ι w, HR ι h.o w → V.scs h.o.length args →
  Calls P f (V.reals ι args).toArray w fun e w' => ∃ κ, Nx ι h w κ (oh.getD h) w' ∧ OutOk κ (oh.getD h).o.length e out

theorem SR.mono {ι κ : Map} {S : σ} {n : Nat} {tmps : Array Value} {N M : Nat} (h : SR ι S n tmps N) (ha : Agree ι κ N) (hm : N ≤ M) : SR κ S n tmps M :=
  ⟨h.size, fun i => by rw [h.val i, V.real_agree ha _ (h.sc i)], fun i => V.sc_mono hm _ (h.sc i)⟩

theorem SR.put {ι : Map} {S : σ} {n : Nat} {a : Act} {N : Nat} (h : SR ι S n a.tmps N) {v : V} (hv : v.sc N) {d : Option Nat} (hd : ∀ i, d = some i → i < n) : SR ι (putO S d v) n (a.put d (v.real ι)).tmps N := by
  cases d with
  | none => exact h
  | some i =>
    have hi := hd i rfl
    refine ⟨by simp [Act.put, h.size], fun j => ?_, fun j => ?_⟩
    · simp only [putO, Slots.law, Act.put]
      have := h.val j
      by_cases hj : j = i
      · subst hj
        simp [h.size, hi]
      · rw [if_neg hj]
        rw [← this]
        simp only [Array.getD_eq_getD_getElem?, Array.getElem?_setIfInBounds]
        rw [if_neg (fun e => hj e.symm)]
    · simp only [putO, Slots.law]
      split
      · exact hv
      · exact h.sc j

theorem real_bool {ι : Map} {v : V} {b : Bool} (h : v.real ι = .bool b) : v = .bool b := by
  cases v <;> simp [V.real] at h
  rw [h]

theorem wanted_ok {ι : Map} {S : σ} {n : Nat} {a : Act} {N : Nat} (h : SR ι S n a.tmps N) {ops : Array Oper} {o : Oper} {g : Option (Nat × Bool)} (hg : trGuard ops o.guard = some g) : Region.wanted o (yielded ops a.tmps) = wantedA S g := by
  unfold trGuard at hg
  unfold Region.wanted
  split at hg
  · rename_i hgd
    simp only [Option.some.injEq] at hg
    subst hg
    rw [hgd]
    rfl
  · rename_i j want hgd
    rw [hgd]
    split at hg
    · rename_i d hd
      simp only [Option.some.injEq] at hg
      subst hg
      simp only [wantedA, yielded, hd, Option.bind_some]
      have hv := h.val d
      simp only [Array.getD_eq_getD_getElem?] at hv
      cases ht : a.tmps[d]? with
      | none =>
        rw [ht] at hv
        simp only [Option.getD_none] at hv
        cases hs : Slots.get S d with
        | bool b => rw [hs] at hv; simp [V.real, undef] at hv
        | _ => simp
      | some x =>
        rw [ht] at hv
        simp only [Option.getD_some] at hv
        cases hs : Slots.get S d with
        | bool b =>
          rw [hs] at hv
          simp only [V.real] at hv
          subst hv
          cases b <;> cases want <;> rfl
        | _ =>
          rw [hs] at hv
          simp only [V.real] at hv
          subst hv
          simp
    · simp at hg

/-- The end of a piece of code. -/
def Post (ι : Map) (h : Heap) (w : World) (n : Nat) (ds : List Deferred) (x : Ex) (S' : σ) (h' : Heap) (e : Exit) (a' : Act) (w' : World) : Prop :=
  ∃ κ, Nx ι h w κ h' w' ∧ SR κ S' n a'.tmps h'.o.length ∧ a'.defers = ds ∧ (match x with
    | .norm => e = .normal
    | .exit id => e = .exit id
    | .ret => e = .ret
    | .pan v => e = .panic [{ v := v.real κ, recovered := false }] ∧ v.sc h'.o.length)

theorem Post.trans {ι κ : Map} {h h1 : Heap} {w w1 : World} {n : Nat} {ds : List Deferred} {x : Ex} {S' : σ} {h' : Heap} {e : Exit} {a' : Act} {w' : World} (hn : Nx ι h w κ h1 w1) (hp : Post κ h1 w1 n ds x S' h' e a' w') : Post ι h w n ds x S' h' e a' w' := by
  obtain ⟨μ, h1, h2, h3, h4⟩ := hp
  exact ⟨μ, hn.trans h1, h2, h3, h4⟩

theorem put_defers' (a : Act) (d : Option Nat) (v : Value) : (a.put d v).defers = a.defers := by cases d <;> rfl

theorem callFunc_run {f : Nat} (hf : callOk P f = true) (args : Array Value) (w : World) : (callFunc f args).run P w = .ok (.enter f args) w := by
  unfold callOk at hf
  split at hf
  · rename_i fn hfn
    simp only [Bool.and_eq_true, bne_iff_ne, ne_eq] at hf
    have hb : fn.body.isNone = false := by rw [← Option.not_isSome, hf.2]; rfl
    have hnm : (fn.name == "runtime.NumGoroutine") = false := by simpa using hf.1
    simp only [callFunc, Sem.run_bind, run_program, Result.andThen_ok, hfn, hnm, hb, Bool.false_eq_true, if_false, Sem.run_pure]
  · simp at hf

theorem trBuiltin_inv {b : Builtin} {ats : List Nat} {l : List Opd} {op : AOp} (h : trBuiltin P b ats l = some op) : op.isCall = false ∧ ∀ x, op = .panic x → b = .panic ∧ l = [x] := by
  unfold trBuiltin at h
  split at h
  · split at h <;> first
      | (simp only [Option.some.injEq] at h; subst h; exact ⟨rfl, fun x hx => by simp at hx⟩)
      | (split at h <;> first | (simp only [Option.some.injEq] at h; subst h; exact ⟨rfl, fun x hx => by simp at hx⟩) | (simp at h; done))
      | (simp at h; done)
  · split at h <;> first
      | (split at h <;> first | (simp only [Option.some.injEq] at h; subst h; exact ⟨rfl, fun x hx => by simp at hx⟩) | (simp at h; done))
      | (simp only [Option.map_eq_some_iff] at h; obtain ⟨_, _, rfl⟩ := h; exact ⟨rfl, fun x hx => by simp at hx⟩)
      | (simp at h; done)
  · split at h <;> first
      | (split at h <;> first
          | (split at h <;> first | (simp only [Option.some.injEq] at h; subst h; exact ⟨rfl, fun x hx => by simp at hx⟩) | (simp at h; done))
          | (simp at h; done))
      | (simp at h; done)
  · split at h <;> first
      | (split at h <;> first
          | (split at h <;> first | (simp only [Option.some.injEq] at h; subst h; exact ⟨rfl, fun x hx => by simp at hx⟩) | (simp at h; done))
          | (simp at h; done))
      | (simp only [Option.some.injEq] at h; subst h; exact ⟨rfl, fun x hx => by simp at hx⟩)
      | (simp at h; done)
  · simp only [Option.some.injEq] at h; subst h; exact ⟨rfl, fun x hx => by simp at hx⟩
  · simp only [Option.some.injEq] at h; subst h; exact ⟨rfl, fun x hx => by simp at hx⟩
  · split at h
    · simp only [Option.map_eq_some_iff] at h; obtain ⟨_, _, rfl⟩ := h; exact ⟨rfl, fun x hx => by simp at hx⟩
    · simp at h
  · simp only [Option.some.injEq] at h; subst h; exact ⟨rfl, fun x hx => by simp only [AOp.panic.injEq] at hx; subst hx; exact ⟨rfl, rfl⟩⟩
  · simp at h

/-- Only a call becomes a call, only a panic a panic. -/
def CallForm (P : Program) (o : Op) (op : AOp) : Prop :=
  match op with
  | .call f l => ∃ args ats, o = .call ⟨.value (.func f), args, ats⟩ ∧ callOk P f = true ∧ trOpds args.toList = some l
  | .callv x l => ∃ t args ats, x = .t t ∧ o = .call ⟨.value (.tmp t), args, ats⟩ ∧ trOpds args.toList = some l
  | .panic x => (∃ y, o = .panic y ∧ trOpd y = some x) ∨ ∃ args ats, o = .call ⟨.builtin .panic, args, ats⟩ ∧ trOpds args.toList = some [x]
  | _ => True

theorem CallForm.of {o : Op} {op : AOp} (h1 : op.isCall = false) (h2 : ∀ x, op ≠ .panic x) : CallForm P o op := by
  cases op <;> first | trivial | (simp [AOp.isCall] at h1; done) | exact absurd rfl (h2 _)

set_option maxHeartbeats 2000000 in
theorem trOp_form {o : Op} {ty : Nat} {op : AOp} (h : trOp P o ty = some op) : CallForm P o op := by
  cases o with
  | call c =>
    obtain ⟨callee, args, ats⟩ := c
    simp only [trOp] at h
    split at h
    · rename_i f l hl
      split at h
      · rename_i hok
        simp only [Option.some.injEq] at h
        subst h
        exact ⟨args, ats, rfl, hok, hl⟩
      · simp at h
    · rename_i t l hl
      simp only [Option.some.injEq] at h
      subst h
      exact ⟨t, args, ats, rfl, rfl, hl⟩
    · rename_i b l hl
      obtain ⟨h1, h2⟩ := trBuiltin_inv h
      cases op with
      | panic x =>
        obtain ⟨rfl, rfl⟩ := h2 x rfl
        exact .inr ⟨args, ats, rfl, hl⟩
      | call f l => simp [AOp.isCall] at h1
      | callv f l => simp [AOp.isCall] at h1
      | _ => trivial
    · simp at h
  | panic x =>
    simp only [trOp, Option.map_eq_some_iff] at h
    obtain ⟨y, hy, rfl⟩ := h
    exact .inl ⟨x, rfl, hy⟩
  | move x => simp only [trOp, Option.map_eq_some_iff] at h; obtain ⟨_, _, rfl⟩ := h; trivial
  | assign x => simp only [trOp, Option.map_eq_some_iff] at h; obtain ⟨_, _, rfl⟩ := h; trivial
  | box t x => simp only [trOp, Option.map_eq_some_iff] at h; obtain ⟨_, _, rfl⟩ := h; trivial
  | alloc t => simp only [trOp, Option.map_eq_some_iff] at h; obtain ⟨_, _, rfl⟩ := h; trivial
  | nilCheck x => simp only [trOp, Option.map_eq_some_iff] at h; obtain ⟨_, _, rfl⟩ := h; trivial
  | unOp _ _ x => simp only [trOp, Option.map_eq_some_iff] at h; obtain ⟨_, _, rfl⟩ := h; trivial
  | extract x i => simp only [trOp, Option.map_eq_some_iff] at h; obtain ⟨_, _, rfl⟩ := h; trivial
  | build t ps =>
    simp only [trOp] at h
    split at h
    · simp only [Option.bind_eq_some_iff] at h
      obtain ⟨_, _, h⟩ := h
      split at h
      · simp only [Option.some.injEq] at h; subst h; trivial
      · simp at h
    · simp only [Option.bind_eq_some_iff, Option.map_eq_some_iff] at h
      obtain ⟨_, _, _, _, rfl⟩ := h; trivial
    · simp at h
  | slice t x lo hi mx =>
    cases mx with
    | some m => simp [trOp] at h
    | none =>
      simp only [trOp] at h
      split at h
      · simp only [Option.some.injEq] at h; subst h; trivial
      · simp only [Option.map_eq_some_iff] at h; obtain ⟨_, _, rfl⟩ := h; trivial
      · simp only [Option.map_eq_some_iff] at h; obtain ⟨_, _, rfl⟩ := h; trivial
      · split at h
        · simp only [Option.map_eq_some_iff] at h; obtain ⟨_, _, rfl⟩ := h; trivial
        · simp at h
      · simp at h
  | makeFunc fn a b =>
    cases fn with
    | func f =>
      simp only [trOp] at h
      split at h
      · simp only [Option.some.injEq] at h; subst h; trivial
      · simp at h
    | _ => simp [trOp] at h
  | makeMap t r =>
    cases r with
    | none => simp only [trOp, Option.some.injEq] at h; subst h; trivial
    | some r => simp [trOp] at h
  | binOp bop t x y u =>
    simp only [trOp] at h
    split at h
    · split at h
      · split at h <;> first
          | (simp only [Option.some.injEq] at h; subst h; trivial)
          | (split at h <;> first
              | (simp only [Option.some.injEq] at h; subst h; trivial)
              | (split at h <;> first | (simp only [Option.some.injEq] at h; subst h; trivial) | (simp at h; done))
              | (simp at h; done))
          | (simp at h; done)
      · simp only [Option.some.injEq] at h; subst h; trivial
    · simp at h
  | _ =>
    simp only [trOp] at h
    first
    | (simp at h; done)
    | (split at h <;> first
        | (simp at h; done)
        | (simp only [Option.some.injEq] at h; subst h; trivial)
        | (simp only [Option.map_eq_some_iff] at h; obtain ⟨_, _, rfl⟩ := h; trivial)
        | (split at h <;> first
            | (simp at h; done)
            | (simp only [Option.some.injEq] at h; subst h; trivial)
            | (simp only [Option.map_eq_some_iff] at h; obtain ⟨_, _, rfl⟩ := h; trivial)
            | (split at h <;> first
                | (simp at h; done)
                | (simp only [Option.some.injEq] at h; subst h; trivial)
                | (simp only [Option.map_eq_some_iff] at h; obtain ⟨_, _, rfl⟩ := h; trivial)
                | (split at h <;> first
                    | (simp at h; done)
                    | (simp only [Option.some.injEq] at h; subst h; trivial)))))

/-- One operation. -/
theorem oper_ok {call : CallF} (hcall : CallOk P call) {ι : Map} {h : Heap} {w : World} {S : σ} {n : Nat} {a : Act} (hr : HR ι h.o w) (hs : SR ι S n a.tmps h.o.length) {o : Oper} {op : AOp} (htr : trOp P o.op o.type = some op) (hd : ∀ i, o.dst = some i → i < n)
    {out : Out} {oh : Option Heap} (hst : stepA call op S h = some (out, oh)) {K : Act → World → Prop} {Q : Exit → Act → World → Prop}
    (hK : ∀ v, out = .val v → ∀ κ w', Nx ι h w κ (oh.getD h) w' → SR κ (putO S o.dst v) n (a.put o.dst (v.real κ)).tmps (oh.getD h).o.length → K (a.put o.dst (v.real κ)) w')
    (hQ : ∀ v, out = .pan v → ∀ κ w', Nx ι h w κ (oh.getD h) w' → v.sc (oh.getD h).o.length → Q (.panic [{ v := v.real κ, recovered := false }]) a w') : o.wp P a w K Q := by
  have hform := trOp_form htr
  have fin : ∀ {v} {κ : Map} {w' : World}, out = .val v → Nx ι h w κ (oh.getD h) w' → v.sc (oh.getD h).o.length → K (a.put o.dst (v.real κ)) w' := fun hv hn hsc =>
    hK _ hv _ _ hn ((hs.mono hn.ag hn.len).put hsc hd)
  have calls : ∀ {f args}, (execOp a.eval o).run P w = .ok (.enter f (V.reals ι args).toArray) w → V.scs h.o.length args → call f args h = some (out, oh) → o.wp P a w K Q := by
    intro f args hrun hsc hc
    unfold Oper.wp
    rw [hrun, Oper.upon_enter]
    refine ((hcall f args h out oh hc).2 ι w hr hsc).mono fun e w' ⟨κ, hn, hm⟩ => ?_
    cases out with
    | val v => obtain ⟨rfl, hv⟩ := hm; exact fin rfl hn hv
    | pan v => obtain ⟨rfl, hv⟩ := hm; exact hQ _ rfl _ _ hn hv
  have vals : op.isCall = false → stepA call op S h = (match stepV op S h with | some (v, oh) => some (.val v, oh) | none => none) → o.wp P a w K Q := by
    intro hcl he
    rw [he] at hst
    split at hst
    · rename_i v oh' hv
      simp only [Option.some.injEq, Prod.mk.injEq] at hst
      obtain ⟨rfl, rfl⟩ := hst
      obtain ⟨κ, w', r, hrun, hrv, hn, hsc, _⟩ := step_good hr hs htr hcl hv
      unfold Oper.wp
      rw [hrun]
      rcases hrv with rfl | ⟨rfl, rfl⟩
      · rw [Oper.upon_value]; exact fin rfl hn hsc
      · rw [Oper.upon_skip]; exact fin rfl hn hsc
    · simp at hst
  cases op with
  | call f l =>
    obtain ⟨args, ats, ho, hok, hl⟩ := hform
    simp only [stepA] at hst
    refine calls ?_ (evs_ok hs hl).2 hst
    simp only [execOp, ho, resolve, Act.eval, Deferred.ofValue, Sem.run_bind, Sem.run_pure, Result.andThen_ok, invoke]
    have h1 : (args.map a.eval) = (V.reals ι (evs S l)).toArray := evs_ok_arr hs hl
    simp only [Array.append_empty, Array.empty_append]
    rw [callFunc_run hok]
    rw [← h1]
  | callv x l =>
    obtain ⟨t, args, ats, rfl, ho, hl⟩ := hform
    simp only [stepA] at hst
    split at hst
    · rename_i f fs cs he
      have hok := (hcall f _ h out oh hst).1
      have hsc : (Opd.ev S (.t t)).sc h.o.length := hs.sc t
      rw [he] at hsc
      refine calls ?_ (scs_append.2 ⟨scs_append.2 ⟨hsc.1, (evs_ok hs hl).2⟩, hsc.2⟩) hst
      have het : a.eval (.tmp t) = .func (.func f) (V.reals ι fs).toArray (V.reals ι cs).toArray := by
        have := hs.val t
        rw [show Slots.get S t = .fn f fs cs from he] at this
        exact this
      simp only [execOp, ho, resolve, het, Deferred.ofValue, Sem.run_bind, Sem.run_pure, Result.andThen_ok, invoke, evs_ok_arr hs hl]
      rw [callFunc_run hok]
      congr 2
      simp [V.reals_eq]
    · simp at hst
  | panic x' =>
    have key : ∀ (hrun : ∀ t y, (x'.ev S).real ι = .iface t y → (execOp a.eval o).run P w = .halt (.panic (.iface t y)) w) (hsc : (x'.ev S).sc h.o.length), o.wp P a w K Q := by
      intro hrun hsc
      simp only [stepA] at hst
      split at hst
      · rename_i t y he
        simp only [Option.some.injEq, Prod.mk.injEq] at hst
        obtain ⟨rfl, rfl⟩ := hst
        rw [he] at hsc
        unfold Oper.wp
        rw [hrun t (y.real ι) (by rw [he]; rfl), Oper.upon_panic]
        exact hQ _ rfl ι w (Nx.refl hr) hsc
      · simp at hst
    rcases hform with ⟨y, ho, hy⟩ | ⟨args, ats, ho, hl⟩
    · exact key (fun t z he => by simp only [execOp, ho, Instr.panic, ev_ok hs hy, he, Sem.run_bind, run_goPanic, Result.andThen_halt]) (ev_sc hs hy)
    · have h1 := evs_ok_arr hs hl
      refine key (fun t z he => ?_) (evs_ok hs hl).2.1
      have h0 : (args.map a.eval)[0]? = some (.iface t z) := by rw [h1]; simp only [evs, List.map_cons, List.map_nil, V.reals, he]; rfl
      simp only [execOp, ho, resolve, Sem.run_bind, Sem.run_pure, Result.andThen_ok, invoke, builtin, Array.getD_eq_getD_getElem?, h0, Option.getD_some, Instr.panic, run_goPanic, Result.andThen_halt]
  | _ => exact vals rfl rfl

end
end AM
