/- AM, part 15: every operation that enters no function (the rest). -/
import Derived.Test.YtompkmidoklppaaAmStep
namespace AM
open Go
set_option linter.unusedVariables false
set_option linter.unusedSimpArgs false
set_option linter.unusedSectionVars false

section
variable {P : Program} {ι : Map} {σ : Type} [Slots σ] {h : Heap} {w : World} {S : σ} {n : Nat} {a : Act}

def AOp.isCall : AOp → Bool
  | .call .. | .callv .. => true
  | _ => false

theorem isAgg_of {d : TypeDesc} {P : Program} {t : Nat} (h : P.underlying t = some d) (hd : (∃ fs, d = .struct fs) ∨ ∃ n e, d = .array n e) : isAggD d = true := by
  rcases hd with ⟨fs, rfl⟩ | ⟨n, e, rfl⟩ <;> rfl

theorem good_simple (hr : HR ι h.o w) {o : Oper} {v : V} (hv : v.sc h.o.length) (hrun : (execOp a.eval o).run P w = .ok (.value (v.real ι)) w) : Good P a o ι h w v none := Good.same hr hv hrun

theorem binOp_good (hr : HR ι h.o w) (hs : SR ι S n a.tmps h.o.length) {bop : BinOp} {t u : Nat} {x y : Operand} {type : Nat} {op : AOp} (htr : trOp P (.binOp bop t x y u) type = some op)
    {v : V} {oh : Option Heap} (hst : stepV op S h = some (v, oh)) {d : Option Nat} {pos : String} {af : Array Edge} {g : Option (Nat × Bool)} :
    Good P a ⟨d, .binOp bop t x y u, type, pos, af, g⟩ ι h w v oh := by
  simp only [trOp] at htr
  split at htr
  · rename_i x' y' hx hy
    have bin : ∀ {op}, some (AOp.bin bop x' y') = some op → stepV op S h = some (v, oh) → Good P a ⟨d, .binOp bop t x y u, type, pos, af, g⟩ ι h w v oh := by
      intro op he hst
      simp only [Option.some.injEq] at he; subst he
      simp only [stepV] at hst
      cases hb : binA bop (x'.ev S) (y'.ev S) with
      | none => simp [hb] at hst
      | some r =>
        simp only [hb, Option.bind_some] at hst
        obtain ⟨rfl, rfl⟩ := ok_inj hst
        exact good_bin hr hs hx hy hb
    split at htr
    · rename_i hop
      have eqk : ∀ {op} (k : Kd), k ≠ .i → k ≠ .s → okT P t k → some (AOp.eqf (bop == .neq) false [(1, k)] x' y') = some op → stepV op S h = some (v, oh) → Good P a ⟨d, .binOp bop t x y u, type, pos, af, g⟩ ι h w v oh := by
        intro op k h1 h2 hk he hst
        simp only [Option.some.injEq] at he; subst he
        simp only [stepV, eqA, Bool.false_eq_true, if_false] at hst
        cases hb : eqK k (x'.ev S) (y'.ev S) with
        | none => simp [hb] at hst
        | some r =>
          simp only [hb, Option.bind_some] at hst
          obtain ⟨rfl, rfl⟩ := ok_inj hst
          exact good_eqk hr hs hop hx hy h1 h2 hk hb
      have eqa : ∀ {op} {dd : TypeDesc} (hu : P.underlying t = some dd) (hd : isAggD dd = true), (match flatT P 40 t with
          | some ks => if P.eqGuardType P.depth t = false then some (AOp.eqf (bop == .neq) true ks x' y') else none
          | none => none) = some op → stepV op S h = some (v, oh) → Good P a ⟨d, .binOp bop t x y u, type, pos, af, g⟩ ι h w v oh := by
        intro op dd hu hd he hst
        split at he
        · rename_i ks hks
          split at he
          · rename_i hg
            simp only [Option.some.injEq] at he; subst he
            simp only [stepV] at hst
            cases hb : eqA true ks (x'.ev S) (y'.ev S) with
            | none => simp [hb] at hst
            | some r =>
              simp only [hb, Option.bind_some] at hst
              obtain ⟨rfl, rfl⟩ := ok_inj hst
              exact good_eqa hr hs hop hx hy hu hd hks hg hb
          · simp at he
        · simp at he
      split at htr
      · exact bin htr hst
      · exact bin htr hst
      · rename_i e hu
        split at htr
        · rename_i hc
          obtain ⟨m, hm⟩ := Option.isSome_iff_exists.1 hc.2
          exact eqk .p (by simp) (by simp) ⟨e, m, hu, hm, fun h0 => hc.1 (by rw [hm, h0])⟩ htr hst
        · simp at htr
      · rename_i hu; exact eqk .b (by simp) (by simp) hu htr hst
      · rename_i e hu; exact eqk .sl (by simp) (by simp) ⟨e, hu⟩ htr hst
      · rename_i k e hu; exact eqk .m (by simp) (by simp) ⟨k, e, hu⟩ htr hst
      · rename_i k e c hu; exact eqk .f (by simp) (by simp) ⟨k, e, c, hu⟩ htr hst
      · rename_i fs hu; exact eqa hu rfl htr hst
      · rename_i m e hu; exact eqa hu rfl htr hst
      · simp at htr
    · exact bin htr hst
  · simp at htr

theorem step_good (hr : HR ι h.o w) (hs : SR ι S n a.tmps h.o.length) {o : Oper} {op : AOp} (htr : trOp P o.op o.type = some op) (hnc : op.isCall = false) {v : V} {oh : Option Heap}
    (hst : stepV op S h = some (v, oh)) : Good P a o ι h w v oh := by
  obtain ⟨d, op0, ty, pos, af, g⟩ := o
  simp only at htr
  cases op0 with
  | binOp bop t x y u => exact binOp_good hr hs htr hst
  | move x =>
    simp only [trOp, Option.map_eq_some_iff] at htr
    obtain ⟨x', hx, rfl⟩ := htr
    simp only [stepV] at hst
    obtain ⟨rfl, rfl⟩ := ok_inj hst
    exact Good.same hr (ev_sc hs hx) (by simp only [execOp, ev_ok hs hx, Sem.run_pure])
  | assign x =>
    simp only [trOp, Option.map_eq_some_iff] at htr
    obtain ⟨x', hx, rfl⟩ := htr
    simp only [stepV] at hst
    obtain ⟨rfl, rfl⟩ := ok_inj hst
    exact Good.same hr (ev_sc hs hx) (by simp only [execOp, ev_ok hs hx, Sem.run_pure])
  | pick c x y =>
    simp only [trOp] at htr
    split at htr
    · rename_i c' x' y' hc hx hy
      simp only [Option.some.injEq] at htr; subst htr
      simp only [stepV] at hst
      split at hst
      · rename_i t ht
        obtain ⟨rfl, rfl⟩ := ok_inj hst
        refine Good.same hr ?_ ?_
        · split
          · exact ev_sc hs hx
          · exact ev_sc hs hy
        · simp only [execOp, ev_ok hs hc, ev_ok hs hx, ev_ok hs hy, ht, V.real, asBool, Sem.run_bind, Sem.run_pure, Result.andThen_ok]
          cases t <;> rfl
      · simp at hst
    · simp at htr
  | alloc t =>
    simp only [trOp, Option.map_eq_some_iff] at htr
    obtain ⟨z, hz, rfl⟩ := htr
    simp only [stepV] at hst
    obtain ⟨rfl, rfl⟩ := okh_inj hst
    exact good_alloc hr hz
  | box t x =>
    simp only [trOp, Option.map_eq_some_iff] at htr
    obtain ⟨x', hx, rfl⟩ := htr
    simp only [stepV] at hst
    obtain ⟨rfl, rfl⟩ := okh_inj hst
    exact good_box hr hs hx
  | build t parts =>
    simp only [trOp] at htr
    split at htr
    · rename_i z fs hz hu
      simp only [Option.bind_eq_some_iff] at htr
      obtain ⟨ps, hps, htr⟩ := htr
      split at htr
      · rename_i hall
        simp only [Option.some.injEq] at htr; subst htr
        simp only [stepV, Option.bind_eq_some_iff] at hst
        obtain ⟨cs, hf, hst⟩ := hst
        obtain ⟨rfl, rfl⟩ := ok_inj hst
        exact good_build hr hs hz _ hps hf (.inl ⟨fs, hu, hall, rfl⟩)
      · simp at htr
    · rename_i z m e hz hu
      simp only [Option.bind_eq_some_iff, Option.map_eq_some_iff] at htr
      obtain ⟨s, hsz, ps, hps, rfl⟩ := htr
      simp only [stepV, Option.bind_eq_some_iff] at hst
      obtain ⟨cs, hf, hst⟩ := hst
      obtain ⟨rfl, rfl⟩ := ok_inj hst
      exact good_build hr hs hz _ hps hf (.inr ⟨m, e, s, hu, hsz, rfl⟩)
    · simp at htr
  | buildSlice t len parts =>
    simp only [trOp] at htr
    split at htr
    · rename_i e hu
      split at htr
      · rename_i s z hsz hz
        split at htr
        · rename_i hc
          simp only [Option.map_eq_some_iff] at htr
          obtain ⟨ps, hps, rfl⟩ := htr
          simp only [stepV, Option.bind_eq_some_iff] at hst
          obtain ⟨cs, hf, hst⟩ := hst
          obtain ⟨rfl, rfl⟩ := okh_inj hst
          exact good_bslice hr hs hu hsz hz hc.1 hc.2.1 hc.2.2 hps hf
        · simp at htr
      · simp at htr
    · simp at htr
  | load t x =>
    simp only [trOp] at htr
    split at htr
    · rename_i par x' hp hx
      simp only [Option.some.injEq] at htr; subst htr
      simp only [stepV] at hst
      split at hst
      · rename_i l o he
        split at hst
        · simp only [Option.bind_eq_some_iff] at hst
          obtain ⟨v', hg, hst⟩ := hst
          obtain ⟨rfl, rfl⟩ := ok_inj hst
          exact good_load hr hs hx hp he hg
        · rename_i m
          simp only [Option.bind_eq_some_iff] at hst
          obtain ⟨cs, hg, hst⟩ := hst
          obtain ⟨rfl, rfl⟩ := ok_inj hst
          exact good_load hr hs hx hp he (by simp only [hg, Option.map_some])
      · simp at hst
    · simp at htr
  | store t x y =>
    simp only [trOp] at htr
    split at htr
    · rename_i m x' y' hz hx hy
      simp only [Option.some.injEq] at htr; subst htr
      simp only [stepV] at hst
      split at hst
      · rename_i l o he
        split at hst
        · rename_i hm
          simp only [Option.bind_eq_some_iff] at hst
          obtain ⟨h', hse, hst⟩ := hst
          obtain ⟨rfl, rfl⟩ := okh_inj hst
          exact good_store hr hs hx hy hz he hm hse
        · simp at hst
      · simp at hst
    · simp at htr
  | nilCheck x =>
    simp only [trOp, Option.map_eq_some_iff] at htr
    obtain ⟨x', hx, rfl⟩ := htr
    simp only [stepV] at hst
    split at hst
    · rename_i l o he
      obtain ⟨rfl, rfl⟩ := ok_inj hst
      have hsc := ev_sc hs hx
      rw [he] at hsc
      exact Good.same hr hsc (by simp only [execOp, ev_ok hs hx, he, V.real, Sem.run_bind, Sem.run_pure, Result.andThen_ok])
    · simp at hst
  | unOp uop t x =>
    simp only [trOp, Option.map_eq_some_iff] at htr
    obtain ⟨x', hx, rfl⟩ := htr
    simp only [stepV, Option.bind_eq_some_iff] at hst
    obtain ⟨v', hu, hst⟩ := hst
    obtain ⟨rfl, rfl⟩ := ok_inj hst
    obtain ⟨h1, h2⟩ := unA_ok (P := P) (ι := ι) hu w
    exact Good.same hr (V.sc_of_plain _ _ h1) (by simp only [execOp, ev_ok hs hx, Sem.run_bind, h2, Sem.run_pure, Result.andThen_ok])
  | convert t u x =>
    simp only [trOp] at htr
    split at htr
    · rename_i x' k0 k hx h1 h2
      simp only [Option.some.injEq] at htr; subst htr
      simp only [stepV] at hst
      split at hst
      · rename_i k1 i he
        obtain ⟨rfl, rfl⟩ := ok_inj hst
        exact good_toInt hr hs hx h1 h2 he
      · simp at hst
    · rename_i x' hx h1 h2
      simp only [Option.some.injEq] at htr; subst htr
      simp only [stepV] at hst
      split at hst
      · rename_i s he
        obtain ⟨rfl, rfl⟩ := ok_inj hst
        exact good_strStr hr hs hx h1 h2 he
      · simp at hst
    · rename_i x' e hx h1 h2
      split at htr
      · rename_i h3
        simp only [Option.some.injEq] at htr; subst htr
        simp only [stepV] at hst
        split at hst
        · rename_i he
          obtain ⟨rfl, rfl⟩ := ok_inj hst
          exact good_toStrNil hr hs hx h1 h2 h3 he
        · rename_i l o m he
          simp only [Option.bind_eq_some_iff] at hst
          obtain ⟨cs, hg, s, hss, hst⟩ := hst
          obtain ⟨rfl, rfl⟩ := ok_inj hst
          exact good_toStr hr hs hx h1 h2 h3 he hg hss
        · simp at hst
      · simp at htr
    · rename_i x' e hx h1 h2
      split at htr
      · rename_i h3
        simp only [Option.some.injEq] at htr; subst htr
        simp only [stepV] at hst
        split at hst
        · rename_i s he
          obtain ⟨rfl, rfl⟩ := okh_inj hst
          exact good_toBytes hr hs hx h1 h2 h3 he
        · simp at hst
      · simp at htr
    · simp at htr
  | makeInterface t x =>
    simp only [trOp] at htr
    split at htr
    · simp at htr
    · rename_i d x' hni hu hx
      simp only [Option.some.injEq] at htr; subst htr
      simp only [stepV] at hst
      obtain ⟨rfl, rfl⟩ := ok_inj hst
      refine Good.same hr (ev_sc hs hx) ?_
      simp only [execOp, Instr.makeInterface, Sem.run_bind, run_underlying hu, Result.andThen_ok, ev_ok hs hx]
      cases d <;> simp [V.real] <;> simp_all
    · simp at htr
  | makeFunc fn fs cs =>
    cases fn with
    | func f =>
      simp only [trOp] at htr
      split at htr
      · rename_i a' b' ha hb
        simp only [Option.some.injEq] at htr; subst htr
        simp only [stepV] at hst
        obtain ⟨rfl, rfl⟩ := ok_inj hst
        refine Good.same hr ⟨(evs_ok hs ha).2, (evs_ok hs hb).2⟩ ?_
        simp only [execOp, Instr.makeFunc, Sem.run_bind, Sem.run_pure, Result.andThen_ok, evs_ok_arr hs ha, evs_ok_arr hs hb, V.real]
      · simp at htr
    | _ => simp [trOp] at htr
  | makeMap t r =>
    cases r with
    | none =>
      simp only [trOp, Option.some.injEq] at htr; subst htr
      simp only [stepV] at hst
      obtain ⟨rfl, rfl⟩ := okh_inj hst
      exact good_mkMap hr
    | some r => simp [trOp] at htr
  | makeSlice t l c =>
    simp only [trOp] at htr
    split at htr
    · rename_i e hu
      split at htr
      · rename_i s b z l' c' hsz hb hz hl hc
        split at htr
        · rename_i hcond
          simp only [Option.some.injEq] at htr; subst htr
          simp only [stepV] at hst
          split at hst
          · rename_i k1 ln k2 cp hel hec
            split at hst
            · rename_i hq
              obtain ⟨rfl, rfl⟩ := okh_inj hst
              exact good_mkSlice hr hs hl hc hu hsz hb hz hcond.1 hcond.2 hel hec hq.1 hq.2.1 hq.2.2.1 hq.2.2.2
            · simp at hst
          · simp at hst
        · simp at htr
      · simp at htr
    · simp at htr
  | fieldAddr t x f =>
    simp only [trOp] at htr
    split at htr
    · rename_i fs x' hu hx
      split at htr
      · rename_i fd hfd
        split at htr
        · rename_i m hm
          split at htr
          · simp at htr
          · rename_i hm0
            simp only [Option.some.injEq] at htr; subst htr
            simp only [stepV] at hst
            split at hst
            · rename_i l o he
              obtain ⟨rfl, rfl⟩ := ok_inj hst
              exact good_faddr hr hs hx hu hfd hm hm0 he
            · simp at hst
        · simp at htr
      · simp at htr
    · simp at htr
  | field t x f =>
    simp only [trOp] at htr
    split at htr
    · rename_i fs x' hu hx
      split at htr
      · rename_i fd hfd
        simp only [Option.map_eq_some_iff] at htr
        obtain ⟨par, hp, rfl⟩ := htr
        simp only [stepV] at hst
        split at hst
        · rename_i cs he
          simp only [Option.bind_eq_some_iff] at hst
          obtain ⟨v', hpa, hst⟩ := hst
          obtain ⟨rfl, rfl⟩ := ok_inj hst
          exact good_field hr hs hx hu hfd hp he hpa
        · simp at hst
      · simp at htr
    · simp at htr
  | indexAddr t x i =>
    simp only [trOp] at htr
    split at htr
    · rename_i m e x' i' hu hx hi
      simp only [Option.map_eq_some_iff] at htr
      obtain ⟨s, hsz, rfl⟩ := htr
      simp only [stepV] at hst
      split at hst
      · rename_i l o he
        simp only [Option.bind_eq_some_iff] at hst
        obtain ⟨j, hj, hst⟩ := hst
        obtain ⟨rfl, rfl⟩ := ok_inj hst
        exact good_iaddrA hr hs hx hi hu hsz he hj
      · simp at hst
    · rename_i e x' i' hu hx hi
      simp only [Option.map_eq_some_iff] at htr
      obtain ⟨s, hsz, rfl⟩ := htr
      simp only [stepV] at hst
      split at hst
      · rename_i l o m e' he
        split at hst
        · rename_i hee
          rw [hee] at he
          simp only [Option.bind_eq_some_iff] at hst
          obtain ⟨j, hj, hst⟩ := hst
          obtain ⟨rfl, rfl⟩ := ok_inj hst
          exact good_iaddrS hr hs hx hi hu hsz he hj
        · simp at hst
      · simp at hst
    · simp at htr
  | index t x i =>
    simp only [trOp] at htr
    split at htr
    · rename_i m e x' i' hu hx hi
      split at htr
      · rename_i s p hsz hp
        simp only [Option.some.injEq] at htr; subst htr
        simp only [stepV] at hst
        split at hst
        · rename_i cs he
          simp only [Option.bind_eq_some_iff] at hst
          obtain ⟨j, hj, v', hpa, hst⟩ := hst
          obtain ⟨rfl, rfl⟩ := ok_inj hst
          exact good_idxA hr hs hx hi hu hsz hp he hj hpa
        · simp at hst
      · simp at htr
    · rename_i x' i' hu hx hi
      simp only [Option.some.injEq] at htr; subst htr
      simp only [stepV] at hst
      split at hst
      · rename_i s he
        simp only [Option.bind_eq_some_iff] at hst
        obtain ⟨j, hj, hst⟩ := hst
        split at hst
        · rename_i b hb
          obtain ⟨rfl, rfl⟩ := ok_inj hst
          exact good_idxS hr hs hx hi hu he hj hb
        · simp at hst
      · simp at hst
    · simp at htr
  | slice t x lo hi mx =>
    cases mx with
    | some m => simp [trOp] at htr
    | none =>
      have sla : ∀ {m e s x' lo' hi'} (hx : trOpd x = some x') (hlo : trOpt lo = some lo') (hhi : trOpt hi = some hi')
          (hu : P.underlying t = some (.array m e) ∨ ∃ q, P.underlying t = some (.pointer q) ∧ P.underlying q = some (.array m e)) (hsz : szOf P e = some s), stepV (.slA m s x' lo' hi') S h = some (v, oh) → Good P a ⟨d, .slice t x lo hi none, ty, pos, af, g⟩ ι h w v oh := by
        intro m e s x' lo' hi' hx hlo hhi hu hsz hst
        simp only [stepV] at hst
        split at hst
        · rename_i l o he
          split at hst
          · rename_i cs hc
            split at hst
            · rename_i hcond
              obtain ⟨hex, ho, hl, h0⟩ := hcond
              subst ho
              simp only [Option.bind_eq_some_iff] at hst
              obtain ⟨p, hp, hst⟩ := hst
              have hoh : oh = none := by
                split at hst
                · exact (ok_inj hst).2
                · split at hst
                  · exact (ok_inj hst).2
                  · simp at hst
              subst hoh
              exact good_slA hr hs hx hlo hhi hu hsz h0 he hex hc hl hp hst
            · simp at hst
          · simp at hst
        · simp at hst
      simp only [trOp] at htr
      split at htr
      · rename_i x' lo' hi' hu hx hlo hhi
        simp only [Option.some.injEq] at htr; subst htr
        simp only [stepV] at hst
        split at hst
        · rename_i s he
          simp only [Option.bind_eq_some_iff] at hst
          obtain ⟨p, hp, hst⟩ := hst
          obtain ⟨rfl, rfl⟩ := ok_inj hst
          exact good_slS hr hs hx hlo hhi hu he hp
        · simp at hst
      · rename_i e x' lo' hi' hu hx hlo hhi
        simp only [Option.map_eq_some_iff] at htr
        obtain ⟨s, hsz, rfl⟩ := htr
        simp only [stepV] at hst
        split at hst
        · rename_i l o m e' he
          split at hst
          · rename_i hcond
            obtain ⟨hee, h0, hh⟩ := hcond
            rw [hee] at he
            simp only [Option.bind_eq_some_iff] at hst
            obtain ⟨p, hp, hst⟩ := hst
            exact good_slL hr hs hx hlo hhi hu hsz h0 he hh hp hst
          · simp at hst
        · rename_i he
          simp only [Option.bind_eq_some_iff] at hst
          obtain ⟨p, hp, hst⟩ := hst
          obtain ⟨rfl, rfl⟩ := ok_inj hst
          exact good_slNil hr hs hx hlo hhi hu hsz he hp
        · simp at hst
      · rename_i m e x' lo' hi' hu hx hlo hhi
        simp only [Option.map_eq_some_iff] at htr
        obtain ⟨s, hsz, rfl⟩ := htr
        exact sla hx hlo hhi (.inl hu) hsz hst
      · rename_i q x' lo' hi' hu hx hlo hhi
        split at htr
        · rename_i m e hu2
          simp only [Option.map_eq_some_iff] at htr
          obtain ⟨s, hsz, rfl⟩ := htr
          exact sla hx hlo hhi (.inr ⟨q, hu, hu2⟩) hsz hst
        · simp at htr
      · simp at htr
  | extract x i =>
    simp only [trOp, Option.map_eq_some_iff] at htr
    obtain ⟨x', hx, rfl⟩ := htr
    simp only [stepV] at hst
    split at hst
    · rename_i vs he
      simp only [Option.bind_eq_some_iff] at hst
      obtain ⟨v', hv, hst⟩ := hst
      obtain ⟨rfl, rfl⟩ := ok_inj hst
      exact good_extract hr hs hx he hv
    · simp at hst
  | lookup t m k cok =>
    simp only [trOp] at htr
    split at htr
    · rename_i kt e m' k' hu hm hk
      split at htr
      · rename_i z hz
        simp only [Option.map_eq_some_iff] at htr
        obtain ⟨kd, hkd, rfl⟩ := htr
        simp only [stepV] at hst
        split at hst
        · split at hst
          · rename_i he
            obtain ⟨rfl, rfl⟩ := ok_inj hst
            exact good_lookup hr hs hm hk hu hz hkd (r := none) (.inl ⟨he, rfl⟩)
          · rename_i l he
            split at hst
            · rename_i es hl
              simp only [Option.bind_eq_some_iff] at hst
              obtain ⟨r, hf, hst⟩ := hst
              obtain ⟨rfl, rfl⟩ := ok_inj hst
              exact good_lookup hr hs hm hk hu hz hkd (.inr ⟨l, es, he, hl, hf⟩)
            · simp at hst
          · simp at hst
        · simp at hst
      · simp at htr
    · simp at htr
  | mapUpdate t m k x =>
    simp only [trOp] at htr
    split at htr
    · rename_i kt e m' k' x' hu hm hk hx
      simp only [Option.map_eq_some_iff] at htr
      obtain ⟨kd, hkd, rfl⟩ := htr
      simp only [stepV] at hst
      split at hst
      · rename_i hkey
        split at hst
        · rename_i l he
          split at hst
          · rename_i es hl
            simp only [Option.bind_eq_some_iff] at hst
            obtain ⟨es', hp, hst⟩ := hst
            obtain ⟨rfl, rfl⟩ := okh_inj hst
            exact good_mapSet hr hs hm hk hx hu hkd hkey he hl hp
          · simp at hst
        · simp at hst
      · simp at hst
    · simp at htr
  | call c =>
    obtain ⟨callee, args, ats⟩ := c
    simp only [trOp] at htr
    split at htr
    · split at htr
      · simp only [Option.some.injEq] at htr; subst htr; simp [AOp.isCall] at hnc
      · simp at htr
    · simp only [Option.some.injEq] at htr; subst htr; simp [AOp.isCall] at hnc
    · rename_i b l hl
      exact builtin_good hr hs hl htr hst
    · simp at htr
  | panic x =>
    simp only [trOp, Option.map_eq_some_iff] at htr
    obtain ⟨x', hx, rfl⟩ := htr
    simp [stepV] at hst
  | insert _ _ _ _ => simp [trOp] at htr
  | ready _ => simp [trOp] at htr
  | waits _ => simp [trOp] at htr
  | sliceToArrayPointer _ _ => simp [trOp] at htr
  | makeChan _ _ => simp [trOp] at htr
  | mapEntry _ _ _ => simp [trOp] at htr
  | entryStore _ _ _ _ => simp [trOp] at htr
  | range _ _ => simp [trOp] at htr
  | next _ _ => simp [trOp] at htr
  | entry _ => simp [trOp] at htr
  | typeAssert _ _ _ _ => simp [trOp] at htr
  | go _ => simp [trOp] at htr
  | defer _ => simp [trOp] at htr
  | send _ _ => simp [trOp] at htr
  | recv _ _ _ => simp [trOp] at htr
  | select _ _ => simp [trOp] at htr
end
end AM
