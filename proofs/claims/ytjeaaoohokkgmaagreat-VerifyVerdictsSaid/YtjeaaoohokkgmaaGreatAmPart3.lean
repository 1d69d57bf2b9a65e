/- Own texts, joined: AmSel, AmRun, AmDen, AmRow, AmEqn, AmBits, AmWp, AmExt, AmExt2, AmSim, AmPlain, AmBits2, AmSym, AmLaw, AmLaw2, AmLaw3, AmLaw4, AmLaw5, AmSet, AmRange, AmHand, AmDefer, AmGrow, AmDefer2, AmFlat. -/
import Derived.Conc.LoneSelect
import Derived.ChangeSame
import Derived.RowKit3
import Derived.KernelRfl
import Derived.Deep.Slices
import Derived.OpenShut
import Derived.ProofKit
import Derived.DataShut
import Derived.Attr
import Derived.Laws.IdiomRangeMap
import Derived.Recover
import Derived.Test.YtjeaaoohokkgmaaGreatAmPart2
/- AM, part 17g: a region that begins with a select of one case, with a default. -/
namespace AM
open Go
open Go.Conc (G solo)
set_option linter.unusedVariables false
set_option linter.unusedSimpArgs false
set_option linter.unusedSectionVars false

section
variable {P : Program}

theorem wp_region_sel {ops : Array Oper} {o : Oper} {r : List Oper} {id : Nat} {Q : Exit → Act → World → Prop} {a : Act} {w w' : World} {cases : Array CommCase} {v : Value}
    (hops : ops.toList = o :: r) (hg : o.guard = none) (hrun : (execOp a.eval o).run P w = .ok (.comm cases false .select) w)
    (hstep : ∀ (fr : Frame) (cs : List Frame) (es : Array Event), stepG P true (G fr cs) w = .comm (G fr cs) cases false .select w es → step P (solo (G fr cs) w) = .next (solo (G (fr.finish v) cs) w'))
    (hrest : wpList P ops Q r (a.put o.dst v) w') : (Code.region id ops false).wp P Q a w := by
  intro b k cs
  have hj : ∀ j, (o :: r)[j]? = ops[j]? := fun j => by rw [← hops, Array.getElem?_toList]
  have h0 : ops[0]? = some o := (hj 0).symm
  have hsize : ops.size = r.length + 1 := by rw [← Array.length_toList, hops]; rfl
  have hrange : List.range ops.size = 0 :: List.range' 1 r.length := by rw [hsize, List.range_eq_range', List.range'_succ]
  have hw : wpOps P ops Q (List.range' 1 r.length) (a.put o.dst v) w' := by
    rw [wpOps_eq_wpList r 1 (fun j => by have := hj (j + 1); simpa [Nat.add_comm] using this)]
    exact hrest
  obtain ⟨e, a', w2, hq, harr⟩ := wp_ops _ _ _ hw b k cs
  refine ⟨e, a', w2, hq, .of_steps (.head step_region ?_) harr⟩
  rw [hrange]
  refine .one ?_
  have hwant : Region.wanted o (yielded ops a.tmps) = true := by simp [Region.wanted, hg]
  have hst := stepG_op (P := P) (b := b) (k := k) (cs := cs) (w := w) (rest := List.range' 1 r.length) h0 hwant
  have hfin : (b.at a (.inRegion ops (0 :: List.range' 1 r.length) :: k)).finish v = b.at (a.put o.dst v) (.inRegion ops (List.range' 1 r.length) :: k) := by
    rw [Frame.finish_at, h0]; rfl
  have hcomm : ∃ es, stepG P true (G (b.at a (.inRegion ops (0 :: List.range' 1 r.length) :: k)) cs) w = .comm (G (b.at a (.inRegion ops (0 :: List.range' 1 r.length) :: k)) cs) cases false .select w es := by
    have hb : (stepG P true (G (b.at a (.inRegion ops (0 :: List.range' 1 r.length) :: k)) cs) w).bare = .comm (G (b.at a (.inRegion ops (0 :: List.range' 1 r.length) :: k)) cs) cases false .select w #[] := by
      show (stepG P true { frame := b.at a (.inRegion ops (0 :: List.range' 1 r.length) :: k), callers := cs, status := .running, dying := none } w).bare = _
      rw [hst]
      simp [stepG.apply, hrun, G]
    generalize stepG P true (G (b.at a (.inRegion ops (0 :: List.range' 1 r.length) :: k)) cs) w = s at hb
    cases s <;> simp [GStep.bare] at hb
    rename_i es
    obtain ⟨rfl, rfl, rfl, rfl, rfl⟩ := hb
    exact ⟨es, rfl⟩
  obtain ⟨es, hcomm⟩ := hcomm
  have := hstep _ _ es hcomm
  rw [hfin] at this
  exact this

open Slots in
/-- What a select of one case comes to. -/
theorem sel_step {σ : Type} [Slots σ] {ι : Map} {h : Heap} {w : World} {S : σ} {n : Nat} {a : Act} (hr : HR ι h.o w) (hs : SR ι S n a.tmps h.o.length) {o : Oper} {c : SelectCase} (ho : o.op = .select #[c] false) {ch : Opd} {snd : Option Opd} {z : V}
    (hch : trOpd c.chan = some ch) (hsnd : trOpt c.send = some snd) (hz : zeroOf P c.elem = some z) {v : V} {h1 : Heap} (he : selA snd ch z S h = some (v, h1)) :
    ∃ cases w', (execOp a.eval o).run P w = .ok (.comm cases false .select) w ∧ Nx ι h w ι h1 w' ∧ v.sc h1.o.length ∧
      ∀ (fr : Frame) (cs : List Frame) (es : Array Event), stepG P true (G fr cs) w = .comm (G fr cs) cases false .select w es → step P (solo (G fr cs) w) = .next (solo (G (fr.finish (v.real ι)) cs) w') := by
  obtain ⟨z1, z2⟩ := zero_run (ι := ι) hz w
  unfold selA at he
  split at he
  · rename_i l hl
    split at he
    · rename_i cap buf hob
      obtain ⟨s, r, hb⟩ := hr.obj l _ hob
      have hrun : (execOp a.eval o).run P w = .ok (.comm #[{ chan := .chan (some (ι l).blk), send := c.send.map a.eval, zero := z.real ι }] false .select) w := by
        have hev := ev_ok hs hch
        rw [hl] at hev
        simp only [execOp, ho, List.mapM_toArray, List.mapM_cons, List.mapM_nil, Sem.run_bind, Sem.run_pure, hev, V.real]
        simp [z1]
      have hlen : (V.reals ι buf).toArray.size = buf.length := by simp [V.reals_eq]
      split at he
      · rename_i x
        cases hcs : c.send with
        | none => rw [hcs] at hsnd; simp [trOpt] at hsnd
        | some y =>
          rw [hcs] at hsnd
          simp only [trOpt, Option.map_eq_some_iff, Option.some.injEq] at hsnd
          obtain ⟨x', hx, rfl⟩ := hsnd
          rw [hcs] at hrun
          simp only [Option.map_some, ev_ok hs hx] at hrun
          split at he
          · rename_i hroom
            simp only [Option.some.injEq, Prod.mk.injEq] at he
            obtain ⟨rfl, rfl⟩ := he
            refine ⟨_, w.setChan (ι l).blk cap ((V.reals ι buf).toArray.push ((x'.ev S).real ι)) false (s + 1) r false, hrun, ?_, by simp [V.sc, V.scs], fun fr cs es hh => ?_⟩
            · refine Nx.upd hr hob rfl (o' := .chan cap (buf ++ [x'.ev S])) rfl _ _ rfl rfl rfl (by simp [World.setChan]) (fun b hbb => by simp only [World.setChan]; rw [Array.getElem?_setIfInBounds_ne (Ne.symm hbb)]) ?_ ?_ ?_ (Nat.min_le_left _ _) (Nat.min_le_right _ _) ?_
              · refine ⟨s + 1, r, ?_⟩
                have hlt := (hr.obj l _ hob).lt rfl
                rw [Go.Conc.heap_setChan _ _ _ _ _ _ _ _ hlt]
                simp [V.reals_eq]
              · exact scs_append.2 ⟨hr.sc l _ hob, ev_sc hs hx, trivial⟩
              · split <;> omega
              · by_cases hp : (x'.ev S).plain = true
                · exact .inr fun n hn => scs_append.2 ⟨hn, V.sc_of_plain n _ hp, trivial⟩
                · rw [if_neg hp]
                  exact .inl (Nat.min_le_right _ _)
            · exact Go.Conc.step_lone_select_send_room (z' := z.real ι) hh hb (by rw [hlen]; exact hroom)
          · rename_i hroom
            simp only [Option.some.injEq, Prod.mk.injEq] at he
            obtain ⟨rfl, rfl⟩ := he
            exact ⟨_, w, hrun, Nx.refl hr, by simp [V.sc, V.scs], fun fr cs es hh => Go.Conc.step_lone_select_send_full (z' := z.real ι) hh hb (by rw [hlen]; omega)⟩
      · cases hcs : c.send with
        | some y => rw [hcs] at hsnd; simp [trOpt] at hsnd
        | none =>
          rw [hcs] at hrun
          simp only [Option.map_none] at hrun
          split at he
          · simp only [Option.some.injEq, Prod.mk.injEq] at he
            obtain ⟨rfl, rfl⟩ := he
            exact ⟨_, w, hrun, Nx.refl hr, ⟨trivial, trivial, V.sc_of_plain _ _ z2, trivial⟩, fun fr cs es hh => Go.Conc.step_lone_select_default (z := z.real ι) hh hb⟩
          · rename_i v0 rr
            simp only [Option.some.injEq, Prod.mk.injEq] at he
            obtain ⟨rfl, rfl⟩ := he
            have hsc := hr.sc l _ hob
            refine ⟨_, w.setChan (ι l).blk cap ((V.reals ι (v0 :: rr)).toArray.extract 1 (V.reals ι (v0 :: rr)).toArray.size) false s (r + 1) false, hrun, ?_, ?_, fun fr cs es hh => ?_⟩
            · refine Nx.upd hr hob rfl (o' := .chan cap rr) rfl _ _ rfl rfl rfl (by simp [World.setChan]) (fun b hbb => by simp only [World.setChan]; rw [Array.getElem?_setIfInBounds_ne (Ne.symm hbb)]) ?_ hsc.2 (Nat.le_refl _) (Nat.min_le_left _ _) (Nat.min_le_right _ _) (.inr fun n hn => hn.2)
              refine ⟨s, r + 1, ?_⟩
              have hlt := (hr.obj l _ hob).lt rfl
              rw [Go.Conc.heap_setChan _ _ _ _ _ _ _ _ hlt]
              simp [V.reals]
            · simp only [List.length_set]
              exact ⟨trivial, trivial, hsc.1, trivial⟩
            · have := Go.Conc.step_lone_select_recv_buf (z := z.real ι) hh hb (by simp [V.reals])
              rw [this]
              simp [V.real, V.reals, goInt]
    · cases he
  · cases he
end
end AM

/- AM, part 18: regions, code, calls. -/
namespace AM
open Go
set_option linter.unusedVariables false
set_option linter.unusedSimpArgs false
set_option linter.unusedSectionVars false

section
variable {P : Program} {σ : Type} [Slots σ]

theorem execOps_ok {call : CallF} (hcall : CallOk P call) {n : Nat} {ops : Array Oper} {ds : List Deferred} {x : Ex} {S' : σ} {h' : Heap} {Q : Exit → Act → World → Prop} : ∀ {ol : List Oper} {l : List AO} {S : σ} {h : Heap} {ι : Map} {w : World} {a : Act},
    trOpers P n ops ol = some l → HR ι h.o w → SR ι S n a.tmps h.o.length → a.defers = ds → execOps call l S h = some (x, S', h') → (∀ e a' w', Post ι h w n ds x S' h' e a' w' → Q e a' w') → wpList P ops Q ol a w
  | [], l, S, h, ι, w, a, htr, hr, hs, hd, he, hQ => by
    simp only [trOpers, Option.some.injEq] at htr
    subst htr
    simp only [execOps, Option.some.injEq, Prod.mk.injEq] at he
    obtain ⟨rfl, rfl, rfl⟩ := he
    exact hQ _ _ _ ⟨ι, Nx.refl hr, hs, hd, rfl⟩
  | o :: ol, l, S, h, ι, w, a, htr, hr, hs, hd, he, hQ => by
    simp only [trOpers] at htr
    split at htr
    · rename_i ao l' hao hl'
      simp only [Option.some.injEq] at htr
      subst htr
      obtain ⟨h1, h2, h3, h4⟩ := trOper_inv hao
      have hw := wanted_ok hs h2
      simp only [execOps] at he
      unfold wpList
      rw [hw]
      split at he
      · rename_i hwt
        rw [if_pos hwt]
        refine .inl ?_
        cases hst : stepA call ao.op S h with
        | none => rw [hst] at he; simp at he
        | some r =>
          obtain ⟨out, oh⟩ := r
          rw [hst] at he
          refine oper_ok hcall hr hs h1 h4 hst (fun v hv κ w' hn hsr => ?_) (fun v hv κ w' hn hsc => ?_)
          · subst hv
            have he' : execOps call l' (putO S ao.d v) (oh.getD h) = some (x, S', h') := by
              cases oh with
              | none => exact he
              | some h2 => exact he
            rw [← h3] at he'
            exact execOps_ok hcall (ds := ds) hl' hn.hr hsr (by rw [put_defers']; exact hd) he' (fun e a' w' hp => hQ _ _ _ (Post.trans hn hp))
          · subst hv
            have he' : x = .pan v ∧ S' = S ∧ h' = oh.getD h := by
              cases oh with
              | none => simp only [Option.some.injEq, Prod.mk.injEq] at he; obtain ⟨rfl, rfl, rfl⟩ := he; exact ⟨rfl, rfl, rfl⟩
              | some h2 => simp only [Option.some.injEq, Prod.mk.injEq] at he; obtain ⟨rfl, rfl, rfl⟩ := he; exact ⟨rfl, rfl, rfl⟩
            obtain ⟨rfl, rfl, rfl⟩ := he'
            exact hQ _ _ _ ⟨κ, hn, hs.mono hn.ag hn.len, hd, rfl, hsc⟩
      · rename_i hwt
        rw [if_neg hwt]
        rw [← h3] at he
        have hsr := hs.put (v := undefV) trivial h4
        rw [undef_real] at hsr
        exact execOps_ok hcall hl' hr hsr (by rw [put_defers']; exact hd) he hQ
    · simp at htr

/-- Dead objects behind. -/
theorem deads_nx {ι : Map} {h : Heap} {w w1 : World} (hn : Nx ι h w ι h w1) (m : Nat) : Nx ι h w ι (Rg.H0 h m) w1 := by
  have look : ∀ (l : Nat) (o : Obj), (h.o ++ List.replicate m Obj.dead)[l]? = some o → o.live = true → h.o[l]? = some o := by
    intro l o hl ho
    rw [List.getElem?_append] at hl
    split at hl
    · exact hl
    · rw [List.getElem?_replicate] at hl
      split at hl
      · simp only [Option.some.injEq] at hl; subst hl; cases ho
      · cases hl
  have owns : ∀ b, Own ι (h.o ++ List.replicate m Obj.dead) b → Own ι h.o b := fun b ⟨l, o, hl, ho, hb⟩ => ⟨l, o, look l o hl (Obj.live_of_own ho), ho, hb⟩
  refine ⟨⟨fun l o hl => ?_, fun l l' o o' hne hl hl' ho ho' => hn.hr.apart l l' o o' hne (look l o hl (Obj.live_of_own ho)) (look l' o' hl' ho') ho ho', fun l o hl => ?_⟩, Agree.refl _ _, by simp [Rg.H0], ⟨hn.fr.os, hn.fr.tape, hn.fr.output, hn.fr.size, hn.fr.keep, fun b hb hb' hc => hb' (owns b hc)⟩, fun l n hl he h0 o ho => ?_, ⟨Nat.le_refl _, Nat.le_refl _⟩, fun l hl _ => List.getElem?_append_left hl, fun l o hl h1 h2 => look l o hl h1⟩
  · cases hlive : o.live with
    | false => cases o <;> simp_all [Obj.live, OR]
    | true => exact hn.hr.obj l o (look l o hl hlive)
  · cases hlive : o.live with
    | false => cases o <;> simp_all [Obj.live, Obj.sc]
    | true => exact Obj.sc_mono (by simp [Rg.H0]) (hn.hr.sc l o (look l o hl hlive))
  · simp only [Rg.H0] at ho
    rw [List.getElem?_append_left hl] at ho
    exact h0 o ho

theorem fH_none : ∀ {T : List (En σ)} {H : Heap}, fH (fun _ => false) T H = H
  | [], _ => rfl
  | e :: T, H => by simp only [fH, Bool.false_eq_true, if_false]; exact fH_none
theorem fS_none : ∀ {T : List (En σ)} {S : σ}, fS (fun _ => false) T S = S
  | [], _ => rfl
  | e :: T, H => by simp only [fS, Bool.false_eq_true, if_false]; exact fS_none

theorem doOf_o {aos : List AO} {es : List (List Nat)} : ∀ {L : List (Row × DO)} {acc : List Row}, GD aos es acc L → ∀ q ∈ L, q.2.o = q.1.o
  | [], _, _, q, hq => by cases hq
  | p :: L, acc, h, q, hq => by
    rcases List.mem_cons.1 hq with rfl | hq
    · rw [h.1.x]; rfl
    · exact doOf_o h.2 q hq

theorem draw_any {call : CallF} (hcall : CallOk P call) (hm : P.follows .mixedOrders = true) {n : Nat} {ds : List Deferred} {id : Nat} {ops : Array Oper} {aos : List AO} (haos : trOpers P n ops ops.toList = some aos) {L : List (Row × DO)}
    (hgd : GD aos (ops.toList.map depsOf) [] L) {m : Nat} (hpl : ∀ q ∈ L, plLt m q.1.pl = true) {S : σ} {hx : Heap} {ι : Map} {w : World} {a : Act} (hr : HR ι hx.o w) (hs : SR ι S n a.tmps hx.o.length) (hd : a.defers = ds) (he : m ≠ 0 → hx.o.length ≤ hx.e)
    {S' : σ} {h' : Heap} (hex : execD call hx.o.length m (L.map (·.2)) S (Rg.H0 hx m) = some (S', h')) {Q : Exit → Act → World → Prop}
    (hQ : ∀ κ a' w', Nx ι hx w κ h' w' → SR κ S' n a'.tmps h'.o.length → a'.defers = ds → Q .normal a' w') : (Code.region id ops true).wp P Q a w := by
  refine wp_region_any hm ?_
  obtain ⟨T, hT, hch, hS, hH⟩ := execD_trace (doOf_o hgd) hex
  have R : Rg P call n ops aos T S hx m := by
    refine ⟨haos, by rw [hT]; exact hgd, hch, fun e he k hk => ?_, he, hs.sc⟩
    have := hpl (e.row, e.x) (by rw [← hT]; exact List.mem_map_of_mem (f := fun e : En σ => (e.row, e.x)) he)
    simp only [hk, plLt, decide_eq_true_eq] at this
    exact this
  have hf : (fun i => (Array.replicate ops.size false).getD i false) = (fun _ => false) := by
    funext i
    rw [Array.getD_eq_getD_getElem?, Array.getElem?_replicate]
    split <;> rfl
  refine R.all hcall (ι := ι) (w0 := w) (ds := ds) (fun l o hl => hr.sc l o hl) ?_ ops.size _ a _ (by simp) (by rw [Array.toList_replicate, List.count_replicate]; simp) ?_ ?_
  · rintro a' w' ⟨κ, h1, h2, h3⟩
    rw [hH] at h1 h2
    rw [hS] at h2
    exact hQ κ a' w' h1 h2 h3
  · rw [hf]; intro e _ hc; cases hc
  · rw [hf]
    refine ⟨ι, ?_, ?_, hd⟩
    · rw [fH_none]
      exact deads_nx (Nx.drew (w' := { w with drawn := w.drawn + 1 }) hr rfl rfl rfl rfl) m
    · rw [fH_none, fS_none]
      exact hs.mono (Agree.refl _ _) (by simp [Rg.H0])

theorem draw_ok {call : CallF} (hcall : CallOk P call) (hm : P.follows .mixedOrders = true) {n : Nat} {ds : List Deferred} {id : Nat} {ops : Array Oper} {ac : AC} {S : σ} {h : Heap} {ι : Map} {w : World} {a : Act} {x : Ex} {S' : σ} {h' : Heap} {k : Nat}
    (htr : drawT P n ops = some ac) (hr : HR ι h.o w) (hs : SR ι S n a.tmps h.o.length) (hd : a.defers = ds) (he : exec call (k + 1) ac S h = some (x, S', h')) : (Code.region id ops true).wp P (Post ι h w n ds x S' h') a w := by
  unfold drawT at htr
  split at htr
  · rename_i aos haos
    split at htr
    · rename_i L hL
      split at htr
      · rename_i hpl
        simp only [Option.some.injEq] at htr
        subst htr
        have hgd := goD_ok hL
        have hpl' := fun q hq => List.all_eq_true.1 hpl q hq
        simp only [exec, drawA] at he
        split at he
        · rename_i hm0
          split at he
          · rename_i S1 h1 hex
            simp only [Option.some.injEq, Prod.mk.injEq] at he
            obtain ⟨rfl, rfl, rfl⟩ := he
            have hH0 : Rg.H0 h 0 = h := by simp [Rg.H0]
            rw [hm0] at hpl'
            exact draw_any hcall hm haos hgd hpl' hr hs hd (fun h => absurd rfl h) (by rw [hH0]; exact hex) fun κ a' w' h1 h2 h3 => ⟨κ, h1, h2, h3, rfl⟩
          · cases he
        · split at he
          · rename_i S1 h1 hex
            simp only [Option.some.injEq, Prod.mk.injEq] at he
            obtain ⟨rfl, rfl, rfl⟩ := he
            refine draw_any hcall hm haos hgd hpl' (hx := ⟨h.o, h.o.length, h.o.length⟩) hr hs hd (fun _ => Nat.le_refl _) hex fun κ a' w' hn h2 h3 => ⟨κ, ⟨hn.hr, hn.ag, hn.len, hn.fr, fun l n hl he h0 o ho => ?_, ⟨Nat.min_le_left _ _, Nat.min_le_left _ _⟩, fun l hl hd => ?_, hn.ro⟩, h2, h3, rfl⟩
            · simp only at he ho
              exact hn.cl l n hl (by omega) h0 o ho
            · simp only at hd
              exact hn.un l hl (by omega)
          · cases he
      · cases htr
    · cases htr
  · cases htr

theorem sel_ok {call : CallF} (hcall : CallOk P call) {n : Nat} {ds : List Deferred} {k id : Nat} {ops : Array Oper} {ac : AC} {S : σ} {h : Heap} {ι : Map} {w : World} {a : Act} {x : Ex} {S' : σ} {h' : Heap}
    (htr : selT P n ops = some ac) (hr : HR ι h.o w) (hs : SR ι S n a.tmps h.o.length) (hd : a.defers = ds) (he : exec call (k + 1) ac S h = some (x, S', h')) : (Code.region id ops false).wp P (Post ι h w n ds x S' h') a w := by
  unfold selT at htr
  split at htr
  · rename_i o r hops
    split at htr
    · rename_i cs hop
      split at htr
      · rename_i c hcs
        split at htr
        · rename_i hcond
          obtain ⟨hg, hdst⟩ := hcond
          split at htr
          · rename_i ch snd z l hch hsnd hz hl
            simp only [Option.some.injEq] at htr
            subst htr
            have hcs' : cs = #[c] := by
              apply Array.ext'
              simpa using hcs
            subst hcs'
            simp only [exec] at he
            split at he
            · rename_i v h1 hsel
              obtain ⟨cases, w1, hrun, hn, hv, hstep⟩ := sel_step hr hs hop hch hsnd hz hsel
              have hs1 : SR ι S n a.tmps h1.o.length := hs.mono (Agree.refl _ _) hn.len
              have hs2 := SR.put hs1 hv (d := o.dst) (fun i hi => by rw [hi] at hdst; simpa [dstLt] using hdst)
              exact wp_region_sel hops hg hrun hstep (execOps_ok hcall hl hn.hr hs2 (by rw [put_defers']; exact hd) he (fun e a' w' hp => Post.trans hn hp))
            · cases he
          · cases htr
        · cases htr
      · cases htr
    · cases htr
  · cases htr

theorem exec_ok {call : CallF} (hcall : CallOk P call) (hm : P.follows .mixedOrders = true) {n : Nat} {ds : List Deferred} : ∀ (k : Nat) {c : Code} {ac : AC} {S : σ} {h : Heap} {ι : Map} {w : World} {a : Act} {x : Ex} {S' : σ} {h' : Heap},
    trCode P n c = some ac → HR ι h.o w → SR ι S n a.tmps h.o.length → a.defers = ds → exec call k ac S h = some (x, S', h') → c.wp P (Post ι h w n ds x S' h') a w
  | 0, c, ac, S, h, ι, w, a, x, S', h', htr, hr, hs, hd, he => by simp [exec] at he
  | k + 1, c, ac, S, h, ι, w, a, x, S', h', htr, hr, hs, hd, he => by
    cases c with
    | skip =>
      simp only [trCode, Option.some.injEq] at htr; subst htr
      simp only [exec, Option.some.injEq, Prod.mk.injEq] at he
      obtain ⟨rfl, rfl, rfl⟩ := he
      exact wp_skip ⟨ι, Nx.refl hr, hs, hd, rfl⟩
    | label l =>
      simp only [trCode, Option.some.injEq] at htr; subst htr
      simp only [exec, Option.some.injEq, Prod.mk.injEq] at he
      obtain ⟨rfl, rfl, rfl⟩ := he
      exact wp_label ⟨ι, Nx.refl hr, hs, hd, rfl⟩
    | ret =>
      simp only [trCode, Option.some.injEq] at htr; subst htr
      simp only [exec, Option.some.injEq, Prod.mk.injEq] at he
      obtain ⟨rfl, rfl, rfl⟩ := he
      exact wp_ret ⟨ι, Nx.refl hr, hs, hd, rfl⟩
    | exit id =>
      simp only [trCode, Option.some.injEq] at htr; subst htr
      simp only [exec, Option.some.injEq, Prod.mk.injEq] at he
      obtain ⟨rfl, rfl, rfl⟩ := he
      exact wp_exit ⟨ι, Nx.refl hr, hs, hd, rfl⟩
    | region id ops d =>
      simp only [trCode] at htr
      cases d with
      | true =>
        simp only [if_true] at htr
        exact draw_ok hcall hm htr hr hs hd he
      | false =>
        simp only [Bool.false_eq_true, if_false] at htr
        split at htr
        · rename_i c0 hsel
          simp only [Option.some.injEq] at htr
          subst htr
          exact sel_ok hcall hsel hr hs hd he
        · simp only [Option.map_eq_some_iff] at htr
          obtain ⟨l, hl, rfl⟩ := htr
          simp only [exec, Bool.false_eq_true, if_false] at he
          exact wp_region_list (execOps_ok hcall hl hr hs hd he (fun e a' w' hp => hp))
    | seq c1 c2 =>
      simp only [trCode] at htr
      split at htr
      · rename_i a1 a2 h1 h2
        simp only [Option.some.injEq] at htr; subst htr
        simp only [exec] at he
        apply wp_seq
        split at he
        · rename_i S1 hp1 he1
          refine wp_mono (exec_ok hcall hm k h1 hr hs hd he1) ?_
          rintro e a' w' ⟨κ, hn, hs', hd', rfl⟩
          exact wp_mono (exec_ok hcall hm k h2 hn.hr hs' hd' he) (fun e a w hp => Post.trans hn hp)
        · rename_i hne
          refine wp_mono (exec_ok hcall hm k h1 hr hs hd he) ?_
          rintro e a' w' ⟨κ, hn, hs', hd', hx⟩
          cases x with
          | norm => exact (hne _ _ he).elim
          | exit id => subst hx; exact ⟨κ, hn, hs', hd', rfl⟩
          | ret => subst hx; exact ⟨κ, hn, hs', hd', rfl⟩
          | pan v => obtain ⟨rfl, hv⟩ := hx; exact ⟨κ, hn, hs', hd', rfl, hv⟩
      · simp at htr
    | cond o c1 c2 =>
      simp only [trCode] at htr
      split at htr
      · rename_i o' a1 a2 ho h1 h2
        simp only [Option.some.injEq] at htr; subst htr
        simp only [exec] at he
        have hev := ev_ok hs ho
        split at he
        · rename_i hb
          rw [hb] at hev
          exact wp_cond (t := true) hev (by simp only [if_true]; exact exec_ok hcall hm k h1 hr hs hd he)
        · rename_i hb
          rw [hb] at hev
          exact wp_cond (t := false) hev (by simp only [Bool.false_eq_true, if_false]; exact exec_ok hcall hm k h2 hr hs hd he)
        · simp at he
      · simp at htr
    | block id c =>
      simp only [trCode, Option.map_eq_some_iff] at htr
      obtain ⟨a1, h1, rfl⟩ := htr
      simp only [exec] at he
      apply wp_block
      split at he
      · rename_i i S1 hp1 he1
        refine wp_mono (exec_ok hcall hm k h1 hr hs hd he1) ?_
        rintro e a' w' ⟨κ, hn, hs', hd', rfl⟩
        simp only [Exit.inBlock]
        split at he
        · rename_i hi
          simp only [Option.some.injEq, Prod.mk.injEq] at he
          obtain ⟨rfl, rfl, rfl⟩ := he
          rw [if_pos hi]
          exact ⟨κ, hn, hs', hd', rfl⟩
        · rename_i hi
          simp only [Option.some.injEq, Prod.mk.injEq] at he
          obtain ⟨rfl, rfl, rfl⟩ := he
          rw [if_neg hi]
          exact ⟨κ, hn, hs', hd', rfl⟩
      · rename_i hne
        refine wp_mono (exec_ok hcall hm k h1 hr hs hd he) ?_
        rintro e a' w' ⟨κ, hn, hs', hd', hx⟩
        cases x with
        | norm => subst hx; exact ⟨κ, hn, hs', hd', rfl⟩
        | exit id => exact (hne _ _ _ he).elim
        | ret => subst hx; exact ⟨κ, hn, hs', hd', rfl⟩
        | pan v => obtain ⟨rfl, hv⟩ := hx; exact ⟨κ, hn, hs', hd', rfl, hv⟩
    | loop c =>
      simp only [trCode, Option.map_eq_some_iff] at htr
      obtain ⟨a1, h1, rfl⟩ := htr
      refine wp_loop_ghost (fun m a' w' => m ≤ k + 1 ∧ ∃ (S1 : σ) (h2 : Heap) (κ : Map), Nx ι h w κ h2 w' ∧ SR κ S1 n a'.tmps h2.o.length ∧ a'.defers = ds ∧ exec call m (.loop a1) S1 h2 = some (x, S', h')) (k + 1) ⟨Nat.le_refl _, S, h, ι, Nx.refl hr, hs, hd, he⟩ ?_
      rintro m a' w' ⟨hmk, S1, h2, κ, hn, hs1, hd1, he1⟩
      cases m with
      | zero => simp [exec] at he1
      | succ m =>
        simp only [exec] at he1
        split at he1
        · rename_i S2 h3 he2
          refine wp_mono (exec_ok hcall hm m h1 hn.hr hs1 hd1 he2) ?_
          rintro e a2 w2 ⟨μ, hn2, hs2, hd2, rfl⟩
          exact ⟨m, Nat.lt_succ_self _, by omega, S2, h3, μ, hn.trans hn2, hs2, hd2, he1⟩
        · rename_i hne
          refine wp_mono (exec_ok hcall hm m h1 hn.hr hs1 hd1 he1) ?_
          rintro e a2 w2 ⟨μ, hn2, hs2, hd2, hx⟩
          cases x with
          | norm => exact (hne _ _ he1).elim
          | exit id => subst hx; exact ⟨μ, hn.trans hn2, hs2, hd2, rfl⟩
          | ret => subst hx; exact ⟨μ, hn.trans hn2, hs2, hd2, rfl⟩
          | pan v => obtain ⟨rfl, hv⟩ := hx; exact ⟨μ, hn.trans hn2, hs2, hd2, rfl, hv⟩
    | scope c =>
      simp only [trCode, Option.map_eq_some_iff] at htr
      obtain ⟨a1, h1, rfl⟩ := htr
      simp only [exec] at he
      apply wp_scope_straight
      refine wp_mono (exec_ok hcall hm k h1 hr hs hd he) ?_
      rintro e a' w' ⟨κ, hn, hs', hd', hx⟩
      cases x with
      | norm => subst hx; exact ⟨κ, hn, hs', hd', rfl⟩
      | exit id => subst hx; exact ⟨κ, hn, hs', hd', rfl⟩
      | ret => subst hx; exact ⟨κ, hn, hs', hd', rfl⟩
      | pan v => obtain ⟨rfl, hv⟩ := hx; exact ⟨κ, hn, hs', hd', rfl, hv⟩
    | rangeFunc _ _ _ _ => simp [trCode] at htr
    | goto l => simp [trCode] at htr
    | refuse _ =>
      simp only [trCode, Option.some.injEq] at htr; subst htr
      simp [exec, Opd.ev] at he
termination_by k => k


/-! Calls -/

theorem results_ok {ι : Map} {h : Heap} {w : World} {S : σ} {n : Nat} {tmps : Array Value} (hr : HR ι h.o w) (hs : SR ι S n tmps h.o.length) (f : ResultVar → Sem Value) (hf1 : ∀ t, f (.tmp t) = pure (tmps.getD t undef)) (hf2 : ∀ a t, f (.cell a t) = (do loadVar t (← asAddr (tmps.getD a undef)))) : ∀ {rvs : List ResultVar} {res : List RV} {vs : List V}, trRes P rvs = some res → resAll S h res = some vs →
    (rvs.mapM (m := Sem) f).run P w = .ok (V.reals ι vs) w ∧ V.scs h.o.length vs
  | [], res, vs, ht, hv => by
    simp only [trRes, Option.some.injEq] at ht; subst ht
    simp only [resAll, Option.some.injEq] at hv; subst hv
    exact ⟨by simp [V.reals], trivial⟩
  | .tmp t :: rvs, res, vs, ht, hv => by
    simp only [trRes, Option.map_eq_some_iff] at ht
    obtain ⟨l, hl, rfl⟩ := ht
    simp only [resAll, resOne] at hv
    split at hv
    · rename_i v vs' hv1 hv2
      simp only [Option.some.injEq] at hv hv1; subst hv; subst hv1
      obtain ⟨e1, e2⟩ := results_ok hr hs f hf1 hf2 hl hv2
      refine ⟨?_, hs.sc t, e2⟩
      rw [List.mapM_cons, hf1]
      simp only [Sem.run_bind, Sem.run_pure, Result.andThen_ok, e1, hs.val, V.reals]
    · simp at hv
  | .cell a t :: rvs, res, vs, ht, hv => by
    simp only [trRes] at ht
    split at ht
    · rename_i par l hp hl
      simp only [Option.some.injEq] at ht; subst ht
      simp only [resAll] at hv
      split at hv
      · rename_i v vs' hv1 hv2
        simp only [Option.some.injEq] at hv; subst hv
        obtain ⟨e1, e2⟩ := results_ok hr hs f hf1 hf2 hl hv2
        simp only [resOne] at hv1
        split at hv1
        · rename_i l0 o0 hg
          obtain ⟨k1, k2⟩ := load_ok hp hr (l := l0) (o := o0) (v := v) (by cases par with | none => exact hv1 | some m => exact hv1)
          have hva := hs.val a
          rw [hg] at hva
          refine ⟨?_, k1, e2⟩
          rw [List.mapM_cons, hf2, hva]
          have hasa : ∀ q, (asAddr (.pointer (some q))).run P w = .ok q w := fun _ => rfl
          simp only [Sem.run_bind, Sem.run_pure, V.real, hasa, Result.andThen_ok, k2, e1, V.reals]
        · simp at hv1
      · simp at hv
    · simp at ht

theorem resV_ok {ι : Map} {N : Nat} {vs : List V} (hs : V.scs N vs) : (resV vs).sc N ∧ (resV vs).real ι = (if h : (V.reals ι vs).toArray.size = 1 then (V.reals ι vs).toArray[0] else .tuple (V.reals ι vs).toArray) := by
  match vs with
  | [] => exact ⟨trivial, rfl⟩
  | [v] => exact ⟨hs.1, rfl⟩
  | v :: u :: r => exact ⟨hs, by simp [resV, V.real, V.reals]⟩

theorem results_run {ι : Map} {h : Heap} {w : World} {S : σ} {n : Nat} {tmps : Array Value} (hr : HR ι h.o w) (hs : SR ι S n tmps h.o.length) {fn : Func} {res : List RV} {vs : List V} (ht : trRes P fn.results.toList = some res) (hv : resAll S h res = some vs) :
    (results fn tmps).run P w = .ok ((resV vs).real ι) w ∧ (resV vs).sc h.o.length := by
  have key := fun f hf1 hf2 => (results_ok (P := P) hr hs f hf1 hf2 ht hv)
  have e2 := (key (fun | .tmp t => pure (tmps.getD t undef) | .cell a t => do loadVar t (← asAddr (tmps.getD a undef))) (fun _ => rfl) (fun _ _ => rfl)).2
  obtain ⟨e3, e4⟩ := resV_ok (ι := ι) e2
  refine ⟨?_, e3⟩
  rw [e4]
  unfold results
  rw [Array.mapM_eq_mapM_toList]
  simp only [Sem.run_bind, Sem.run_map]
  rw [(key _ (fun _ => rfl) (fun _ _ => rfl)).1]
  simp only [Result.andThen_ok, Sem.run_pure]

/-- What a call leaves. -/
theorem leave_ok {ι κ : Map} {h h' : Heap} {w w' : World} (hr : HR ι h.o w) (hn : Nx ι (enter h) w κ h' w') {v : V} (hv : v.sc h'.o.length) : Nx ι h w κ ((leave h h' v).getD h) w' ∧ v.sc ((leave h h' v).getD h).o.length := by
  have hlen : h.o.length ≤ h'.o.length := hn.len
  have hed1 : h'.e ≤ h.o.length := hn.ed.1
  have hed2 : h'.d ≤ h.o.length := hn.ed.2
  unfold leave
  split
  · rename_i hc
    obtain ⟨hce, hcp⟩ := hc
    have tk : ∀ (l : Nat) (o : Obj), (h'.o.take h.o.length)[l]? = some o → l < h.o.length ∧ h'.o[l]? = some o := by
      intro l o hl
      rw [List.getElem?_take] at hl
      split at hl
      · exact ⟨by assumption, hl⟩
      · simp at hl
    have tkl : (h'.o.take h.o.length).length = h.o.length := by simp; omega
    have hr2 : HR κ (h'.o.take h.o.length) w' := by
      refine ⟨fun l o hl => hn.hr.obj l o (tk l o hl).2, fun l l' o o' hne hl hl' ho ho' => hn.hr.apart l l' o o' hne (tk l o hl).2 (tk l' o' hl').2 ho ho', fun l o hl => ?_⟩
      rw [tkl]
      obtain ⟨h1, h2⟩ := tk l o hl
      exact hn.cl l h.o.length h1 (Nat.lt_of_lt_of_le h1 hce) (fun o ho => hr.sc l o ho) o h2
    have hfr : Fr ι h.o w κ (h'.o.take h.o.length) w' := ⟨hn.fr.os, hn.fr.tape, hn.fr.output, hn.fr.size, hn.fr.keep, fun b hb hb' ⟨l, o, hl, ho, hbl⟩ => hn.fr.own b hb hb' ⟨l, o, (tk l o hl).2, ho, hbl⟩⟩
    split
    · rename_i hcd
      have heq : h'.o.take h.o.length = h.o := by
        apply List.ext_getElem?
        intro l
        rw [List.getElem?_take]
        split
        · rename_i hl
          exact hn.un l hl (Nat.lt_of_lt_of_le hl hcd)
        · rename_i hl
          rw [List.getElem?_eq_none (by omega)]
      rw [heq] at hr2 hfr
      exact ⟨⟨hr2, hn.ag, Nat.le_refl _, hfr, fun _ _ _ _ h => h, ⟨Nat.le_refl _, Nat.le_refl _⟩, fun _ _ _ => rfl, fun _ _ h _ _ => h⟩, V.sc_of_plain _ _ hcp⟩
    · refine ⟨⟨hr2, hn.ag, by show h.o.length ≤ _; simp only [Option.getD_some]; omega, hfr, fun l n hl he h0 o ho => ?_, ⟨Nat.le_refl _, Nat.min_le_left _ _⟩, fun l hl hd => ?_, fun l o ho h1 h2 => hn.ro l o (tk l o ho).2 h1 h2⟩, V.sc_of_plain _ _ hcp⟩
      · obtain ⟨h1, h2⟩ := tk l o ho
        exact hn.cl l n h1 (Nat.lt_of_lt_of_le h1 hce) h0 o h2
      · simp only [Option.getD_some] at hd ⊢
        rw [List.getElem?_take, if_pos hl]
        exact hn.un l hl (by omega)
  · refine ⟨⟨hn.hr, hn.ag, hlen, hn.fr, fun l n hl he h0 o ho => ?_, ⟨Nat.min_le_left _ _, Nat.min_le_left _ _⟩, fun l hl hd => ?_, fun l o ho h1 h2 => hn.ro l o ho h1 h2⟩, hv⟩
    · simp only [Option.getD_some] at he ho
      exact hn.cl l n hl (by omega) h0 o ho
    · simp only [Option.getD_some] at hd ⊢
      exact hn.un l hl (by omega)

theorem callOk_of {f : Nat} {fn : Func} (hf : P.funcs[f]? = some fn) (hn : (fn.name != "runtime.NumGoroutine") = true) {c : Code} (hb : fn.body = some c) : callOk P f = true := by
  simp [callOk, hf, hn, hb]

theorem initS_SR {ι : Map} {N n : Nat} {args : List V} (hsc : V.scs N args) (hle : args.length ≤ n) : SR ι (initS args) n ((V.reals ι args).toArray ++ Array.replicate (n - (V.reals ι args).toArray.size) undef) N := by
  have hl : (V.reals ι args).length = args.length := by rw [V.reals_eq, List.length_map]
  refine ⟨by simp [hl]; omega, fun i => ?_, fun i => ?_⟩
  · show _ = (initS args i).real ι
    simp only [initS, Array.getD_eq_getD_getElem?, Array.getElem?_append, List.size_toArray, hl, List.getElem?_toArray]
    by_cases hi : i < args.length
    · rw [if_pos hi, V.reals_eq, List.getElem?_map, List.getD_eq_getElem?_getD, List.getElem?_eq_getElem hi]
      rfl
    · rw [if_neg hi, List.getD_eq_getElem?_getD, List.getElem?_eq_none (by omega)]
      simp only [Option.getD_none, undef_real]
      rw [Array.getElem?_replicate]
      split <;> rfl
  · show (initS args i).sc N
    unfold initS
    rw [List.getD_eq_getElem?_getD]
    cases hg : args[i]? with
    | none => trivial
    | some v => exact (V.scs_iff _ _).1 hsc v (List.mem_of_getElem? hg)

/-- Calls, to a depth. -/
theorem callN_ok (hm : P.follows .mixedOrders = true) {F : Nat → Option AF} (hF : ∀ f af, F f = some af → trProg P f = some af) {ext : CallF → Nat → Option (List V → Heap → Option (Out × Option Heap))}
    (hext : ∀ call, CallOk P call → ∀ f g args h out oh, ext call f = some g → g args h = some (out, oh) → callOk P f = true ∧ ∀ ι w, HR ι h.o w → V.scs h.o.length args →
      Calls P f (V.reals ι args).toArray w fun e w' => ∃ κ, Nx ι h w κ (oh.getD h) w' ∧ OutOk κ (oh.getD h).o.length e out) : ∀ k, CallOk P (callN F ext k)
  | 0 => fun f args h out oh he => by simp [callN] at he
  | k + 1 => fun f args h out oh he => by
    have ih := callN_ok hm hF hext k
    simp only [callN] at he
    split at he
    · rename_i g hg
      exact hext _ ih f g args h out oh hg he
    · split at he
      · simp at he
      · rename_i af haf
        have htr := hF f af haf
        unfold trProg at htr
        split at htr
        · rename_i fn hfn
          split at htr
          · rename_i hname
            unfold trFunc at htr
            split at htr
            · rename_i c hb
              split at htr
              · rename_i b r hc hres
                simp only [Option.some.injEq] at htr
                subst htr
                split at he
                · rename_i hle
                  refine ⟨callOk_of hfn hname hb, fun ι w hr hsc => ?_⟩
                  have hs0 := initS_SR (ι := ι) hsc hle
                  cases hex : exec (callN F ext k) k b (initS args) (enter h) with
                  | none => rw [hex] at he; simp [finish] at he
                  | some r =>
                    obtain ⟨x, S', h'⟩ := r
                    rw [hex] at he
                    refine calls_of_wp hfn hb (wp_mono (exec_ok ih hm (ds := []) k hc (h := enter h) hr hs0 rfl hex) ?_)
                    rintro e a' w' ⟨κ, hn, hs', hd', hx⟩
                    have fin : ∀ {vs : List V}, resAll S' h' r = some vs → out = .val (resV vs) → oh = leave h h' (resV vs) → bodyPost P fn (fun e w' => ∃ κ, Nx ι h w κ (oh.getD h) w' ∧ OutOk κ (oh.getD h).o.length e out) .normal a' w' := by
                      intro vs hvs hout hoh
                      subst hout; subst hoh
                      obtain ⟨q1, q2⟩ := results_run hn.hr hs' hres hvs
                      obtain ⟨q3, q4⟩ := leave_ok hr hn q2
                      exact ⟨hd', _, q1, κ, q3, rfl, q4⟩
                    cases x with
                    | norm =>
                      subst hx
                      simp only [finish] at he
                      split at he
                      · rename_i vs hvs
                        simp only [Option.some.injEq, Prod.mk.injEq] at he
                        exact fin hvs he.1.symm he.2.symm
                      · simp at he
                    | ret =>
                      subst hx
                      simp only [finish] at he
                      split at he
                      · rename_i vs hvs
                        simp only [Option.some.injEq, Prod.mk.injEq] at he
                        exact fin hvs he.1.symm he.2.symm
                      · simp at he
                    | exit id => simp [finish] at he
                    | pan v =>
                      obtain ⟨rfl, hv⟩ := hx
                      simp only [finish, Option.some.injEq, Prod.mk.injEq] at he
                      obtain ⟨rfl, rfl⟩ := he
                      obtain ⟨q3, q4⟩ := leave_ok hr hn hv
                      exact ⟨hd', κ, q3, rfl, q4⟩
                · simp at he
              · simp at htr
            · simp at htr
          · simp at htr
        · simp at htr

end
end AM

/- AM, part 18: what calls and code come to, without depths. -/
namespace AM
open Go
set_option linter.unusedVariables false
set_option linter.unusedSimpArgs false
set_option linter.unusedSectionVars false

/-- One partial function tells no more than another one. -/
def Le (c c' : CallF) : Prop := ∀ f a h r, c f a h = some r → c' f a h = some r

theorem Le.refl (c : CallF) : Le c c := fun _ _ _ _ h => h

section
variable {σ : Type} [Slots σ]

theorem stepA_mono {c c' : CallF} (hc : Le c c') {op : AOp} {S : σ} {h : Heap} {r : Out × Option Heap} (he : stepA c op S h = some r) : stepA c' op S h = some r := by
  cases op with
  | call f l => simp only [stepA] at he ⊢; exact hc _ _ _ _ he
  | callv x l =>
    simp only [stepA] at he ⊢
    split at he
    · exact hc _ _ _ _ he
    · simp at he
  | _ => exact he

theorem execOps_mono {c c' : CallF} (hc : Le c c') : ∀ {l : List AO} {S : σ} {h : Heap} {r : Ex × σ × Heap}, execOps c l S h = some r → execOps c' l S h = some r
  | [], S, h, r, he => he
  | o :: l, S, h, r, he => by
    simp only [execOps] at he ⊢
    split at he
    · rename_i hw
      rw [if_pos hw]
      cases hs : stepA c o.op S h with
      | none => rw [hs] at he; simp at he
      | some q =>
        rw [stepA_mono hc hs]
        rw [hs] at he
        obtain ⟨out, oh⟩ := q
        cases out <;> cases oh <;> first
          | exact execOps_mono hc he
          | exact he
    · rename_i hw
      rw [if_neg hw]
      exact execOps_mono hc he

theorem execQ_mono {c c' : CallF} (hc : Le c c') : ∀ {l : List AO} {S : σ} {h : Heap} {r : Ex × σ × Heap}, execQ c l S h = some r → execQ c' l S h = some r
  | [], S, h, r, he => he
  | o :: l, S, h, r, he => by
    simp only [execQ] at he ⊢
    split at he
    · rename_i hw
      rw [if_pos hw]
      cases hs : stepA c o.op S h with
      | none => rw [hs] at he; simp at he
      | some q =>
        rw [stepA_mono hc hs]
        rw [hs] at he
        obtain ⟨out, oh⟩ := q
        cases out <;> cases oh <;> first
          | exact execQ_mono hc he
          | (simp at he; done)
    · rename_i hw
      rw [if_neg hw]
      exact execQ_mono hc he

theorem lookA_mono {c c' : CallF} (hc : Le c c') {S : σ} {h : Heap} {y : AO} (he : lookA c S h y = true) : lookA c' S h y = true := by
  unfold lookA at he ⊢
  split at he
  · rename_i hw
    rw [if_pos hw]
    split at he
    · rename_i v hs
      rw [stepA_mono hc hs]
      exact he
    · cases he
  · rename_i hw
    rw [if_neg hw]

theorem outD_mono {c c' : CallF} (hc : Le c c') {N m : Nat} {x : DO} {S : σ} {h : Heap} {r : V × KD} (he : outD c N m x S h = some r) : outD c' N m x S h = some r := by
  unfold outD at he ⊢
  split at he
  · rename_i hw
    rw [if_pos hw]
    split at he
    · rename_i k hk
      exact he
    · rename_i hk
      split at he
      · rename_i v hs
        simp only [stepA_mono hc hs]
        exact he
      · rename_i v h' hs
        simp only [stepA_mono hc hs]
        split at he
        · rename_i hcd
          rw [if_pos ⟨hcd.1, hcd.2.1, List.all_eq_true.2 fun y hy => lookA_mono hc (List.all_eq_true.1 hcd.2.2 y hy)⟩]
          exact he
        · cases he
      · cases he
  · rename_i hw
    rw [if_neg hw]
    exact he

theorem execD_mono {c c' : CallF} (hc : Le c c') {N m : Nat} : ∀ {l : List DO} {S : σ} {h : Heap} {r : σ × Heap}, execD c N m l S h = some r → execD c' N m l S h = some r
  | [], S, h, r, he => he
  | x :: l, S, h, r, he => by
    simp only [execD] at he ⊢
    split at he
    · rename_i v k ho
      rw [outD_mono hc ho]
      exact execD_mono hc he
    · cases he

theorem drawA_mono {c c' : CallF} (hc : Le c c') {m : Nat} {l : List DO} {S : σ} {h : Heap} {r : Ex × σ × Heap} (he : drawA c m l S h = some r) : drawA c' m l S h = some r := by
  unfold drawA at he ⊢
  split at he
  · rename_i hm
    rw [if_pos hm]
    split at he
    · rename_i S' h' hx
      rw [execD_mono hc hx]
      exact he
    · cases he
  · rename_i hm
    rw [if_neg hm]
    split at he
    · rename_i S' h' hx
      rw [execD_mono hc hx]
      exact he
    · cases he

theorem exec_mono {c c' : CallF} (hc : Le c c') : ∀ {n n' : Nat} {ac : AC} {S : σ} {h : Heap} {r : Ex × σ × Heap}, n ≤ n' → exec c n ac S h = some r → exec c' n' ac S h = some r
  | 0, n', ac, S, h, r, hn, he => by simp [exec] at he
  | n + 1, 0, ac, S, h, r, hn, he => by omega
  | n + 1, n' + 1, ac, S, h, r, hn, he => by
    have hn' : n ≤ n' := by omega
    cases ac with
    | skip => exact he
    | draw m l => simp only [exec] at he ⊢; exact drawA_mono hc he
    | sel d snd ch z ops =>
      simp only [exec] at he ⊢
      split at he
      · exact execOps_mono hc he
      · cases he
    | label l => exact he
    | exit id => exact he
    | ret => exact he
    | region ops d =>
      simp only [exec] at he ⊢
      split at he
      · rename_i hd; rw [if_pos hd]; exact execQ_mono hc he
      · rename_i hd; rw [if_neg hd]; exact execOps_mono hc he
    | seq a b =>
      simp only [exec] at he ⊢
      cases ha : exec c n a S h with
      | none => rw [ha] at he; simp at he
      | some q =>
        rw [exec_mono hc hn' ha]
        rw [ha] at he
        obtain ⟨x, S1, h1⟩ := q
        cases x with
        | norm => exact exec_mono hc hn' he
        | _ => exact he
    | cond o a b =>
      simp only [exec] at he ⊢
      split at he
      · exact exec_mono hc hn' he
      · exact exec_mono hc hn' he
      · simp at he
    | block id a =>
      simp only [exec] at he ⊢
      cases ha : exec c n a S h with
      | none => rw [ha] at he; simp at he
      | some q => rw [exec_mono hc hn' ha]; rw [ha] at he; exact he
    | loop a =>
      simp only [exec] at he ⊢
      cases ha : exec c n a S h with
      | none => rw [ha] at he; simp at he
      | some q =>
        rw [exec_mono hc hn' ha]
        rw [ha] at he
        obtain ⟨x, S1, h1⟩ := q
        cases x with
        | norm => exact exec_mono hc hn' he
        | _ => exact he
    | scope a => simp only [exec] at he ⊢; exact exec_mono hc hn' he

end

abbrev ExtF := CallF → Nat → Option (List V → Heap → Option (Out × Option Heap))

/-- What answers for some functions answers no less where more is known of calls. -/
def ExtMono (ext : ExtF) : Prop := ∀ c c', Le c c' → ∀ f, (ext c f = none → ext c' f = none) ∧ ∀ g, ext c f = some g → ∃ g', ext c' f = some g' ∧ ∀ a h r, g a h = some r → g' a h = some r

section
variable (F : Nat → Option AF) (ext : ExtF)

theorem callN_succ (hx : ExtMono ext) : ∀ k, Le (callN F ext k) (callN F ext (k + 1))
  | 0 => fun f a h r he => by simp [callN] at he
  | k + 1 => fun f a h r he => by
    have ih := callN_succ hx k
    obtain ⟨h1, h2⟩ := hx _ _ ih f
    rw [callN] at he ⊢
    cases hg : ext (callN F ext k) f with
    | some g =>
      obtain ⟨g', hg', hgg⟩ := h2 g hg
      rw [hg] at he
      rw [hg']
      exact hgg a h r he
    | none =>
      rw [hg] at he
      rw [h1 hg]
      simp only at he ⊢
      cases hf : F f with
      | none => rw [hf] at he; simp at he
      | some af =>
        rw [hf] at he
        simp only at he ⊢
        split at he
        · rename_i hle
          rw [if_pos hle]
          cases hq : exec (callN F ext k) k af.body (initS a) (enter h) with
          | none => rw [hq] at he; simp [finish] at he
          | some q => rw [exec_mono ih (Nat.le_succ k) hq]; rw [hq] at he; exact he
        · simp at he

theorem callN_mono (hx : ExtMono ext) {k k' : Nat} (h : k ≤ k') : Le (callN F ext k) (callN F ext k') := by
  induction h with
  | refl => exact Le.refl _
  | step h ih => exact fun f a hp r he => callN_succ F ext hx _ f a hp r (ih f a hp r he)

open Classical in
/-- What a call comes to. -/
noncomputable def Den : CallF := fun f a h => if hk : ∃ k r, callN F ext k f a h = some r then some hk.choose_spec.choose else none

open Classical in
/-- What code comes to. -/
noncomputable def Run (c : AC) (S : Nat → V) (h : Heap) : Option (Ex × (Nat → V) × Heap) :=
  if hk : ∃ k r, exec (callN F ext k) k c S h = some r then some hk.choose_spec.choose else none

variable {F ext}

theorem Den_of (hx : ExtMono ext) {k f : Nat} {a : List V} {h : Heap} {r : Out × Option Heap} (he : callN F ext k f a h = some r) : Den F ext f a h = some r := by
  have hk : ∃ k r, callN F ext k f a h = some r := ⟨k, r, he⟩
  unfold Den
  rw [dif_pos hk]
  have h1 := hk.choose_spec.choose_spec
  have h2 := callN_mono F ext hx (Nat.le_max_left k hk.choose) _ _ _ _ he
  have h3 := callN_mono F ext hx (Nat.le_max_right k hk.choose) _ _ _ _ h1
  rw [h2] at h3
  exact h3.symm

theorem of_Den {f : Nat} {a : List V} {h : Heap} {r : Out × Option Heap} (he : Den F ext f a h = some r) : ∃ k, callN F ext k f a h = some r := by
  unfold Den at he
  split at he
  · rename_i hk
    simp only [Option.some.injEq] at he
    exact ⟨hk.choose, by rw [← he]; exact hk.choose_spec.choose_spec⟩
  · simp at he

theorem Run_of (hx : ExtMono ext) {k : Nat} {c : AC} {S : Nat → V} {h : Heap} {r : Ex × (Nat → V) × Heap} (he : exec (callN F ext k) k c S h = some r) : Run F ext c S h = some r := by
  have hk : ∃ k r, exec (callN F ext k) k c S h = some r := ⟨k, r, he⟩
  unfold Run
  rw [dif_pos hk]
  have h1 := hk.choose_spec.choose_spec
  have h2 := exec_mono (callN_mono F ext hx (Nat.le_max_left k hk.choose)) (Nat.le_max_left k hk.choose) he
  have h3 := exec_mono (callN_mono F ext hx (Nat.le_max_right k hk.choose)) (Nat.le_max_right k hk.choose) h1
  rw [h2] at h3
  exact h3.symm

theorem of_Run {c : AC} {S : Nat → V} {h : Heap} {r : Ex × (Nat → V) × Heap} (he : Run F ext c S h = some r) : ∃ k, exec (callN F ext k) k c S h = some r := by
  unfold Run at he
  split at he
  · rename_i hk
    simp only [Option.some.injEq] at he
    exact ⟨hk.choose, by rw [← he]; exact hk.choose_spec.choose_spec⟩
  · simp at he

theorem le_Den (hx : ExtMono ext) (k : Nat) : Le (callN F ext k) (Den F ext) := fun _ _ _ _ h => Den_of hx h

theorem step_fin (hx : ExtMono ext) {op : AOp} {S : Nat → V} {h : Heap} {r : Out × Option Heap} (he : stepA (Den F ext) op S h = some r) : ∃ k, stepA (callN F ext k) op S h = some r := by
  cases op with
  | call f l => simp only [stepA] at he ⊢; exact of_Den he
  | callv x l =>
    simp only [stepA] at he ⊢
    split at he
    · exact of_Den he
    · simp at he
  | _ => exact ⟨0, he⟩

theorem ops_fin (hx : ExtMono ext) : ∀ {l : List AO} {S : Nat → V} {h : Heap} {r : Ex × (Nat → V) × Heap}, execOps (Den F ext) l S h = some r → ∃ k, execOps (callN F ext k) l S h = some r
  | [], S, h, r, he => ⟨0, he⟩
  | o :: l, S, h, r, he => by
    simp only [execOps] at he ⊢
    split at he
    · rename_i hw
      cases hs : stepA (Den F ext) o.op S h with
      | none => rw [hs] at he; simp at he
      | some q =>
        obtain ⟨k1, hk1⟩ := step_fin hx hs
        rw [hs] at he
        obtain ⟨out, oh⟩ := q
        have hrec : ∀ {S' : Nat → V} {h' : Heap}, execOps (Den F ext) l S' h' = some r → ∃ k, k1 ≤ k ∧ execOps (callN F ext k) l S' h' = some r := by
          intro S' h' he
          obtain ⟨k2, hk2⟩ := ops_fin hx he
          exact ⟨max k1 k2, Nat.le_max_left _ _, execOps_mono (callN_mono F ext hx (Nat.le_max_right _ _)) hk2⟩
        cases out with
        | val v =>
          cases oh with
          | none => obtain ⟨k, hk, hr⟩ := hrec he; exact ⟨k, by rw [if_pos hw, stepA_mono (callN_mono F ext hx hk) hk1]; exact hr⟩
          | some h' => obtain ⟨k, hk, hr⟩ := hrec he; exact ⟨k, by rw [if_pos hw, stepA_mono (callN_mono F ext hx hk) hk1]; exact hr⟩
        | pan v => cases oh <;> exact ⟨k1, by rw [if_pos hw, hk1]; exact he⟩
    · rename_i hw
      obtain ⟨k, hk⟩ := ops_fin hx he
      exact ⟨k, by rw [if_neg hw]; exact hk⟩

theorem q_fin (hx : ExtMono ext) : ∀ {l : List AO} {S : Nat → V} {h : Heap} {r : Ex × (Nat → V) × Heap}, execQ (Den F ext) l S h = some r → ∃ k, execQ (callN F ext k) l S h = some r
  | [], S, h, r, he => ⟨0, he⟩
  | o :: l, S, h, r, he => by
    simp only [execQ] at he ⊢
    split at he
    · rename_i hw
      cases hs : stepA (Den F ext) o.op S h with
      | none => rw [hs] at he; simp at he
      | some q =>
        obtain ⟨k1, hk1⟩ := step_fin hx hs
        rw [hs] at he
        obtain ⟨out, oh⟩ := q
        cases out with
        | val v =>
          cases oh with
          | none =>
            obtain ⟨k2, hk2⟩ := q_fin hx he
            refine ⟨max k1 k2, ?_⟩
            rw [if_pos hw, stepA_mono (callN_mono F ext hx (Nat.le_max_left k1 k2)) hk1]
            exact execQ_mono (callN_mono F ext hx (Nat.le_max_right k1 k2)) hk2
          | some h' => simp at he
        | pan v => cases oh <;> simp at he
    · rename_i hw
      obtain ⟨k, hk⟩ := q_fin hx he
      exact ⟨k, by rw [if_neg hw]; exact hk⟩

theorem look_fin (hx : ExtMono ext) {S : Nat → V} {h : Heap} {y : AO} (he : lookA (Den F ext) S h y = true) : ∃ k, lookA (callN F ext k) S h y = true := by
  unfold lookA at he ⊢
  split at he
  · rename_i hw
    split at he
    · rename_i v hs
      obtain ⟨k, hk⟩ := step_fin hx hs
      refine ⟨k, ?_⟩
      rw [if_pos hw, hk]
      exact he
    · cases he
  · rename_i hw
    exact ⟨0, by rw [if_neg hw]⟩

theorem looks_fin (hx : ExtMono ext) {S : Nat → V} {h : Heap} : ∀ {l : List AO}, l.all (lookA (Den F ext) S h) = true → ∃ k, l.all (lookA (callN F ext k) S h) = true
  | [], _ => ⟨0, rfl⟩
  | y :: l, he => by
    simp only [List.all_cons, Bool.and_eq_true] at he ⊢
    obtain ⟨k1, h1⟩ := look_fin hx he.1
    obtain ⟨k2, h2⟩ := looks_fin hx he.2
    refine ⟨max k1 k2, lookA_mono (callN_mono F ext hx (Nat.le_max_left _ _)) h1, ?_⟩
    exact List.all_eq_true.2 fun y hy => lookA_mono (callN_mono F ext hx (Nat.le_max_right _ _)) (List.all_eq_true.1 h2 y hy)

theorem outD_fin (hx : ExtMono ext) {N m : Nat} {x : DO} {S : Nat → V} {h : Heap} {r : V × KD} (he : outD (Den F ext) N m x S h = some r) : ∃ k, outD (callN F ext k) N m x S h = some r := by
  unfold outD at he ⊢
  split at he
  · rename_i hw
    split at he
    · rename_i k hk
      exact ⟨0, by rw [if_pos hw]; exact he⟩
    · rename_i hk
      split at he
      · rename_i v hs
        obtain ⟨k, hs'⟩ := step_fin hx hs
        exact ⟨k, by rw [if_pos hw]; simp only [hs']; exact he⟩
      · rename_i v h' hs
        split at he
        · rename_i hcd
          obtain ⟨k1, hs'⟩ := step_fin hx hs
          obtain ⟨k2, hl⟩ := looks_fin hx hcd.2.2
          refine ⟨max k1 k2, ?_⟩
          rw [if_pos hw]
          simp only [stepA_mono (callN_mono F ext hx (Nat.le_max_left k1 k2)) hs']
          rw [if_pos ⟨hcd.1, hcd.2.1, List.all_eq_true.2 fun y hy => lookA_mono (callN_mono F ext hx (Nat.le_max_right _ _)) (List.all_eq_true.1 hl y hy)⟩]
          exact he
        · cases he
      · cases he
  · rename_i hw
    exact ⟨0, by rw [if_neg hw]; exact he⟩

theorem execD_fin (hx : ExtMono ext) {N m : Nat} : ∀ {l : List DO} {S : Nat → V} {h : Heap} {r : (Nat → V) × Heap}, execD (Den F ext) N m l S h = some r → ∃ k, execD (callN F ext k) N m l S h = some r
  | [], S, h, r, he => ⟨0, he⟩
  | x :: l, S, h, r, he => by
    simp only [execD] at he ⊢
    split at he
    · rename_i v kd ho
      obtain ⟨k1, h1⟩ := outD_fin hx ho
      obtain ⟨k2, h2⟩ := execD_fin hx he
      refine ⟨max k1 k2, ?_⟩
      rw [outD_mono (callN_mono F ext hx (Nat.le_max_left k1 k2)) h1]
      exact execD_mono (callN_mono F ext hx (Nat.le_max_right k1 k2)) h2
    · cases he

theorem drawA_fin (hx : ExtMono ext) {m : Nat} {l : List DO} {S : Nat → V} {h : Heap} {r : Ex × (Nat → V) × Heap} (he : drawA (Den F ext) m l S h = some r) : ∃ k, drawA (callN F ext k) m l S h = some r := by
  unfold drawA at he ⊢
  split at he
  · rename_i hm
    split at he
    · rename_i S' h' hq
      obtain ⟨k, hk⟩ := execD_fin hx hq
      exact ⟨k, by rw [if_pos hm, hk]; exact he⟩
    · cases he
  · rename_i hm
    split at he
    · rename_i S' h' hq
      obtain ⟨k, hk⟩ := execD_fin hx hq
      exact ⟨k, by rw [if_neg hm, hk]; exact he⟩
    · cases he

variable (hx : ExtMono ext) (S : Nat → V) (h : Heap)
include hx

theorem Run_draw (m : Nat) (l : List DO) {r : Ex × (Nat → V) × Heap} (he : drawA (Den F ext) m l S h = some r) : Run F ext (.draw m l) S h = some r := by
  obtain ⟨k, hk⟩ := drawA_fin hx he
  exact Run_of hx (k := k + 1) (by simp only [exec]; exact drawA_mono (callN_succ F ext hx k) hk)

theorem Run_skip : Run F ext .skip S h = some (.norm, S, h) := Run_of hx (k := 1) rfl
theorem Run_label (l : Nat) : Run F ext (.label l) S h = some (.norm, S, h) := Run_of hx (k := 1) rfl
theorem Run_ret : Run F ext .ret S h = some (.ret, S, h) := Run_of hx (k := 1) rfl
theorem Run_exit (id : Nat) : Run F ext (.exit id) S h = some (.exit id, S, h) := Run_of hx (k := 1) rfl

theorem Run_region (ops : List AO) {r : Ex × (Nat → V) × Heap} (he : execOps (Den F ext) ops S h = some r) : Run F ext (.region ops false) S h = some r := by
  obtain ⟨k, hk⟩ := ops_fin hx he
  exact Run_of hx (k := k + 1) (by simp only [exec, Bool.false_eq_true, if_false]; exact execOps_mono (callN_succ F ext hx k) hk)

theorem Run_regionQ (ops : List AO) {r : Ex × (Nat → V) × Heap} (he : execQ (Den F ext) ops S h = some r) : Run F ext (.region ops true) S h = some r := by
  obtain ⟨k, hk⟩ := q_fin hx he
  exact Run_of hx (k := k + 1) (by simp only [exec, if_true]; exact execQ_mono (callN_succ F ext hx k) hk)

theorem up {k m : Nat} {c : AC} {S : Nat → V} {h : Heap} {r : Ex × (Nat → V) × Heap} (he : exec (callN F ext k) k c S h = some r) (hm : k ≤ m) : exec (callN F ext (m + 1)) m c S h = some r :=
  exec_mono (callN_mono F ext hx (by omega)) hm he

theorem Run_seq (a b : AC) {S' : Nat → V} {h' : Heap} {r : Ex × (Nat → V) × Heap} (ha : Run F ext a S h = some (.norm, S', h')) (hb : Run F ext b S' h' = some r) : Run F ext (.seq a b) S h = some r := by
  obtain ⟨k1, e1⟩ := of_Run ha
  obtain ⟨k2, e2⟩ := of_Run hb
  refine Run_of hx (k := max k1 k2 + 1) ?_
  simp only [exec, up hx e1 (Nat.le_max_left k1 k2)]
  exact up hx e2 (Nat.le_max_right k1 k2)

theorem Run_seq_out (a b : AC) {x : Ex} {S' : Nat → V} {h' : Heap} (hne : x ≠ .norm) (ha : Run F ext a S h = some (x, S', h')) : Run F ext (.seq a b) S h = some (x, S', h') := by
  obtain ⟨k1, e1⟩ := of_Run ha
  refine Run_of hx (k := k1 + 1) ?_
  simp only [exec, up hx e1 (Nat.le_refl k1)]
  cases x with
  | norm => exact absurd rfl hne
  | _ => rfl

theorem Run_cond (o : Opd) (a b : AC) {t : Bool} (ho : o.ev S = .bool t) : Run F ext (.cond o a b) S h = Run F ext (if t = true then a else b) S h := by
  cases hr : Run F ext (if t = true then a else b) S h with
  | some r =>
    obtain ⟨k, e⟩ := of_Run hr
    refine Run_of hx (k := k + 1) ?_
    cases t <;> simp only [exec, ho] <;> exact up hx e (Nat.le_refl k)
  | none =>
    cases hq : Run F ext (.cond o a b) S h with
    | none => rfl
    | some r =>
      obtain ⟨k, e⟩ := of_Run hq
      cases k with
      | zero => simp [exec] at e
      | succ k =>
        have : Run F ext (if t = true then a else b) S h = some r := by
          refine Run_of hx (k := k + 1) ?_
          cases t <;> simp only [exec, ho] at e <;> exact exec_mono (Le.refl _) (Nat.le_succ k) e
        rw [hr] at this
        exact this.symm

theorem Run_block (id : Nat) (c : AC) {x : Ex} {S' : Nat → V} {h' : Heap} (hc : Run F ext c S h = some (x, S', h')) :
    Run F ext (.block id c) S h = some ((match x with | .exit i => if i = id then .norm else .exit i | x => x), S', h') := by
  obtain ⟨k, e⟩ := of_Run hc
  refine Run_of hx (k := k + 1) ?_
  simp only [exec, up hx e (Nat.le_refl k)]
  cases x with
  | exit i => by_cases hi : i = id <;> simp [hi]
  | _ => rfl

theorem Run_scope (c : AC) {r : Ex × (Nat → V) × Heap} (hc : Run F ext c S h = some r) : Run F ext (.scope c) S h = some r := by
  obtain ⟨k, e⟩ := of_Run hc
  exact Run_of hx (k := k + 1) (by simp only [exec]; exact up hx e (Nat.le_refl k))

theorem Run_loop (c : AC) {S' : Nat → V} {h' : Heap} {r : Ex × (Nat → V) × Heap} (hc : Run F ext c S h = some (.norm, S', h')) (hl : Run F ext (.loop c) S' h' = some r) : Run F ext (.loop c) S h = some r := by
  obtain ⟨k1, e1⟩ := of_Run hc
  obtain ⟨k2, e2⟩ := of_Run hl
  refine Run_of hx (k := max k1 k2 + 1) ?_
  simp only [exec, up hx e1 (Nat.le_max_left k1 k2)]
  exact up hx e2 (Nat.le_max_right k1 k2)

theorem Run_loop_out (c : AC) {x : Ex} {S' : Nat → V} {h' : Heap} (hne : x ≠ .norm) (hc : Run F ext c S h = some (x, S', h')) : Run F ext (.loop c) S h = some (x, S', h') := by
  obtain ⟨k1, e1⟩ := of_Run hc
  refine Run_of hx (k := k1 + 1) ?_
  simp only [exec, up hx e1 (Nat.le_refl k1)]
  cases x with
  | norm => exact absurd rfl hne
  | _ => rfl

omit S in
/-- A call. -/
theorem Den_call {f : Nat} {a : AF} {args : List V} (hF : F f = some a) (hE : ∀ c, ext c f = none) (hn : args.length ≤ a.n) {r : Ex × (Nat → V) × Heap} (hr : Run F ext a.body (initS args) (enter h) = some r) {q : Out × Option Heap} (hq : finish a h (some r) = some q) :
    Den F ext f args h = some q := by
  obtain ⟨k, e⟩ := of_Run hr
  refine Den_of hx (k := k + 1) ?_
  simp only [callN, hE, hF, if_pos hn, e, hq]

end
end AM

/- AM, part 19: from what a call comes to, to the row's own words. -/
namespace AM
open Go
open Go.RowKit (Hid)
set_option linter.unusedVariables false
set_option linter.unusedSimpArgs false
set_option linter.unusedSectionVars false

/-- Nothing of what was there has turned. -/
def Kept (w w' : World) : Prop := w'.os = w.os ∧ w'.output = w.output ∧ w.heap.size ≤ w'.heap.size ∧ ∀ b, b < w.heap.size → w'.heap[b]? = w.heap[b]?

theorem Kept.but {w w' : World} (h : Kept w w') (may : MemPlace → Prop) : w.keptBut w' may := by
  refine ⟨h.1, h.2.1, fun i hi => ?_⟩
  rw [h.2.2.2 i hi]
  split
  · rename_i e1 e2
    rw [e1] at e2
    simp only [Option.some.injEq, Go.Obj.cells.injEq] at e2
    obtain ⟨rfl, rfl, rfl⟩ := e2
    exact ⟨rfl, rfl, rfl, fun _ _ => rfl⟩
  · rename_i e1 e2
    rw [e1] at e2
    simp only [Option.some.injEq, Go.Obj.map.injEq] at e2
    obtain ⟨rfl, rfl⟩ := e2
    exact .inr ⟨rfl, rfl⟩
  · rfl

theorem Kept.frozen {w w' : World} (h : Kept w w') {a : Addr} (ha : a.block < w.heap.size) : w'.frozen? a = w.frozen? a := by
  simp only [World.frozen?, h.2.2.2 a.block ha]

section
variable {H : Type} {enc : TypeId × Value → H} {P : Program}

/-- What a function that turns nothing leaves. -/
theorem post_kept {f : Func} {s : ChangeSpec} {apart fresh handsOn again : Bool} {W W' : World} {args : Array Value} {v : Value} {ds gs : List (DataW H)} {before pa pv : List MemPlace}
    (hW : DataW.Whole enc P f.params.toList s.vars apart W args.toList ds gs before)
    (hres : ∀ (b : Nat) (sp : Nat → Bool) (hd : Bool), DataW.TrodAll enc P W' b sp hd f.resultTypes.toList (v.resultList f.resultTypes.size) (s.fn H (ds ++ gs)).results [])
    (hargs : ∀ sp : Nat → Bool, (∀ p ∈ before, sp p.block = true) → DataW.TrodAll enc P W' 0 sp true f.params.toList args.toList (s.fn H (ds ++ gs)).args pa)
    (hvars : ∀ sp : Nat → Bool, (∀ p ∈ before, sp p.block = true) → DataW.TrodVars enc P W' sp s.vars (s.fn H (ds ++ gs)).vars pv)
    (hps : before = pa ++ pv) (hk : Kept W W')
    (hok : ∀ (j : Nat) (t : TypeId) (r : Value), f.resultTypes[j]? = some t → (v.resultList f.resultTypes.size)[j]? = some r → Value.okWide P W' .any 0 t r) :
    s.post enc P f apart fresh handsOn again W args v W' := by
  have hold : ∀ p ∈ before, (fun b => decide (b < W.heap.size)) p.block = true := fun p hp => by simpa using hW.lt p hp
  have hlt : ∀ b off, MemPlace.cell b off ∈ before → b < W.heap.size := fun b off hp => by simpa [MemPlace.block] using hW.lt _ hp
  refine ⟨ds, gs, before, [], pa, pv, hW, hres _ _ _, hargs _ hold, hvars _ hold, hk.but _, fun _ => ?_⟩
  obtain ⟨_, _, _, _, _, hz, hn⟩ := hW
  refine ⟨hok, _, _, ([] ++ pa) ++ pv, ⟨[] ++ pa, pv, Go.ChangeShapes.trodAll_append (hargs _ (fun _ _ => rfl)) (hres _ _ _), hvars _ (fun _ _ => rfl), rfl, ?_, ?_⟩, ?_⟩
  · intro b off hp
    have hp' : MemPlace.cell b off ∈ before := by rw [hps]; simpa using hp
    rw [hk.frozen (a := ⟨b, off, none⟩) (hlt b off hp')]
    exact hz b off hp'
  · intro ha
    have := hn ha
    rw [hps] at this
    simpa using this
  · intro p hp _
    rw [hps]
    simpa using hp

/-- No object of one's own. -/
def NoOwn (h : Heap) : Prop := ∀ (l : Nat) (o : Obj), h.o[l]? = some o → o.own = false

theorem kept_of_nx {ι κ : Map} {h h' : Heap} {w w' : World} (hn : Nx ι h w κ h' w') (ho : NoOwn h) : Kept w w' :=
  ⟨hn.fr.os, hn.fr.output, hn.fr.size, fun b hb => hn.fr.keep b hb (fun ⟨l, o, hl, hown, _⟩ => by rw [ho l o hl] at hown; cases hown)⟩

/-- A call that comes to a plain value. -/
theorem calls_of_den (hm : P.follows .mixedOrders = true) {F : Nat → Option AF} (hF : ∀ f af, F f = some af → trProg P f = some af) {ext : ExtF}
    (hext : ∀ call, CallOk P call → ∀ f g args h out oh, ext call f = some g → g args h = some (out, oh) → callOk P f = true ∧ ∀ ι w, HR ι h.o w → V.scs h.o.length args →
      Calls P f (V.reals ι args).toArray w fun e w' => ∃ κ, Nx ι h w κ (oh.getD h) w' ∧ OutOk κ (oh.getD h).o.length e out)
    {f : Nat} {args : List V} {h : Heap} {v : V} {oh : Option Heap} (hd : Den F ext f args h = some (.val v, oh)) (ho : NoOwn h) (hv : v.plain = true) {ι : Map} {w : World} (hr : HR ι h.o w) (hs : V.scs h.o.length args) :
    Calls P f (V.reals ι args).toArray w fun e w' => e = .returned (v.real ι) ∧ Kept w w' := by
  obtain ⟨k, hk⟩ := of_Den hd
  refine ((callN_ok hm hF hext k _ _ _ _ _ hk).2 ι w hr hs).mono fun e w' ⟨κ, hn, hm⟩ => ?_
  have hm' : e = .returned (v.real κ) := hm.1
  refine ⟨?_, kept_of_nx hn ho⟩
  rw [hm']
  have h0 : v.real κ = v.real ι := V.real_agree (n := 0) (fun l hl => absurd hl (Nat.not_lt_zero l)) v (V.sc_of_plain 0 v hv)
  rw [h0]
end
end AM

/- AM, part 20: code as equations. -/
namespace AM
open Go
set_option linter.unusedVariables false
set_option linter.unusedSimpArgs false
set_option linter.unusedSectionVars false

section
variable {F : Nat → Option AF} {ext : ExtF}

theorem ext_eq {α : Type} {o o' : Option α} (h1 : ∀ r, o = some r → o' = some r) (h2 : ∀ r, o' = some r → o = some r) : o = o' := by
  cases o with
  | some r => exact (h1 r rfl).symm
  | none => cases o' with
    | none => rfl
    | some r => exact h2 r rfl

variable (hx : ExtMono ext) (S : Nat → V) (h : Heap)
include hx

theorem eq_skip : Run F ext .skip S h = some (.norm, S, h) := Run_skip hx S h
theorem eq_label (l : Nat) : Run F ext (.label l) S h = some (.norm, S, h) := Run_label hx S h l
theorem eq_ret : Run F ext .ret S h = some (.ret, S, h) := Run_ret hx S h
theorem eq_exit (id : Nat) : Run F ext (.exit id) S h = some (.exit id, S, h) := Run_exit hx S h id

theorem eq_region (ops : List AO) : Run F ext (.region ops false) S h = execOps (Den F ext) ops S h := by
  refine ext_eq (fun r hr => ?_) (fun r hr => Run_region hx S h ops hr)
  obtain ⟨k, e⟩ := of_Run hr
  cases k with
  | zero => simp [exec] at e
  | succ k => simp only [exec, Bool.false_eq_true, if_false] at e; exact execOps_mono (le_Den hx _) e

theorem eq_regionQ (ops : List AO) : Run F ext (.region ops true) S h = execQ (Den F ext) ops S h := by
  refine ext_eq (fun r hr => ?_) (fun r hr => Run_regionQ hx S h ops hr)
  obtain ⟨k, e⟩ := of_Run hr
  cases k with
  | zero => simp [exec] at e
  | succ k => simp only [exec, if_true] at e; exact execQ_mono (le_Den hx _) e

theorem eq_draw (m : Nat) (l : List DO) : Run F ext (.draw m l) S h = drawA (Den F ext) m l S h := by
  refine ext_eq (fun r hr => ?_) (fun r hr => Run_draw hx S h m l hr)
  obtain ⟨k, e⟩ := of_Run hr
  cases k with
  | zero => simp [exec] at e
  | succ k => simp only [exec] at e; exact drawA_mono (le_Den hx _) e

theorem eq_sel (d : Option Nat) (snd : Option Opd) (ch : Opd) (z : V) (ops : List AO) : Run F ext (.sel d snd ch z ops) S h = match selA snd ch z S h with
    | some (v, h') => Run F ext (.region ops false) (putO S d v) h'
    | none => none := by
  refine ext_eq (fun r hr => ?_) (fun r hr => ?_)
  · obtain ⟨k, e⟩ := of_Run hr
    cases k with
    | zero => simp [exec] at e
    | succ k =>
      simp only [exec] at e
      split at e
      · rename_i v h1 hsel
        rw [hsel]
        exact Run_region hx _ _ ops (execOps_mono (le_Den hx _) e)
      · cases e
  · split at hr
    · rename_i v h1 hsel
      obtain ⟨k, e⟩ := of_Run hr
      cases k with
      | zero => simp [exec] at e
      | succ k =>
        have e2 : exec (callN F ext (k + 1)) (k + 1) (.sel d snd ch z ops) S h = some r := by
          simp only [exec, hsel]
          simpa only [exec, Bool.false_eq_true, if_false] using e
        exact Run_of hx e2
    · cases hr

theorem eq_seq (a b : AC) : Run F ext (.seq a b) S h = match Run F ext a S h with
    | some (.norm, S', h') => Run F ext b S' h'
    | r => r := by
  refine ext_eq (fun r hr => ?_) (fun r hr => ?_)
  · obtain ⟨k, e⟩ := of_Run hr
    cases k with
    | zero => simp [exec] at e
    | succ k =>
      simp only [exec] at e
      cases ha : exec (callN F ext (k + 1)) k a S h with
      | none => rw [ha] at e; simp at e
      | some q =>
        have ha' := Run_of hx (exec_mono (Le.refl _) (Nat.le_succ k) ha)
        rw [ha] at e
        rw [ha']
        obtain ⟨x, S', h'⟩ := q
        cases x with
        | norm => exact Run_of hx (exec_mono (Le.refl _) (Nat.le_succ k) e)
        | _ => exact e
  · cases ha : Run F ext a S h with
    | none => rw [ha] at hr; simp at hr
    | some q =>
      obtain ⟨x, S', h'⟩ := q
      rw [ha] at hr
      cases x with
      | norm => exact Run_seq hx S h a b ha hr
      | _ => simp only [Option.some.injEq] at hr; subst hr; exact Run_seq_out hx S h a b (by simp) ha

theorem eq_cond (o : Opd) (a b : AC) : Run F ext (.cond o a b) S h = match o.ev S with
    | .bool true => Run F ext a S h
    | .bool false => Run F ext b S h
    | _ => none := by
  split
  · rename_i ho; rw [Run_cond hx S h o a b ho]; rfl
  · rename_i ho; rw [Run_cond hx S h o a b ho]; rfl
  · rename_i h1 h2
    cases hr : Run F ext (.cond o a b) S h with
    | none => rfl
    | some r =>
      obtain ⟨k, e⟩ := of_Run hr
      cases k with
      | zero => simp [exec] at e
      | succ k =>
        simp only [exec] at e
        simp at e

theorem eq_block (id : Nat) (c : AC) : Run F ext (.block id c) S h = match Run F ext c S h with
    | some (.exit i, S', h') => if i = id then some (.norm, S', h') else some (.exit i, S', h')
    | r => r := by
  refine ext_eq (fun r hr => ?_) (fun r hr => ?_)
  · obtain ⟨k, e⟩ := of_Run hr
    cases k with
    | zero => simp [exec] at e
    | succ k =>
      simp only [exec] at e
      cases ha : exec (callN F ext (k + 1)) k c S h with
      | none => rw [ha] at e; simp at e
      | some q =>
        have ha' := Run_of hx (exec_mono (Le.refl _) (Nat.le_succ k) ha)
        rw [ha] at e
        rw [ha']
        obtain ⟨x, S', h'⟩ := q
        cases x <;> exact e
  · cases ha : Run F ext c S h with
    | none => rw [ha] at hr; simp at hr
    | some q =>
      obtain ⟨x, S', h'⟩ := q
      rw [ha] at hr
      rw [Run_block hx S h id c ha]
      rw [← hr]
      cases x with
      | exit i => by_cases hi : i = id <;> simp [hi]
      | _ => rfl

theorem eq_scope (c : AC) : Run F ext (.scope c) S h = Run F ext c S h := by
  refine ext_eq (fun r hr => ?_) (fun r hr => Run_scope hx S h c hr)
  obtain ⟨k, e⟩ := of_Run hr
  cases k with
  | zero => simp [exec] at e
  | succ k => simp only [exec] at e; exact Run_of hx (exec_mono (Le.refl _) (Nat.le_succ k) e)

end

section
variable {call : CallF} {S : Nat → V} {h : Heap} {r : List AO} {d : Option Nat}

/-- One operation: a panic's value, if it panics; the slots; the heap, if it has turned. -/
def execO (call : CallF) (o : AO) (S : Nat → V) (h : Heap) : Option (Option V × (Nat → V) × Option Heap) :=
  if wantedA S o.g = true then
    match stepA call o.op S h with
    | some (.val v, oh) => some (none, putO S o.d v, oh)
    | some (.pan v, oh) => some (some v, S, oh)
    | none => none
  else some (none, putO S o.d undefV, none)

theorem ops_nil : execOps call [] S h = some (.norm, S, h) := rfl
theorem ops_cons (o : AO) : execOps call (o :: r) S h = match execO call o S h with
    | some (none, S', none) => execOps call r S' h
    | some (none, S', some h') => execOps call r S' h'
    | some (some v, S', none) => some (.pan v, S', h)
    | some (some v, S', some h') => some (.pan v, S', h')
    | none => none := by
  unfold execO
  simp only [execOps]
  split
  · cases stepA call o.op S h with
    | none => rfl
    | some q => obtain ⟨out, oh⟩ := q; cases out <;> cases oh <;> rfl
  · rfl
theorem q_nil : execQ call [] S h = some (.norm, S, h) := rfl
theorem q_cons (o : AO) : execQ call (o :: r) S h = match execO call o S h with
    | some (none, S', none) => execQ call r S' h
    | _ => none := by
  unfold execO
  simp only [execQ]
  split
  · cases stepA call o.op S h with
    | none => rfl
    | some q => obtain ⟨out, oh⟩ := q; cases out <;> cases oh <;> rfl
  · rfl
theorem o_guard (op : AOp) (j : Nat) (w : Bool) : execO call ⟨d, op, some (j, w)⟩ S h = match S j with
    | .bool b => if b = w then execO call ⟨d, op, none⟩ S h else some (none, putO S d undefV, none)
    | _ => some (none, putO S d undefV, none) := by
  unfold execO
  simp only [wantedA, if_true]
  show (if (match S j with | .bool b => b == w | _ => false) = true then _ else _) = _
  cases S j with
  | bool b => simp only [beq_iff_eq]
  | _ => rfl
theorem o_mv (x : Opd) : execO call ⟨d, .mv x, none⟩ S h = some (none, putO S d (x.ev S), none) := rfl
theorem o_bin (o : BinOp) (x y : Opd) : execO call ⟨d, .bin o x y, none⟩ S h = match binA o (x.ev S) (y.ev S) with
    | some v => some (none, putO S d v, none)
    | none => none := by
  simp only [execO, wantedA, if_true, stepA, stepV]
  cases binA o (x.ev S) (y.ev S) <;> rfl
theorem o_eqf (neg agg : Bool) (ks : List (Nat × Kd)) (x y : Opd) : execO call ⟨d, .eqf neg agg ks x y, none⟩ S h = match eqA agg ks (x.ev S) (y.ev S) with
    | some b => some (none, putO S d (.bool (if neg = true then !b else b)), none)
    | none => none := by
  simp only [execO, wantedA, if_true, stepA, stepV]
  cases eqA agg ks (x.ev S) (y.ev S) <;> rfl
theorem o_un (o : UnOp) (x : Opd) : execO call ⟨d, .un o x, none⟩ S h = match unA o (x.ev S) with
    | some v => some (none, putO S d v, none)
    | none => none := by
  simp only [execO, wantedA, if_true, stepA, stepV]
  cases unA o (x.ev S) <;> rfl
theorem o_pick (c a b : Opd) : execO call ⟨d, .pick c a b, none⟩ S h = match c.ev S with
    | .bool t => some (none, putO S d (if t = true then a.ev S else b.ev S), none)
    | _ => none := by
  simp only [execO, wantedA, if_true, stepA, stepV]
  cases c.ev S <;> rfl
theorem o_call (f : Nat) (args : List Opd) : execO call ⟨d, .call f args, none⟩ S h = match call f (evs S args) h with
    | some (.val v, oh) => some (none, putO S d v, oh)
    | some (.pan v, oh) => some (some v, S, oh)
    | none => none := rfl
theorem o_callv (x : Opd) (args : List Opd) : execO call ⟨d, .callv x args, none⟩ S h = match x.ev S with
    | .fn f first caps => match call f (first ++ evs S args ++ caps) h with
      | some (.val v, oh) => some (none, putO S d v, oh)
      | some (.pan v, oh) => some (some v, S, oh)
      | none => none
    | _ => none := by
  simp only [execO, wantedA, if_true, stepA]
  cases x.ev S <;> rfl
/-- The other operations. -/
theorem o_V (op : AOp) (h1 : ∀ f l, op ≠ .call f l) (h2 : ∀ x l, op ≠ .callv x l) (h3 : ∀ x, op ≠ .panic x) : execO call ⟨d, op, none⟩ S h = match stepV op S h with
    | some (v, oh) => some (none, putO S d v, oh)
    | none => none := by
  have hs : stepA call op S h = match stepV op S h with | some (v, oh) => some (.val v, oh) | none => none := by
    cases op <;> first | rfl | exact absurd rfl (h1 _ _) | exact absurd rfl (h2 _ _) | exact absurd rfl (h3 _)
  simp only [execO, wantedA, if_true, hs]
  cases stepV op S h with
  | none => rfl
  | some q => obtain ⟨v, oh⟩ := q; rfl
theorem o_nck (x : Opd) : execO call ⟨d, .nck x, none⟩ S h = match stepV (.nck x) S h with | some (v, oh) => some (none, putO S d v, oh) | none => none := o_V _ (fun _ _ => by simp) (fun _ _ => by simp) (fun _ => by simp)
theorem o_load (n : Option Nat) (x : Opd) : execO call ⟨d, .load n x, none⟩ S h = match stepV (.load n x) S h with | some (v, oh) => some (none, putO S d v, oh) | none => none := o_V _ (fun _ _ => by simp) (fun _ _ => by simp) (fun _ => by simp)
theorem o_store (n : Nat) (x v : Opd) : execO call ⟨d, .store n x v, none⟩ S h = match stepV (.store n x v) S h with | some (v, oh) => some (none, putO S d v, oh) | none => none := o_V _ (fun _ _ => by simp) (fun _ _ => by simp) (fun _ => by simp)
theorem o_alloc (t : Nat) (z : List V) : execO call ⟨d, .alloc t z, none⟩ S h = match stepV (.alloc t z) S h with | some (v, oh) => some (none, putO S d v, oh) | none => none := o_V _ (fun _ _ => by simp) (fun _ _ => by simp) (fun _ => by simp)
theorem o_box (t : Nat) (x : Opd) : execO call ⟨d, .box t x, none⟩ S h = match stepV (.box t x) S h with | some (v, oh) => some (none, putO S d v, oh) | none => none := o_V _ (fun _ _ => by simp) (fun _ _ => by simp) (fun _ => by simp)
theorem o_build (z : List V) (ps : List (Nat × Nat × Opd)) : execO call ⟨d, .build z ps, none⟩ S h = match stepV (.build z ps) S h with | some (v, oh) => some (none, putO S d v, oh) | none => none := o_V _ (fun _ _ => by simp) (fun _ _ => by simp) (fun _ => by simp)
theorem o_bslice (t e : Nat) (z : List V) (ps : List (Nat × Nat × Opd)) : execO call ⟨d, .bslice t e z ps, none⟩ S h = match stepV (.bslice t e z ps) S h with | some (v, oh) => some (none, putO S d v, oh) | none => none := o_V _ (fun _ _ => by simp) (fun _ _ => by simp) (fun _ => by simp)
theorem o_faddr (off : Nat) (x : Opd) : execO call ⟨d, .faddr off x, none⟩ S h = match stepV (.faddr off x) S h with | some (v, oh) => some (none, putO S d v, oh) | none => none := o_V _ (fun _ _ => by simp) (fun _ _ => by simp) (fun _ => by simp)
theorem o_field (off : Nat) (n : Option Nat) (x : Opd) : execO call ⟨d, .field off n x, none⟩ S h = match stepV (.field off n x) S h with | some (v, oh) => some (none, putO S d v, oh) | none => none := o_V _ (fun _ _ => by simp) (fun _ _ => by simp) (fun _ => by simp)
theorem o_iaddrA (len e : Nat) (x i : Opd) : execO call ⟨d, .iaddrA len e x i, none⟩ S h = match stepV (.iaddrA len e x i) S h with | some (v, oh) => some (none, putO S d v, oh) | none => none := o_V _ (fun _ _ => by simp) (fun _ _ => by simp) (fun _ => by simp)
theorem o_iaddrS (e : Nat) (x i : Opd) : execO call ⟨d, .iaddrS e x i, none⟩ S h = match stepV (.iaddrS e x i) S h with | some (v, oh) => some (none, putO S d v, oh) | none => none := o_V _ (fun _ _ => by simp) (fun _ _ => by simp) (fun _ => by simp)
theorem o_idxA (len e : Nat) (n : Option Nat) (x i : Opd) : execO call ⟨d, .idxA len e n x i, none⟩ S h = match stepV (.idxA len e n x i) S h with | some (v, oh) => some (none, putO S d v, oh) | none => none := o_V _ (fun _ _ => by simp) (fun _ _ => by simp) (fun _ => by simp)
theorem o_idxS (x i : Opd) : execO call ⟨d, .idxS x i, none⟩ S h = match stepV (.idxS x i) S h with | some (v, oh) => some (none, putO S d v, oh) | none => none := o_V _ (fun _ _ => by simp) (fun _ _ => by simp) (fun _ => by simp)
theorem o_slS (x : Opd) (lo hi : Option Opd) : execO call ⟨d, .slS x lo hi, none⟩ S h = match stepV (.slS x lo hi) S h with | some (v, oh) => some (none, putO S d v, oh) | none => none := o_V _ (fun _ _ => by simp) (fun _ _ => by simp) (fun _ => by simp)
theorem o_slL (e : Nat) (x : Opd) (lo hi : Option Opd) : execO call ⟨d, .slL e x lo hi, none⟩ S h = match stepV (.slL e x lo hi) S h with | some (v, oh) => some (none, putO S d v, oh) | none => none := o_V _ (fun _ _ => by simp) (fun _ _ => by simp) (fun _ => by simp)
theorem o_slA (len e : Nat) (x : Opd) (lo hi : Option Opd) : execO call ⟨d, .slA len e x lo hi, none⟩ S h = match stepV (.slA len e x lo hi) S h with | some (v, oh) => some (none, putO S d v, oh) | none => none := o_V _ (fun _ _ => by simp) (fun _ _ => by simp) (fun _ => by simp)
theorem o_toInt (k : IntKind) (x : Opd) : execO call ⟨d, .toInt k x, none⟩ S h = match stepV (.toInt k x) S h with | some (v, oh) => some (none, putO S d v, oh) | none => none := o_V _ (fun _ _ => by simp) (fun _ _ => by simp) (fun _ => by simp)
theorem o_toStr (x : Opd) : execO call ⟨d, .toStr x, none⟩ S h = match stepV (.toStr x) S h with | some (v, oh) => some (none, putO S d v, oh) | none => none := o_V _ (fun _ _ => by simp) (fun _ _ => by simp) (fun _ => by simp)
theorem o_cpS (x : Opd) : execO call ⟨d, .cpS x, none⟩ S h = match stepV (.cpS x) S h with | some (v, oh) => some (none, putO S d v, oh) | none => none := o_V _ (fun _ _ => by simp) (fun _ _ => by simp) (fun _ => by simp)
theorem o_toBytes (t : Nat) (x : Opd) : execO call ⟨d, .toBytes t x, none⟩ S h = match stepV (.toBytes t x) S h with | some (v, oh) => some (none, putO S d v, oh) | none => none := o_V _ (fun _ _ => by simp) (fun _ _ => by simp) (fun _ => by simp)
theorem o_extract (x : Opd) (i : Nat) : execO call ⟨d, .extract x i, none⟩ S h = match stepV (.extract x i) S h with | some (v, oh) => some (none, putO S d v, oh) | none => none := o_V _ (fun _ _ => by simp) (fun _ _ => by simp) (fun _ => by simp)
theorem o_mkf (f : Nat) (a b : List Opd) : execO call ⟨d, .mkf f a b, none⟩ S h = match stepV (.mkf f a b) S h with | some (v, oh) => some (none, putO S d v, oh) | none => none := o_V _ (fun _ _ => by simp) (fun _ _ => by simp) (fun _ => by simp)
theorem o_mki (t : Nat) (x : Opd) : execO call ⟨d, .mki t x, none⟩ S h = match stepV (.mki t x) S h with | some (v, oh) => some (none, putO S d v, oh) | none => none := o_V _ (fun _ _ => by simp) (fun _ _ => by simp) (fun _ => by simp)
theorem o_inil (ne : Bool) (x : Opd) : execO call ⟨d, .inil ne x, none⟩ S h = match stepV (.inil ne x) S h with | some (v, oh) => some (none, putO S d v, oh) | none => none := o_V _ (fun _ _ => by simp) (fun _ _ => by simp) (fun _ => by simp)
theorem o_tassert (t : Nat) (z : V) (x : Opd) : execO call ⟨d, .tassert t z x, none⟩ S h = match stepV (.tassert t z x) S h with | some (v, oh) => some (none, putO S d v, oh) | none => none := o_V _ (fun _ _ => by simp) (fun _ _ => by simp) (fun _ => by simp)
theorem o_lenS (x : Opd) : execO call ⟨d, .lenS x, none⟩ S h = match stepV (.lenS x) S h with | some (v, oh) => some (none, putO S d v, oh) | none => none := o_V _ (fun _ _ => by simp) (fun _ _ => by simp) (fun _ => by simp)
theorem o_lenL (x : Opd) : execO call ⟨d, .lenL x, none⟩ S h = match stepV (.lenL x) S h with | some (v, oh) => some (none, putO S d v, oh) | none => none := o_V _ (fun _ _ => by simp) (fun _ _ => by simp) (fun _ => by simp)
theorem o_lenA (n : Nat) : execO call ⟨d, .lenA n, none⟩ S h = match stepV (.lenA n) S h with | some (v, oh) => some (none, putO S d v, oh) | none => none := o_V _ (fun _ _ => by simp) (fun _ _ => by simp) (fun _ => by simp)
theorem o_copyS (x y : Opd) : execO call ⟨d, .copyS x y, none⟩ S h = match stepV (.copyS x y) S h with | some (v, oh) => some (none, putO S d v, oh) | none => none := o_V _ (fun _ _ => by simp) (fun _ _ => by simp) (fun _ => by simp)
theorem o_copyL (e : Nat) (x y : Opd) : execO call ⟨d, .copyL e x y, none⟩ S h = match stepV (.copyL e x y) S h with | some (v, oh) => some (none, putO S d v, oh) | none => none := o_V _ (fun _ _ => by simp) (fun _ _ => by simp) (fun _ => by simp)
theorem o_clearL (e : Nat) (z : List V) (x : Opd) : execO call ⟨d, .clearL e z x, none⟩ S h = match stepV (.clearL e z x) S h with | some (v, oh) => some (none, putO S d v, oh) | none => none := o_V _ (fun _ _ => by simp) (fun _ _ => by simp) (fun _ => by simp)
theorem o_minmax (mx : Bool) (xs : List Opd) : execO call ⟨d, .minmax mx xs, none⟩ S h = match stepV (.minmax mx xs) S h with | some (v, oh) => some (none, putO S d v, oh) | none => none := o_V _ (fun _ _ => by simp) (fun _ _ => by simp) (fun _ => by simp)
theorem o_app (t e bytes : Nat) (z : List V) (x y : Opd) : execO call ⟨d, .app t e bytes z x y, none⟩ S h = match stepV (.app t e bytes z x y) S h with | some (v, oh) => some (none, putO S d v, oh) | none => none := o_V _ (fun _ _ => by simp) (fun _ _ => by simp) (fun _ => by simp)
theorem o_appz (t e bytes : Nat) (z : List V) (x y : Opd) : execO call ⟨d, .appz t e bytes z x y, none⟩ S h = match stepV (.appz t e bytes z x y) S h with | some (v, oh) => some (none, putO S d v, oh) | none => none := o_V _ (fun _ _ => by simp) (fun _ _ => by simp) (fun _ => by simp)
theorem o_appS (t bytes : Nat) (z : List V) (x y : Opd) : execO call ⟨d, .appS t bytes z x y, none⟩ S h = match stepV (.appS t bytes z x y) S h with | some (v, oh) => some (none, putO S d v, oh) | none => none := o_V _ (fun _ _ => by simp) (fun _ _ => by simp) (fun _ => by simp)
theorem o_mkSlice (t e bytes : Nat) (z : List V) (l c : Opd) : execO call ⟨d, .mkSlice t e bytes z l c, none⟩ S h = match stepV (.mkSlice t e bytes z l c) S h with | some (v, oh) => some (none, putO S d v, oh) | none => none := o_V _ (fun _ _ => by simp) (fun _ _ => by simp) (fun _ => by simp)
theorem o_mkChan (n : Nat) : execO call ⟨d, .mkChan n, none⟩ S h = match stepV (.mkChan n) S h with | some (v, oh) => some (none, putO S d v, oh) | none => none := o_V _ (fun _ _ => by simp) (fun _ _ => by simp) (fun _ => by simp)
theorem o_lenC (x : Opd) : execO call ⟨d, .lenC x, none⟩ S h = match stepV (.lenC x) S h with | some (v, oh) => some (none, putO S d v, oh) | none => none := o_V _ (fun _ _ => by simp) (fun _ _ => by simp) (fun _ => by simp)
theorem o_sdata (x : Opd) : execO call ⟨d, .sdata x, none⟩ S h = match stepV (.sdata x) S h with | some (v, oh) => some (none, putO S d v, oh) | none => none := o_V _ (fun _ _ => by simp) (fun _ _ => by simp) (fun _ => by simp)
theorem o_ustr (e : Nat) (p n : Opd) : execO call ⟨d, .ustr e p n, none⟩ S h = match stepV (.ustr e p n) S h with | some (v, oh) => some (none, putO S d v, oh) | none => none := o_V _ (fun _ _ => by simp) (fun _ _ => by simp) (fun _ => by simp)
theorem o_cvU (x : Opd) : execO call ⟨d, .cvU x, none⟩ S h = match stepV (.cvU x) S h with | some (v, oh) => some (none, putO S d v, oh) | none => none := o_V _ (fun _ _ => by simp) (fun _ _ => by simp) (fun _ => by simp)
theorem o_cvP (tb : List (Nat × Nat)) (x : Opd) : execO call ⟨d, .cvP tb x, none⟩ S h = match stepV (.cvP tb x) S h with | some (v, oh) => some (none, putO S d v, oh) | none => none := o_V _ (fun _ _ => by simp) (fun _ _ => by simp) (fun _ => by simp)
theorem o_mkMap  : execO call ⟨d, .mkMap , none⟩ S h = match stepV (.mkMap ) S h with | some (v, oh) => some (none, putO S d v, oh) | none => none := o_V _ (fun _ _ => by simp) (fun _ _ => by simp) (fun _ => by simp)
theorem o_lookup (kd : Kd) (z : V) (ok : Bool) (m k : Opd) : execO call ⟨d, .lookup kd z ok m k, none⟩ S h = match stepV (.lookup kd z ok m k) S h with | some (v, oh) => some (none, putO S d v, oh) | none => none := o_V _ (fun _ _ => by simp) (fun _ _ => by simp) (fun _ => by simp)
theorem o_mapSet (kd : Kd) (m k x : Opd) : execO call ⟨d, .mapSet kd m k x, none⟩ S h = match stepV (.mapSet kd m k x) S h with | some (v, oh) => some (none, putO S d v, oh) | none => none := o_V _ (fun _ _ => by simp) (fun _ _ => by simp) (fun _ => by simp)
theorem o_mapDel (kd : Kd) (m k : Opd) : execO call ⟨d, .mapDel kd m k, none⟩ S h = match stepV (.mapDel kd m k) S h with | some (v, oh) => some (none, putO S d v, oh) | none => none := o_V _ (fun _ _ => by simp) (fun _ _ => by simp) (fun _ => by simp)
theorem o_lenM (m : Opd) : execO call ⟨d, .lenM m, none⟩ S h = match stepV (.lenM m) S h with | some (v, oh) => some (none, putO S d v, oh) | none => none := o_V _ (fun _ _ => by simp) (fun _ _ => by simp) (fun _ => by simp)
theorem o_clearM (m : Opd) : execO call ⟨d, .clearM m, none⟩ S h = match stepV (.clearM m) S h with | some (v, oh) => some (none, putO S d v, oh) | none => none := o_V _ (fun _ _ => by simp) (fun _ _ => by simp) (fun _ => by simp)

theorem put_some (i : Nat) (v : V) : putO S (some i) v = fput S i v := rfl
theorem put_none (v : V) : putO S none v = S := rfl
theorem ev_t (i : Nat) : Opd.ev S (.t i) = S i := rfl
theorem ev_k (v : V) : Opd.ev S (.k v) = v := rfl
theorem ev_f (n : Nat) : Opd.ev S (.f n) = .fn n [] [] := rfl
theorem evs_nil : evs S [] = [] := rfl
theorem evs_cons (x : Opd) (l : List Opd) : evs S (x :: l) = x.ev S :: evs S l := rfl
theorem get_fput (i j : Nat) (v : V) : fput S i v j = if j = i then v else S j := rfl
theorem get_init (l : List V) (i : Nat) : initS l i = l.getD i undefV := rfl
theorem get_slots (i : Nat) : Slots.get S i = S i := rfl
theorem enter_o : (enter h).o = h.o := rfl
theorem enter_e : (enter h).e = h.o.length := rfl
theorem enter_d : (enter h).d = h.o.length := rfl
end

/-- What answers for some functions answers rightly. -/
def ExtSound (P : Program) (ext : ExtF) : Prop :=
  ∀ call, CallOk P call → ∀ f g args h out oh, ext call f = some g → g args h = some (out, oh) → callOk P f = true ∧ ∀ ι w, HR ι h.o w → V.scs h.o.length args →
    Calls P f (V.reals ι args).toArray w fun e w' => ∃ κ, Nx ι h w κ (oh.getD h) w' ∧ OutOk κ (oh.getD h).o.length e out

def FOk (P : Program) (F : Nat → Option AF) : Prop := ∀ f af, F f = some af → trProg P f = some af

def H0 : Heap := ⟨[], 0, 0⟩
theorem hr0 (ι : Map) (w : World) : HR ι H0.o w := ⟨fun l o h => by simp [H0] at h, fun l l' o o' _ h => by simp [H0] at h, fun l o h => by simp [H0] at h⟩
theorem noOwn0 : NoOwn H0 := fun l o h => by simp [H0] at h
def noMap : Map := fun _ => ⟨0, 0, 0⟩

end AM

/- AM, part 21: plain laws of numbers. -/
namespace AM
open Go
set_option linter.unusedVariables false

theorem wrap_i64_eq (n : Int) : IntKind.i64.wrap n = if 9223372036854775808 ≤ n % 18446744073709551616 then n % 18446744073709551616 - 18446744073709551616 else n % 18446744073709551616 := by
  simp only [IntKind.wrap, IntKind.bits, IntKind.signed]
  simp
theorem wrap_i64 {n : Int} (h0 : -9223372036854775808 ≤ n) (h1 : n < 9223372036854775808) : IntKind.i64.wrap n = n := by
  rw [wrap_i64_eq]; split <;> omega
/-- A number out of bytes, the great end first. -/
def be (l : List UInt8) : Nat := l.foldl (fun a b => a * 256 + b.toNat) 0

/-- The n lowest bytes of a number, the great end first. -/
def tobe : Nat → Nat → List UInt8
  | 0, _ => []
  | n + 1, v => tobe n (v / 256) ++ [UInt8.ofNat v]

def AC.fst : AC → AC
  | .seq a _ => a
  | c => c
def AC.snd : AC → AC
  | .seq _ b => b
  | c => c
def AC.inn : AC → AC
  | .block _ c => c
  | .loop c => c
  | .scope c => c
  | c => c

end AM

/- AM, part 22: what holds behind code. -/
namespace AM
open Go
set_option linter.unusedVariables false
set_option linter.unusedSectionVars false

section
variable {F : Nat → Option AF} {ext : ExtF}

/-- The code comes to an end, and then Q. -/
def To (F : Nat → Option AF) (ext : ExtF) (c : AC) (S : Nat → V) (h : Heap) (Q : Ex → (Nat → V) → Heap → Prop) : Prop :=
  ∃ x S' h', Run F ext c S h = some (x, S', h') ∧ Q x S' h'

theorem To.mono {c : AC} {S : Nat → V} {h : Heap} {Q Q' : Ex → (Nat → V) → Heap → Prop} (hc : To F ext c S h Q) (hQ : ∀ x S' h', Q x S' h' → Q' x S' h') : To F ext c S h Q' := by
  obtain ⟨x, S', h', e, q⟩ := hc
  exact ⟨x, S', h', e, hQ _ _ _ q⟩

theorem To.of {c : AC} {S : Nat → V} {h : Heap} {Q : Ex → (Nat → V) → Heap → Prop} {x : Ex} {S' : Nat → V} {h' : Heap} (e : Run F ext c S h = some (x, S', h')) (q : Q x S' h') : To F ext c S h Q := ⟨x, S', h', e, q⟩

/-- On with Q, where the code has come to its end in order. -/
def andThen (Q1 : (Nat → V) → Heap → Prop) (Q : Ex → (Nat → V) → Heap → Prop) : Ex → (Nat → V) → Heap → Prop
  | .norm, S, h => Q1 S h
  | x, S, h => Q x S h

theorem To.seq (hx : ExtMono ext) {a b : AC} {S : Nat → V} {h : Heap} {Q : Ex → (Nat → V) → Heap → Prop} (ha : To F ext a S h (andThen (fun S' h' => To F ext b S' h' Q) Q)) : To F ext (.seq a b) S h Q := by
  obtain ⟨x, S', h', e, q⟩ := ha
  cases x with
  | norm =>
    obtain ⟨x2, S2, h2, e2, q2⟩ := q
    exact ⟨x2, S2, h2, Run_seq hx S h a b e e2, q2⟩
  | _ => exact ⟨_, _, _, Run_seq_out hx S h a b (by simp) e, q⟩

theorem To.cond (hx : ExtMono ext) {o : Opd} {a b : AC} {S : Nat → V} {h : Heap} {Q : Ex → (Nat → V) → Heap → Prop} {t : Bool} (ho : o.ev S = .bool t) (hc : To F ext (if t = true then a else b) S h Q) : To F ext (.cond o a b) S h Q := by
  obtain ⟨x2, S2, h2, e2, q2⟩ := hc
  exact ⟨x2, S2, h2, by rw [Run_cond hx S h o a b ho]; exact e2, q2⟩

/-- Out of a block. -/
def outOf (id : Nat) (Q : Ex → (Nat → V) → Heap → Prop) : Ex → (Nat → V) → Heap → Prop
  | .exit i, S, h => if i = id then Q .norm S h else Q (.exit i) S h
  | x, S, h => Q x S h

theorem To.block (hx : ExtMono ext) {id : Nat} {c : AC} {S : Nat → V} {h : Heap} {Q : Ex → (Nat → V) → Heap → Prop} (hc : To F ext c S h (outOf id Q)) : To F ext (.block id c) S h Q := by
  obtain ⟨x, S', h', e, q⟩ := hc
  refine ⟨_, S', h', Run_block hx S h id c e, ?_⟩
  cases x with
  | exit i =>
    simp only [outOf] at q
    by_cases hi : i = id
    · simp only [hi, if_true] at q ⊢; exact q
    · simp only [hi, if_false] at q ⊢; exact q
  | _ => exact q

theorem To.scope (hx : ExtMono ext) {c : AC} {S : Nat → V} {h : Heap} {Q : Ex → (Nat → V) → Heap → Prop} (hc : To F ext c S h Q) : To F ext (.scope c) S h Q := by
  obtain ⟨x, S', h', e, q⟩ := hc
  exact ⟨x, S', h', Run_scope hx S h c e, q⟩

/-- A loop, by what each round leaves and a number that falls. -/
theorem To.loop (hx : ExtMono ext) {c : AC} {Q : Ex → (Nat → V) → Heap → Prop} (I : Nat → (Nat → V) → Heap → Prop)
    (hr : ∀ k S h, I k S h → To F ext c S h (andThen (fun S' h' => ∃ j, j < k ∧ I j S' h') Q)) : ∀ k S h, I k S h → To F ext (.loop c) S h Q := by
  intro k
  induction k using Nat.strongRecOn with
  | ind k ih =>
    intro S h hI
    obtain ⟨x, S', h', e, q⟩ := hr k S h hI
    cases x with
    | norm =>
      obtain ⟨j, hj, hI'⟩ := q
      obtain ⟨x2, S2, h2, e2, q2⟩ := ih j hj S' h' hI'
      exact ⟨x2, S2, h2, Run_loop hx S h c e e2, q2⟩
    | _ => exact ⟨_, _, _, Run_loop_out hx S h c (by simp) e, q⟩

/-- A call, by what holds behind the body. -/
theorem To.den (hx : ExtMono ext) {f : Nat} {a : AF} {args : List V} {h : Heap} (hF : F f = some a) (hE : ∀ c, ext c f = none) (hn : args.length ≤ a.n) {q : Out × Option Heap}
    (hc : To F ext a.body (initS args) (enter h) fun x S' h' => finish a h (some (x, S', h')) = some q) : Den F ext f args h = some q := by
  obtain ⟨x, S', h', e, qq⟩ := hc
  exact Den_call hx h hF hE hn e qq

end
end AM

/- AM, part 23: functions of plain arguments and a plain result, answered by what was proved of them. -/
namespace AM
open Go
set_option linter.unusedVariables false
set_option linter.unusedSectionVars false

/-- Answers by tables: plain arguments, a plain value. -/
def plainExt (g : Nat → Option (List V → Option V)) : ExtF := fun _ f => (g f).map fun sp => fun args _ => if V.plains args = true then (sp args).map fun v => (.val v, none) else none

theorem plainExt_mono (g : Nat → Option (List V → Option V)) : ExtMono (plainExt g) := by
  intro c c' _ f
  refine ⟨fun h => h, fun k h => ⟨k, h, fun a hp r e => e⟩⟩

theorem plainExt_none {g : Nat → Option (List V → Option V)} {f : Nat} (h : g f = none) (c : CallF) : plainExt g c f = none := by simp [plainExt, h]

/-- The tables say no more than what the functions come to over an empty heap. -/
def PlainOk (F : Nat → Option AF) (E : ExtF) (g : Nat → Option (List V → Option V)) : Prop :=
  ∀ f sp args v, g f = some sp → sp args = some v → V.plains args = true → v.plain = true ∧ ∃ oh, Den F E f args H0 = some (.val v, oh)

theorem keep_nx {ι : Map} {h : Heap} {w w' : World} (hr : HR ι h.o w) (hk : Kept w w') (ht : w'.tape = w.tape) : Nx ι h w ι h w' := by
  refine ⟨⟨fun l o hl => ?_, hr.apart, hr.sc⟩, Agree.refl _ _, Nat.le_refl _, ⟨hk.1, ht, hk.2.1, hk.2.2.1, fun b hb _ => hk.2.2.2 b hb, fun b _ h => h⟩, fun _ _ _ _ h => h, ⟨Nat.le_refl _, Nat.le_refl _⟩, fun _ _ _ => rfl, fun _ _ h _ _ => h⟩
  have ho := hr.obj l o hl
  cases hlive : o.live with
  | false => cases o <;> simp_all [Obj.live, OR]
  | true => exact ho.of_block (hk.2.2.2 _ (ho.lt hlive))

theorem plainExt_sound {P : Program} (hm : P.follows .mixedOrders = true) {F : Nat → Option AF} (hF : FOk P F) {E : ExtF} (hE : ExtSound P E) {g : Nat → Option (List V → Option V)} (hg : PlainOk F E g) : ExtSound P (plainExt g) := by
  intro call _ f k args h out oh hk he
  unfold plainExt at hk
  cases hgf : g f with
  | none => rw [hgf] at hk; cases hk
  | some sp =>
    rw [hgf] at hk
    simp only [Option.map_some, Option.some.injEq] at hk
    subst hk
    simp only at he
    split at he
    · rename_i hp
      cases hsp : sp args with
      | none => rw [hsp] at he; cases he
      | some v =>
        rw [hsp] at he
        simp only [Option.map_some, Option.some.injEq, Prod.mk.injEq] at he
        obtain ⟨rfl, rfl⟩ := he
        obtain ⟨hv, oh, hd⟩ := hg f sp args v hgf hsp hp
        obtain ⟨n, hn⟩ := of_Den hd
        obtain ⟨hok, hcalls⟩ := callN_ok hm hF hE n _ _ _ _ _ hn
        refine ⟨hok, fun ι w hr hs => ?_⟩
        refine (hcalls ι w (hr0 ι w) (V.scs_of_plains _ _ hp)).mono fun e w' ⟨κ, hnx, ho⟩ => ?_
        refine ⟨ι, keep_nx hr (kept_of_nx hnx noOwn0) hnx.fr.tape, ?_, V.sc_of_plain _ v hv⟩
        rw [ho.1]
        have h0 : v.real κ = v.real ι := V.real_agree (n := 0) (fun l hl => absurd hl (Nat.not_lt_zero l)) v (V.sc_of_plain 0 v hv)
        rw [h0]
    · cases he

theorem den_plain {F : Nat → Option AF} {g : Nat → Option (List V → Option V)} {f : Nat} {sp : List V → Option V} {args : List V} {v : V} (h : Heap) (hg : g f = some sp) (hs : sp args = some v) (hp : V.plains args = true) :
    Den F (plainExt g) f args h = some (.val v, none) := by
  refine Den_of (plainExt_mono g) (k := 1) ?_
  simp only [callN, plainExt, hg, Option.map_some, if_pos hp, hs]
end AM

/- AM, part 24: functions that a contract of the model's own tells of. -/
namespace AM
open Go
set_option linter.unusedVariables false

/-- What contracts say of some functions: plain arguments, a plain value, and the world as it was. -/
def PlainCalls (P : Program) (g : Nat → Option (List V → Option V)) : Prop :=
  ∀ f sp args v, g f = some sp → sp args = some v → V.plains args = true → callOk P f = true ∧ v.plain = true ∧ ∀ w, Calls P f (V.reals noMap args).toArray w fun e w' => e = .returned (v.real noMap) ∧ w' = w

theorem plainExt_calls {P : Program} {g : Nat → Option (List V → Option V)} (hg : PlainCalls P g) : ExtSound P (plainExt g) := by
  intro call _ f k args h out oh hk he
  unfold plainExt at hk
  cases hgf : g f with
  | none => rw [hgf] at hk; cases hk
  | some sp =>
    rw [hgf] at hk
    simp only [Option.map_some, Option.some.injEq] at hk
    subst hk
    simp only at he
    split at he
    · rename_i hp
      cases hsp : sp args with
      | none => rw [hsp] at he; cases he
      | some v =>
        rw [hsp] at he
        simp only [Option.map_some, Option.some.injEq, Prod.mk.injEq] at he
        obtain ⟨rfl, rfl⟩ := he
        obtain ⟨hok, hv, hc⟩ := hg f sp args v hgf hsp hp
        refine ⟨hok, fun ι w hr hs => ?_⟩
        have hre : V.reals ι args = V.reals noMap args := V.reals_agree (n := 0) (fun l hl => absurd hl (Nat.not_lt_zero l)) args (V.scs_of_plains 0 args hp)
        rw [hre]
        refine (hc w).mono fun e w' ⟨he, hw⟩ => ?_
        subst hw
        refine ⟨ι, Nx.refl hr, ?_, V.sc_of_plain _ v hv⟩
        rw [he]
        rw [V.real_agree (n := 0) (ι := ι) (κ := noMap) (fun l hl => absurd hl (Nat.not_lt_zero l)) v (V.sc_of_plain 0 v hv)]
    · cases he
end AM

/- AM, part 25: single operations as equations, for regions whose order is open. -/
namespace AM
open Go
set_option linter.unusedVariables false
set_option linter.unusedSectionVars false

section
variable {σ : Type} [Slots σ] {call : CallF} {S : σ} {h : Heap}

theorem s_nck (x : Opd) : stepA call (.nck x) S h = match stepV (.nck x) S h with | some (v, oh) => some (.val v, oh) | none => none := rfl
theorem s_load (n : Option Nat) (x : Opd) : stepA call (.load n x) S h = match stepV (.load n x) S h with | some (v, oh) => some (.val v, oh) | none => none := rfl
theorem s_store (n : Nat) (x v : Opd) : stepA call (.store n x v) S h = match stepV (.store n x v) S h with | some (v, oh) => some (.val v, oh) | none => none := rfl
theorem s_alloc (t : Nat) (z : List V) : stepA call (.alloc t z) S h = match stepV (.alloc t z) S h with | some (v, oh) => some (.val v, oh) | none => none := rfl
theorem s_box (t : Nat) (x : Opd) : stepA call (.box t x) S h = match stepV (.box t x) S h with | some (v, oh) => some (.val v, oh) | none => none := rfl
theorem s_build (z : List V) (ps : List (Nat × Nat × Opd)) : stepA call (.build z ps) S h = match stepV (.build z ps) S h with | some (v, oh) => some (.val v, oh) | none => none := rfl
theorem s_bslice (t e : Nat) (z : List V) (ps : List (Nat × Nat × Opd)) : stepA call (.bslice t e z ps) S h = match stepV (.bslice t e z ps) S h with | some (v, oh) => some (.val v, oh) | none => none := rfl
theorem s_faddr (off : Nat) (x : Opd) : stepA call (.faddr off x) S h = match stepV (.faddr off x) S h with | some (v, oh) => some (.val v, oh) | none => none := rfl
theorem s_field (off : Nat) (n : Option Nat) (x : Opd) : stepA call (.field off n x) S h = match stepV (.field off n x) S h with | some (v, oh) => some (.val v, oh) | none => none := rfl
theorem s_iaddrA (len e : Nat) (x i : Opd) : stepA call (.iaddrA len e x i) S h = match stepV (.iaddrA len e x i) S h with | some (v, oh) => some (.val v, oh) | none => none := rfl
theorem s_iaddrS (e : Nat) (x i : Opd) : stepA call (.iaddrS e x i) S h = match stepV (.iaddrS e x i) S h with | some (v, oh) => some (.val v, oh) | none => none := rfl
theorem s_idxA (len e : Nat) (n : Option Nat) (x i : Opd) : stepA call (.idxA len e n x i) S h = match stepV (.idxA len e n x i) S h with | some (v, oh) => some (.val v, oh) | none => none := rfl
theorem s_idxS (x i : Opd) : stepA call (.idxS x i) S h = match stepV (.idxS x i) S h with | some (v, oh) => some (.val v, oh) | none => none := rfl
theorem s_slS (x : Opd) (lo hi : Option Opd) : stepA call (.slS x lo hi) S h = match stepV (.slS x lo hi) S h with | some (v, oh) => some (.val v, oh) | none => none := rfl
theorem s_slL (e : Nat) (x : Opd) (lo hi : Option Opd) : stepA call (.slL e x lo hi) S h = match stepV (.slL e x lo hi) S h with | some (v, oh) => some (.val v, oh) | none => none := rfl
theorem s_slA (len e : Nat) (x : Opd) (lo hi : Option Opd) : stepA call (.slA len e x lo hi) S h = match stepV (.slA len e x lo hi) S h with | some (v, oh) => some (.val v, oh) | none => none := rfl
theorem s_toInt (k : IntKind) (x : Opd) : stepA call (.toInt k x) S h = match stepV (.toInt k x) S h with | some (v, oh) => some (.val v, oh) | none => none := rfl
theorem s_toStr (x : Opd) : stepA call (.toStr x) S h = match stepV (.toStr x) S h with | some (v, oh) => some (.val v, oh) | none => none := rfl
theorem s_cpS (x : Opd) : stepA call (.cpS x) S h = match stepV (.cpS x) S h with | some (v, oh) => some (.val v, oh) | none => none := rfl
theorem s_toBytes (t : Nat) (x : Opd) : stepA call (.toBytes t x) S h = match stepV (.toBytes t x) S h with | some (v, oh) => some (.val v, oh) | none => none := rfl
theorem s_extract (x : Opd) (i : Nat) : stepA call (.extract x i) S h = match stepV (.extract x i) S h with | some (v, oh) => some (.val v, oh) | none => none := rfl
theorem s_mkf (f : Nat) (a b : List Opd) : stepA call (.mkf f a b) S h = match stepV (.mkf f a b) S h with | some (v, oh) => some (.val v, oh) | none => none := rfl
theorem s_mki (t : Nat) (x : Opd) : stepA call (.mki t x) S h = match stepV (.mki t x) S h with | some (v, oh) => some (.val v, oh) | none => none := rfl
theorem s_inil (ne : Bool) (x : Opd) : stepA call (.inil ne x) S h = match stepV (.inil ne x) S h with | some (v, oh) => some (.val v, oh) | none => none := rfl
theorem s_tassert (t : Nat) (z : V) (x : Opd) : stepA call (.tassert t z x) S h = match stepV (.tassert t z x) S h with | some (v, oh) => some (.val v, oh) | none => none := rfl
theorem s_lenS (x : Opd) : stepA call (.lenS x) S h = match stepV (.lenS x) S h with | some (v, oh) => some (.val v, oh) | none => none := rfl
theorem s_lenL (x : Opd) : stepA call (.lenL x) S h = match stepV (.lenL x) S h with | some (v, oh) => some (.val v, oh) | none => none := rfl
theorem s_lenA (n : Nat) : stepA call (.lenA n) S h = match stepV (.lenA n) S h with | some (v, oh) => some (.val v, oh) | none => none := rfl
theorem s_copyS (x y : Opd) : stepA call (.copyS x y) S h = match stepV (.copyS x y) S h with | some (v, oh) => some (.val v, oh) | none => none := rfl
theorem s_copyL (e : Nat) (x y : Opd) : stepA call (.copyL e x y) S h = match stepV (.copyL e x y) S h with | some (v, oh) => some (.val v, oh) | none => none := rfl
theorem s_clearL (e : Nat) (z : List V) (x : Opd) : stepA call (.clearL e z x) S h = match stepV (.clearL e z x) S h with | some (v, oh) => some (.val v, oh) | none => none := rfl
theorem s_minmax (mx : Bool) (xs : List Opd) : stepA call (.minmax mx xs) S h = match stepV (.minmax mx xs) S h with | some (v, oh) => some (.val v, oh) | none => none := rfl
theorem s_app (t e bytes : Nat) (z : List V) (x y : Opd) : stepA call (.app t e bytes z x y) S h = match stepV (.app t e bytes z x y) S h with | some (v, oh) => some (.val v, oh) | none => none := rfl
theorem s_appz (t e bytes : Nat) (z : List V) (x y : Opd) : stepA call (.appz t e bytes z x y) S h = match stepV (.appz t e bytes z x y) S h with | some (v, oh) => some (.val v, oh) | none => none := rfl
theorem s_appS (t bytes : Nat) (z : List V) (x y : Opd) : stepA call (.appS t bytes z x y) S h = match stepV (.appS t bytes z x y) S h with | some (v, oh) => some (.val v, oh) | none => none := rfl
theorem s_mkSlice (t e bytes : Nat) (z : List V) (l c : Opd) : stepA call (.mkSlice t e bytes z l c) S h = match stepV (.mkSlice t e bytes z l c) S h with | some (v, oh) => some (.val v, oh) | none => none := rfl
theorem s_mkChan (n : Nat) : stepA call (.mkChan n) S h = match stepV (.mkChan n) S h with | some (v, oh) => some (.val v, oh) | none => none := rfl
theorem s_lenC (x : Opd) : stepA call (.lenC x) S h = match stepV (.lenC x) S h with | some (v, oh) => some (.val v, oh) | none => none := rfl
theorem s_sdata (x : Opd) : stepA call (.sdata x) S h = match stepV (.sdata x) S h with | some (v, oh) => some (.val v, oh) | none => none := rfl
theorem s_ustr (e : Nat) (p n : Opd) : stepA call (.ustr e p n) S h = match stepV (.ustr e p n) S h with | some (v, oh) => some (.val v, oh) | none => none := rfl
theorem s_cvU (x : Opd) : stepA call (.cvU x) S h = match stepV (.cvU x) S h with | some (v, oh) => some (.val v, oh) | none => none := rfl
theorem s_cvP (tb : List (Nat × Nat)) (x : Opd) : stepA call (.cvP tb x) S h = match stepV (.cvP tb x) S h with | some (v, oh) => some (.val v, oh) | none => none := rfl
theorem s_mkMap  : stepA call (.mkMap ) S h = match stepV (.mkMap ) S h with | some (v, oh) => some (.val v, oh) | none => none := rfl
theorem s_lookup (kd : Kd) (z : V) (ok : Bool) (m k : Opd) : stepA call (.lookup kd z ok m k) S h = match stepV (.lookup kd z ok m k) S h with | some (v, oh) => some (.val v, oh) | none => none := rfl
theorem s_mapSet (kd : Kd) (m k x : Opd) : stepA call (.mapSet kd m k x) S h = match stepV (.mapSet kd m k x) S h with | some (v, oh) => some (.val v, oh) | none => none := rfl
theorem s_mapDel (kd : Kd) (m k : Opd) : stepA call (.mapDel kd m k) S h = match stepV (.mapDel kd m k) S h with | some (v, oh) => some (.val v, oh) | none => none := rfl
theorem s_lenM (m : Opd) : stepA call (.lenM m) S h = match stepV (.lenM m) S h with | some (v, oh) => some (.val v, oh) | none => none := rfl
theorem s_clearM (m : Opd) : stepA call (.clearM m) S h = match stepV (.clearM m) S h with | some (v, oh) => some (.val v, oh) | none => none := rfl
theorem s_mv (x : Opd) : stepA call (.mv x) S h = match stepV (.mv x) S h with | some (v, oh) => some (.val v, oh) | none => none := rfl
theorem s_bin (o : BinOp) (x y : Opd) : stepA call (.bin o x y) S h = match stepV (.bin o x y) S h with | some (v, oh) => some (.val v, oh) | none => none := rfl
theorem s_eqf (neg agg : Bool) (ks : List (Nat × Kd)) (x y : Opd) : stepA call (.eqf neg agg ks x y) S h = match stepV (.eqf neg agg ks x y) S h with | some (v, oh) => some (.val v, oh) | none => none := rfl
theorem s_un (o : UnOp) (x : Opd) : stepA call (.un o x) S h = match stepV (.un o x) S h with | some (v, oh) => some (.val v, oh) | none => none := rfl
theorem s_pick (c a b : Opd) : stepA call (.pick c a b) S h = match stepV (.pick c a b) S h with | some (v, oh) => some (.val v, oh) | none => none := rfl
theorem s_call (f : Nat) (args : List Opd) : stepA call (.call f args) S h = call f (evs S args) h := rfl
theorem s_callv (x : Opd) (args : List Opd) : stepA call (.callv x args) S h = match x.ev S with | .fn f first caps => call f (first ++ evs S args ++ caps) h | _ => none := rfl
theorem w_none : wantedA S none = true := rfl
theorem w_some (j : Nat) (w : Bool) : wantedA S (some (j, w)) = match Slots.get S j with | .bool b => b == w | _ => false := rfl
theorem bft : (false == true) = false := rfl
theorem btf : (true == false) = false := rfl
end
end AM

/- AM, part 26: layers of functions that are answered by what was proved of them; bytes in cells. -/
namespace AM
open Go
set_option linter.unusedVariables false
set_option linter.unusedSectionVars false

abbrev Ans := List V → Option V

/-- What is said of a function holds, of plain arguments, over an empty heap. -/
def SpOk (F : Nat → Option AF) (E : ExtF) (f : Nat) (sp : Ans) : Prop := ∀ args v, sp args = some v → V.plains args = true → v.plain = true ∧ ∃ oh, Den F E f args H0 = some (.val v, oh)

def addG (g : Nat → Option Ans) (l : List (Nat × Ans)) : Nat → Option Ans := fun k => match l.find? (fun p => p.1 == k) with
  | some p => some p.2
  | none => g k

theorem addG_sound {P : Program} (hm : P.follows .mixedOrders = true) {F : Nat → Option AF} (hF : FOk P F) {g : Nat → Option Ans} (hE : ExtSound P (plainExt g)) {l : List (Nat × Ans)} (hl : ∀ p ∈ l, SpOk F (plainExt g) p.1 p.2) : ExtSound P (plainExt (addG g l)) := by
  intro call hcall f k args h out oh hk he
  cases hf : l.find? (fun p => p.1 == f) with
  | none =>
    have hg : addG g l f = g f := by simp only [addG, hf]
    have hk' : plainExt g call f = some k := by
      rw [← hk]; simp only [plainExt, hg]
    exact hE call hcall f k args h out oh hk' he
  | some p =>
    have hp := List.mem_of_find?_eq_some hf
    have hpf : p.1 = f := by simpa using List.find?_some hf
    have hsp := hl p hp
    let g1 : Nat → Option Ans := fun j => if j = p.1 then some p.2 else none
    have h1 : PlainOk F (plainExt g) g1 := by
      intro f' sp args v hg' hs hpl
      simp only [g1] at hg'
      split at hg'
      · rename_i e
        cases hg'
        rw [e]
        exact hsp args v hs hpl
      · cases hg'
    have h2 := plainExt_sound hm hF hE h1
    refine h2 call hcall f k args h out oh ?_ he
    rw [← hk]
    simp only [plainExt, g1, addG, hf, hpf, if_true]

/-! ### Bytes -/

theorem bytesA_one (l : List UInt8) : (bytesA l).all V.one = true := by simp [bytesA, V.one]
theorem onlys_bytes (ok : Nat → Bool) (l : List UInt8) : V.onlys ok (bytesA l) = true := V.onlys_of_scs (n := 0) (fun l hl => absurd hl (Nat.not_lt_zero l)) _ (V.scs_of_plains 0 _ (bytesA_plains l))
theorem bytesA_length (l : List UInt8) : (bytesA l).length = l.length := by simp [bytesA]
/-- Bytes laid over bytes. -/
def lay (p : List UInt8) (i : Nat) (s : List UInt8) : List UInt8 := p.take i ++ s ++ p.drop (i + s.length)

/-- So many bytes 0. -/
def zs (n : Nat) : List UInt8 := List.replicate n 0
def z64 : List V := bytesA (zs 64)
def z16 : List V := bytesA (zs 16)
def rdB : List V → Option (List UInt8)
  | [] => some []
  | .int .u8 n :: r => match rdB r with
    | some s => if 0 ≤ n ∧ n < 256 then some (UInt8.ofNat n.toNat :: s) else none
    | none => none
  | _ => none

/-- An array of bytes as an argument. -/
def pageOf (n : Nat) : V → Option (List UInt8)
  | .agg cs => match rdB cs with
    | some p => if p.length = n then some p else none
    | none => none
  | _ => none
section
variable {o : List Obj} {e d : Nat}
end
end AM

/- AM, part 27: words and bytes, once more. -/
namespace AM
open Go
set_option linter.unusedVariables false
set_option linter.unusedSimpArgs false

/-- The byte of a number that stands so many bytes from its end. -/
def byteAt (n : Int) (j : Nat) : UInt8 := UInt8.ofNat ((n.fdiv (2 ^ (8 * j))) % 256).toNat
def tobeI (s : Nat) (n : Int) : List UInt8 := (List.range s).map fun j => byteAt n (s - 1 - j)
end AM

/- AM, part 28: code step by step. -/
namespace AM
open Go
set_option linter.unusedVariables false
set_option linter.unusedSectionVars false

section
variable {F : Nat → Option AF} {ext : ExtF} (hx : ExtMono ext)
include hx

/-- One operation of a region in order. -/
theorem To.op {o : AO} {r : List AO} {S S' : Nat → V} {h : Heap} {oh : Option Heap} {Q : Ex → (Nat → V) → Heap → Prop} (he : execO (Den F ext) o S h = some (none, S', oh)) (hk : To F ext (.region r false) S' (oh.getD h) Q) : To F ext (.region (o :: r) false) S h Q := by
  obtain ⟨x, S2, h2, e, q⟩ := hk
  refine ⟨x, S2, h2, ?_, q⟩
  rw [eq_region hx] at e ⊢
  rw [ops_cons, he]
  cases oh <;> exact e

theorem To.op0 {o : AO} {r : List AO} {S S' : Nat → V} {h : Heap} {Q : Ex → (Nat → V) → Heap → Prop} (he : execO (Den F ext) o S h = some (none, S', none)) (hk : To F ext (.region r false) S' h Q) : To F ext (.region (o :: r) false) S h Q := To.op hx he hk
theorem To.op1 {o : AO} {r : List AO} {S S' : Nat → V} {h h' : Heap} {Q : Ex → (Nat → V) → Heap → Prop} (he : execO (Den F ext) o S h = some (none, S', some h')) (hk : To F ext (.region r false) S' h' Q) : To F ext (.region (o :: r) false) S h Q := To.op hx he hk

theorem To.nop {S : Nat → V} {h : Heap} {Q : Ex → (Nat → V) → Heap → Prop} (hk : Q .norm S h) : To F ext (.region [] false) S h Q := ⟨_, _, _, eq_region hx S h [], hk⟩
theorem To.skip {S : Nat → V} {h : Heap} {Q : Ex → (Nat → V) → Heap → Prop} (hk : Q .norm S h) : To F ext .skip S h Q := ⟨_, _, _, Run_skip hx S h, hk⟩
theorem To.label {l : Nat} {S : Nat → V} {h : Heap} {Q : Ex → (Nat → V) → Heap → Prop} (hk : Q .norm S h) : To F ext (.label l) S h Q := ⟨_, _, _, Run_label hx S h l, hk⟩
theorem To.ret {S : Nat → V} {h : Heap} {Q : Ex → (Nat → V) → Heap → Prop} (hk : Q .ret S h) : To F ext .ret S h Q := ⟨_, _, _, Run_ret hx S h, hk⟩
theorem To.exit {id : Nat} {S : Nat → V} {h : Heap} {Q : Ex → (Nat → V) → Heap → Prop} (hk : Q (.exit id) S h) : To F ext (.exit id) S h Q := ⟨_, _, _, Run_exit hx S h id, hk⟩
theorem To.condT {o : Opd} {a b : AC} {S : Nat → V} {h : Heap} {Q : Ex → (Nat → V) → Heap → Prop} (ho : o.ev S = .bool true) (hc : To F ext a S h Q) : To F ext (.cond o a b) S h Q := To.cond hx ho hc
theorem To.condF {o : Opd} {a b : AC} {S : Nat → V} {h : Heap} {Q : Ex → (Nat → V) → Heap → Prop} (ho : o.ev S = .bool false) (hc : To F ext b S h Q) : To F ext (.cond o a b) S h Q := To.cond hx ho hc

/-- What is left of a region whose order is open. -/
def ToD (F : Nat → Option AF) (ext : ExtF) (N m : Nat) (l : List DO) (S : Nat → V) (h : Heap) (Q : (Nat → V) → Heap → Prop) : Prop := ∃ S' h', execD (Den F ext) N m l S h = some (S', h') ∧ Q S' h'

theorem To.draw {m : Nat} {l : List DO} {S : Nat → V} {h : Heap} {Q : Ex → (Nat → V) → Heap → Prop} (hm : m ≠ 0) (hd : ToD F ext h.o.length m l S ⟨h.o ++ List.replicate m .dead, h.o.length, h.o.length⟩ (fun S' h' => Q .norm S' ⟨h'.o, min h.e h'.e, min h.d h'.d⟩)) : To F ext (.draw m l) S h Q := by
  obtain ⟨S', h', e, q⟩ := hd
  refine ⟨_, _, _, ?_, q⟩
  rw [eq_draw hx]
  simp only [drawA, if_neg hm, e]

omit hx
theorem ToD.op {N m : Nat} {x : DO} {l : List DO} {S : Nat → V} {h : Heap} {v : V} {k : KD} {Q : (Nat → V) → Heap → Prop} (he : outD (Den F ext) N m x S h = some (v, k)) (hk : ToD F ext N m l (putO S x.o.d v) (k.app h) Q) : ToD F ext N m (x :: l) S h Q := by
  obtain ⟨S', h', e, q⟩ := hk
  exact ⟨S', h', by simp only [execD, he, e], q⟩
theorem ToD.op0 {N m : Nat} {x : DO} {l : List DO} {S S' : Nat → V} {h : Heap} {v : V} {Q : (Nat → V) → Heap → Prop} (he : outD (Den F ext) N m x S h = some (v, .q)) (hs : putO S x.o.d v = S') (hk : ToD F ext N m l S' h Q) : ToD F ext N m (x :: l) S h Q := ToD.op he (hs ▸ hk)
theorem ToD.op1 {N m : Nat} {x : DO} {l : List DO} {S S' : Nat → V} {h h' : Heap} {v : V} {k : KD} {Q : (Nat → V) → Heap → Prop} (he : outD (Den F ext) N m x S h = some (v, k)) (hs : putO S x.o.d v = S') (hh : k.app h = h') (hk : ToD F ext N m l S' h' Q) : ToD F ext N m (x :: l) S h Q := ToD.op he (hs ▸ hh ▸ hk)
theorem ToD.nop {N m : Nat} {S : Nat → V} {h : Heap} {Q : (Nat → V) → Heap → Prop} (hk : Q S h) : ToD F ext N m [] S h Q := ⟨S, h, rfl, hk⟩
end
end AM

/- AM, part 29: the arguments of a law, whatever they are, as abstract values; from what a law comes to, to its row. -/
namespace AM
open Go
set_option linter.unusedVariables false
set_option linter.unusedSimpArgs false
set_option linter.unusedSectionVars false

/-- The types of arguments. -/
inductive Ty where
  | bool
  | int (k : IntKind)
  | str
  | slice (t : Ty)
  | arr (n : Nat) (t : Ty)
  | struct (ts : List Ty)

mutual
/-- How many cells. -/
def Ty.size : Ty → Nat
  | .arr n t => n * t.size
  | .struct ts => Ty.sizes ts
  | .bool | .int _ | .str | .slice _ => 1
def Ty.sizes : List Ty → Nat
  | [] => 0
  | t :: ts => t.size + Ty.sizes ts
end

mutual
/-- Cells of a type; slices are rows that are never written. -/
def Ty.has (o : List Obj) : Ty → List V → Prop
  | .bool, cs => ∃ b, cs = [.bool b]
  | .int k, cs => ∃ n, cs = [.int k n] ∧ k.min ≤ n ∧ n ≤ k.max
  | .str, cs => ∃ s, cs = [.str s] ∧ s.length ≤ maxLen
  | .slice t, cs => cs = [.nils] ∨ (∃ a, cs = [.zsl a]) ∨ ∃ l n, cs = [.slice l 0 n t.size] ∧ n ≤ maxLen ∧ ∃ u xs, o[l]? = some (.cells .ro u 0 (List.flatten xs)) ∧ xs.length = n ∧ ∀ x ∈ xs, Ty.has o t x
  | .arr n t, cs => ∃ xs, cs = List.flatten xs ∧ xs.length = n ∧ ∀ x ∈ xs, Ty.has o t x
  | .struct ts, cs => Ty.hass o ts cs
def Ty.hass (o : List Obj) : List Ty → List V → Prop
  | [], cs => cs = []
  | t :: ts, cs => ∃ a b, cs = a ++ b ∧ Ty.has o t a ∧ Ty.hass o ts b
end

/-- Never written, all of them. -/
def AllRo (o : List Obj) : Prop := ∀ (l : Nat) (x : Obj), o[l]? = some x → x.own = false

def Ext (o o' : List Obj) : Prop := ∃ r, o' = o ++ r
theorem Ext.refl (o : List Obj) : Ext o o := ⟨[], by simp⟩
theorem Ext.trans {a b c : List Obj} : Ext a b → Ext b c → Ext a c := by
  rintro ⟨r, rfl⟩ ⟨s, rfl⟩
  exact ⟨r ++ s, by simp⟩
theorem Ext.get {a b : List Obj} (h : Ext a b) {l : Nat} {x : Obj} (hx : a[l]? = some x) : b[l]? = some x := by
  obtain ⟨r, rfl⟩ := h
  rw [List.getElem?_append_left (List.getElem?_eq_some_iff.1 hx).1]
  exact hx
theorem Ext.len {a b : List Obj} (h : Ext a b) : a.length ≤ b.length := by
  obtain ⟨r, rfl⟩ := h
  simp

mutual
theorem Ty.has_ext {o o' : List Obj} (he : Ext o o') : ∀ (t : Ty) (cs : List V), Ty.has o t cs → Ty.has o' t cs
  | .bool, cs, h => h
  | .int _, cs, h => h
  | .str, cs, h => h
  | .slice t, cs, h => by
    rcases h with h | h | ⟨l, n, h1, h2, u, xs, h5, h6, h7⟩
    · exact .inl h
    · exact .inr (.inl h)
    · exact .inr (.inr ⟨l, n, h1, h2, u, xs, he.get h5, h6, fun x hx => Ty.has_ext he t x (h7 x hx)⟩)
  | .arr n t, cs, h => by
    obtain ⟨xs, h1, h2, h3⟩ := h
    exact ⟨xs, h1, h2, fun x hx => Ty.has_ext he t x (h3 x hx)⟩
  | .struct ts, cs, h => Ty.hass_ext he ts cs h
theorem Ty.hass_ext {o o' : List Obj} (he : Ext o o') : ∀ (ts : List Ty) (cs : List V), Ty.hass o ts cs → Ty.hass o' ts cs
  | [], cs, h => h
  | t :: ts, cs, h => by
    obtain ⟨a, b, h1, h2, h3⟩ := h
    exact ⟨a, b, h1, Ty.has_ext he t a h2, Ty.hass_ext he ts b h3⟩
end

section
variable {W : World}

/-- Cells of the world that can be read as abstract ones, behind any row of such. -/
def Opens (W : World) (k : List Obj → List V → Prop) (cs : List Value) : Prop :=
  ∀ (ι : Map) (o : List Obj), HR ι o W → AllRo o → ∃ κ o' cs', HR κ o' W ∧ AllRo o' ∧ Ext o o' ∧ Agree ι κ o.length ∧ V.reals κ cs' = cs ∧ V.scs o'.length cs' ∧ k o' cs'

theorem Opens.plain {k : List Obj → List V → Prop} {cs : List Value} {cs' : List V} (h1 : ∀ κ, V.reals κ cs' = cs) (h2 : V.plains cs' = true) (h3 : ∀ o, k o cs') : Opens W k cs :=
  fun ι o hr ha => ⟨ι, o, cs', hr, ha, Ext.refl o, Agree.refl _ _, h1 ι, V.scs_of_plains _ _ h2, h3 o⟩

theorem Opens.mono {k k' : List Obj → List V → Prop} {cs : List Value} (h : Opens W k cs) (hk : ∀ o x, k o x → k' o x) : Opens W k' cs := by
  intro ι o hr ha
  obtain ⟨κ, o', cs', h1, h2, h3, h4, h5, h6, h7⟩ := h ι o hr ha
  exact ⟨κ, o', cs', h1, h2, h3, h4, h5, h6, hk _ _ h7⟩

theorem reals_append (κ : Map) (a b : List V) : V.reals κ (a ++ b) = V.reals κ a ++ V.reals κ b := by simp only [V.reals_eq, List.map_append]

theorem Opens.append {k k' : List Obj → List V → Prop} {a b : List Value} (ha : Opens W k a) (hb : Opens W k' b) (hm : ∀ o o' x, Ext o o' → k o x → k o' x) :
    Opens W (fun o cs => ∃ x y, cs = x ++ y ∧ k o x ∧ k' o y) (a ++ b) := by
  intro ι o hr hro
  obtain ⟨κ, o1, x, h1, h2, h3, h4, h5, h6, h7⟩ := ha ι o hr hro
  obtain ⟨μ, o2, y, g1, g2, g3, g4, g5, g6, g7⟩ := hb κ o1 h1 h2
  refine ⟨μ, o2, x ++ y, g1, g2, h3.trans g3, h4.trans g4 h3.len, ?_, ?_, x, y, rfl, hm _ _ _ g3 h7, g7⟩
  · rw [reals_append, g5, V.reals_agree g4 x h6, h5]
  · exact scs_append.2 ⟨V.scs_mono g3.len x h6, g6⟩

/-- Rows of one kind. -/
theorem Opens.rows {k : List Obj → List V → Prop} (hm : ∀ o o' x, Ext o o' → k o x → k o' x) : ∀ (css : List (List Value)), (∀ c ∈ css, Opens W k c) → Opens W (fun o cs => ∃ xs, cs = List.flatten xs ∧ xs.length = css.length ∧ ∀ x ∈ xs, k o x) css.flatten
  | [], _ => Opens.plain (cs' := []) (fun _ => rfl) rfl fun o => ⟨[], rfl, rfl, by simp⟩
  | c :: r, h => by
    have ih := Opens.rows hm r fun x hx => h x (List.mem_cons_of_mem _ hx)
    rw [List.flatten_cons]
    refine (Opens.append (h c List.mem_cons_self) ih hm).mono ?_
    rintro o cs ⟨x, y, rfl, hx, xs, rfl, hl, hxs⟩
    exact ⟨x :: xs, rfl, by simp [hl], fun z hz => by
      rcases List.mem_cons.1 hz with rfl | hz
      · exact hx
      · exact hxs z hz⟩

/-- One more row that is never written. -/
theorem hr_add {ι : Map} {o : List Obj} (hr : HR ι o W) (ha : AllRo o) {x : Obj} (hx : x.own = false) {p : Place} (hor : OR ι W p x) (hs : x.sc o.length) :
    HR (ι.upd o.length p) (o ++ [x]) W ∧ AllRo (o ++ [x]) := by
  have ag := Map.agree_upd ι o.length p
  have look : ∀ (k : Nat) (y : Obj), (o ++ [x])[k]? = some y → (k = o.length ∧ y = x) ∨ (k < o.length ∧ o[k]? = some y) := by
    intro k y hy
    rw [List.getElem?_append] at hy
    split at hy
    · exact .inr ⟨by assumption, hy⟩
    · have hk : k - o.length = 0 := by
        rcases Nat.eq_zero_or_pos (k - o.length) with h0 | h0
        · exact h0
        · rw [List.getElem?_eq_none (by simp; omega)] at hy; simp at hy
      rw [hk] at hy
      simp at hy
      exact .inl ⟨by omega, hy.symm⟩
  have hro : AllRo (o ++ [x]) := by
    intro k y hy
    rcases look k y hy with ⟨_, rfl⟩ | ⟨_, hy'⟩
    · exact hx
    · exact ha k y hy'
  refine ⟨⟨fun k y hy => ?_, fun k k' y y' hkk hy hy' hyo => ?_, fun k y hy => ?_⟩, hro⟩
  · rcases look k y hy with ⟨rfl, rfl⟩ | ⟨hk, hy'⟩
    · rw [Map.upd_same]
      exact hor.agree ag hs
    · rw [ag k hk]
      exact (hr.obj k y hy').agree ag (hr.sc k y hy')
  · rw [hro k y hy] at hyo
    cases hyo
  · simp only [List.length_append, List.length_cons, List.length_nil]
    rcases look k y hy with ⟨rfl, rfl⟩ | ⟨hk, hy'⟩
    · exact Obj.sc_mono (by omega) hs
    · exact Obj.sc_mono (by omega) (hr.sc k y hy')

/-- The cells of a slice, one behind the other. -/
theorem cells_chunks {w : World} {base : Nat} {a : Addr} {e : Nat} : ∀ {n : Nat} {f : Nat → List Value}, (∀ i, i < n → w.cells? base (a.add (i * e)) e = some (f i)) → ∀ j, j < n * e → ∃ v, ((List.range n).map f).flatten[j]? = some v ∧ w.cell? (a.add j) = some v
  | 0, f, h, j, hj => by simp at hj
  | n + 1, f, h, j, hj => by
    have ih := cells_chunks (n := n) (f := f) fun i hi => h i (by omega)
    have hlen : ∀ m, m ≤ n + 1 → ((List.range m).map f).flatten.length = m * e := by
      intro m
      induction m with
      | zero => simp
      | succ m ihm =>
        intro hm
        obtain ⟨_, hl, _⟩ := World.cells?_some (h m (by omega))
        rw [List.range_succ, List.map_append, List.flatten_append, List.length_append, ihm (by omega)]
        simp [hl, Nat.succ_mul]
    by_cases hj' : j < n * e
    · obtain ⟨v, h1, h2⟩ := ih j hj'
      refine ⟨v, ?_, h2⟩
      rw [List.range_succ, List.map_append, List.flatten_append, List.getElem?_append_left (by rw [hlen n (by omega)]; exact hj')]
      exact h1
    · obtain ⟨_, hl, hc⟩ := World.cells?_some (h n (by omega))
      have hjn : j - n * e < e := by rw [Nat.succ_mul] at hj; omega
      have h2 := hc (j - n * e) hjn
      rw [List.getElem?_eq_getElem (by omega)] at h2
      refine ⟨(f n)[j - n * e]'(by omega), ?_, ?_⟩
      · rw [List.range_succ, List.map_append, List.flatten_append, List.getElem?_append_right (by rw [hlen n (by omega)]; omega), hlen n (by omega)]
        simp [List.getElem?_eq_getElem (show j - n * e < (f n).length by omega)]
      · rw [← h2]
        congr 1
        unfold Addr.add
        by_cases h0 : n * e = 0
        · simp only [h0, if_true, Nat.sub_zero]
        · by_cases h1 : j - n * e = 0
          · have : j = n * e := by omega
            simp [this, h0]
          · have : j ≠ 0 := by omega
            simp only [if_neg h0, if_neg h1, if_neg this]
            congr 1
            omega

end
end AM

/- AM, part 30: what a law's arguments are, by their types. -/
namespace AM
open Go
set_option linter.unusedVariables false
set_option linter.unusedSimpArgs false
set_option linter.unusedSectionVars false

def fieldsOf (P : Program) (r : TypeId → Option Ty) : Nat → List Field → Option (List Ty)
  | _, [] => some []
  | off, f :: fs =>
    if f.offset = off then
      match r f.type with
      | some u => if P.cellsOf f.type = u.size then (match fieldsOf P r (off + u.size) fs with | some us => some (u :: us) | none => none) else none
      | none => none
    else none

def tyOf (P : Program) : Nat → TypeId → Option Ty
  | 0, _ => none
  | n + 1, t =>
    match P.underlying t with
    | some .bool => some .bool
    | some (.int k) => some (.int k)
    | some .string => some .str
    | some (.slice e) => match tyOf P n e with
      | some u => if 0 < u.size ∧ P.cellsOf e = u.size then some (.slice u) else none
      | none => none
    | some (.array m e) => match tyOf P n e with
      | some u => if P.cellsOf t = m * u.size ∧ P.cellsOf e = u.size then some (.arr m u) else none
      | none => none
    | some (.struct fs) => match fieldsOf P (tyOf P n) 0 fs.toList with
      | some us => if P.cellsOf t = Ty.sizes us then some (.struct us) else none
      | none => none
    | _ => none

theorem flatten_chunks {α : Type} (sz : Nat) : ∀ (n : Nat) (cs : List α), cs.length = n * sz → ((List.range n).map fun i => (cs.drop (i * sz)).take sz).flatten = cs
  | 0, cs, h => by
    have : cs = [] := List.length_eq_zero_iff.1 (by simpa using h)
    subst this; rfl
  | n + 1, cs, h => by
    have ih := flatten_chunks sz n (cs.drop sz) (by rw [List.length_drop, h, Nat.succ_mul]; omega)
    rw [List.range_succ_eq_map, List.map_cons, List.flatten_cons, Nat.zero_mul, List.drop_zero, List.map_map]
    have : ((fun i => (cs.drop (i * sz)).take sz) ∘ Nat.succ) = fun i => ((cs.drop sz).drop (i * sz)).take sz := by
      funext i
      simp only [Function.comp, List.drop_drop]
      congr 2
      rw [Nat.succ_mul]; omega
    rw [this, ih, List.take_append_drop]

section
variable {H : Type} {enc : TypeId × Value → H} {P : Program} {W : World} {held : Bool}

theorem opens_fields {r : TypeId → Option Ty} {cs : List Value} : ∀ (fs : List Field) (off : Nat) (us : List Ty), fieldsOf P r off fs = some us →
    (∀ f ∈ fs, ∀ u, r f.type = some u → Opens W (fun o c => Ty.has o u c) ((cs.drop f.offset).take (P.cellsOf f.type))) → (cs.drop off).length = Ty.sizes us → Opens W (fun o c => Ty.hass o us c) (cs.drop off)
  | [], off, us, h, _, hl => by
    simp only [fieldsOf, Option.some.injEq] at h
    subst h
    have : cs.drop off = [] := List.length_eq_zero_iff.1 (by simpa [Ty.sizes] using hl)
    rw [this]
    exact Opens.plain (cs' := []) (fun _ => rfl) rfl fun o => rfl
  | f :: fs, off, us, h, hf, hl => by
    unfold fieldsOf at h
    split at h
    · rename_i hoff
      split at h
      · rename_i u hu
        split at h
        · rename_i hc
          split at h
          · rename_i us' hus
            simp only [Option.some.injEq] at h
            subst h
            have h1 := hf f List.mem_cons_self u hu
            have e1 : cs.drop off = (cs.drop f.offset).take (P.cellsOf f.type) ++ cs.drop (off + u.size) := by
              rw [hoff, hc, ← List.drop_drop, List.take_append_drop]
            have ih := opens_fields fs (off + u.size) us' hus (fun g hg u' hu' => hf g (List.mem_cons_of_mem _ hg) u' hu') (by
              rw [← List.drop_drop, List.length_drop, hl]
              simp [Ty.sizes])
            rw [e1]
            refine (Opens.append h1 ih (fun o o' x he hx => Ty.has_ext he u x hx)).mono ?_
            rintro o c ⟨x, y, rfl, hx, hy⟩
            exact ⟨x, y, rfl, hx, hy⟩
          · cases h
        · cases h
      · cases h
    · cases h

theorem opens : ∀ (n : Nat) (t : TypeId) (ty : Ty), tyOf P n t = some ty → ∀ (fuel : Nat) (cs : List Value) (x : DataW H × List MemPlace), DataW.trod enc P W 0 (fun _ => true) held fuel t cs = some x → Opens W (fun o c => Ty.has o ty c) cs
  | 0, t, ty, h => by simp [tyOf] at h
  | n + 1, t, ty, h => by
    intro fuel cs x ht
    unfold tyOf at h
    split at h
    · rename_i hu
      simp only [Option.some.injEq] at h; subst h
      obtain ⟨b, rfl, _⟩ := DataW.trod_bool hu ht
      exact Opens.plain (cs' := [.bool b]) (fun _ => rfl) rfl fun o => ⟨b, rfl⟩
    · rename_i k hu
      simp only [Option.some.injEq] at h; subst h
      obtain ⟨m, rfl, _, hw⟩ := DataW.trod_int hu ht
      refine Opens.plain (cs' := [.int k m]) (fun _ => rfl) rfl fun o => ⟨m, rfl, ?_⟩
      simpa [Lit.wf] using hw
    · rename_i hu
      simp only [Option.some.injEq] at h; subst h
      obtain ⟨s, rfl, _, hs⟩ := DataW.trod_string hu ht
      exact Opens.plain (cs' := [.str s.data.toList]) (fun _ => rfl) rfl fun o => ⟨_, rfl, by simpa using hs⟩
    · rename_i e hu
      split at h
      · rename_i u hue
        split at h
        · rename_i hsz
          obtain ⟨h0, hce⟩ := hsz
          simp only [Option.some.injEq] at h; subst h
          rcases Go.Deep.open_slice hu ht with ⟨rfl, _⟩ | ⟨a, len, cap, m, n', D, Pl, rfl, _, hlc, hcm, hm, _, hel⟩
          · exact Opens.plain (cs' := [.nils]) (fun _ => rfl) rfl fun o => .inl rfl
          · simp only [if_true] at hm
            subst hm
            by_cases hc0 : m = 0
            · subst hc0
              have hl0 : len = 0 := by omega
              subst hl0
              exact Opens.plain (cs' := [.zsl a]) (fun _ => rfl) rfl fun o => .inr (.inl ⟨a, rfl⟩)
            · have hch : ∀ i, ∃ c, i < m → W.cells? 0 (a.add (i * u.size)) u.size = some c ∧ DataW.trod enc P W 0 (fun _ => true) held n' e c = some (D i, Pl i) := by
                intro i
                by_cases hi : i < m
                · obtain ⟨c, h1, h2⟩ := hel i hi
                  rw [hce] at h1
                  exact ⟨c, fun _ => ⟨h1, h2⟩⟩
                · exact ⟨[], fun h => absurd h hi⟩
              obtain ⟨f, hf⟩ := Classical.axiomOfChoice hch
              have hall := cells_chunks (w := W) (base := 0) (a := a) (e := u.size) (n := m) (f := f) fun i hi => (hf i hi).1
              have hlen := cells_chunks (w := W) (base := 0) (a := a) (e := u.size) (n := len) (f := f) fun i hi => (hf i (by omega)).1
              have hm0 : 0 < m * u.size := Nat.mul_pos (by omega) h0
              obtain ⟨v0, _, hv0⟩ := hall 0 hm0
              have ha0 : a.add 0 = a := rfl
              rw [ha0] at hv0
              obtain ⟨arr, t', fr, hblk, hsp⟩ : ∃ arr t' fr, W.heap[a.block]? = some (.cells arr t' fr) ∧ a.spot = none := by
                unfold World.cell? at hv0
                split at hv0
                · rename_i arr t' fr hb
                  split at hv0
                  · cases hv0
                  · rename_i hs
                    exact ⟨arr, t', fr, hb, by simpa using hs⟩
                · cases hv0
              obtain ⟨lo, hi⟩ := fr
              have hcell : ∀ j v, W.cell? (a.add j) = some v → arr[a.off + j]? = some v := by
                intro j v hv
                unfold Addr.add at hv
                split at hv
                · rename_i hj; subst hj
                  simpa [World.cell?, hblk, hsp] using hv
                · simpa [World.cell?, hblk] using hv
              have hrows := Opens.rows (W := W) (k := fun o c => Ty.has o u c) (fun o o' x he hx => Ty.has_ext he u x hx) ((List.range len).map f) (by
                intro c hc
                obtain ⟨i, hi, rfl⟩ := List.mem_map.1 hc
                have hi' : i < len := List.mem_range.1 hi
                exact opens n e u hue n' (f i) _ (hf i (by omega)).2)
              intro ι o hr ha
              obtain ⟨κ, o', cs', h1, h2, h3, h4, h5, h6, xs, rfl, hxl, hxs⟩ := hrows ι o hr ha
              have hcl : xs.flatten.length = len * u.size := by
                have e1 : xs.flatten.length = (V.reals κ xs.flatten).length := by rw [V.reals_eq, List.length_map]
                rw [e1, h5]
                have key : ∀ k, k ≤ len → ((List.range k).map f).flatten.length = k * u.size := by
                  intro k
                  induction k with
                  | zero => simp
                  | succ k ihk =>
                    intro hk
                    obtain ⟨_, hl, _⟩ := World.cells?_some (hf k (by omega)).1
                    rw [List.range_succ, List.map_append, List.flatten_append, List.length_append, ihk (by omega)]
                    simp [hl, Nat.succ_mul]
                exact key len (Nat.le_refl _)
              have hle : len * u.size ≤ m * u.size := Nat.mul_le_mul_right _ hlc
              have hor : OR κ W ⟨a.block, a.off, m * u.size⟩ (.cells .ro 0 0 xs.flatten) := by
                refine ⟨arr, t', lo, hi, hblk, ?_, by rw [hcl]; exact hle, ?_, by simp, by simp⟩
                · obtain ⟨v, _, hv⟩ := hall (m * u.size - 1) (by omega)
                  have := (Array.getElem?_eq_some_iff.1 (hcell _ _ hv)).1
                  show a.off + m * u.size ≤ arr.size
                  omega
                · intro i c hi
                  have hil := (List.getElem?_eq_some_iff.1 hi).1
                  rw [hcl] at hil
                  obtain ⟨v, hv1, hv2⟩ := hlen i hil
                  have e1 : (V.reals κ xs.flatten)[i]? = some (c.real κ) := by rw [V.reals_eq, List.getElem?_map, hi]; rfl
                  rw [h5, hv1] at e1
                  cases e1
                  exact hcell _ _ hv2
              obtain ⟨k1, k2⟩ := hr_add h1 h2 (x := .cells .ro 0 0 xs.flatten) rfl (p := ⟨a.block, a.off, m * u.size⟩) hor h6
              have he2 : Ext o' (o' ++ [.cells .ro 0 0 xs.flatten]) := ⟨_, rfl⟩
              refine ⟨_, _, [.slice o'.length 0 len u.size], k1, k2, h3.trans he2, h4.trans (Map.agree_upd κ o'.length _) h3.len, ?_, ?_, .inr (.inr ⟨_, _, rfl, by omega, 0, xs, ?_, by simpa using hxl, fun x hx => Ty.has_ext he2 u x (hxs x hx)⟩)⟩
              · simp only [V.reals, V.real, Map.upd_same, Nat.add_zero, Nat.sub_zero]
                rw [Nat.mul_div_cancel _ h0]
                have : a = ⟨a.block, a.off, none⟩ := by rw [← hsp]
                rw [← this]
              · simp [V.scs, V.sc]
              · rw [List.getElem?_append_right (Nat.le_refl _), Nat.sub_self]; rfl
        · cases h
      · cases h
    · rename_i m e hu
      split at h
      · rename_i u hue
        split at h
        · rename_i hsz
          obtain ⟨hct, hce⟩ := hsz
          simp only [Option.some.injEq] at h; subst h
          obtain ⟨xs, k, _, _, hl, hxl, hx⟩ := DataW.trod_array hu ht
          rw [hct] at hl
          have hcs := flatten_chunks u.size m cs hl
          have := Opens.rows (W := W) (k := fun o c => Ty.has o u c) (fun o o' x he hx => Ty.has_ext he u x hx) ((List.range m).map fun i => (cs.drop (i * u.size)).take u.size) (by
            intro c hc
            obtain ⟨i, hi, rfl⟩ := List.mem_map.1 hc
            have hi' : i < m := List.mem_range.1 hi
            have h1 := hx i hi'
            rw [hce, List.getElem?_eq_getElem (by omega)] at h1
            exact opens n e u hue k _ _ h1)
          rw [hcs] at this
          refine this.mono ?_
          rintro o c ⟨ys, rfl, hyl, hys⟩
          exact ⟨ys, rfl, by simpa using hyl, hys⟩
        · cases h
      · cases h
    · rename_i fs hu
      split at h
      · rename_i us hus
        split at h
        · rename_i hct
          simp only [Option.some.injEq] at h; subst h
          obtain ⟨xs, k, _, _, hl, hxl, hx⟩ := DataW.trod_struct hu ht
          have := opens_fields (P := P) (W := W) (r := tyOf P n) (cs := cs) fs.toList 0 us hus (by
            intro f hf u hue
            obtain ⟨i, hi⟩ := List.getElem?_of_mem hf
            have hif : fs[i]? = some f := by simpa using hi
            have hil := (Array.getElem?_eq_some_iff.1 hif).1
            have h1 := hx i f hif
            rw [List.getElem?_eq_getElem (by omega)] at h1
            exact opens n f.type u hue k _ _ h1) (by
            rw [List.drop_zero, hl, hct])
          rw [List.drop_zero] at this
          exact this
        · cases h
      · cases h
    · cases h
end
end AM

/- AM, part 31: what was read of the arguments is read behind the call, too; from what a law comes to, to its row. -/
namespace AM
open Go
open Go.ChangeShapes Go.WideShapes Go.ChangeAt Go.RowKit
set_option linter.unusedVariables false
set_option linter.unusedSimpArgs false
set_option linter.unusedSectionVars false

theorem mapM_keep {α β : Type} {f g : α → Option β} : ∀ {l : List α} {r : List β}, l.mapM f = some r → (∀ a ∈ l, ∀ y ∈ r, f a = some y → g a = some y) → l.mapM g = some r
  | [], r, h, _ => by simpa using h
  | a :: l, r, h, hk => by
    rw [List.mapM_cons] at h ⊢
    cases ha : f a with
    | none => simp [ha] at h
    | some y =>
      cases hl : l.mapM f with
      | none => simp [ha, hl] at h
      | some ys =>
        simp [ha, hl] at h
        subst h
        have h1 := hk a List.mem_cons_self y List.mem_cons_self ha
        have h2 := mapM_keep hl fun b hb z hz => hk b (List.mem_cons_of_mem _ hb) z (List.mem_cons_of_mem _ hz)
        simp [h1, h2]

section
variable {H : Type} {enc : TypeId × Value → H} {P : Program} {W W' : World} {held : Bool} {sp : Nat → Bool}

theorem cell?_kept (hk : Kept W W') {a : Addr} {v : Value} (h : W.cell? a = some v) : W'.cell? a = some v := by
  unfold World.cell? at h ⊢
  split at h
  · rename_i c t fr hb
    have hl : a.block < W.heap.size := (Array.getElem?_eq_some_iff.1 hb).1
    rw [hk.2.2.2 _ hl, hb]
    exact h
  · cases h

theorem cells?_kept (hk : Kept W W') {a : Addr} {n : Nat} {cs : List Value} (h : W.cells? 0 a n = some cs) : W'.cells? 0 a n = some cs := by
  unfold World.cells? at h ⊢
  rw [if_pos (Nat.zero_le _)] at h ⊢
  exact mapM_keep h fun i _ y _ hy => cell?_kept hk hy

theorem mem_row0 {a : Addr} {n : Nat} (h : 0 < n) : MemPlace.cell a.block a.off ∈ MemPlace.row a n := by
  unfold MemPlace.row
  exact List.mem_map.2 ⟨0, List.mem_range.2 h, rfl⟩

theorem fieldsOf_mem {r : TypeId → Option Ty} : ∀ (fs : List Field) (off : Nat) (us : List Ty), fieldsOf P r off fs = some us → ∀ f ∈ fs, ∃ u, r f.type = some u
  | [], _, _, _, f, hf => by simp at hf
  | f :: fs, off, us, h, g, hg => by
    unfold fieldsOf at h
    split at h
    · split at h
      · rename_i u hu
        split at h
        · split at h
          · rename_i us' hus
            rcases List.mem_cons.1 hg with rfl | hg
            · exact ⟨u, hu⟩
            · exact fieldsOf_mem fs _ _ hus g hg
          · cases h
        · cases h
      · cases h
    · cases h

theorem trod_kept (hk : Kept W W') : ∀ (n : Nat) (t : TypeId) (ty : Ty), tyOf P n t = some ty → ∀ (fuel : Nat) (cs : List Value) (x : DataW H × List MemPlace), DataW.trod enc P W 0 (fun _ => true) held fuel t cs = some x →
    (∀ p ∈ x.2, sp p.block = true) → DataW.trod enc P W' 0 sp held fuel t cs = some x
  | 0, t, ty, h => by simp [tyOf] at h
  | n + 1, t, ty, h => by
    intro fuel cs x ht hsp
    cases fuel with
    | zero => simp [DataW.trod] at ht
    | succ m =>
      unfold tyOf at h
      split at h
      · rename_i hu
        obtain ⟨b, rfl, rfl⟩ := DataW.trod_bool hu ht
        unfold DataW.trod
        simp only [hu]
      · rename_i k hu
        obtain ⟨b, rfl, rfl, hw⟩ := DataW.trod_int hu ht
        unfold DataW.trod
        simp only [hu]
        rw [if_pos ⟨trivial, hw⟩]
      · rename_i hu
        obtain ⟨b, rfl, rfl, hw⟩ := DataW.trod_string hu ht
        unfold DataW.trod
        simp only [hu]
        rw [if_pos hw]
      · rename_i e hu
        split at h
        · rename_i u hue
          split at h
          · rename_i hsz
            obtain ⟨h0, hce⟩ := hsz
            rcases DataW.trod_slice hu ht with ⟨rfl, rfl⟩ | ⟨a, len, cap, elems, rest, n', hn', rfl, rfl, hb, hlc, hcm, hel, he1, he2, _⟩
            · unfold DataW.trod
              simp only [hu]
            · cases hn'
              obtain ⟨hrl, he2⟩ := he2 rfl
              have hk1 : ∀ i, ∀ y ∈ elems ++ rest, (W.cells? 0 (a.add (i * P.cellsOf e)) (P.cellsOf e)).bind (DataW.trod enc P W 0 (fun _ => true) held m e) = some y →
                  (W'.cells? 0 (a.add (i * P.cellsOf e)) (P.cellsOf e)).bind (DataW.trod enc P W' 0 sp held m e) = some y := by
                intro i y hy hyy
                obtain ⟨c, h1, h2⟩ := Option.bind_eq_some_iff.1 hyy
                rw [cells?_kept hk h1, Option.bind_some]
                exact trod_kept hk n e u hue m c y h2 fun p hp => hsp p (List.mem_append.2 (.inr (List.mem_flatMap.2 ⟨y, hy, hp⟩)))
              have hel' : (List.range len).mapM (fun i => (W'.cells? 0 (a.add (i * P.cellsOf e)) (P.cellsOf e)).bind (DataW.trod enc P W' 0 sp held m e)) = some elems := by
                refine mapM_some_of_get _ _ (by simpa using hel) fun i x hx => ?_
                obtain ⟨hi, hxi⟩ := List.getElem?_eq_some_iff.1 hx
                rw [List.length_range] at hi
                rw [List.getElem_range] at hxi
                subst hxi
                have h1 := he1 i hi
                have hi' : i < elems.length := by omega
                rw [List.getElem?_eq_getElem hi'] at h1 ⊢
                exact hk1 i _ (List.mem_append.2 (.inl (List.getElem_mem hi'))) h1
              have hre' : (List.range (cap - len)).mapM (fun j => (W'.cells? 0 (a.add ((len + j) * P.cellsOf e)) (P.cellsOf e)).bind (DataW.trod enc P W' 0 sp held m e)) = some rest := by
                refine mapM_some_of_get _ _ (by simpa using hrl) fun i x hx => ?_
                obtain ⟨hi, hxi⟩ := List.getElem?_eq_some_iff.1 hx
                rw [List.length_range] at hi
                rw [List.getElem_range] at hxi
                subst hxi
                have h1 := he2 i hi
                have hi' : i < rest.length := by omega
                rw [List.getElem?_eq_getElem hi'] at h1 ⊢
                exact hk1 _ _ (List.mem_append.2 (.inr (List.getElem_mem hi'))) h1
              unfold DataW.trod
              simp only [hu]
              rw [if_pos ⟨hb, hlc, hcm⟩, hel', Option.bind_some]
              by_cases hc0 : cap = 0
              · have hr0 : rest = [] := List.length_eq_zero_iff.1 (by omega)
                subst hc0
                subst hr0
                cases sp a.block <;> simp
              · have hpos : 0 < (elems.length + rest.length) * P.cellsOf e := by
                  rw [hce]
                  exact Nat.mul_pos (by omega) h0
                have := hsp _ (List.mem_append.2 (.inl (mem_row0 (a := a) hpos)))
                simp only [MemPlace.block] at this
                rw [this, if_pos rfl, hre', Option.map_some]
          · cases h
        · cases h
      · rename_i k e hu
        split at h
        · rename_i u hue
          unfold DataW.trod at ht ⊢
          rw [hu] at ht ⊢
          simp only at ht ⊢
          split at ht
          · rename_i hl
            rw [if_pos hl]
            obtain ⟨xs, h1, rfl⟩ := Option.map_eq_some_iff.1 ht
            rw [mapM_keep h1 fun i _ y hy hyy => trod_kept hk n e u hue m _ y hyy fun p hp => hsp p (List.mem_flatMap.2 ⟨y, hy, hp⟩), Option.map_some]
          · cases ht
        · cases h
      · rename_i fs hu
        split at h
        · rename_i us hus
          unfold DataW.trod at ht ⊢
          rw [hu] at ht ⊢
          simp only at ht ⊢
          split at ht
          · rename_i hl
            rw [if_pos hl]
            obtain ⟨xs, h1, rfl⟩ := Option.map_eq_some_iff.1 ht
            rw [mapM_keep h1 fun f hf y hy hyy => by
              obtain ⟨u, hue⟩ := fieldsOf_mem _ _ _ hus f hf
              exact trod_kept hk n f.type u hue m _ y hyy fun p hp => hsp p (List.mem_flatMap.2 ⟨y, hy, hp⟩), Option.map_some]
          · cases ht
        · cases h
      · cases h
end
end AM

/- AM, part 32: from what a law comes to, whatever its arguments, to its row. -/
namespace AM
open Go
open Go.ChangeShapes Go.WideShapes Go.ChangeAt Go.RowKit
set_option linter.unusedVariables false
set_option linter.unusedSimpArgs false
set_option linter.unusedSectionVars false

def Ty.isAgg : Ty → Bool
  | .arr .. | .struct _ => true
  | _ => false
/-- One argument. -/
def Ty.arg (o : List Obj) (t : Ty) (v : V) : Prop := (t.isAgg = true ∧ ∃ cs, v = .agg cs ∧ t.has o cs) ∨ (t.isAgg = false ∧ t.has o [v])
def Ty.args (o : List Obj) : List Ty → List V → Prop
  | [], vs => vs = []
  | t :: ts, vs => ∃ v r, vs = v :: r ∧ t.arg o v ∧ Ty.args o ts r

section
variable {H : Type} {enc : TypeId × Value → H} {P : Program} {W W' : World} {held : Bool} {sp : Nat → Bool}

theorem tyOf_agg {n : Nat} {t : TypeId} {ty : Ty} (h : tyOf P n t = some ty) : ty.isAgg = true ↔ (∃ fs, P.underlying t = some (.struct fs)) ∨ ∃ m e, P.underlying t = some (.array m e) := by
  cases n with
  | zero => simp [tyOf] at h
  | succ n =>
    unfold tyOf at h
    split at h
    · rename_i hu
      simp only [Option.some.injEq] at h; subst h
      simp [Ty.isAgg, hu]
    · rename_i k hu
      simp only [Option.some.injEq] at h; subst h
      simp [Ty.isAgg, hu]
    · rename_i hu
      simp only [Option.some.injEq] at h; subst h
      simp [Ty.isAgg, hu]
    · rename_i e hu
      split at h
      · split at h
        · simp only [Option.some.injEq] at h; subst h
          simp [Ty.isAgg, hu]
        · cases h
      · cases h
    · rename_i m e hu
      split at h
      · split at h
        · simp only [Option.some.injEq] at h; subst h
          simp [Ty.isAgg, hu]
        · cases h
      · cases h
    · rename_i fs hu
      split at h
      · split at h
        · simp only [Option.some.injEq] at h; subst h
          simp [Ty.isAgg, hu]
        · cases h
      · cases h
    · cases h

theorem cells_of_single {b : Nat} {t : TypeId} {v : Value} (h : Cell.okWide P W .any b t v) : v.cells = #[v] := by
  unfold Cell.okWide at h
  split at h
  all_goals try rfl
  unfold Cell.ok at h
  split at h
  all_goals first | rfl | exact h.elim

theorem open_arg {n : Nat} {t : TypeId} {ty : Ty} (hty : tyOf P n t = some ty) {b : Nat} {v : Value} (hv : Value.okWide P W .any b t v) {d : DataW H} {ps : List MemPlace}
    (ht : DataW.Trod enc P W 0 (fun _ => true) held t v d ps) : Opens W (fun o c => ∃ a, c = [a] ∧ Ty.arg o ty a) [v] := by
  obtain ⟨fuel, ht⟩ := ht
  by_cases ha : ty.isAgg = true
  · have hcs : ∃ cs, v = .agg cs ∧ Row.okWide P W .any b t cs := by
      rcases (tyOf_agg hty).1 ha with ⟨fs, hu⟩ | ⟨m, e, hu⟩
      · simp only [Value.okWide, hu] at hv
        obtain ⟨cs, h1, _, h2⟩ := hv
        exact ⟨cs, h1, h2⟩
      · simp only [Value.okWide, hu] at hv
        obtain ⟨cs, h1, _, h2⟩ := hv
        exact ⟨cs, h1, h2⟩
    obtain ⟨cs, rfl, hrow⟩ := hcs
    have := opens n t ty hty fuel cs.toList _ ht
    intro ι o hr hro
    obtain ⟨κ, o', cs', h1, h2, h3, h4, h5, h6, h7⟩ := this ι o hr hro
    refine ⟨κ, o', [.agg cs'], h1, h2, h3, h4, ?_, ⟨h6, trivial⟩, .agg cs', rfl, .inl ⟨ha, cs', rfl, h7⟩⟩
    simp only [V.reals, V.real, h5]
  · have hc : Cell.okWide P W .any b t v := by
      have hna : ¬ ((∃ fs, P.underlying t = some (.struct fs)) ∨ ∃ m e, P.underlying t = some (.array m e)) := fun h => ha ((tyOf_agg hty).2 h)
      unfold Value.okWide at hv
      split at hv
      · rename_i fs hu; exact absurd (.inl ⟨fs, hu⟩) hna
      · rename_i m e hu; exact absurd (.inr ⟨m, e, hu⟩) hna
      · exact hv
    have hcell := cells_of_single hc
    rw [hcell] at ht
    have := opens n t ty hty fuel [v] _ ht
    intro ι o hr hro
    obtain ⟨κ, o', cs', h1, h2, h3, h4, h5, h6, h7⟩ := this ι o hr hro
    have hl : cs'.length = 1 := by
      have : (V.reals κ cs').length = 1 := by rw [h5]; rfl
      rwa [V.reals_eq, List.length_map] at this
    obtain ⟨a, rfl⟩ := List.length_eq_one_iff.1 hl
    exact ⟨κ, o', [a], h1, h2, h3, h4, h5, h6, a, rfl, .inr ⟨by simpa using ha, h7⟩⟩

theorem Ty.arg_ext {o o' : List Obj} (he : Ext o o') {t : Ty} {v : V} (h : t.arg o v) : t.arg o' v := by
  rcases h with ⟨h1, cs, h2, h3⟩ | ⟨h1, h2⟩
  · exact .inl ⟨h1, cs, h2, Ty.has_ext he t cs h3⟩
  · exact .inr ⟨h1, Ty.has_ext he t _ h2⟩

theorem open_args {n b : Nat} : ∀ {ts : List TypeId} {tys : List Ty} {vs : List Value} {ds : List (DataW H)} {ps : List MemPlace}, ts.map (tyOf P n) = tys.map some →
    (∀ (j : Nat) t v, ts[j]? = some t → vs[j]? = some v → Value.okWide P W .any b t v) → DataW.TrodAll enc P W 0 (fun _ => true) held ts vs ds ps → Opens W (fun o c => Ty.args o tys c) vs
  | [], [], vs, ds, ps, _, _, h => by
    obtain ⟨rfl, rfl, rfl⟩ := trodAll_nil h
    exact Opens.plain (cs' := []) (fun _ => rfl) rfl fun o => rfl
  | [], _ :: _, _, _, _, h, _, _ => by simp at h
  | _ :: _, [], _, _, _, h, _, _ => by simp at h
  | t :: ts, ty :: tys, vs, ds, ps, hm, hv, h => by
    obtain ⟨v, vs1, d, ds1, a, c, rfl, rfl, rfl, h1, h2⟩ := trodAll_cons h
    simp only [List.map_cons, List.cons.injEq] at hm
    have ha := open_arg hm.1 (hv 0 t v rfl rfl) h1
    have ih := open_args (n := n) (b := b) hm.2 (fun j t' v' h1 h2 => hv (j + 1) t' v' (by simpa using h1) (by simpa using h2)) h2
    have := Opens.append ha ih (by
      rintro o o' x he ⟨a, rfl, hx⟩
      exact ⟨a, rfl, Ty.arg_ext he hx⟩)
    refine this.mono ?_
    rintro o x ⟨y, z, rfl, ⟨a, rfl, hy⟩, hz⟩
    exact ⟨a, z, rfl, hy, hz⟩

theorem trodAll_kept (hk : Kept W W') {n : Nat} : ∀ {ts : List TypeId} {tys : List Ty} {vs : List Value} {ds : List (DataW H)} {ps : List MemPlace}, ts.map (tyOf P n) = tys.map some →
    DataW.TrodAll enc P W 0 (fun _ => true) held ts vs ds ps → (∀ p ∈ ps, sp p.block = true) → DataW.TrodAll enc P W' 0 sp held ts vs ds ps
  | [], [], vs, ds, ps, _, h, _ => by
    obtain ⟨rfl, rfl, rfl⟩ := trodAll_nil h
    exact trodAll_mk0
  | [], _ :: _, _, _, _, h, _, _ => by simp at h
  | _ :: _, [], _, _, _, h, _, _ => by simp at h
  | t :: ts, ty :: tys, vs, ds, ps, hm, h, hp => by
    obtain ⟨v, vs1, d, ds1, a, c, rfl, rfl, rfl, h1, h2⟩ := trodAll_cons h
    simp only [List.map_cons, List.cons.injEq] at hm
    obtain ⟨fuel, h1⟩ := h1
    exact trodAll_cons_mk ⟨fuel, trod_kept hk n t ty hm.1 fuel _ _ h1 fun p hp' => hp p (List.mem_append.2 (.inl hp'))⟩ (trodAll_kept hk hm.2 h2 fun p hp' => hp p (List.mem_append.2 (.inr hp')))

theorem trodAll_len : ∀ {ts : List TypeId} {vs : List Value} {ds : List (DataW H)} {ps : List MemPlace}, DataW.TrodAll enc P W 0 (fun _ => true) held ts vs ds ps → ds.length = ts.length
  | [], vs, ds, ps, h => by
    obtain ⟨rfl, rfl, rfl⟩ := trodAll_nil h
    rfl
  | t :: ts, vs, ds, ps, h => by
    obtain ⟨v, vs1, d, ds1, a, c, rfl, rfl, rfl, h1, h2⟩ := trodAll_cons h
    simp [trodAll_len h2]

/-- A law: what its row asks. -/
theorem law {fn : Func} {s : ChangeSpec} {tys : List Ty} {n f : Nat} {tb : TypeId} (hm : P.follows .mixedOrders = true) {F : Nat → Option AF} (hF : FOk P F) {E : ExtF} (hE : ExtSound P E)
    (hvars : s.vars = []) (hty : fn.params.toList.map (tyOf P n) = tys.map some) (hres : fn.resultTypes = #[tb]) (htb : P.underlying tb = some .bool)
    (hfn : ∀ (H : Type) (ds : List (DataW H)), ds.length = tys.length → s.fn H ds = { results := [.lit (.bool true)], args := ds })
    (hden : ∀ (o : List Obj) (args : List V), AllRo o → Ty.args o tys args → ∃ oh, Den F E f args ⟨o, 0, 0⟩ = some (.val (.bool true), oh))
    {apart fresh handsOn again : Bool} {b : Nat} {args : Array Value} {ds gs : List (DataW H)} {before : List MemPlace}
    (hval : ∀ (j : Nat) t v, fn.params[j]? = some t → args[j]? = some v → Value.okWide P W .any b t v) (hW : DataW.Whole enc P fn.params.toList s.vars apart W args.toList ds gs before) :
    Calls P f args W fun e W' => ∃ v, e = .returned v ∧ s.post enc P fn apart fresh handsOn again W args v W' := by
  have hW' := hW
  obtain ⟨p, q, hA, hV, rfl, hfz, hnd⟩ := hW
  rw [hvars] at hV
  obtain ⟨rfl, rfl⟩ := trodVars_none hV
  obtain ⟨κ, o, avs, h1, h2, _, _, h5, h6, h7⟩ := open_args (n := n) (b := b) hty (fun j t v h1 h2 => hval j t v (by simpa using h1) (by simpa using h2)) hA noMap [] ⟨fun l o h => by simp at h, fun l l' o o' _ h => by simp at h, fun l o h => by simp at h⟩ (fun l o h => by simp at h)
  obtain ⟨oh, hd⟩ := hden o avs h2 h7
  have hargs : args = (V.reals κ avs).toArray := by rw [h5]
  have hlen : ds.length = tys.length := by
    have := trodAll_len hA
    rw [this, ← List.length_map (tyOf P n), hty, List.length_map]
  have hc := calls_of_den hm hF hE hd (fun l x hx => h2 l x hx) rfl h1 h6
  rw [← hargs] at hc
  refine hc.mono fun e W' ⟨he, hk⟩ => ⟨_, he, ?_⟩
  have hs : s.fn H (ds ++ []) = { results := [.lit (.bool true)], args := ds } := by rw [List.append_nil]; exact hfn H ds hlen
  refine post_kept (pa := p) (pv := []) hW' (fun _ _ _ => ?_) (fun sp hsp => ?_) (fun _ _ => ?_) rfl hk (ok_one hres rfl (okWide_bool_mk htb _))
  · rw [hs, hres]
    exact trodAll_cons_mk (shut_bool htb _) trodAll_mk0
  · rw [hs]
    exact trodAll_kept hk hty hA fun x hx => hsp x (by simpa using hx)
  · rw [hs, hvars]
    rfl
end
end AM

/- AM, part 33: arguments read by their types. -/
namespace AM
open Go
set_option linter.unusedVariables false
set_option linter.unusedSimpArgs false

theorem arg_int {o : List Obj} {k : IntKind} {v : V} (h : Ty.arg o (.int k) v) : ∃ n, v = .int k n ∧ k.min ≤ n ∧ n ≤ k.max := by
  rcases h with ⟨h, _⟩ | ⟨_, n, h, h2⟩
  · cases h
  · cases h
    exact ⟨n, rfl, h2⟩

end AM

/- AM, part 34: the rows of a walk, in one set. -/
set_option linter.defProp false
namespace AM
open Go
def eqs {F : Nat → Option AF} {ext : ExtF} (hx : ExtMono ext) := And.intro (@eq_skip F ext hx) (And.intro (@eq_ret F ext hx) (And.intro (@eq_exit F ext hx) (And.intro (@eq_label F ext hx) (And.intro (@eq_seq F ext hx) (And.intro (@eq_region F ext hx) (And.intro (@eq_regionQ F ext hx) (And.intro (@eq_cond F ext hx) (And.intro (@eq_block F ext hx) (And.intro (@eq_scope F ext hx) (And.intro (@eq_sel F ext hx) (@eq_draw F ext hx)))))))))))
attribute [go_sem] ops_nil ops_cons q_nil q_cons o_guard o_mv o_bin o_eqf o_un o_pick o_call o_nck o_load o_store o_alloc o_box o_build o_bslice o_faddr o_field o_iaddrA o_iaddrS o_idxA o_idxS o_slS o_slL o_slA o_toInt o_toStr o_cpS o_toBytes o_extract o_lenS o_lenL lenLV_slice lenLV_nils lenLV_zsl lenLV_esl o_lenA o_copyS o_copyL stepV ok okh Option.bind_some Option.bind_none Option.map_some Option.map_none put_some put_none ev_t ev_k ev_f evs_nil evs_cons get_fput get_init get_slots enter_o enter_e enter_d List.getD_cons_zero List.getD_cons_succ finish resAll resOne resV leave V.plain V.plains binA intA strA unA eqA eqK Bool.and_true Bool.true_and Nat.le_refl and_self decide_true decide_false Bool.false_eq_true Bool.true_eq_false List.length_cons List.length_nil List.map_cons List.map_nil fillA V.cells splice List.take_succ_cons List.take_zero List.take_nil List.drop_succ_cons List.drop_zero List.drop_nil List.nil_append List.cons_append List.append_nil true_and and_true Nat.zero_add H0 enter partA Heap.new beq_self_eq_true List.getElem?_cons_zero List.getElem?_cons_succ List.getElem?_nil Heap.cellsAt zslOf Heap.exact Heap.holds Int.cast_ofNat_Int Nat.one_mul Nat.mul_one Nat.sub_zero drawA execD outD w_none w_some s_call s_callv s_nck s_load s_store s_alloc s_box s_build s_bslice s_faddr s_field s_iaddrA s_iaddrS s_idxA s_idxS s_slS s_slL s_slA s_toInt s_toStr s_cpS s_toBytes s_extract s_mkf s_mki s_tassert s_inil s_lenS s_lenL s_lenA s_copyS s_copyL s_clearL s_minmax s_app s_appz s_appS s_mkSlice s_mkMap s_lookup s_mapSet s_mapDel s_lenM s_clearM s_mv s_bin s_eqf s_un s_pick KD.app newA V.only V.onlys Obj.only okL Heap.only deadKept isDead lookA V.beq V.beqs List.all_cons List.all_nil List.replicate_succ List.replicate_zero List.set_cons_zero List.set_cons_succ true_or or_true false_or or_false AOp.cls bytesA_plains bytesA_one Nat.zero_min Nat.min_zero Nat.min_self Nat.zero_le o_clearL o_minmax o_app o_appz o_appS o_mkSlice o_mkMap o_mkChan o_lenC o_sdata o_ustr o_cvU o_cvP s_mkChan s_lenC s_sdata s_ustr s_cvU s_cvP selA Heap.ownT Heap.tyIn o_lookup o_mapSet o_mapDel o_lenM o_clearM o_mkf o_mki o_tassert o_inil o_callv minmaxA maxi undefV onlys_bytes List.contains_nil Bool.or_true Bool.true_or Bool.or_false Bool.false_or Bool.not_true Bool.not_false false_and and_false Option.getD_some bft btf
end AM

/- AM, part 18b: a range over a map that the loop leaves as it is. -/
namespace AM
open Go
set_option linter.unusedVariables false
set_option linter.unusedSimpArgs false
set_option linter.unusedSectionVars false

section
variable {P : Program} {σ : Type} [Slots σ]

def todo (N : Nat) (done : List Nat) : List Nat := (List.range N).filter fun j => !done.contains j
end
end AM

/- AM, part 26b: functions that are answered by hand: what was proved of them in the model's own terms. -/
namespace AM
open Go
set_option linter.unusedVariables false
set_option linter.unusedSectionVars false

abbrev HandT := Nat → Option (List V → Heap → Option (Out × Option Heap))

/-- What is said of functions by hand holds. -/
def HandOk (P : Program) (t : HandT) : Prop := ∀ f k args h out oh, t f = some k → k args h = some (out, oh) → callOk P f = true ∧ ∀ ι w, HR ι h.o w → V.scs h.o.length args →
  Calls P f (V.reals ι args).toArray w fun e w' => ∃ κ, Nx ι h w κ (oh.getD h) w' ∧ OutOk κ (oh.getD h).o.length e out

/-- Tables of plain functions, and behind them those by hand. -/
def extH (g : Nat → Option Ans) (t : HandT) : ExtF := fun c f => match plainExt g c f with
  | some k => some k
  | none => t f

theorem Nx.low {ι κ : Map} {h : Heap} {w w' : World} {o : List Obj} {e d d' : Nat} (hn : Nx ι h w κ ⟨o, e, d⟩ w') (hd : d' ≤ d) : Nx ι h w κ ⟨o, e, d'⟩ w' :=
  ⟨hn.hr, hn.ag, hn.len, hn.fr, hn.cl, ⟨hn.ed.1, Nat.le_trans hd hn.ed.2⟩, fun l hl hl' => hn.un l hl (Nat.lt_of_lt_of_le hl' hd), hn.ro⟩

end AM

/- AM, part 27: functions that defer one call, and functions that recover. -/
namespace AM
open Go
set_option linter.unusedVariables false
set_option linter.unusedSimpArgs false
set_option linter.unusedSectionVars false

/-- A function that begins with a recover: where its value goes; the code with nothing in the recover's place. -/
def trRec (P : Program) (n : Nat) : Code → Option (Nat × AC)
  | .region _ ops false => match ops.toList with
    | [⟨some t, .call ⟨.builtin .recover, args, _⟩, _, _, _, none⟩] => if t < n ∧ args.size = 0 then some (t, .skip) else none
    | _ => none
  | .seq a b => match trRec P n a, trCode P n b with
    | some (t, x), some y => some (t, .seq x y)
    | _, _ => none
  | _ => none
structure RFn where
  n : Nat
  t : Nat
  c : AC
def trRecF (P : Program) (f : Nat) : Option RFn := match P.funcs[f]? with
  | some fn => if fn.name != "runtime.NumGoroutine" && fn.results.size == 0 then (match fn.body with
    | some c => (trRec P fn.ntmps c).map fun x => ⟨fn.ntmps, x.1, x.2⟩
    | none => none) else none
  | none => none
/-- A function that defers one call: the code ahead of it; the operations of its region; the call; the code behind it. -/
structure DFn where
  n : Nat
  res : List RV
  a : AC
  ops : List AO
  x : Opd
  args : List Opd
  b : AC
def splitLast : List Oper → Option (List Oper × Oper)
  | [] => none
  | [o] => some ([], o)
  | o :: r => (splitLast r).map fun p => (o :: p.1, p.2)
theorem splitLast_eq : ∀ {l : List Oper} {p : List Oper × Oper}, splitLast l = some p → l = p.1 ++ [p.2]
  | [], p, h => by cases h
  | [o], p, h => by simp only [splitLast, Option.some.injEq] at h; subst h; rfl
  | o :: o' :: r, p, h => by
    simp only [splitLast, Option.map_eq_some_iff] at h
    obtain ⟨q, hq, rfl⟩ := h
    have := splitLast_eq (l := o' :: r) (p := q) hq
    rw [this]; rfl
def trDef (P : Program) (f : Nat) : Option DFn := match P.funcs[f]? with
  | some fn => if fn.name != "runtime.NumGoroutine" then (match fn.body with
    | some (.seq A (.seq (.region _ ops false) B)) => match splitLast ops.toList with
      | some (l, ⟨none, .defer ⟨.value x, args, _⟩, _, _, _, none⟩) => match trCode P fn.ntmps A, trOpers P fn.ntmps ops l, trOpd x, trOpds args.toList, trCode P fn.ntmps B, trRes P fn.results.toList with
        | some a, some os, some x, some args, some b, some r => some ⟨fn.ntmps, r, a, os, x, args, b⟩
        | _, _, _, _, _, _ => none
      | _ => none
    | _ => none) else none
  | none => none

section
variable {P : Program}
/-- A region that goes on behind some operations. -/
theorem execPreD_ok {call : CallF} (hcall : CallOk P call) {n : Nat} {ops : Array Oper} {ds : List Deferred} {S' : Nat → V} {h' : Heap} {Q : Exit → Act → World → Prop} {rest : List Oper} : ∀ {ol : List Oper} {l : List AO} {S : Nat → V} {h : Heap} {ι : Map} {w : World} {a : Act},
    trOpers P n ops ol = some l → HR ι h.o w → SR ι S n a.tmps h.o.length → a.defers = ds → execOps call l S h = some (.norm, S', h') → (∀ a' w', Post ι h w n ds .norm S' h' .normal a' w' → wpList P ops Q rest a' w') → wpList P ops Q (ol ++ rest) a w
  | [], l, S, h, ι, w, a, htr, hr, hs, hd, he, hQ => by
    simp only [trOpers, Option.some.injEq] at htr
    subst htr
    simp only [execOps, Option.some.injEq, Prod.mk.injEq] at he
    obtain ⟨_, rfl, rfl⟩ := he
    exact hQ _ _ ⟨ι, Nx.refl hr, hs, hd, rfl⟩
  | o :: ol, l, S, h, ι, w, a, htr, hr, hs, hd, he, hQ => by
    simp only [trOpers] at htr
    split at htr
    · rename_i ao l' hao hl'
      simp only [Option.some.injEq] at htr
      subst htr
      obtain ⟨h1, h2, h3, h4⟩ := trOper_inv hao
      have hw := wanted_ok hs h2
      simp only [execOps] at he
      rw [List.cons_append]
      unfold wpList
      rw [hw]
      split at he
      · rename_i hwt
        rw [if_pos hwt]
        refine .inl ?_
        cases hst : stepA call ao.op S h with
        | none => rw [hst] at he; simp at he
        | some r =>
          obtain ⟨out, oh⟩ := r
          rw [hst] at he
          refine oper_ok hcall hr hs h1 h4 hst (fun v hv κ w' hn hsr => ?_) (fun v hv κ w' hn hsc => ?_)
          · subst hv
            have he' : execOps call l' (putO S ao.d v) (oh.getD h) = some (.norm, S', h') := by
              cases oh with
              | none => exact he
              | some h2 => exact he
            rw [← h3] at he'
            exact execPreD_ok hcall (ds := ds) hl' hn.hr hsr (by rw [put_defers']; exact hd) he' (fun a' w' hp => hQ _ _ (Post.trans hn hp))
          · subst hv
            cases oh with
            | none => simp at he
            | some h2 => simp at he
      · rename_i hwt
        rw [if_neg hwt]
        rw [← h3] at he
        have hsr := hs.put (v := undefV) trivial h4
        rw [undef_real] at hsr
        exact execPreD_ok hcall hl' hr hsr (by rw [put_defers']; exact hd) he hQ
    · simp at htr

/-- What a recover gives, in a function that leaves in this way. -/
def recV : FrameMode → Value
  | .panicking ({ v, recovered := false, goexit := false } :: _) => v
  | _ => .nilIface
def recM : FrameMode → FrameMode
  | .panicking ({ v, recovered := false, goexit := false } :: older) => .panicking ({ v, recovered := true } :: older)
  | m => m
theorem wpS_rec {call : CallF} (hcall : CallOk P call) (hm : P.follows .mixedOrders = true) {n : Nat} {c₀ : Frame} {cs : List Frame} {u : FrameMode} (hu : c₀.mode = u) {rv : V} : ∀ (k : Nat) {c : Code} {t : Nat} {ac : AC} {S : Nat → V} {h : Heap} {ι : Map} {w : World} {a : Act} {x : Ex} {S' : Nat → V} {h' : Heap},
    trRec P n c = some (t, ac) → HR ι h.o w → SR ι S n a.tmps h.o.length → a.defers = [] → rv.real ι = recV u → rv.sc h.o.length → exec call k ac (Slots.put S t rv) h = some (x, S', h') →
    c.wpS P (fun e a' cs' w' => cs' = { c₀ with mode := recM u } :: cs ∧ Post ι h w n [] x S' h' e a' w') a (c₀ :: cs) w
  | 0, c, t, ac, S, h, ι, w, a, x, S', h', htr, hr, hs, hd, hrv, hrs, he => by simp [exec] at he
  | k + 1, c, t, ac, S, h, ι, w, a, x, S', h', htr, hr, hs, hd, hrv, hrs, he => by
    cases c with
    | region id ops d =>
      cases d with
      | true => simp [trRec] at htr
      | false =>
        simp only [trRec] at htr
        split at htr
        · rename_i t' args ats ty pos af hops
          split at htr
          · rename_i hc
            simp only [Option.some.injEq, Prod.mk.injEq] at htr
            obtain ⟨rfl, rfl⟩ := htr
            simp only [exec, Option.some.injEq, Prod.mk.injEq] at he
            obtain ⟨rfl, rfl, rfl⟩ := he
            have hops' : ops = #[⟨some t', .call ⟨.builtin .recover, args, ats⟩, ty, pos, af, none⟩] := by
              apply Array.ext'
              rw [hops]
            have hargs : args = #[] := Array.eq_empty_of_size_eq_zero hc.2
            subst hops'
            subst hargs
            refine wpS_region ?_
            simp only [List.size_toArray, List.length_singleton, List.range_succ, List.range_zero, List.nil_append, wpOpsS, List.getElem?_toArray, List.getElem?_cons_zero]
            have hwt : Region.wanted ⟨some t', .call ⟨.builtin .recover, #[], ats⟩, ty, pos, af, none⟩ (yielded #[⟨some t', .call ⟨.builtin .recover, #[], ats⟩, ty, pos, af, none⟩] a.tmps) = true := rfl
            rw [if_pos hwt]
            have hx : Sem.run P (execOp a.eval ⟨some t', .call ⟨.builtin .recover, #[], ats⟩, ty, pos, af, none⟩) w = Result.ok Next.recover w := rfl
            rw [hx]
            have hpost : ∀ v, rv.real ι = v → Post ι h w n [] Ex.norm (Slots.put S t' rv) h Exit.normal (a.put (some t') v) w := fun v hv => by
              refine ⟨ι, Nx.refl hr, ?_, by rw [put_defers']; exact hd, rfl⟩
              rw [← hv]
              exact hs.put (d := some t') hrs fun i hi => by cases hi; exact hc.1
            have hc0 : ∀ (m : FrameMode), c₀.mode = m → ({ c₀ with mode := m } : Frame) = c₀ := fun m hm => by subst hm; rfl
            unfold recoverD
            simp only [hu]
            subst hu
            split
            · rename_i v cs' heq
              split at heq
              · rename_i v' older hmode
                simp only [Option.some.injEq, Prod.mk.injEq] at heq
                obtain ⟨rfl, rfl⟩ := heq
                rw [hmode] at hrv
                refine ⟨?_, hpost _ hrv⟩
                rw [hmode]; rfl
              · cases heq
            · rename_i heq
              split at heq
              · cases heq
              · rename_i hne
                have h1 : recV c₀.mode = .nilIface := by
                  unfold recV
                  split
                  · rename_i v older hmode; exact absurd hmode (hne _ _)
                  · rfl
                have h2 : recM c₀.mode = c₀.mode := by
                  unfold recM
                  split
                  · rename_i v older hmode; exact absurd hmode (hne _ _)
                  · rfl
                exact ⟨by rw [h2], hpost _ (hrv.trans h1)⟩
          · simp at htr
        · simp at htr
    | seq c1 c2 =>
      simp only [trRec] at htr
      split at htr
      · rename_i t' x1 y1 h1 h2
        simp only [Option.some.injEq, Prod.mk.injEq] at htr
        obtain ⟨rfl, rfl⟩ := htr
        simp only [exec] at he
        apply wpS_seq
        split at he
        · rename_i S1 hp1 he1
          have ih := wpS_rec hcall hm hu (cs := cs) k h1 hr hs hd hrv hrs he1
          intro b kk hb hro
          obtain ⟨e, a', cs', w', ⟨hcs, κ, hn, hs', hd', hx⟩, harr⟩ := ih b kk hb hro
          subst hcs
          subst hx
          refine ⟨.normal, a', _, w', ?_, harr⟩
          exact wpS_of_wp (wp_mono (exec_ok hcall hm k h2 hn.hr hs' hd' he) fun e a w hp => ⟨rfl, Post.trans hn hp⟩)
        · rename_i hne
          have ih := wpS_rec hcall hm hu (cs := cs) k h1 hr hs hd hrv hrs he
          intro b kk hb hro
          obtain ⟨e, a', cs', w', ⟨hcs, κ, hn, hs', hd', hx⟩, harr⟩ := ih b kk hb hro
          refine ⟨e, a', cs', w', ?_, harr⟩
          cases x with
          | norm => exact (hne _ _ he).elim
          | exit id => subst hx; exact ⟨hcs, κ, hn, hs', hd', rfl⟩
          | ret => subst hx; exact ⟨hcs, κ, hn, hs', hd', rfl⟩
          | pan v => obtain ⟨rfl, hv⟩ := hx; exact ⟨hcs, κ, hn, hs', hd', rfl, hv⟩
      · simp at htr
    | _ => simp [trRec] at htr
/-- A deferred function that recovers, called on the way out. -/
theorem recCalls {call : CallF} (hcall : CallOk P call) (hm : P.follows .mixedOrders = true) {g : Nat} {rf : RFn} (hrf : trRecF P g = some rf) {u : FrameMode} {rv : V} {dargs : List V} {k : Nat} {h : Heap} {ι : Map} {w : World} (hr : HR ι h.o w) (hsc : V.scs h.o.length dargs) (hle : dargs.length ≤ rf.n) (hrv : rv.real ι = recV u) (hrs : rv.sc h.o.length)
    {x : Ex} {S' : Nat → V} {h' : Heap} (he : exec call k rf.c (Slots.put (initS dargs) rf.t rv) (enter h) = some (x, S', h')) (hx : x = .norm ∨ x = .ret) :
    callOk P g = true ∧ CallsD P g (V.reals ι dargs).toArray u w fun e u' w' => (∃ v, e = .returned v) ∧ u' = recM u ∧ ∃ κ, Nx ι h w κ ((leave h h' (.tuple [])).getD h) w' := by
  unfold trRecF at hrf
  split at hrf
  · rename_i fn hfn
    split at hrf
    · rename_i hc0
      rw [Bool.and_eq_true] at hc0
      split at hrf
      · rename_i c hb
        simp only [Option.map_eq_some_iff] at hrf
        obtain ⟨⟨t, ac⟩, htr, rfl⟩ := hrf
        refine ⟨callOk_of hfn hc0.1 hb, ?_⟩
        simp only at he hle
        have hres : trRes P fn.results.toList = some [] := by
          have : fn.results.toList = [] := by
            have := eq_of_beq hc0.2
            simpa using this
          rw [this]; rfl
        refine callsD_of_wpS hfn hb fun c₀ cs hu => ?_
        have hs0 := initS_SR (ι := ι) hsc hle
        have hwp := wpS_rec hcall hm hu (cs := cs) k (h := enter h) (n := fn.ntmps) (a := { tmps := (V.reals ι dargs).toArray ++ Array.replicate (fn.ntmps - (V.reals ι dargs).toArray.size) undef, defers := [] }) htr hr hs0 rfl hrv hrs he
        intro b kk hbk hro
        obtain ⟨e, a', cs', w', ⟨hcs, κ, hn, hs', hd', hx'⟩, harr⟩ := hwp b kk hbk hro
        obtain ⟨q1, q2⟩ := results_run hn.hr hs' hres (show resAll S' h' [] = some [] from rfl)
        obtain ⟨q3, q4⟩ := leave_ok hr hn q2
        rcases hx with rfl | rfl
        · subst hx'
          exact ⟨.normal, a', cs', w', ⟨hd', _, hcs, _, q1, ⟨_, rfl⟩, rfl, κ, q3⟩, harr⟩
        · subst hx'
          exact ⟨.ret, a', cs', w', ⟨hd', _, hcs, _, q1, ⟨_, rfl⟩, rfl, κ, q3⟩, harr⟩
      · cases hrf
    · cases hrf
  · cases hrf
end
/-- What the deferred call leaves. -/
def runRec (call : CallF) (k : Nat) (rf : RFn) (rv : V) (dargs : List V) (h : Heap) : Option Heap :=
  if dargs.length ≤ rf.n then match exec call k rf.c (Slots.put (initS dargs) rf.t rv) (enter h) with
    | some (.norm, _, h') => some ((leave h h' (.tuple [])).getD h)
    | some (.ret, _, h') => some ((leave h h' (.tuple [])).getD h)
    | _ => none
  else none
/-- The results, behind the deferred call. -/
def endDef (df : DFn) (h : Heap) (S : Nat → V) (h' : Heap) : Option (Out × Option Heap) := match resAll S h' df.res with
  | some vs => some (.val (resV vs), leave h h' (resV vs))
  | none => none
def runDef (call : CallF) (k : Nat) (R : Nat → Option RFn) (df : DFn) (args : List V) (h : Heap) : Option (Out × Option Heap) :=
  if args.length ≤ df.n then match exec call k df.a (initS args) (enter h) with
    | some (.norm, S1, h1) => match execOps call df.ops S1 h1 with
      | some (.norm, S2, h2) => match df.x.ev S2 with
        | .fn g first caps => match R g with
          | some rf => match exec call k df.b S2 h2 with
            | some (.norm, S3, h3) => (runRec call k rf .nili (first ++ evs S2 df.args ++ caps) h3).bind (endDef df h S3)
            | some (.ret, S3, h3) => (runRec call k rf .nili (first ++ evs S2 df.args ++ caps) h3).bind (endDef df h S3)
            | some (.pan v, S3, h3) => (runRec call k rf v (first ++ evs S2 df.args ++ caps) h3).bind (endDef df h S3)
            | _ => none
          | none => none
        | _ => none
      | _ => none
    | _ => none
  else none
section
variable {P : Program}
theorem runRec_ok {call : CallF} (hcall : CallOk P call) (hm : P.follows .mixedOrders = true) {g : Nat} {rf : RFn} (hrf : trRecF P g = some rf) {u : FrameMode} {rv : V} {dargs : List V} {k : Nat} {h h' : Heap} {ι : Map} {w : World} (hr : HR ι h.o w) (hsc : V.scs h.o.length dargs) (hrv : rv.real ι = recV u) (hrs : rv.sc h.o.length) (he : runRec call k rf rv dargs h = some h') :
    callOk P g = true ∧ CallsD P g (V.reals ι dargs).toArray u w fun e u' w' => (∃ v, e = .returned v) ∧ u' = recM u ∧ ∃ κ, Nx ι h w κ h' w' := by
  unfold runRec at he
  split at he
  · rename_i hle
    split at he
    · rename_i S' h1 hex
      simp only [Option.some.injEq] at he
      subst he
      exact recCalls hcall hm hrf hr hsc hle hrv hrs hex (.inl rfl)
    · rename_i S' h1 hex
      simp only [Option.some.injEq] at he
      subst he
      exact recCalls hcall hm hrf hr hsc hle hrv hrs hex (.inr rfl)
    · cases he
  · cases he
theorem runDef_ok {call : CallF} (hcall : CallOk P call) (hm : P.follows .mixedOrders = true) {f : Nat} {df : DFn} (hdf : trDef P f = some df) {R : Nat → Option RFn} (hR : ∀ g rf, R g = some rf → trRecF P g = some rf) {k : Nat} {args : List V} {h : Heap} {out : Out} {oh : Option Heap} (he : runDef call k R df args h = some (out, oh)) :
    callOk P f = true ∧ ∀ ι w, HR ι h.o w → V.scs h.o.length args → Calls P f (V.reals ι args).toArray w fun e w' => ∃ κ, Nx ι h w κ (oh.getD h) w' ∧ OutOk κ (oh.getD h).o.length e out := by
  unfold trDef at hdf
  split at hdf
  · rename_i fn hfn
    split at hdf
    · rename_i hname
      split at hdf
      · rename_i A id ops B hb
        split at hdf
        · rename_i l x dargs ats ty pos af hsl
          split at hdf
          · rename_i a os x' args' b r hA hos hx hargs hB hres
            simp only [Option.some.injEq] at hdf
            subst hdf
            refine ⟨callOk_of hfn hname hb, fun ι w hr hsc => ?_⟩
            unfold runDef at he
            split at he
            · rename_i hle
              split at he
              · rename_i S1 h1 he1
                split at he
                · rename_i S2 h2 he2
                  split at he
                  · rename_i g first caps hfx
                    split at he
                    · rename_i rf hRg
                      have hrf := hR g rf hRg
                      have hs0 := initS_SR (ι := ι) hsc hle
                      refine calls_of_wp_defers hfn hb ?_
                      apply wp_seq
                      refine wp_mono (exec_ok hcall hm (ds := []) k hA (h := enter h) hr hs0 rfl he1) ?_
                      rintro e a1 w1 ⟨κ1, hn1, hs1, hd1, rfl⟩
                      apply wp_seq
                      have hol := splitLast_eq hsl
                      refine wp_region_list ?_
                      rw [hol]
                      refine execPreD_ok hcall hos hn1.hr hs1 hd1 he2 fun a2 w2 hp2 => ?_
                      obtain ⟨κ2, hn2, hs2, hd2, _⟩ := hp2
                      have hxr := ev_ok hs2 hx
                      have hxs := ev_sc hs2 hx
                      rw [hfx] at hxr hxs
                      have har := evs_ok_arr hs2 hargs
                      have hasc := (evs_ok hs2 hargs).2
                      have hdsc : V.scs h2.o.length (first ++ evs S2 args' ++ caps) := by
                        rw [V.scs_iff]
                        intro v hv
                        rcases List.mem_append.1 hv with hv | hv
                        · rcases List.mem_append.1 hv with hv | hv
                          · exact (V.scs_iff _ _).1 hxs.1 v hv
                          · exact (V.scs_iff _ _).1 hasc v hv
                        · exact (V.scs_iff _ _).1 hxs.2 v hv
                      obtain ⟨d, hd⟩ : ∃ d : Deferred, d = { target := .fn (.func g) (V.reals κ2 caps).toArray, args := (V.reals κ2 first).toArray ++ dargs.map a2.eval } := ⟨_, rfl⟩
                      have hrun : (execOp a2.eval ⟨none, .defer ⟨.value x, dargs, ats⟩, ty, pos, af, none⟩).run P w2 = .ok (.defer d) w2 := by
                        simp only [execOp, resolve, hxr, V.real, Deferred.ofValue, Sem.run_bind, Sem.run_pure, Result.andThen_ok, hd]
                      have key : ∀ {S3 : Nat → V} {h3 : Heap} {κ3 : Map} {w3 : World} {tmps : Array Value} {u : FrameMode} {rv : V}, Nx κ2 h2 w2 κ3 h3 w3 → SR κ3 S3 fn.ntmps tmps h3.o.length → u ≠ .run → settle (recM u) = .returning → rv.real κ3 = recV u → rv.sc h3.o.length → (runRec call k rf rv (first ++ evs S2 args' ++ caps) h3).bind (endDef ⟨fn.ntmps, r, a, os, x', args', b⟩ h S3) = some (out, oh) →
                          Leaves P fn tmps (fun e w' => ∃ κ, Nx ι h w κ (oh.getD h) w' ∧ OutOk κ (oh.getD h).o.length e out) [d] u w3 := by
                        intro S3 h3 κ3 w3 tmps u rv hn3 hs3 hu hset hrv hrs hbe
                        obtain ⟨h4, hrr, hend⟩ := Option.bind_eq_some_iff.1 hbe
                        have hreal := V.reals_agree hn3.ag _ hdsc
                        obtain ⟨hcg, hcd⟩ := runRec_ok hcall hm hrf (u := u) hn3.hr (V.scs_mono hn3.len _ hdsc) hrv hrs hrr
                        rw [hd]
                        refine leaves_cons hu ?_ (hcd.mono ?_)
                        · show (callFunc g ((V.reals κ2 first).toArray ++ dargs.map a2.eval ++ (V.reals κ2 caps).toArray)).run P w3 = _
                          rw [har, callFunc_run hcg, hreal]
                          simp [V.reals_eq]
                        · rintro e u' w' ⟨⟨v, rfl⟩, rfl, κ4, hn4⟩
                          show Leaves P fn tmps _ [] (settle (recM u)) w'
                          rw [hset]
                          unfold endDef at hend
                          split at hend
                          · rename_i vs hvs
                            simp only [Option.some.injEq, Prod.mk.injEq] at hend
                            obtain ⟨rfl, rfl⟩ := hend
                            obtain ⟨q1, q2⟩ := results_run hn4.hr (hs3.mono hn4.ag hn4.len) hres hvs
                            obtain ⟨q3, q4⟩ := leave_ok hr (hn1.trans (hn2.trans (hn3.trans hn4))) q2
                            exact ⟨_, q1, κ4, q3, rfl, q4⟩
                          · cases hend
                      unfold wpList
                      rw [if_pos (show Region.wanted ⟨none, .defer ⟨.value x, dargs, ats⟩, ty, pos, af, none⟩ (yielded ops a2.tmps) = true from rfl)]
                      refine .inl ?_
                      unfold Oper.wp
                      rw [hrun, Oper.upon_defer]
                      unfold wpList
                      show B.wp P _ _ w2
                      have hds : ({ a2 with defers := d :: a2.defers }.put none undef).defers = [d] := by
                        rw [put_defers', hd2]
                      split at he
                      · rename_i S3 h3 he3
                        refine wp_mono (exec_ok hcall hm (ds := [d]) k hB hn2.hr hs2 hds he3) ?_
                        rintro e a3 w3 ⟨κ3, hn3, hs3, hd3, rfl⟩
                        show Leaves P fn a3.tmps _ a3.defers .returning w3
                        rw [hd3]
                        exact key (rv := .nili) hn3 hs3 (by simp) rfl rfl trivial he
                      · rename_i S3 h3 he3
                        refine wp_mono (exec_ok hcall hm (ds := [d]) k hB hn2.hr hs2 hds he3) ?_
                        rintro e a3 w3 ⟨κ3, hn3, hs3, hd3, rfl⟩
                        show Leaves P fn a3.tmps _ a3.defers .returning w3
                        rw [hd3]
                        exact key (rv := .nili) hn3 hs3 (by simp) rfl rfl trivial he
                      · rename_i v S3 h3 he3
                        refine wp_mono (exec_ok hcall hm (ds := [d]) k hB hn2.hr hs2 hds he3) ?_
                        rintro e a3 w3 ⟨κ3, hn3, hs3, hd3, rfl, hv⟩
                        show Leaves P fn a3.tmps _ a3.defers (.panicking _) w3
                        rw [hd3]
                        exact key hn3 hs3 (by simp) rfl rfl hv he
                      · cases he
                    · cases he
                  · cases he
                · cases he
              · cases he
            · cases he
          · cases hdf
        · cases hdf
      · cases hdf
    · cases hdf
  · cases hdf
end
end AM

/- AM, part 35: heaps that grow. -/
namespace AM
open Go
set_option linter.unusedVariables false
set_option linter.unusedSimpArgs false

section
variable {α : Type}
theorem app_get0 (o : List α) (a : α) (r : List α) : (o ++ a :: r)[o.length]? = some a := by simp
theorem app_getk (o r : List α) (k : Nat) : (o ++ r)[o.length + k]? = r[k]? := by simp [List.getElem?_append_right]
theorem app_set0 (o : List α) (a b : α) (r : List α) : (o ++ a :: r).set o.length b = o ++ b :: r := by simp
theorem app_setk (o r : List α) (k : Nat) (b : α) : (o ++ r).set (o.length + k) b = o ++ r.set k b := by
  rw [List.set_append_right _ _ (by omega)]
  simp
theorem get_lt {o : List α} {l : Nat} {x : α} (h : o[l]? = some x) : l < o.length := (List.getElem?_eq_some_iff.1 h).1
end
attribute [go_sem] app_get0 app_getk app_set0 app_setk List.append_assoc List.length_append

/-- What was there is there. -/
structure Kp (h h' : Heap) : Prop where
  len : h.o.length ≤ h'.o.length
  get : ∀ x, x < h.o.length → h'.o[x]? = h.o[x]?
  e : h.o.length ≤ h'.e
  d : h.o.length ≤ h'.d

theorem Kp.enter (h : Heap) : Kp h (enter h) := ⟨Nat.le_refl _, fun _ _ => rfl, Nat.le_refl _, Nat.le_refl _⟩
theorem Kp.app {h : Heap} {o : List Obj} {e d : Nat} (k : Kp h ⟨o, e, d⟩) (r : List Obj) {e' d' : Nat} (he : h.o.length ≤ e') (hd : h.o.length ≤ d') : Kp h ⟨o ++ r, e', d'⟩ := by
  refine ⟨?_, fun x hx => ?_, he, hd⟩
  · have := k.len
    simp only [List.length_append] at *
    omega
  · have := k.len
    simp only at this ⊢
    rw [List.getElem?_append_left (by omega)]
    exact k.get x hx
theorem Kp.set {h : Heap} {o : List Obj} {e d : Nat} (k : Kp h ⟨o, e, d⟩) {l : Nat} {x : Obj} (hl : h.o.length ≤ l) {e' d' : Nat} (he : h.o.length ≤ e') (hd : h.o.length ≤ d') : Kp h ⟨o.set l x, e', d'⟩ := by
  refine ⟨by simpa using k.len, fun y hy => ?_, he, hd⟩
  simp only
  rw [List.getElem?_set_ne (by omega)]
  exact k.get y hy
theorem Kp.old {h : Heap} {o : List Obj} {e d : Nat} (k : Kp h ⟨o, e, d⟩) {l : Nat} {x : Obj} (hl : h.o[l]? = some x) : o[l]? = some x := by
  rw [← hl]
  exact k.get l (get_lt hl)

theorem fin1 {a : AF} {h : Heap} {S : Nat → V} {h' : Heap} {i : Nat} (hr : a.res = [.t i]) : finish a h (some (.ret, S, h')) = some (.val (S i), leave h h' (S i)) := by
  simp only [finish, hr, resAll, resOne, resV]; rfl
theorem fin2 {a : AF} {h : Heap} {S : Nat → V} {h' : Heap} {i j : Nat} (hr : a.res = [.t i, .t j]) : finish a h (some (.ret, S, h')) = some (.val (.tuple [S i, S j]), leave h h' (.tuple [S i, S j])) := by
  simp only [finish, hr, resAll, resOne, resV]; rfl
end AM

/- AM, part 28: functions that defer, in a table beside the others. -/
namespace AM
open Go
set_option linter.unusedVariables false
set_option linter.unusedSimpArgs false
set_option linter.unusedSectionVars false

theorem runRec_mono {c c' : CallF} (hc : Le c c') {n n' : Nat} (hn : n ≤ n') {rf : RFn} {rv : V} {a : List V} {h h' : Heap} (he : runRec c n rf rv a h = some h') : runRec c' n' rf rv a h = some h' := by
  unfold runRec at he ⊢
  split at he
  · rename_i hle
    rw [if_pos hle]
    cases hx : exec c n rf.c (Slots.put (initS a) rf.t rv) (enter h) with
    | none => rw [hx] at he; cases he
    | some r => rw [exec_mono hc hn hx]; rw [hx] at he; exact he
  · cases he
theorem runDef_mono {c c' : CallF} (hc : Le c c') {n n' : Nat} (hn : n ≤ n') {R : Nat → Option RFn} {df : DFn} {a : List V} {h : Heap} {r : Out × Option Heap} (he : runDef c n R df a h = some r) : runDef c' n' R df a h = some r := by
  unfold runDef at he ⊢
  split at he
  · rename_i hle
    rw [if_pos hle]
    split at he
    · rename_i S1 h1 he1
      rw [exec_mono hc hn he1]
      simp only
      split at he
      · rename_i S2 h2 he2
        rw [execOps_mono hc he2]
        simp only
        split at he
        · rename_i g first caps hx
          split at he
          · rename_i rf hR
            have fin : ∀ {rv : V} {S3 : Nat → V} {h3 : Heap}, (runRec c n rf rv (first ++ evs S2 df.args ++ caps) h3).bind (endDef df h S3) = some r → (runRec c' n' rf rv (first ++ evs S2 df.args ++ caps) h3).bind (endDef df h S3) = some r := fun hb => by
              obtain ⟨h4, hq, hend⟩ := Option.bind_eq_some_iff.1 hb
              exact Option.bind_eq_some_iff.2 ⟨h4, runRec_mono hc hn hq, hend⟩
            split at he
            · rename_i S3 h3 he3
              rw [exec_mono hc hn he3]; exact fin he
            · rename_i S3 h3 he3
              rw [exec_mono hc hn he3]; exact fin he
            · rename_i v S3 h3 he3
              rw [exec_mono hc hn he3]; exact fin he
            · cases he
          · cases he
        · cases he
      · cases he
    · cases he
  · cases he
open Classical in
/-- What a deferring function comes to. -/
noncomputable def runDefL (c : CallF) (R : Nat → Option RFn) (df : DFn) (a : List V) (h : Heap) : Option (Out × Option Heap) :=
  if hk : ∃ k r, runDef c k R df a h = some r then some hk.choose_spec.choose else none
theorem of_runDefL {c : CallF} {R : Nat → Option RFn} {df : DFn} {a : List V} {h : Heap} {r : Out × Option Heap} (he : runDefL c R df a h = some r) : ∃ k, runDef c k R df a h = some r := by
  unfold runDefL at he
  split at he
  · rename_i hk
    simp only [Option.some.injEq] at he
    exact ⟨hk.choose, by rw [← he]; exact hk.choose_spec.choose_spec⟩
  · cases he
theorem runDefL_of {c : CallF} {R : Nat → Option RFn} {df : DFn} {a : List V} {h : Heap} {r : Out × Option Heap} {k : Nat} (he : runDef c k R df a h = some r) : runDefL c R df a h = some r := by
  have hk : ∃ k r, runDef c k R df a h = some r := ⟨k, r, he⟩
  unfold runDefL
  rw [dif_pos hk]
  have h1 := hk.choose_spec.choose_spec
  have h2 := runDef_mono (Le.refl c) (Nat.le_max_left k hk.choose) he
  have h3 := runDef_mono (Le.refl c) (Nat.le_max_right k hk.choose) h1
  rw [h2] at h3
  exact h3.symm ▸ rfl
/-- Deferring functions, and behind them what else is answered. -/
noncomputable def extD (D : Nat → Option DFn) (R : Nat → Option RFn) (E : ExtF) : ExtF := fun c f => match D f with
  | some df => some fun a h => runDefL c R df a h
  | none => E c f
def extDK (D : Nat → Option DFn) (R : Nat → Option RFn) (E : ExtF) : ExtF := fun c f => match D f with
  | some df => some fun a h => runDef c 4000 R df a h
  | none => E c f
theorem extD_mono {D : Nat → Option DFn} {R : Nat → Option RFn} {E : ExtF} (hE : ExtMono E) : ExtMono (extD D R E) := by
  intro c c' hc f
  unfold extD
  cases hD : D f with
  | none => simp only; exact hE c c' hc f
  | some df =>
    simp only
    refine ⟨fun h => (by cases h), fun g hg => ⟨_, rfl, fun a h r he => ?_⟩⟩
    simp only [Option.some.injEq] at hg
    subst hg
    obtain ⟨k, hk⟩ := of_runDefL he
    exact runDefL_of (runDef_mono hc (Nat.le_refl k) hk)
theorem extD_sound {P : Program} (hm : P.follows .mixedOrders = true) {D : Nat → Option DFn} {R : Nat → Option RFn} {E : ExtF} (hE : ExtSound P E) (hD : ∀ f df, D f = some df → trDef P f = some df) (hR : ∀ g rf, R g = some rf → trRecF P g = some rf) : ExtSound P (extD D R E) := by
  intro call hcall f k args h out oh hk he
  unfold extD at hk
  cases hDf : D f with
  | none => rw [hDf] at hk; exact hE call hcall f k args h out oh hk he
  | some df =>
    rw [hDf] at hk
    simp only [Option.some.injEq] at hk
    subst hk
    obtain ⟨n, hn⟩ := of_runDefL he
    exact runDef_ok hcall hm (hD f df hDf) hR hn
/-- One table answers no less than another one. -/
theorem callN_ext_le {F : Nat → Option AF} {X Y : ExtF} (hXY : ∀ c c', Le c c' → ∀ f, (X c f = none → Y c' f = none) ∧ ∀ g, X c f = some g → ∃ g', Y c' f = some g' ∧ ∀ a h r, g a h = some r → g' a h = some r) : ∀ k, Le (callN F X k) (callN F Y k)
  | 0 => fun f a h r he => by simp [callN] at he
  | k + 1 => fun f a h r he => by
    have ih := callN_ext_le (F := F) hXY k
    obtain ⟨h1, h2⟩ := hXY _ _ ih f
    rw [callN] at he ⊢
    cases hg : X (callN F X k) f with
    | some g =>
      obtain ⟨g', hg', hgg⟩ := h2 g hg
      rw [hg] at he
      rw [hg']
      exact hgg a h r he
    | none =>
      rw [hg] at he
      rw [h1 hg]
      simp only at he ⊢
      cases hf : F f with
      | none => rw [hf] at he; simp at he
      | some af =>
        rw [hf] at he
        simp only at he ⊢
        split at he
        · rename_i hle
          rw [if_pos hle]
          cases hq : exec (callN F X k) k af.body (initS a) (enter h) with
          | none => rw [hq] at he; simp [finish] at he
          | some q => rw [exec_mono ih (Nat.le_refl k) hq]; rw [hq] at he; exact he
        · simp at he
theorem extDK_le {D : Nat → Option DFn} {R : Nat → Option RFn} {E : ExtF} (hE : ExtMono E) : ∀ c c', Le c c' → ∀ f, (extDK D R E c f = none → extD D R E c' f = none) ∧ ∀ g, extDK D R E c f = some g → ∃ g', extD D R E c' f = some g' ∧ ∀ a h r, g a h = some r → g' a h = some r := by
  intro c c' hc f
  unfold extDK extD
  cases hD : D f with
  | none => simp only; exact hE c c' hc f
  | some df =>
    simp only
    refine ⟨fun h => (by cases h), fun g hg => ⟨_, rfl, fun a h r he => ?_⟩⟩
    simp only [Option.some.injEq] at hg
    subst hg
    exact runDefL_of (runDef_mono hc (Nat.le_refl _) he)
/-- A concrete run, with deferring functions. -/
theorem Den_ofK {F : Nat → Option AF} {D : Nat → Option DFn} {R : Nat → Option RFn} {E : ExtF} (hE : ExtMono E) {k f : Nat} {a : List V} {h : Heap} {r : Out × Option Heap} (he : callN F (extDK D R E) k f a h = some r) : Den F (extD D R E) f a h = some r :=
  Den_of (extD_mono hE) (callN_ext_le (extDK_le hE) k f a h r he)
end AM

/- AM, part 36: slices of structs, read by rows of cells. -/
namespace AM
open Go
set_option linter.unusedVariables false
set_option linter.unusedSimpArgs false

/-- A slice whose elements are these rows of cells. -/
def SliceOf (o : List Obj) (v : V) (e : Nat) (xs : List (List V)) : Prop :=
  (∀ x ∈ xs, x.length = e) ∧ 0 < e ∧ ((v = .nils ∧ xs = []) ∨ ((∃ a, v = .zsl a) ∧ xs = []) ∨ ∃ l ck t, v = .slice l 0 xs.length e ∧ o[l]? = some (.cells ck t 0 xs.flatten))

theorem SliceOf.len {o : List Obj} {v : V} {e : Nat} {xs : List (List V)} (h : SliceOf o v e xs) : lenLV v = some (.int .i64 (xs.length : Int), none) := by
  obtain ⟨_, _, ⟨rfl, rfl⟩ | ⟨⟨a, rfl⟩, rfl⟩ | ⟨l, ck, t, rfl, _⟩⟩ := h <;> rfl

theorem SliceOf.ext {o o' : List Obj} {v : V} {e : Nat} {xs : List (List V)} (h : SliceOf o v e xs) (hk : ∀ (l : Nat) (x : Obj), o[l]? = some x → o'[l]? = some x) : SliceOf o' v e xs := by
  obtain ⟨h1, h0, h2 | h2 | ⟨l, ck, t, rfl, ho⟩⟩ := h
  · exact ⟨h1, h0, .inl h2⟩
  · exact ⟨h1, h0, .inr (.inl h2)⟩
  · exact ⟨h1, h0, .inr (.inr ⟨l, ck, t, rfl, hk _ _ ho⟩)⟩

theorem Kp.all {h : Heap} {o : List Obj} {e d : Nat} (k : Kp h ⟨o, e, d⟩) : ∀ (l : Nat) (x : Obj), h.o[l]? = some x → o[l]? = some x := fun l x hx => k.old hx

theorem SliceOf.one {o : List Obj} {v : V} {e : Nat} {xs : List (List V)} (h : SliceOf o v e xs) : v.one = true := by
  obtain ⟨_, _, ⟨rfl, _⟩ | ⟨⟨a, rfl⟩, _⟩ | ⟨l, ck, t, rfl, _⟩⟩ := h <;> rfl
end AM

