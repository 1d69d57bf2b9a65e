/- AM, part 19: from what a call comes to, to the row's own words. -/
import Derived.Test.YtompkmidoklppaaAmDen
import Derived.ChangeSame
import Derived.RowKit3
import Derived.KernelRfl
namespace AM
open Go
open Go.RowKit (Hid)
set_option linter.unusedVariables false
set_option linter.unusedSimpArgs false
set_option linter.unusedSectionVars false

/-- Nothing of what was there has turned. -/
def Kept (w w' : World) : Prop := w'.os = w.os ∧ w'.output = w.output ∧ w.heap.size ≤ w'.heap.size ∧ ∀ b, b < w.heap.size → w'.heap[b]? = w.heap[b]?

theorem Kept.but {w w' : World} (h : Kept w w') (may : MemPlace → Prop) : w.keptBut w' may := by
  refine ⟨h.1, h.2.1, fun i hi => ?_⟩
  rw [h.2.2.2 i hi]
  split
  · rename_i e1 e2
    rw [e1] at e2
    simp only [Option.some.injEq, Go.Obj.cells.injEq] at e2
    obtain ⟨rfl, rfl, rfl⟩ := e2
    exact ⟨rfl, rfl, rfl, fun _ _ => rfl⟩
  · rename_i e1 e2
    rw [e1] at e2
    simp only [Option.some.injEq, Go.Obj.map.injEq] at e2
    obtain ⟨rfl, rfl⟩ := e2
    exact .inr ⟨rfl, rfl⟩
  · rfl

theorem Kept.frozen {w w' : World} (h : Kept w w') {a : Addr} (ha : a.block < w.heap.size) : w'.frozen? a = w.frozen? a := by
  simp only [World.frozen?, h.2.2.2 a.block ha]

section
variable {H : Type} {enc : TypeId × Value → H} {P : Program}

/-- What a function that turns nothing leaves. -/
theorem post_kept {f : Func} {s : ChangeSpec} {apart fresh handsOn again : Bool} {W W' : World} {args : Array Value} {v : Value} {ds gs : List (DataW H)} {before pa pv : List MemPlace}
    (hW : DataW.Whole enc P f.params.toList s.vars apart W args.toList ds gs before)
    (hres : ∀ (b : Nat) (sp : Nat → Bool) (hd : Bool), DataW.TrodAll enc P W' b sp hd f.resultTypes.toList (v.resultList f.resultTypes.size) (s.fn H (ds ++ gs)).results [])
    (hargs : ∀ sp : Nat → Bool, (∀ p ∈ before, sp p.block = true) → DataW.TrodAll enc P W' 0 sp true f.params.toList args.toList (s.fn H (ds ++ gs)).args pa)
    (hvars : ∀ sp : Nat → Bool, (∀ p ∈ before, sp p.block = true) → DataW.TrodVars enc P W' sp s.vars (s.fn H (ds ++ gs)).vars pv)
    (hps : before = pa ++ pv) (hk : Kept W W')
    (hok : ∀ (j : Nat) (t : TypeId) (r : Value), f.resultTypes[j]? = some t → (v.resultList f.resultTypes.size)[j]? = some r → Value.okWide P W' .any 0 t r) :
    s.post enc P f apart fresh handsOn again W args v W' := by
  have hold : ∀ p ∈ before, (fun b => decide (b < W.heap.size)) p.block = true := fun p hp => by simpa using hW.lt p hp
  have hlt : ∀ b off, MemPlace.cell b off ∈ before → b < W.heap.size := fun b off hp => by simpa [MemPlace.block] using hW.lt _ hp
  refine ⟨ds, gs, before, [], pa, pv, hW, hres _ _ _, hargs _ hold, hvars _ hold, hk.but _, fun _ => ?_⟩
  obtain ⟨_, _, _, _, _, hz, hn⟩ := hW
  refine ⟨hok, _, _, ([] ++ pa) ++ pv, ⟨[] ++ pa, pv, Go.ChangeShapes.trodAll_append (hargs _ (fun _ _ => rfl)) (hres _ _ _), hvars _ (fun _ _ => rfl), rfl, ?_, ?_⟩, ?_⟩
  · intro b off hp
    have hp' : MemPlace.cell b off ∈ before := by rw [hps]; simpa using hp
    rw [hk.frozen (a := ⟨b, off, none⟩) (hlt b off hp')]
    exact hz b off hp'
  · intro ha
    have := hn ha
    rw [hps] at this
    simpa using this
  · intro p hp _
    rw [hps]
    simpa using hp

/-- No object of one's own. -/
def NoOwn (h : Heap) : Prop := ∀ (l : Nat) (o : Obj), h.o[l]? = some o → o.own = false

theorem kept_of_nx {ι κ : Map} {h h' : Heap} {w w' : World} (hn : Nx ι h w κ h' w') (ho : NoOwn h) : Kept w w' :=
  ⟨hn.fr.os, hn.fr.output, hn.fr.size, fun b hb => hn.fr.keep b hb (fun ⟨l, o, hl, hown, _⟩ => by rw [ho l o hl] at hown; cases hown)⟩

/-- A call that comes to a plain value. -/
theorem calls_of_den (hm : P.follows .mixedOrders = true) {F : Nat → Option AF} (hF : ∀ f af, F f = some af → trProg P f = some af) {ext : ExtF}
    (hext : ∀ call, CallOk P call → ∀ f g args h out oh, ext call f = some g → g args h = some (out, oh) → callOk P f = true ∧ ∀ ι w, HR ι h.o w → V.scs h.o.length args →
      Calls P f (V.reals ι args).toArray w fun e w' => ∃ κ, Nx ι h w κ (oh.getD h) w' ∧ OutOk κ (oh.getD h).o.length e out)
    {f : Nat} {args : List V} {h : Heap} {v : V} {oh : Option Heap} (hd : Den F ext f args h = some (.val v, oh)) (ho : NoOwn h) (hv : v.plain = true) {ι : Map} {w : World} (hr : HR ι h.o w) (hs : V.scs h.o.length args) :
    Calls P f (V.reals ι args).toArray w fun e w' => e = .returned (v.real ι) ∧ Kept w w' := by
  obtain ⟨k, hk⟩ := of_Den hd
  refine ((callN_ok hm hF hext k _ _ _ _ _ hk).2 ι w hr hs).mono fun e w' ⟨κ, hn, hm⟩ => ?_
  have hm' : e = .returned (v.real κ) := hm.1
  refine ⟨?_, kept_of_nx hn ho⟩
  rw [hm']
  have h0 : v.real κ = v.real ι := V.real_agree (n := 0) (fun l hl => absurd hl (Nat.not_lt_zero l)) v (V.sc_of_plain 0 v hv)
  rw [h0]
end
end AM
