/- AM, part 23: functions of plain arguments and a plain result, answered by what was proved of them. -/
import Derived.Test.YtompkmidoklppaaAmWp
namespace AM
open Go
set_option linter.unusedVariables false
set_option linter.unusedSectionVars false

/-- Answers by tables: plain arguments, a plain value. -/
def plainExt (g : Nat → Option (List V → Option V)) : ExtF := fun _ f => (g f).map fun sp => fun args _ => if V.plains args = true then (sp args).map fun v => (.val v, none) else none

theorem plainExt_mono (g : Nat → Option (List V → Option V)) : ExtMono (plainExt g) := by
  intro c c' _ f
  refine ⟨fun h => h, fun k h => ⟨k, h, fun a hp r e => e⟩⟩

theorem plainExt_none {g : Nat → Option (List V → Option V)} {f : Nat} (h : g f = none) (c : CallF) : plainExt g c f = none := by simp [plainExt, h]

/-- The tables say no more than what the functions come to over an empty heap. -/
def PlainOk (F : Nat → Option AF) (E : ExtF) (g : Nat → Option (List V → Option V)) : Prop :=
  ∀ f sp args v, g f = some sp → sp args = some v → V.plains args = true → v.plain = true ∧ ∃ oh, Den F E f args H0 = some (.val v, oh)

theorem keep_nx {ι : Map} {h : Heap} {w w' : World} (hr : HR ι h.o w) (hk : Kept w w') (ht : w'.tape = w.tape) : Nx ι h w ι h w' := by
  refine ⟨⟨fun l o hl => ?_, hr.apart, hr.sc⟩, Agree.refl _ _, Nat.le_refl _, ⟨hk.1, ht, hk.2.1, hk.2.2.1, fun b hb _ => hk.2.2.2 b hb, fun b _ h => h⟩, fun _ _ _ _ h => h, ⟨Nat.le_refl _, Nat.le_refl _⟩, fun _ _ _ => rfl⟩
  have ho := hr.obj l o hl
  cases hlive : o.live with
  | false => cases o <;> simp_all [Obj.live, OR]
  | true => exact ho.of_block (hk.2.2.2 _ (ho.lt hlive))

theorem plainExt_sound {P : Program} (hm : P.follows .mixedOrders = true) {F : Nat → Option AF} (hF : FOk P F) {E : ExtF} (hE : ExtSound P E) {g : Nat → Option (List V → Option V)} (hg : PlainOk F E g) : ExtSound P (plainExt g) := by
  intro call _ f k args h out oh hk he
  unfold plainExt at hk
  cases hgf : g f with
  | none => rw [hgf] at hk; cases hk
  | some sp =>
    rw [hgf] at hk
    simp only [Option.map_some, Option.some.injEq] at hk
    subst hk
    simp only at he
    split at he
    · rename_i hp
      cases hsp : sp args with
      | none => rw [hsp] at he; cases he
      | some v =>
        rw [hsp] at he
        simp only [Option.map_some, Option.some.injEq, Prod.mk.injEq] at he
        obtain ⟨rfl, rfl⟩ := he
        obtain ⟨hv, oh, hd⟩ := hg f sp args v hgf hsp hp
        obtain ⟨n, hn⟩ := of_Den hd
        obtain ⟨hok, hcalls⟩ := callN_ok hm hF hE n _ _ _ _ _ hn
        refine ⟨hok, fun ι w hr hs => ?_⟩
        refine (hcalls ι w (hr0 ι w) (V.scs_of_plains _ _ hp)).mono fun e w' ⟨κ, hnx, ho⟩ => ?_
        refine ⟨ι, keep_nx hr (kept_of_nx hnx noOwn0) hnx.fr.tape, ?_, V.sc_of_plain _ v hv⟩
        rw [ho.1]
        have h0 : v.real κ = v.real ι := V.real_agree (n := 0) (fun l hl => absurd hl (Nat.not_lt_zero l)) v (V.sc_of_plain 0 v hv)
        rw [h0]
    · cases he

theorem den_plain {F : Nat → Option AF} {g : Nat → Option (List V → Option V)} {f : Nat} {sp : List V → Option V} {args : List V} {v : V} (h : Heap) (hg : g f = some sp) (hs : sp args = some v) (hp : V.plains args = true) :
    Den F (plainExt g) f args h = some (.val v, none) := by
  refine Den_of (plainExt_mono g) (k := 1) ?_
  simp only [callN, plainExt, hg, Option.map_some, if_pos hp, hs]
end AM
