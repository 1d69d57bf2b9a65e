/- The law StoreOnce holds for every input: it answers true, and it turns nothing of what was there. Conditions: those of the given statement alone. -/
import Derived.Test.YtfbkeieoeagkdaaRows
import Derived.WalkKit
import Derived.ProofKit
import Derived.OpenShut
import Derived.Test.YtfbkeieoeagkdaaTdPart4
namespace Go.Proofs.Ytfbkeieoeagkdaa.storeOnce
open Go.ChangeShapes Go.WideShapes Go.ChangeAt Go.RowKit
open AM
set_option linter.unusedVariables false
set_option linter.unusedSimpArgs false
set_option maxRecDepth 100000

theorem own : ownKnob Try.prog.godebug = none := by kernel_rfl

def tys : List Ty := [.slice (.int .u8), .slice (.arr 64 (.int .u8)), .int .u8]

theorem den (o : List AM.Obj) (args : List V) (hro : AllRo o) (ha : Ty.args o tys args) : ∃ oh, Den FF E2 9 args ⟨o, 0, 0⟩ = some (.val (.bool true), oh) := by
  simp only [tys, Ty.args] at ha
  obtain ⟨v0, r0, rfl, h0, v1, r1, rfl, h1, v2, r2, rfl, h2, rfl⟩ := ha
  obtain ⟨b, hb, _⟩ := barg_of h0
  obtain ⟨ps, hp, _⟩ := parg_of h1
  obtain ⟨n, rfl, hn1, hn2⟩ := arg_int h2
  have e1 : IntKind.u8.min = 0 := rfl
  have e2 : IntKind.u8.max = 255 := rfl
  obtain ⟨r, oh, h5, rfl⟩ := lawOnceS hb hp (c := n) (by omega) (by omega)
  exact ⟨oh, h5⟩

theorem lifted (os : Os) (started : os.Started) (H : Type) (enc : TypeId × Value → H) :
    ReturnsInHanded {} Try.checked os 9 .any (Rows.storeOnceSpec.pre6 enc Try.prog Try.f9 Rows.storeOnceRow.domain false) (Rows.storeOnceSpec.post enc Try.prog Try.f9 false true false false) := by
  refine returnsInHanded_of_change (C := Try.checked) own started (by kernel_rfl) Try.func9
    (ChangeSpec.witness6 (enc := enc) (C := Try.checked) false ⟨#[], #[.slice none 0 0, .slice none 0 0, .int .u8 0], []⟩ 8 (by kernel_rfl) (by kernel_rfl) (by kernel_rfl) (by kernel_rfl)) ?_
  intro W base args ds gs before hval hW hcnd _
  refine AM.law (tys := tys) (n := 12) (tb := 4) mixed ffok sndE2 rfl (by kernel_rfl) (by kernel_rfl) (by kernel_rfl) ?_ den hval hW
  intro H ds h
  match ds, h with
  | [d0, d1, d2], _ => rfl

theorem over : Rows.storeOnceRow.holds Try.pinned (OpenSpec.ofChange Rows.storeOnceSpec) :=
  OpenClaim.holds_of_wide 9 Try.f9 rfl rfl rfl rfl rfl rfl rfl ⟨rfl, rfl, rfl, rfl, rfl⟩ rfl rfl rfl rfl rfl (by kernel_rfl) Try.func9 (by kernel_rfl)
    (of_decide_eq_true (by kernel_rfl)) (by unfold Func.isWrapper; first | (rw [if_pos (by decide +kernel)]; kernel_rfl) | (rw [if_neg (by decide +kernel)]; exact ⟨rfl, rfl⟩))
    (fun os started H enc _ => lifted os started H enc)

theorem proved : Rows.StoreOnceSaid :=
  over
end Go.Proofs.Ytfbkeieoeagkdaa.storeOnce

