/- The law StoreLasts holds for every input: it answers true, and it turns nothing of what was there. Conditions: those of the given statement alone. -/
import Derived.Test.YtfbkeieoeagkdaaRows
import Derived.WalkKit
import Derived.ProofKit
import Derived.OpenShut
import Derived.Test.YtfbkeieoeagkdaaTdPart4
namespace Go.Proofs.Ytfbkeieoeagkdaa.storeLasts
open Go.ChangeShapes Go.WideShapes Go.ChangeAt Go.RowKit
open AM
set_option linter.unusedVariables false
set_option linter.unusedSimpArgs false
set_option maxRecDepth 100000

theorem own : ownKnob Try.prog.godebug = none := by kernel_rfl

def tys : List Ty := [.slice (.struct [.int .i64, .int .i64, .arr 64 (.int .u8), .slice (.int .u8)]), .int .i64, .slice (.int .u8)]

theorem den (o : List AM.Obj) (args : List V) (hro : AllRo o) (ha : Ty.args o tys args) : ∃ oh, Den FF E2 10 args ⟨o, 0, 0⟩ = some (.val (.bool true), oh) := by
  simp only [tys, Ty.args] at ha
  obtain ⟨v0, r0, rfl, h0, v1, r1, rfl, h1, v2, r2, rfl, h2, rfl⟩ := ha
  obtain ⟨xs, hx⟩ := oarg_of h0
  obtain ⟨n, rfl, _, _⟩ := arg_int h1
  obtain ⟨b, hb, hbm⟩ := barg_of h2
  obtain ⟨r, oh, h5, rfl⟩ := lawLastsS (f := n) hx hb hbm
  exact ⟨oh, h5⟩

theorem lifted (os : Os) (started : os.Started) (H : Type) (enc : TypeId × Value → H) :
    ReturnsInHanded {} Try.checked os 10 .any (Rows.storeLastsSpec.pre6 enc Try.prog Try.f10 Rows.storeLastsRow.domain false) (Rows.storeLastsSpec.post enc Try.prog Try.f10 false true false false) := by
  refine returnsInHanded_of_change (C := Try.checked) own started (by kernel_rfl) Try.func10
    (ChangeSpec.witness6 (enc := enc) (C := Try.checked) false ⟨#[], #[.slice none 0 0, .int .i64 0, .slice none 0 0], []⟩ 8 (by kernel_rfl) (by kernel_rfl) (by kernel_rfl) (by kernel_rfl)) ?_
  intro W base args ds gs before hval hW hcnd _
  refine AM.law (tys := tys) (n := 12) (tb := 4) mixed ffok sndE2 rfl (by kernel_rfl) (by kernel_rfl) (by kernel_rfl) ?_ den hval hW
  intro H ds h
  match ds, h with
  | [d0, d1, d2], _ => rfl

theorem over : Rows.storeLastsRow.holds Try.pinned (OpenSpec.ofChange Rows.storeLastsSpec) :=
  OpenClaim.holds_of_wide 10 Try.f10 rfl rfl rfl rfl rfl rfl rfl ⟨rfl, rfl, rfl, rfl, rfl⟩ rfl rfl rfl rfl rfl (by kernel_rfl) Try.func10 (by kernel_rfl)
    (of_decide_eq_true (by kernel_rfl)) (by unfold Func.isWrapper; first | (rw [if_pos (by decide +kernel)]; kernel_rfl) | (rw [if_neg (by decide +kernel)]; exact ⟨rfl, rfl⟩))
    (fun os started H enc _ => lifted os started H enc)

theorem proved : Rows.StoreLastsSaid :=
  over
end Go.Proofs.Ytfbkeieoeagkdaa.storeLasts

