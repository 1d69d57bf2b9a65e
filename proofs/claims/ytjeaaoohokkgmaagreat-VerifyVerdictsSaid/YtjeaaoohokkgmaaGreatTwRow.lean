/- The law VerifyVerdicts holds for every input: it answers true, and it turns nothing of what was there. Conditions: those of the given statement alone. -/
import Derived.Test.YtjeaaoohokkgmaaGreatRows
import Derived.WalkKit
import Derived.ProofKit
import Derived.OpenShut
import Derived.Test.YtjeaaoohokkgmaaGreatTwPart2
namespace Go.Proofs.YtjeaaoohokkgmaaGreat.verifyVerdicts
open Go.ChangeShapes Go.WideShapes Go.ChangeAt Go.RowKit
open AM
set_option linter.unusedVariables false
set_option linter.unusedSimpArgs false
set_option maxRecDepth 100000

theorem own : ownKnob Tryz.prog.godebug = none := by kernel_rfl

def tys : List Ty := [.int .i64, .int .i64, .int .i32]

theorem den (o : List AM.Obj) (args : List V) (hro : AllRo o) (ha : Ty.args o tys args) : ∃ oh, Den FF E9 3 args ⟨o, 0, 0⟩ = some (.val (.bool true), oh) := by
  simp only [tys, Ty.args] at ha
  obtain ⟨v0, r0, rfl, h0, v1, r1, rfl, h1, v2, r2, rfl, h2, rfl⟩ := ha
  obtain ⟨h, rfl, _, _⟩ := arg_int h0
  obtain ⟨n, rfl, _, _⟩ := arg_int h1
  obtain ⟨v, rfl, hv1, hv2⟩ := arg_int h2
  have e1 : IntKind.i32.min = -2147483648 := by decide
  have e2 : IntKind.i32.max = 2147483647 := by decide
  exact ⟨none, lawAny o h n v (by omega) (by omega)⟩

theorem lifted (os : Os) (started : os.Started) (H : Type) (enc : TypeId × Value → H) :
    ReturnsInHanded {} Tryz.checked os 3 .any (Rows.verifyVerdictsSpec.pre6 enc Tryz.prog Tryz.f3 Rows.verifyVerdictsRow.domain false) (Rows.verifyVerdictsSpec.post enc Tryz.prog Tryz.f3 false true false false) := by
  refine returnsInHanded_of_change (C := Tryz.checked) own started (by kernel_rfl) Tryz.func3
    (ChangeSpec.witness6 (enc := enc) (C := Tryz.checked) false ⟨#[], #[.int .i64 0, .int .i64 0, .int .i32 0], []⟩ 8 (by kernel_rfl) (by kernel_rfl) (by kernel_rfl) (by kernel_rfl)) ?_
  intro W base args ds gs before hval hW hcnd _
  refine AM.law (tys := tys) (n := 12) (tb := 4) mixed ffok sndE9 rfl (by kernel_rfl) (by kernel_rfl) (by kernel_rfl) ?_ den hval hW
  intro H ds h
  match ds, h with
  | [d0, d1, d2], _ => rfl

theorem over : Rows.verifyVerdictsRow.holds Tryz.pinned (OpenSpec.ofChange Rows.verifyVerdictsSpec) :=
  OpenClaim.holds_of_wide 3 Tryz.f3 rfl rfl rfl rfl rfl rfl rfl ⟨rfl, rfl, rfl, rfl, rfl⟩ rfl rfl rfl rfl rfl (by kernel_rfl) Tryz.func3 (by kernel_rfl)
    (of_decide_eq_true (by kernel_rfl)) (by unfold Func.isWrapper; first | (rw [if_pos (by decide +kernel)]; kernel_rfl) | (rw [if_neg (by decide +kernel)]; exact ⟨rfl, rfl⟩))
    (fun os started H enc _ => lifted os started H enc)

theorem proved : Rows.VerifyVerdictsSaid :=
  over
end Go.Proofs.YtjeaaoohokkgmaaGreat.verifyVerdicts

