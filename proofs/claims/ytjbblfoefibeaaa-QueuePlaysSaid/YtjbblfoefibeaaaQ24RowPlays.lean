/- The law QueuePlays holds for every input: it answers true, and it turns nothing of what was there. Conditions: those of the given statement alone. -/
import Derived.Test.YtjbblfoefibeaaaRows
import Derived.WalkKit
import Derived.ProofKit
import Derived.OpenShut
import Derived.Test.YtjbblfoefibeaaaQ24Part4
namespace Go.Proofs.Ytjbblfoefibeaaa.queuePlays
open Go.ChangeShapes Go.WideShapes Go.ChangeAt Go.RowKit
open AM
set_option linter.unusedVariables false
set_option linter.unusedSimpArgs false
set_option maxRecDepth 100000

theorem own : ownKnob Try.prog.godebug = none := by kernel_rfl

def tys : List Ty := [.slice (.struct [.int .i64, .int .i64, .struct [.int .i64, .int .i64, .int .i64, .int .i64, .int .i64, .int .i64, .str, .str], .slice (.struct [.int .i64, .int .i64, .str])])]

theorem den (o : List AM.Obj) (args : List V) (hro : AllRo o) (ha : Ty.args o tys args) : ∃ oh, Den FF E5 9 args ⟨o, 0, 0⟩ = some (.val (.bool true), oh) := by
  simp only [tys, Ty.args] at ha
  obtain ⟨v0, r0, rfl, h0, rfl⟩ := ha
  obtain ⟨xs, hm, h1, h2, h3, h4⟩ := script_of h0
  obtain ⟨r, oh, h5, rfl⟩ := lawPlays (o := o) h1 h2 h3 h4 hm
  exact ⟨oh, h5⟩

theorem lifted (os : Os) (started : os.Started) (H : Type) (enc : TypeId × Value → H) :
    ReturnsInHanded {} Try.checked os 9 .any (Rows.queuePlaysSpec.pre6 enc Try.prog Try.f9 Rows.queuePlaysRow.domain false) (Rows.queuePlaysSpec.post enc Try.prog Try.f9 false true false false) := by
  refine returnsInHanded_of_change (C := Try.checked) own started (by kernel_rfl) Try.func9
    (ChangeSpec.witness6 (enc := enc) (C := Try.checked) false ⟨#[], #[.slice none 0 0], []⟩ 8 (by kernel_rfl) (by kernel_rfl) (by kernel_rfl) (by kernel_rfl)) ?_
  intro W base args ds gs before hval hW hcnd _
  refine AM.law (tys := tys) (n := 12) (tb := 4) mixed ffok sndE5 rfl (by kernel_rfl) (by kernel_rfl) (by kernel_rfl) ?_ den hval hW
  intro H ds h
  match ds, h with
  | [d0], _ => rfl

theorem over : Rows.queuePlaysRow.holds Try.pinned (OpenSpec.ofChange Rows.queuePlaysSpec) :=
  OpenClaim.holds_of_wide 9 Try.f9 rfl rfl rfl rfl rfl rfl rfl ⟨rfl, rfl, rfl, rfl, rfl⟩ rfl rfl rfl rfl rfl (by kernel_rfl) Try.func9 (by kernel_rfl)
    (of_decide_eq_true (by kernel_rfl)) (by unfold Func.isWrapper; first | (rw [if_pos (by decide +kernel)]; kernel_rfl) | (rw [if_neg (by decide +kernel)]; exact ⟨rfl, rfl⟩))
    (fun os started H enc _ => lifted os started H enc)

theorem proved : Rows.QueuePlaysSaid :=
  over
end Go.Proofs.Ytjbblfoefibeaaa.queuePlays

