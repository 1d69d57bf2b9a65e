/- The law SlotAll holds for every input: it answers true, and it turns nothing of what was there. Conditions: those of the given statement alone. -/
import Derived.Test.YtabnocdebldpmaaRows
import Derived.WalkKit
import Derived.ProofKit
import Derived.OpenShut
import Derived.Test.YtabnocdebldpmaaS12Part3
namespace Go.Proofs.Ytabnocdebldpmaa.slotAll
open Go.ChangeShapes Go.WideShapes Go.ChangeAt Go.RowKit
open AM
set_option linter.unusedVariables false
set_option linter.unusedSimpArgs false
set_option maxRecDepth 100000

theorem own : ownKnob Try.prog.godebug = none := by kernel_rfl

def tys : List Ty := [.slice (.arr 64 (.int .u8))]

theorem den (o : List AM.Obj) (args : List V) (hro : AllRo o) (ha : Ty.args o tys args) : ∃ oh, Den FF E9 6 args ⟨o, 0, 0⟩ = some (.val (.bool true), oh) := by
  simp only [tys, Ty.args] at ha
  obtain ⟨v0, r0, rfl, h0, rfl⟩ := ha
  rcases arg_slice h0 with rfl | ⟨l, n, rfl, _, _, hc⟩
  · obtain ⟨v, oh, h1, rfl⟩ := lawAll_nils (o := o) (fun h => by
      obtain ⟨v, oh, h1, rfl, rfl⟩ := all_nil h
      exact h1)
    exact ⟨oh, h1⟩
  · rcases hc with rfl | ⟨u, xs, h1, h2, h3⟩
    · obtain ⟨v, oh, h1, rfl⟩ := lawAll (o := o) (B := []) (n := 0) (l := l) rfl (fun h => absurd h (Nat.lt_irrefl 0))
      exact ⟨oh, h1⟩
    · obtain ⟨ps, h4, h5⟩ := rows_bytes xs h3
      rw [h4] at h1
      obtain ⟨v, oh, h6, rfl⟩ := lawAll (o := o) (B := ps) (n := n) (l := l) (by rw [h5, h2]) (fun _ => ⟨u, h1⟩)
      exact ⟨oh, h6⟩

theorem lifted (os : Os) (started : os.Started) (H : Type) (enc : TypeId × Value → H) :
    ReturnsInHanded {} Try.checked os 6 .any (Rows.slotAllSpec.pre6 enc Try.prog Try.f6 Rows.slotAllRow.domain false) (Rows.slotAllSpec.post enc Try.prog Try.f6 false true false false) := by
  refine returnsInHanded_of_change (C := Try.checked) own started (by kernel_rfl) Try.func6
    (ChangeSpec.witness6 (enc := enc) (C := Try.checked) false ⟨#[], #[.slice none 0 0], []⟩ 8 (by kernel_rfl) (by kernel_rfl) (by kernel_rfl) (by kernel_rfl)) ?_
  intro W base args ds gs before hval hW hcnd _
  refine AM.law (tys := tys) (n := 12) (tb := 4) mixed ffok sndE9 rfl (by kernel_rfl) (by decide) (by kernel_rfl) (by kernel_rfl) ?_ den hval hW
  intro H ds h
  match ds, h with
  | [d0], _ => rfl

theorem over : Rows.slotAllRow.holds Try.pinned (OpenSpec.ofChange Rows.slotAllSpec) :=
  OpenClaim.holds_of_wide 6 Try.f6 rfl rfl rfl rfl rfl rfl rfl ⟨rfl, rfl, rfl, rfl, rfl⟩ rfl rfl rfl rfl rfl (by kernel_rfl) Try.func6 (by kernel_rfl)
    (of_decide_eq_true (by kernel_rfl)) (by unfold Func.isWrapper; first | (rw [if_pos (by decide +kernel)]; kernel_rfl) | (rw [if_neg (by decide +kernel)]; exact ⟨rfl, rfl⟩))
    (fun os started H enc _ => lifted os started H enc)

theorem proved : Rows.SlotAllSaid :=
  over
end Go.Proofs.Ytabnocdebldpmaa.slotAll

