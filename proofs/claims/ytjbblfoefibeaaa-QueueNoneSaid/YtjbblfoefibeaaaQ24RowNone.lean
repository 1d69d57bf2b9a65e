/- The law QueueNone holds for every input: it answers true, and it turns nothing of what was there. Conditions: those of the given statement alone. -/
import Derived.Test.YtjbblfoefibeaaaRows
import Derived.WalkKit
import Derived.ProofKit
import Derived.OpenShut
import Derived.Test.YtjbblfoefibeaaaQ24Part2
namespace Go.Proofs.Ytjbblfoefibeaaa.queueNone
open Go.ChangeShapes Go.WideShapes Go.ChangeAt Go.RowKit
open AM
set_option linter.unusedVariables false
set_option linter.unusedSimpArgs false
set_option maxRecDepth 100000

theorem own : ownKnob Try.prog.godebug = none := by kernel_rfl

def tys : List Ty := [.struct [.int .i64, .int .i64, .struct [.int .i64, .int .i64, .int .i64, .int .i64, .int .i64, .int .i64, .str, .str], .slice (.struct [.int .i64, .int .i64, .str])]]

theorem den (o : List AM.Obj) (args : List V) (hro : AllRo o) (ha : Ty.args o tys args) : ∃ oh, Den FF E1 10 args ⟨o, 0, 0⟩ = some (.val (.bool true), oh) := by
  simp only [tys, Ty.args] at ha
  obtain ⟨v0, r0, rfl, h0, rfl⟩ := ha
  obtain ⟨cs, rfl, c0, x0, rfl, ⟨K, rfl, _⟩, c1, x1, rfl, ⟨N, rfl, _⟩, c2, x2, rfl, ⟨d0, y0, rfl, ⟨a0, rfl, _⟩, d1, y1, rfl, ⟨a1, rfl, _⟩, d2, y2, rfl, ⟨a2, rfl, _⟩, d3, y3, rfl, ⟨a3, rfl, _⟩, d4, y4, rfl, ⟨a4, rfl, _⟩, d5, y5, rfl, ⟨a5, rfl, _⟩, d6, y6, rfl, ⟨nm, rfl, _⟩, d7, y7, rfl, ⟨tx, rfl, _⟩, rfl⟩, c3, x3, rfl, hL, rfl⟩ := arg_struct h0
  have hone : c3.length = 1 := size_has _ _ hL
  obtain ⟨Lv, rfl⟩ := List.length_eq_one_iff.1 hone
  obtain ⟨ns, h1, h2, h3⟩ := sliceOf_has (by decide) hL
  obtain ⟨r, oh, h4, rfl⟩ := lawNone K N a0 a1 a2 a3 a4 a5 nm tx h1 h2 (fun n hn => by
    obtain ⟨e0, z0, rfl, ⟨k, rfl, _⟩, e1, z1, rfl, ⟨i, rfl, _⟩, e2, z2, rfl, ⟨s, rfl, _⟩, rfl⟩ := h3 n hn
    exact ⟨k, i, s, rfl⟩)
  exact ⟨oh, h4⟩

theorem lifted (os : Os) (started : os.Started) (H : Type) (enc : TypeId × Value → H) :
    ReturnsInHanded {} Try.checked os 10 .any (Rows.queueNoneSpec.pre6 enc Try.prog Try.f10 Rows.queueNoneRow.domain false) (Rows.queueNoneSpec.post enc Try.prog Try.f10 false true false false) := by
  refine returnsInHanded_of_change (C := Try.checked) own started (by kernel_rfl) Try.func10
    (ChangeSpec.witness6 (enc := enc) (C := Try.checked) false ⟨#[], #[.agg #[.int .i64 0, .int .i64 0, .int .i64 0, .int .i64 0, .int .i64 0, .int .i64 0, .int .i64 0, .int .i64 0, .string ByteArray.empty, .string ByteArray.empty, .slice none 0 0]], []⟩ 8 (by kernel_rfl) (by kernel_rfl) (by kernel_rfl) (by kernel_rfl)) ?_
  intro W base args ds gs before hval hW hcnd _
  refine AM.law (tys := tys) (n := 12) (tb := 4) mixed ffok sndE1 rfl (by kernel_rfl) (by kernel_rfl) (by kernel_rfl) ?_ den hval hW
  intro H ds h
  match ds, h with
  | [d0], _ => rfl

theorem over : Rows.queueNoneRow.holds Try.pinned (OpenSpec.ofChange Rows.queueNoneSpec) :=
  OpenClaim.holds_of_wide 10 Try.f10 rfl rfl rfl rfl rfl rfl rfl ⟨rfl, rfl, rfl, rfl, rfl⟩ rfl rfl rfl rfl rfl (by kernel_rfl) Try.func10 (by kernel_rfl)
    (of_decide_eq_true (by kernel_rfl)) (by unfold Func.isWrapper; first | (rw [if_pos (by decide +kernel)]; kernel_rfl) | (rw [if_neg (by decide +kernel)]; exact ⟨rfl, rfl⟩))
    (fun os started H enc _ => lifted os started H enc)

theorem proved : Rows.QueueNoneSaid :=
  over
end Go.Proofs.Ytjbblfoefibeaaa.queueNone

