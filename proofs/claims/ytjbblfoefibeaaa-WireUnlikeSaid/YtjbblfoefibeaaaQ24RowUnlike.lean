/- The law WireUnlike holds for every input: it answers true, and it turns nothing of what was there. Conditions: those of the given statement alone. -/
import Derived.Test.YtjbblfoefibeaaaRows
import Derived.WalkKit
import Derived.ProofKit
import Derived.OpenShut
import Derived.Test.YtjbblfoefibeaaaQ24Part4
namespace Go.Proofs.Ytjbblfoefibeaaa.wireUnlike
open Go.ChangeShapes Go.WideShapes Go.ChangeAt Go.RowKit
open AM
set_option linter.unusedVariables false
set_option linter.unusedSimpArgs false
set_option maxRecDepth 100000

theorem own : ownKnob Try.prog.godebug = none := by kernel_rfl

def tys : List Ty := [.struct [.int .i64, .int .i64, .int .i64, .int .i64, .int .i64, .int .i64, .str, .str], .struct [.int .i64, .int .i64, .int .i64, .int .i64, .int .i64, .int .i64, .str, .str], .int .i64]

theorem den (o : List AM.Obj) (args : List V) (hro : AllRo o) (ha : Ty.args o tys args) : ∃ oh, Den FF E7 4 args ⟨o, 0, 0⟩ = some (.val (.bool true), oh) := by
  simp only [tys, Ty.args] at ha
  obtain ⟨v0, r0, rfl, h0, v1, r1, rfl, h1, v2, r2, rfl, h2, rfl⟩ := ha
  obtain ⟨csa, rfl, da0, ya0, rfl, ⟨a0, rfl, _⟩, da1, ya1, rfl, ⟨a1, rfl, _⟩, da2, ya2, rfl, ⟨a2, rfl, _⟩, da3, ya3, rfl, ⟨a3, rfl, _⟩, da4, ya4, rfl, ⟨a4, rfl, _⟩, da5, ya5, rfl, ⟨a5, rfl, _⟩, da6, ya6, rfl, ⟨a6, rfl, _⟩, da7, ya7, rfl, ⟨a7, rfl, _⟩, rfl⟩ := arg_struct h0
  obtain ⟨csb, rfl, db0, yb0, rfl, ⟨b0, rfl, _⟩, db1, yb1, rfl, ⟨b1, rfl, _⟩, db2, yb2, rfl, ⟨b2, rfl, _⟩, db3, yb3, rfl, ⟨b3, rfl, _⟩, db4, yb4, rfl, ⟨b4, rfl, _⟩, db5, yb5, rfl, ⟨b5, rfl, _⟩, db6, yb6, rfl, ⟨b6, rfl, _⟩, db7, yb7, rfl, ⟨b7, rfl, _⟩, rfl⟩ := arg_struct h1
  obtain ⟨cut, rfl, _⟩ := arg_int h2
  obtain ⟨r, oh, h4, rfl⟩ := lawUnlike (h := ⟨o, 0, 0⟩) a0 a1 a2 a3 a4 a5 b0 b1 b2 b3 b4 b5 a6 a7 b6 b7 cut
  exact ⟨oh, h4⟩

theorem lifted (os : Os) (started : os.Started) (H : Type) (enc : TypeId × Value → H) :
    ReturnsInHanded {} Try.checked os 4 .any (Rows.wireUnlikeSpec.pre6 enc Try.prog Try.f4 Rows.wireUnlikeRow.domain false) (Rows.wireUnlikeSpec.post enc Try.prog Try.f4 false true false false) := by
  refine returnsInHanded_of_change (C := Try.checked) own started (by kernel_rfl) Try.func4
    (ChangeSpec.witness6 (enc := enc) (C := Try.checked) false ⟨#[], #[.agg #[.int .i64 0, .int .i64 0, .int .i64 0, .int .i64 0, .int .i64 0, .int .i64 0, .string ByteArray.empty, .string ByteArray.empty], .agg #[.int .i64 0, .int .i64 0, .int .i64 0, .int .i64 0, .int .i64 0, .int .i64 0, .string ByteArray.empty, .string ByteArray.empty], .int .i64 0], []⟩ 8 (by kernel_rfl) (by kernel_rfl) (by kernel_rfl) (by kernel_rfl)) ?_
  intro W base args ds gs before hval hW hcnd _
  refine AM.law (tys := tys) (n := 12) (tb := 4) mixed ffok sndE7 rfl (by kernel_rfl) (by kernel_rfl) (by kernel_rfl) ?_ den hval hW
  intro H ds h
  match ds, h with
  | [d0, d1, d2], _ => rfl

theorem over : Rows.wireUnlikeRow.holds Try.pinned (OpenSpec.ofChange Rows.wireUnlikeSpec) :=
  OpenClaim.holds_of_wide 4 Try.f4 rfl rfl rfl rfl rfl rfl rfl ⟨rfl, rfl, rfl, rfl, rfl⟩ rfl rfl rfl rfl rfl (by kernel_rfl) Try.func4 (by kernel_rfl)
    (of_decide_eq_true (by kernel_rfl)) (by unfold Func.isWrapper; first | (rw [if_pos (by decide +kernel)]; kernel_rfl) | (rw [if_neg (by decide +kernel)]; exact ⟨rfl, rfl⟩))
    (fun os started H enc _ => lifted os started H enc)

theorem proved : Rows.WireUnlikeSaid :=
  over
end Go.Proofs.Ytjbblfoefibeaaa.wireUnlike

