/- The law QueueOrder holds for every input: it answers true, and it turns nothing of what was there. Conditions: those of the given statement alone. -/
import Derived.Test.YtjbblfoefibeaaaRows
import Derived.WalkKit
import Derived.ProofKit
import Derived.OpenShut
import Derived.Test.YtjbblfoefibeaaaQOPart3
namespace Go.Proofs.Ytjbblfoefibeaaa.queueOrder
open Go.ChangeShapes Go.WideShapes Go.ChangeAt Go.RowKit
open AM
set_option linter.unusedVariables false
set_option linter.unusedSimpArgs false
set_option maxRecDepth 100000

theorem own : ownKnob Try.prog.godebug = none := by kernel_rfl

def tys : List Ty := [.slice (.struct [.int .i64, .int .i64, .str]), .int .i64]

theorem den (o : List AM.Obj) (args : List V) (hro : AllRo o) (ha : Ty.args o tys args) : ∃ oh, Den FF E5 8 args ⟨o, 0, 0⟩ = some (.val (.bool true), oh) := by
  simp only [tys, Ty.args] at ha
  obtain ⟨v0, r0, rfl, h0, v1, r1, rfl, h1, rfl⟩ := ha
  obtain ⟨cut, rfl, _⟩ := arg_int h1
  have key : ∀ xs : List (List V), (∀ x ∈ xs, Ty.has o (.struct [.int .i64, .int .i64, .str]) x) → ∃ l : List Nt, xs = l.map Nt.cs := by
    intro xs
    induction xs with
    | nil => intro _; exact ⟨[], rfl⟩
    | cons a r ih =>
      intro h
      obtain ⟨l, hl⟩ := ih (fun x hx => h x (List.mem_cons_of_mem _ hx))
      obtain ⟨e0, z0, rfl, ⟨k, rfl, _⟩, e1, z1, rfl, ⟨i, rfl, _⟩, e2, z2, rfl, ⟨s, rfl, _⟩, rfl⟩ := h a List.mem_cons_self
      exact ⟨⟨k, i, s⟩ :: l, by rw [hl]; rfl⟩
  have main : ∃ l : List Nt, l.length ≤ maxLen ∧ ((Empty v0 ∧ (∀ l o k e, v0 ≠ .esl l o k e)) ∧ l.map Nt.cs = [] ∨ ∃ x t, v0 = .slice x 0 (l.map Nt.cs).length 3 ∧ o[x]? = some (AM.Obj.cells .ro t 0 (l.map Nt.cs).flatten)) := by
    rcases arg_slice h0 with rfl | ⟨a, rfl⟩ | ⟨l, n, rfl, hn, u, xs, q1, q2, q3⟩
    · exact ⟨[], Nat.zero_le _, .inl ⟨⟨.inl rfl, by simp⟩, rfl⟩⟩
    · exact ⟨[], Nat.zero_le _, .inl ⟨⟨.inr (.inl ⟨a, rfl⟩), by simp⟩, rfl⟩⟩
    · obtain ⟨k, rfl⟩ := key xs q3
      rw [List.length_map] at q2
      subst q2
      exact ⟨k, hn, .inr ⟨l, u, by rw [List.length_map]; rfl, q1⟩⟩
  obtain ⟨l, hm, hl⟩ := main
  obtain ⟨r, oh, h4, rfl⟩ := lawOrder (o := o) cut hl hm
  exact ⟨oh, h4⟩

theorem lifted (os : Os) (started : os.Started) (H : Type) (enc : TypeId × Value → H) :
    ReturnsInHanded {} Try.checked os 8 .any (Rows.queueOrderSpec.pre6 enc Try.prog Try.f8 Rows.queueOrderRow.domain false) (Rows.queueOrderSpec.post enc Try.prog Try.f8 false true false false) := by
  refine returnsInHanded_of_change (C := Try.checked) own started (by kernel_rfl) Try.func8
    (ChangeSpec.witness6 (enc := enc) (C := Try.checked) false ⟨#[], #[.slice none 0 0, .int .i64 0], []⟩ 8 (by kernel_rfl) (by kernel_rfl) (by kernel_rfl) (by kernel_rfl)) ?_
  intro W base args ds gs before hval hW hcnd _
  refine AM.law (tys := tys) (n := 12) (tb := 4) mixed ffok sndE5 rfl (by kernel_rfl) (by kernel_rfl) (by kernel_rfl) ?_ den hval hW
  intro H ds h
  match ds, h with
  | [d0, d1], _ => rfl

theorem over : Rows.queueOrderRow.holds Try.pinned (OpenSpec.ofChange Rows.queueOrderSpec) :=
  OpenClaim.holds_of_wide 8 Try.f8 rfl rfl rfl rfl rfl rfl rfl ⟨rfl, rfl, rfl, rfl, rfl⟩ rfl rfl rfl rfl rfl (by kernel_rfl) Try.func8 (by kernel_rfl)
    (of_decide_eq_true (by kernel_rfl)) (by unfold Func.isWrapper; first | (rw [if_pos (by decide +kernel)]; kernel_rfl) | (rw [if_neg (by decide +kernel)]; exact ⟨rfl, rfl⟩))
    (fun os started H enc _ => lifted os started H enc)

theorem proved : Rows.QueueOrderSaid :=
  over
end Go.Proofs.Ytjbblfoefibeaaa.queueOrder

