/- AM, part 22: what holds behind code. -/
import Derived.Test.YtompkmidoklppaaAmBits
namespace AM
open Go
set_option linter.unusedVariables false
set_option linter.unusedSectionVars false

section
variable {F : Nat → Option AF} {ext : ExtF}

/-- The code comes to an end, and then Q. -/
def To (F : Nat → Option AF) (ext : ExtF) (c : AC) (S : Nat → V) (h : Heap) (Q : Ex → (Nat → V) → Heap → Prop) : Prop :=
  ∃ x S' h', Run F ext c S h = some (x, S', h') ∧ Q x S' h'

theorem To.mono {c : AC} {S : Nat → V} {h : Heap} {Q Q' : Ex → (Nat → V) → Heap → Prop} (hc : To F ext c S h Q) (hQ : ∀ x S' h', Q x S' h' → Q' x S' h') : To F ext c S h Q' := by
  obtain ⟨x, S', h', e, q⟩ := hc
  exact ⟨x, S', h', e, hQ _ _ _ q⟩

theorem To.of {c : AC} {S : Nat → V} {h : Heap} {Q : Ex → (Nat → V) → Heap → Prop} {x : Ex} {S' : Nat → V} {h' : Heap} (e : Run F ext c S h = some (x, S', h')) (q : Q x S' h') : To F ext c S h Q := ⟨x, S', h', e, q⟩

/-- On with Q, where the code has come to its end in order. -/
def andThen (Q1 : (Nat → V) → Heap → Prop) (Q : Ex → (Nat → V) → Heap → Prop) : Ex → (Nat → V) → Heap → Prop
  | .norm, S, h => Q1 S h
  | x, S, h => Q x S h

theorem To.seq (hx : ExtMono ext) {a b : AC} {S : Nat → V} {h : Heap} {Q : Ex → (Nat → V) → Heap → Prop} (ha : To F ext a S h (andThen (fun S' h' => To F ext b S' h' Q) Q)) : To F ext (.seq a b) S h Q := by
  obtain ⟨x, S', h', e, q⟩ := ha
  cases x with
  | norm =>
    obtain ⟨x2, S2, h2, e2, q2⟩ := q
    exact ⟨x2, S2, h2, Run_seq hx S h a b e e2, q2⟩
  | _ => exact ⟨_, _, _, Run_seq_out hx S h a b (by simp) e, q⟩

/-- The first part is known. -/
theorem To.sq (hx : ExtMono ext) {a b : AC} {S S1 : Nat → V} {h h1 : Heap} {Q : Ex → (Nat → V) → Heap → Prop} (ha : Run F ext a S h = some (.norm, S1, h1)) (hb : To F ext b S1 h1 Q) : To F ext (.seq a b) S h Q := by
  obtain ⟨x2, S2, h2, e2, q2⟩ := hb
  exact ⟨x2, S2, h2, Run_seq hx S h a b ha e2, q2⟩

theorem To.cond (hx : ExtMono ext) {o : Opd} {a b : AC} {S : Nat → V} {h : Heap} {Q : Ex → (Nat → V) → Heap → Prop} {t : Bool} (ho : o.ev S = .bool t) (hc : To F ext (if t = true then a else b) S h Q) : To F ext (.cond o a b) S h Q := by
  obtain ⟨x2, S2, h2, e2, q2⟩ := hc
  exact ⟨x2, S2, h2, by rw [Run_cond hx S h o a b ho]; exact e2, q2⟩

/-- Out of a block. -/
def outOf (id : Nat) (Q : Ex → (Nat → V) → Heap → Prop) : Ex → (Nat → V) → Heap → Prop
  | .exit i, S, h => if i = id then Q .norm S h else Q (.exit i) S h
  | x, S, h => Q x S h

theorem To.block (hx : ExtMono ext) {id : Nat} {c : AC} {S : Nat → V} {h : Heap} {Q : Ex → (Nat → V) → Heap → Prop} (hc : To F ext c S h (outOf id Q)) : To F ext (.block id c) S h Q := by
  obtain ⟨x, S', h', e, q⟩ := hc
  refine ⟨_, S', h', Run_block hx S h id c e, ?_⟩
  cases x with
  | exit i =>
    simp only [outOf] at q
    by_cases hi : i = id
    · simp only [hi, if_true] at q ⊢; exact q
    · simp only [hi, if_false] at q ⊢; exact q
  | _ => exact q

theorem To.scope (hx : ExtMono ext) {c : AC} {S : Nat → V} {h : Heap} {Q : Ex → (Nat → V) → Heap → Prop} (hc : To F ext c S h Q) : To F ext (.scope c) S h Q := by
  obtain ⟨x, S', h', e, q⟩ := hc
  exact ⟨x, S', h', Run_scope hx S h c e, q⟩

/-- A loop, by what each round leaves and a number that falls. -/
theorem To.loop (hx : ExtMono ext) {c : AC} {Q : Ex → (Nat → V) → Heap → Prop} (I : Nat → (Nat → V) → Heap → Prop)
    (hr : ∀ k S h, I k S h → To F ext c S h (andThen (fun S' h' => ∃ j, j < k ∧ I j S' h') Q)) : ∀ k S h, I k S h → To F ext (.loop c) S h Q := by
  intro k
  induction k using Nat.strongRecOn with
  | ind k ih =>
    intro S h hI
    obtain ⟨x, S', h', e, q⟩ := hr k S h hI
    cases x with
    | norm =>
      obtain ⟨j, hj, hI'⟩ := q
      obtain ⟨x2, S2, h2, e2, q2⟩ := ih j hj S' h' hI'
      exact ⟨x2, S2, h2, Run_loop hx S h c e e2, q2⟩
    | _ => exact ⟨_, _, _, Run_loop_out hx S h c (by simp) e, q⟩

/-- A call, by what holds behind the body. -/
theorem To.den (hx : ExtMono ext) {f : Nat} {a : AF} {args : List V} {h : Heap} (hF : F f = some a) (hE : ∀ c, ext c f = none) (hn : args.length ≤ a.n) {q : Out × Option Heap}
    (hc : To F ext a.body (initS args) (enter h) fun x S' h' => finish a h (some (x, S', h')) = some q) : Den F ext f args h = some q := by
  obtain ⟨x, S', h', e, qq⟩ := hc
  exact Den_call hx h hF hE hn e qq

theorem andThen_norm (Q1 : (Nat → V) → Heap → Prop) (Q : Ex → (Nat → V) → Heap → Prop) (S : Nat → V) (h : Heap) : andThen Q1 Q .norm S h = Q1 S h := rfl
theorem andThen_ret (Q1 : (Nat → V) → Heap → Prop) (Q : Ex → (Nat → V) → Heap → Prop) (S : Nat → V) (h : Heap) : andThen Q1 Q .ret S h = Q .ret S h := rfl
theorem andThen_exit (Q1 : (Nat → V) → Heap → Prop) (Q : Ex → (Nat → V) → Heap → Prop) (S : Nat → V) (h : Heap) (i : Nat) : andThen Q1 Q (.exit i) S h = Q (.exit i) S h := rfl
end
end AM
