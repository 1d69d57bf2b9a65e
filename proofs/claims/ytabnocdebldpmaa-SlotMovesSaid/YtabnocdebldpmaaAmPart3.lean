/- Own texts, joined: AmBits, AmWp, AmExt, AmExt2, AmSim, AmPlain, AmBits2, AmSym, AmLaw, AmLaw2, AmLaw3, AmLaw4, AmLaw5, AmSet, AmGrow. -/
import Derived.ChangeSame
import Derived.RowKit3
import Derived.Deep.Slices
import Derived.OpenShut
import Derived.ProofKit
import Derived.DataShut
import Derived.Attr
import Derived.Test.YtabnocdebldpmaaAmPart2
/- AM, part 21: plain laws of numbers. -/
namespace AM
open Go
set_option linter.unusedVariables false

theorem wrap_u64 {n : Int} (h0 : 0 ≤ n) (h1 : n < 18446744073709551616) : IntKind.u64.wrap n = n := by
  simp only [IntKind.wrap, IntKind.bits, IntKind.signed]
  simp
  omega
theorem wrap_u8 {n : Int} (h0 : 0 ≤ n) (h1 : n < 256) : IntKind.u8.wrap n = n := by
  simp only [IntKind.wrap, IntKind.bits, IntKind.signed]
  simp
  omega
theorem wrap_u8_mod (n : Int) : IntKind.u8.wrap n = n % 256 := by
  simp only [IntKind.wrap, IntKind.bits, IntKind.signed]
  simp
theorem wrap_u64_mod (n : Int) : IntKind.u64.wrap n = n % 18446744073709551616 := by
  simp only [IntKind.wrap, IntKind.bits, IntKind.signed]
  simp
theorem wrap_i64_eq (n : Int) : IntKind.i64.wrap n = if 9223372036854775808 ≤ n % 18446744073709551616 then n % 18446744073709551616 - 18446744073709551616 else n % 18446744073709551616 := by
  simp only [IntKind.wrap, IntKind.bits, IntKind.signed]
  simp
theorem wrap_i64 {n : Int} (h0 : -9223372036854775808 ≤ n) (h1 : n < 9223372036854775808) : IntKind.i64.wrap n = n := by
  rw [wrap_i64_eq]; split <;> omega
/-- Back and forth between the two kinds of 64 bits. -/
theorem wrap_i64_u64 {n : Int} (h0 : -9223372036854775808 ≤ n) (h1 : n < 9223372036854775808) : IntKind.i64.wrap (IntKind.u64.wrap n) = n := by
  rw [wrap_u64_mod, wrap_i64_eq]; split <;> omega
theorem wrap_i64_inj {a b : Int} (ha : 0 ≤ a) (ha' : a < 18446744073709551616) (hb : 0 ≤ b) (hb' : b < 18446744073709551616) (h : IntKind.i64.wrap a = IntKind.i64.wrap b) : a = b := by
  rw [wrap_i64_eq, wrap_i64_eq] at h; split at h <;> split at h <;> omega

theorem or_add {a c : Nat} (hc : c < 256) (h : a * 256 + c < 18446744073709551616) : bits .or .u64 ((a * 256 : Nat) : Int) (c : Int) = ((a * 256 + c : Nat) : Int) := by
  have e : a * 256 ||| c = a * 256 + c := by
    have h1 : c < 2 ^ 8 := hc
    have := Nat.shiftLeft_add_eq_or_of_lt h1 a
    rw [Nat.shiftLeft_eq] at this
    exact this.symm
  unfold bits
  have ha : (BitVec.ofInt IntKind.u64.bits ((a * 256 : Nat) : Int)).toNat = a * 256 := by
    simp only [IntKind.bits, BitVec.ofInt_natCast, BitVec.toNat_ofNat]
    omega
  have hcc : (BitVec.ofInt IntKind.u64.bits (c : Int)).toNat = c := by
    simp only [IntKind.bits, BitVec.ofInt_natCast, BitVec.toNat_ofNat]
    omega
  simp only [BitVec.toNat_or, ha, hcc, e]
  exact wrap_u64 (by omega) (by omega)

/-- A number out of bytes, the great end first. -/
def be (l : List UInt8) : Nat := l.foldl (fun a b => a * 256 + b.toNat) 0

theorem be_snoc (l : List UInt8) (b : UInt8) : be (l ++ [b]) = be l * 256 + b.toNat := by simp [be]

theorem foldl_be (l : List UInt8) : ∀ a, l.foldl (fun a (b : UInt8) => a * 256 + b.toNat) a = a * 256 ^ l.length + be l := by
  induction l with
  | nil => intro a; simp [be]
  | cons b l ih =>
    intro a
    have e : be (b :: l) = b.toNat * 256 ^ l.length + be l := by
      have h := ih b.toNat
      unfold be
      rw [List.foldl_cons, Nat.zero_mul, Nat.zero_add]
      exact h
    rw [List.foldl_cons, ih, e, List.length_cons, Nat.pow_succ, Nat.add_mul, Nat.mul_assoc, Nat.mul_comm 256]
    omega

theorem be_cons (b : UInt8) (l : List UInt8) : be (b :: l) = b.toNat * 256 ^ l.length + be l := by
  have := foldl_be l b.toNat
  simp only [be, List.foldl_cons, Nat.zero_mul, Nat.zero_add]
  exact this

theorem be_lt (l : List UInt8) : be l < 256 ^ l.length := by
  induction l with
  | nil => simp [be]
  | cons b l ih =>
    rw [be_cons, List.length_cons, Nat.pow_succ]
    have : b.toNat < 256 := b.toNat_lt
    have h2 : (b.toNat + 1) * 256 ^ l.length ≤ 256 * 256 ^ l.length := Nat.mul_le_mul_right _ (by omega)
    rw [Nat.add_mul] at h2
    omega

theorem be_inj : ∀ {l k : List UInt8}, l.length = k.length → be l = be k → l = k
  | [], [], _, _ => rfl
  | [], _ :: _, h, _ => by simp at h
  | _ :: _, [], h, _ => by simp at h
  | b :: l, c :: k, h, he => by
    simp only [List.length_cons, Nat.add_right_cancel_iff] at h
    rw [be_cons, be_cons, h] at he
    have h1 := be_lt l
    have h2 := be_lt k
    rw [h] at h1
    have hp : 0 < 256 ^ k.length := Nat.pow_pos (by decide)
    have hb : b.toNat = c.toNat := by
      have e1 : (b.toNat * 256 ^ k.length + be l) / 256 ^ k.length = b.toNat := by
        rw [Nat.mul_comm, Nat.mul_add_div hp, Nat.div_eq_of_lt h1, Nat.add_zero]
      have e2 : (c.toNat * 256 ^ k.length + be k) / 256 ^ k.length = c.toNat := by
        rw [Nat.mul_comm, Nat.mul_add_div hp, Nat.div_eq_of_lt h2, Nat.add_zero]
      rw [← e1, ← e2, he]
    rw [hb] at he
    have : be l = be k := by omega
    rw [be_inj h this, UInt8.toNat_inj.1 hb]

/-- The n lowest bytes of a number, the great end first. -/
def tobe : Nat → Nat → List UInt8
  | 0, _ => []
  | n + 1, v => tobe n (v / 256) ++ [UInt8.ofNat v]

theorem tobe_length : ∀ (n v : Nat), (tobe n v).length = n
  | 0, _ => rfl
  | n + 1, v => by simp [tobe, tobe_length n]

theorem be_tobe : ∀ (n v : Nat), be (tobe n v) = v % 256 ^ n
  | 0, v => by simp [tobe, be, Nat.mod_one]
  | n + 1, v => by
    rw [tobe, be_snoc, be_tobe n, Nat.pow_succ]
    have : (UInt8.ofNat v).toNat = v % 256 := by simp
    rw [this, Nat.mul_comm (256 ^ n) 256, Nat.mod_mul]
    omega

theorem tobe_get : ∀ (n v i : Nat), i < n → (tobe n v)[i]? = some (UInt8.ofNat (v / 256 ^ (n - 1 - i)))
  | 0, v, i, h => by omega
  | n + 1, v, i, h => by
    rw [tobe]
    by_cases hi : i < n
    · rw [List.getElem?_append_left (by rw [tobe_length]; exact hi), tobe_get n _ i hi, Nat.div_div_eq_div_mul]
      have : 256 * 256 ^ (n - 1 - i) = 256 ^ (n + 1 - 1 - i) := by
        rw [Nat.mul_comm, ← Nat.pow_succ]; congr 1; omega
      rw [this]
    · have : i = n := by omega
      subst this
      rw [List.getElem?_append_right (by rw [tobe_length]; exact Nat.le_refl _), tobe_length, Nat.sub_self]
      simp

theorem tobe_be : ∀ (l : List UInt8), tobe l.length (be l) = l := by
  intro l
  refine be_inj (tobe_length _ _) ?_
  rw [be_tobe, Nat.mod_eq_of_lt (be_lt l)]

/-- One byte out of a word. -/
theorem shr_byte {v : Nat} {i : Nat} (hi : i < 8) (hv : v < 18446744073709551616) :
    shiftA .shr .u64 (v : Int) (8 * (7 - (i : Int))) = some (.int .u64 ((v / 256 ^ (7 - i) : Nat) : Int)) := by
  have e1 : (8 * (7 - (i : Int))).toNat = 8 * (7 - i) := by omega
  have e2 : min (8 * (7 - i)) IntKind.u64.bits = 8 * (7 - i) := by simp only [IntKind.bits]; omega
  have e3 : ((2 : Int) ^ (8 * (7 - i))) = ((256 ^ (7 - i) : Nat) : Int) := by
    have h2 : (2 : Nat) ^ (8 * (7 - i)) = 256 ^ (7 - i) := by rw [Nat.pow_mul]
    rw [← h2, Int.natCast_pow]
    rfl
  simp only [shiftA, e1, e2, e3]
  have ef : (v : Int).fdiv ((256 ^ (7 - i) : Nat) : Int) = ((v / 256 ^ (7 - i) : Nat) : Int) := by
    rw [Int.fdiv_eq_ediv_of_nonneg _ (Int.natCast_nonneg _), Int.natCast_ediv]
  rw [if_neg (show ¬ (8 * (7 - (i : Int)) < 0) by omega), ef]

theorem shl8 {x : Nat} (h : x * 256 < 18446744073709551616) : shiftA .shl .u64 (x : Int) 8 = some (.int .u64 ((x * 256 : Nat) : Int)) := by
  have e : min (Int.toNat 8) IntKind.u64.bits = 8 := by decide
  simp only [shiftA, e]
  rw [if_neg (by decide), wrap_u64 (by omega) (by omega)]
  have : ((x : Int) * 2 ^ 8) = ((x * 256 : Nat) : Int) := by omega
  rw [this]

theorem idxOf_nat {n i : Nat} {k : IntKind} (h : i < n) : idxOf n (.int k (i : Int)) = some i := by
  show (if 0 ≤ (i : Int) ∧ (i : Int) < n then some (i : Int).toNat else none) = some i
  rw [if_pos ⟨by omega, by omega⟩]
  rfl

def AC.fst : AC → AC
  | .seq a _ => a
  | c => c
def AC.snd : AC → AC
  | .seq _ b => b
  | c => c
def AC.inn : AC → AC
  | .block _ c => c
  | .loop c => c
  | .scope c => c
  | c => c

theorem wf_i64 {a : Int} (h : (Lit.int .i64 a).wf = true) : -9223372036854775808 ≤ a ∧ a < 9223372036854775808 := by
  simp only [Lit.wf, Bool.and_eq_true, decide_eq_true_eq] at h
  have h1 : IntKind.i64.min = -9223372036854775808 := by decide
  have h2 : IntKind.i64.max = 9223372036854775807 := by decide
  omega
end AM

/- AM, part 22: what holds behind code. -/
namespace AM
open Go
set_option linter.unusedVariables false
set_option linter.unusedSectionVars false

section
variable {F : Nat → Option AF} {ext : ExtF}

/-- The code comes to an end, and then Q. -/
def To (F : Nat → Option AF) (ext : ExtF) (c : AC) (S : Nat → V) (h : Heap) (Q : Ex → (Nat → V) → Heap → Prop) : Prop :=
  ∃ x S' h', Run F ext c S h = some (x, S', h') ∧ Q x S' h'

theorem To.mono {c : AC} {S : Nat → V} {h : Heap} {Q Q' : Ex → (Nat → V) → Heap → Prop} (hc : To F ext c S h Q) (hQ : ∀ x S' h', Q x S' h' → Q' x S' h') : To F ext c S h Q' := by
  obtain ⟨x, S', h', e, q⟩ := hc
  exact ⟨x, S', h', e, hQ _ _ _ q⟩

theorem To.of {c : AC} {S : Nat → V} {h : Heap} {Q : Ex → (Nat → V) → Heap → Prop} {x : Ex} {S' : Nat → V} {h' : Heap} (e : Run F ext c S h = some (x, S', h')) (q : Q x S' h') : To F ext c S h Q := ⟨x, S', h', e, q⟩

/-- On with Q, where the code has come to its end in order. -/
def andThen (Q1 : (Nat → V) → Heap → Prop) (Q : Ex → (Nat → V) → Heap → Prop) : Ex → (Nat → V) → Heap → Prop
  | .norm, S, h => Q1 S h
  | x, S, h => Q x S h

theorem To.seq (hx : ExtMono ext) {a b : AC} {S : Nat → V} {h : Heap} {Q : Ex → (Nat → V) → Heap → Prop} (ha : To F ext a S h (andThen (fun S' h' => To F ext b S' h' Q) Q)) : To F ext (.seq a b) S h Q := by
  obtain ⟨x, S', h', e, q⟩ := ha
  cases x with
  | norm =>
    obtain ⟨x2, S2, h2, e2, q2⟩ := q
    exact ⟨x2, S2, h2, Run_seq hx S h a b e e2, q2⟩
  | _ => exact ⟨_, _, _, Run_seq_out hx S h a b (by simp) e, q⟩

/-- The first part is known. -/
theorem To.sq (hx : ExtMono ext) {a b : AC} {S S1 : Nat → V} {h h1 : Heap} {Q : Ex → (Nat → V) → Heap → Prop} (ha : Run F ext a S h = some (.norm, S1, h1)) (hb : To F ext b S1 h1 Q) : To F ext (.seq a b) S h Q := by
  obtain ⟨x2, S2, h2, e2, q2⟩ := hb
  exact ⟨x2, S2, h2, Run_seq hx S h a b ha e2, q2⟩

theorem To.cond (hx : ExtMono ext) {o : Opd} {a b : AC} {S : Nat → V} {h : Heap} {Q : Ex → (Nat → V) → Heap → Prop} {t : Bool} (ho : o.ev S = .bool t) (hc : To F ext (if t = true then a else b) S h Q) : To F ext (.cond o a b) S h Q := by
  obtain ⟨x2, S2, h2, e2, q2⟩ := hc
  exact ⟨x2, S2, h2, by rw [Run_cond hx S h o a b ho]; exact e2, q2⟩

/-- Out of a block. -/
def outOf (id : Nat) (Q : Ex → (Nat → V) → Heap → Prop) : Ex → (Nat → V) → Heap → Prop
  | .exit i, S, h => if i = id then Q .norm S h else Q (.exit i) S h
  | x, S, h => Q x S h

theorem To.block (hx : ExtMono ext) {id : Nat} {c : AC} {S : Nat → V} {h : Heap} {Q : Ex → (Nat → V) → Heap → Prop} (hc : To F ext c S h (outOf id Q)) : To F ext (.block id c) S h Q := by
  obtain ⟨x, S', h', e, q⟩ := hc
  refine ⟨_, S', h', Run_block hx S h id c e, ?_⟩
  cases x with
  | exit i =>
    simp only [outOf] at q
    by_cases hi : i = id
    · simp only [hi, if_true] at q ⊢; exact q
    · simp only [hi, if_false] at q ⊢; exact q
  | _ => exact q

theorem To.scope (hx : ExtMono ext) {c : AC} {S : Nat → V} {h : Heap} {Q : Ex → (Nat → V) → Heap → Prop} (hc : To F ext c S h Q) : To F ext (.scope c) S h Q := by
  obtain ⟨x, S', h', e, q⟩ := hc
  exact ⟨x, S', h', Run_scope hx S h c e, q⟩

/-- A loop, by what each round leaves and a number that falls. -/
theorem To.loop (hx : ExtMono ext) {c : AC} {Q : Ex → (Nat → V) → Heap → Prop} (I : Nat → (Nat → V) → Heap → Prop)
    (hr : ∀ k S h, I k S h → To F ext c S h (andThen (fun S' h' => ∃ j, j < k ∧ I j S' h') Q)) : ∀ k S h, I k S h → To F ext (.loop c) S h Q := by
  intro k
  induction k using Nat.strongRecOn with
  | ind k ih =>
    intro S h hI
    obtain ⟨x, S', h', e, q⟩ := hr k S h hI
    cases x with
    | norm =>
      obtain ⟨j, hj, hI'⟩ := q
      obtain ⟨x2, S2, h2, e2, q2⟩ := ih j hj S' h' hI'
      exact ⟨x2, S2, h2, Run_loop hx S h c e e2, q2⟩
    | _ => exact ⟨_, _, _, Run_loop_out hx S h c (by simp) e, q⟩

/-- A call, by what holds behind the body. -/
theorem To.den (hx : ExtMono ext) {f : Nat} {a : AF} {args : List V} {h : Heap} (hF : F f = some a) (hE : ∀ c, ext c f = none) (hn : args.length ≤ a.n) {q : Out × Option Heap}
    (hc : To F ext a.body (initS args) (enter h) fun x S' h' => finish a h (some (x, S', h')) = some q) : Den F ext f args h = some q := by
  obtain ⟨x, S', h', e, qq⟩ := hc
  exact Den_call hx h hF hE hn e qq

theorem andThen_norm (Q1 : (Nat → V) → Heap → Prop) (Q : Ex → (Nat → V) → Heap → Prop) (S : Nat → V) (h : Heap) : andThen Q1 Q .norm S h = Q1 S h := rfl
theorem andThen_ret (Q1 : (Nat → V) → Heap → Prop) (Q : Ex → (Nat → V) → Heap → Prop) (S : Nat → V) (h : Heap) : andThen Q1 Q .ret S h = Q .ret S h := rfl
theorem andThen_exit (Q1 : (Nat → V) → Heap → Prop) (Q : Ex → (Nat → V) → Heap → Prop) (S : Nat → V) (h : Heap) (i : Nat) : andThen Q1 Q (.exit i) S h = Q (.exit i) S h := rfl
end
end AM

/- AM, part 23: functions of plain arguments and a plain result, answered by what was proved of them. -/
namespace AM
open Go
set_option linter.unusedVariables false
set_option linter.unusedSectionVars false

/-- Answers by tables: plain arguments, a plain value. -/
def plainExt (g : Nat → Option (List V → Option V)) : ExtF := fun _ f => (g f).map fun sp => fun args _ => if V.plains args = true then (sp args).map fun v => (.val v, none) else none

theorem plainExt_mono (g : Nat → Option (List V → Option V)) : ExtMono (plainExt g) := by
  intro c c' _ f
  refine ⟨fun h => h, fun k h => ⟨k, h, fun a hp r e => e⟩⟩

theorem plainExt_none {g : Nat → Option (List V → Option V)} {f : Nat} (h : g f = none) (c : CallF) : plainExt g c f = none := by simp [plainExt, h]

/-- The tables say no more than what the functions come to over an empty heap. -/
def PlainOk (F : Nat → Option AF) (E : ExtF) (g : Nat → Option (List V → Option V)) : Prop :=
  ∀ f sp args v, g f = some sp → sp args = some v → V.plains args = true → v.plain = true ∧ ∃ oh, Den F E f args H0 = some (.val v, oh)

theorem keep_nx {ι : Map} {h : Heap} {w w' : World} (hr : HR ι h.o w) (hk : Kept w w') (ht : w'.tape = w.tape) : Nx ι h w ι h w' := by
  refine ⟨⟨fun l o hl => ?_, hr.apart, hr.sc⟩, Agree.refl _ _, Nat.le_refl _, ⟨hk.1, ht, hk.2.1, hk.2.2.1, fun b hb _ => hk.2.2.2 b hb, fun b _ h => h⟩, fun _ _ _ _ h => h, ⟨Nat.le_refl _, Nat.le_refl _⟩, fun _ _ _ => rfl, fun _ _ h _ _ => h⟩
  have ho := hr.obj l o hl
  cases hlive : o.live with
  | false => cases o <;> simp_all [Obj.live, OR]
  | true => exact ho.of_block (hk.2.2.2 _ (ho.lt hlive))

theorem plainExt_sound {P : Program} (hm : P.follows .mixedOrders = true) {F : Nat → Option AF} (hF : FOk P F) {E : ExtF} (hE : ExtSound P E) {g : Nat → Option (List V → Option V)} (hg : PlainOk F E g) : ExtSound P (plainExt g) := by
  intro call _ f k args h out oh hk he
  unfold plainExt at hk
  cases hgf : g f with
  | none => rw [hgf] at hk; cases hk
  | some sp =>
    rw [hgf] at hk
    simp only [Option.map_some, Option.some.injEq] at hk
    subst hk
    simp only at he
    split at he
    · rename_i hp
      cases hsp : sp args with
      | none => rw [hsp] at he; cases he
      | some v =>
        rw [hsp] at he
        simp only [Option.map_some, Option.some.injEq, Prod.mk.injEq] at he
        obtain ⟨rfl, rfl⟩ := he
        obtain ⟨hv, oh, hd⟩ := hg f sp args v hgf hsp hp
        obtain ⟨n, hn⟩ := of_Den hd
        obtain ⟨hok, hcalls⟩ := callN_ok hm hF hE n _ _ _ _ _ hn
        refine ⟨hok, fun ι w hr hs => ?_⟩
        refine (hcalls ι w (hr0 ι w) (V.scs_of_plains _ _ hp)).mono fun e w' ⟨κ, hnx, ho⟩ => ?_
        refine ⟨ι, keep_nx hr (kept_of_nx hnx noOwn0) hnx.fr.tape, ?_, V.sc_of_plain _ v hv⟩
        rw [ho.1]
        have h0 : v.real κ = v.real ι := V.real_agree (n := 0) (fun l hl => absurd hl (Nat.not_lt_zero l)) v (V.sc_of_plain 0 v hv)
        rw [h0]
    · cases he

theorem den_plain {F : Nat → Option AF} {g : Nat → Option (List V → Option V)} {f : Nat} {sp : List V → Option V} {args : List V} {v : V} (h : Heap) (hg : g f = some sp) (hs : sp args = some v) (hp : V.plains args = true) :
    Den F (plainExt g) f args h = some (.val v, none) := by
  refine Den_of (plainExt_mono g) (k := 1) ?_
  simp only [callN, plainExt, hg, Option.map_some, if_pos hp, hs]
end AM

/- AM, part 24: functions that a contract of the model's own tells of. -/
namespace AM
open Go
set_option linter.unusedVariables false

/-- What contracts say of some functions: plain arguments, a plain value, and the world as it was. -/
def PlainCalls (P : Program) (g : Nat → Option (List V → Option V)) : Prop :=
  ∀ f sp args v, g f = some sp → sp args = some v → V.plains args = true → callOk P f = true ∧ v.plain = true ∧ ∀ w, Calls P f (V.reals noMap args).toArray w fun e w' => e = .returned (v.real noMap) ∧ w' = w

theorem plainExt_calls {P : Program} {g : Nat → Option (List V → Option V)} (hg : PlainCalls P g) : ExtSound P (plainExt g) := by
  intro call _ f k args h out oh hk he
  unfold plainExt at hk
  cases hgf : g f with
  | none => rw [hgf] at hk; cases hk
  | some sp =>
    rw [hgf] at hk
    simp only [Option.map_some, Option.some.injEq] at hk
    subst hk
    simp only at he
    split at he
    · rename_i hp
      cases hsp : sp args with
      | none => rw [hsp] at he; cases he
      | some v =>
        rw [hsp] at he
        simp only [Option.map_some, Option.some.injEq, Prod.mk.injEq] at he
        obtain ⟨rfl, rfl⟩ := he
        obtain ⟨hok, hv, hc⟩ := hg f sp args v hgf hsp hp
        refine ⟨hok, fun ι w hr hs => ?_⟩
        have hre : V.reals ι args = V.reals noMap args := V.reals_agree (n := 0) (fun l hl => absurd hl (Nat.not_lt_zero l)) args (V.scs_of_plains 0 args hp)
        rw [hre]
        refine (hc w).mono fun e w' ⟨he, hw⟩ => ?_
        subst hw
        refine ⟨ι, Nx.refl hr, ?_, V.sc_of_plain _ v hv⟩
        rw [he]
        rw [V.real_agree (n := 0) (ι := ι) (κ := noMap) (fun l hl => absurd hl (Nat.not_lt_zero l)) v (V.sc_of_plain 0 v hv)]
    · cases he
end AM

/- AM, part 25: single operations as equations, for regions whose order is open. -/
namespace AM
open Go
set_option linter.unusedVariables false
set_option linter.unusedSectionVars false

section
variable {σ : Type} [Slots σ] {call : CallF} {S : σ} {h : Heap}

theorem s_nck (x : Opd) : stepA call (.nck x) S h = match stepV (.nck x) S h with | some (v, oh) => some (.val v, oh) | none => none := rfl
theorem s_load (n : Option Nat) (x : Opd) : stepA call (.load n x) S h = match stepV (.load n x) S h with | some (v, oh) => some (.val v, oh) | none => none := rfl
theorem s_store (n : Nat) (x v : Opd) : stepA call (.store n x v) S h = match stepV (.store n x v) S h with | some (v, oh) => some (.val v, oh) | none => none := rfl
theorem s_alloc (t : Nat) (z : List V) : stepA call (.alloc t z) S h = match stepV (.alloc t z) S h with | some (v, oh) => some (.val v, oh) | none => none := rfl
theorem s_box (t : Nat) (x : Opd) : stepA call (.box t x) S h = match stepV (.box t x) S h with | some (v, oh) => some (.val v, oh) | none => none := rfl
theorem s_build (z : List V) (ps : List (Nat × Nat × Opd)) : stepA call (.build z ps) S h = match stepV (.build z ps) S h with | some (v, oh) => some (.val v, oh) | none => none := rfl
theorem s_bslice (t e : Nat) (z : List V) (ps : List (Nat × Nat × Opd)) : stepA call (.bslice t e z ps) S h = match stepV (.bslice t e z ps) S h with | some (v, oh) => some (.val v, oh) | none => none := rfl
theorem s_faddr (off : Nat) (x : Opd) : stepA call (.faddr off x) S h = match stepV (.faddr off x) S h with | some (v, oh) => some (.val v, oh) | none => none := rfl
theorem s_field (off : Nat) (n : Option Nat) (x : Opd) : stepA call (.field off n x) S h = match stepV (.field off n x) S h with | some (v, oh) => some (.val v, oh) | none => none := rfl
theorem s_iaddrA (len e : Nat) (x i : Opd) : stepA call (.iaddrA len e x i) S h = match stepV (.iaddrA len e x i) S h with | some (v, oh) => some (.val v, oh) | none => none := rfl
theorem s_iaddrS (e : Nat) (x i : Opd) : stepA call (.iaddrS e x i) S h = match stepV (.iaddrS e x i) S h with | some (v, oh) => some (.val v, oh) | none => none := rfl
theorem s_idxA (len e : Nat) (n : Option Nat) (x i : Opd) : stepA call (.idxA len e n x i) S h = match stepV (.idxA len e n x i) S h with | some (v, oh) => some (.val v, oh) | none => none := rfl
theorem s_idxS (x i : Opd) : stepA call (.idxS x i) S h = match stepV (.idxS x i) S h with | some (v, oh) => some (.val v, oh) | none => none := rfl
theorem s_slS (x : Opd) (lo hi : Option Opd) : stepA call (.slS x lo hi) S h = match stepV (.slS x lo hi) S h with | some (v, oh) => some (.val v, oh) | none => none := rfl
theorem s_slL (e : Nat) (x : Opd) (lo hi : Option Opd) : stepA call (.slL e x lo hi) S h = match stepV (.slL e x lo hi) S h with | some (v, oh) => some (.val v, oh) | none => none := rfl
theorem s_slA (len e : Nat) (x : Opd) (lo hi : Option Opd) : stepA call (.slA len e x lo hi) S h = match stepV (.slA len e x lo hi) S h with | some (v, oh) => some (.val v, oh) | none => none := rfl
theorem s_toInt (k : IntKind) (x : Opd) : stepA call (.toInt k x) S h = match stepV (.toInt k x) S h with | some (v, oh) => some (.val v, oh) | none => none := rfl
theorem s_toStr (x : Opd) : stepA call (.toStr x) S h = match stepV (.toStr x) S h with | some (v, oh) => some (.val v, oh) | none => none := rfl
theorem s_cpS (x : Opd) : stepA call (.cpS x) S h = match stepV (.cpS x) S h with | some (v, oh) => some (.val v, oh) | none => none := rfl
theorem s_toBytes (t : Nat) (x : Opd) : stepA call (.toBytes t x) S h = match stepV (.toBytes t x) S h with | some (v, oh) => some (.val v, oh) | none => none := rfl
theorem s_extract (x : Opd) (i : Nat) : stepA call (.extract x i) S h = match stepV (.extract x i) S h with | some (v, oh) => some (.val v, oh) | none => none := rfl
theorem s_mkf (f : Nat) (a b : List Opd) : stepA call (.mkf f a b) S h = match stepV (.mkf f a b) S h with | some (v, oh) => some (.val v, oh) | none => none := rfl
theorem s_mki (t : Nat) (x : Opd) : stepA call (.mki t x) S h = match stepV (.mki t x) S h with | some (v, oh) => some (.val v, oh) | none => none := rfl
theorem s_lenS (x : Opd) : stepA call (.lenS x) S h = match stepV (.lenS x) S h with | some (v, oh) => some (.val v, oh) | none => none := rfl
theorem s_lenL (x : Opd) : stepA call (.lenL x) S h = match stepV (.lenL x) S h with | some (v, oh) => some (.val v, oh) | none => none := rfl
theorem s_lenA (n : Nat) : stepA call (.lenA n) S h = match stepV (.lenA n) S h with | some (v, oh) => some (.val v, oh) | none => none := rfl
theorem s_copyS (x y : Opd) : stepA call (.copyS x y) S h = match stepV (.copyS x y) S h with | some (v, oh) => some (.val v, oh) | none => none := rfl
theorem s_copyL (e : Nat) (x y : Opd) : stepA call (.copyL e x y) S h = match stepV (.copyL e x y) S h with | some (v, oh) => some (.val v, oh) | none => none := rfl
theorem s_clearL (e : Nat) (z : List V) (x : Opd) : stepA call (.clearL e z x) S h = match stepV (.clearL e z x) S h with | some (v, oh) => some (.val v, oh) | none => none := rfl
theorem s_minmax (mx : Bool) (xs : List Opd) : stepA call (.minmax mx xs) S h = match stepV (.minmax mx xs) S h with | some (v, oh) => some (.val v, oh) | none => none := rfl
theorem s_app (t e bytes : Nat) (z : List V) (x y : Opd) : stepA call (.app t e bytes z x y) S h = match stepV (.app t e bytes z x y) S h with | some (v, oh) => some (.val v, oh) | none => none := rfl
theorem s_appS (t bytes : Nat) (z : List V) (x y : Opd) : stepA call (.appS t bytes z x y) S h = match stepV (.appS t bytes z x y) S h with | some (v, oh) => some (.val v, oh) | none => none := rfl
theorem s_mkSlice (t e bytes : Nat) (z : List V) (l c : Opd) : stepA call (.mkSlice t e bytes z l c) S h = match stepV (.mkSlice t e bytes z l c) S h with | some (v, oh) => some (.val v, oh) | none => none := rfl
theorem s_mkMap  : stepA call (.mkMap ) S h = match stepV (.mkMap ) S h with | some (v, oh) => some (.val v, oh) | none => none := rfl
theorem s_lookup (kd : Kd) (z : V) (ok : Bool) (m k : Opd) : stepA call (.lookup kd z ok m k) S h = match stepV (.lookup kd z ok m k) S h with | some (v, oh) => some (.val v, oh) | none => none := rfl
theorem s_mapSet (kd : Kd) (m k x : Opd) : stepA call (.mapSet kd m k x) S h = match stepV (.mapSet kd m k x) S h with | some (v, oh) => some (.val v, oh) | none => none := rfl
theorem s_mapDel (kd : Kd) (m k : Opd) : stepA call (.mapDel kd m k) S h = match stepV (.mapDel kd m k) S h with | some (v, oh) => some (.val v, oh) | none => none := rfl
theorem s_lenM (m : Opd) : stepA call (.lenM m) S h = match stepV (.lenM m) S h with | some (v, oh) => some (.val v, oh) | none => none := rfl
theorem s_clearM (m : Opd) : stepA call (.clearM m) S h = match stepV (.clearM m) S h with | some (v, oh) => some (.val v, oh) | none => none := rfl
theorem s_mv (x : Opd) : stepA call (.mv x) S h = match stepV (.mv x) S h with | some (v, oh) => some (.val v, oh) | none => none := rfl
theorem s_bin (o : BinOp) (x y : Opd) : stepA call (.bin o x y) S h = match stepV (.bin o x y) S h with | some (v, oh) => some (.val v, oh) | none => none := rfl
theorem s_eqf (neg agg : Bool) (ks : List (Nat × Kd)) (x y : Opd) : stepA call (.eqf neg agg ks x y) S h = match stepV (.eqf neg agg ks x y) S h with | some (v, oh) => some (.val v, oh) | none => none := rfl
theorem s_un (o : UnOp) (x : Opd) : stepA call (.un o x) S h = match stepV (.un o x) S h with | some (v, oh) => some (.val v, oh) | none => none := rfl
theorem s_pick (c a b : Opd) : stepA call (.pick c a b) S h = match stepV (.pick c a b) S h with | some (v, oh) => some (.val v, oh) | none => none := rfl
theorem s_call (f : Nat) (args : List Opd) : stepA call (.call f args) S h = call f (evs S args) h := rfl
theorem s_callv (x : Opd) (args : List Opd) : stepA call (.callv x args) S h = match x.ev S with | .fn f first caps => call f (first ++ evs S args ++ caps) h | _ => none := rfl
theorem w_none : wantedA S none = true := rfl
theorem w_some (j : Nat) (w : Bool) : wantedA S (some (j, w)) = match Slots.get S j with | .bool b => b == w | _ => false := rfl
theorem bft : (false == true) = false := rfl
theorem btf : (true == false) = false := rfl
end
end AM

/- AM, part 26: layers of functions that are answered by what was proved of them; bytes in cells. -/
namespace AM
open Go
set_option linter.unusedVariables false
set_option linter.unusedSectionVars false

abbrev Ans := List V → Option V

/-- What is said of a function holds, of plain arguments, over an empty heap. -/
def SpOk (F : Nat → Option AF) (E : ExtF) (f : Nat) (sp : Ans) : Prop := ∀ args v, sp args = some v → V.plains args = true → v.plain = true ∧ ∃ oh, Den F E f args H0 = some (.val v, oh)

def addG (g : Nat → Option Ans) (l : List (Nat × Ans)) : Nat → Option Ans := fun k => match l.find? (fun p => p.1 == k) with
  | some p => some p.2
  | none => g k

theorem addG_sound {P : Program} (hm : P.follows .mixedOrders = true) {F : Nat → Option AF} (hF : FOk P F) {g : Nat → Option Ans} (hE : ExtSound P (plainExt g)) {l : List (Nat × Ans)} (hl : ∀ p ∈ l, SpOk F (plainExt g) p.1 p.2) : ExtSound P (plainExt (addG g l)) := by
  intro call hcall f k args h out oh hk he
  cases hf : l.find? (fun p => p.1 == f) with
  | none =>
    have hg : addG g l f = g f := by simp only [addG, hf]
    have hk' : plainExt g call f = some k := by
      rw [← hk]; simp only [plainExt, hg]
    exact hE call hcall f k args h out oh hk' he
  | some p =>
    have hp := List.mem_of_find?_eq_some hf
    have hpf : p.1 = f := by simpa using List.find?_some hf
    have hsp := hl p hp
    let g1 : Nat → Option Ans := fun j => if j = p.1 then some p.2 else none
    have h1 : PlainOk F (plainExt g) g1 := by
      intro f' sp args v hg' hs hpl
      simp only [g1] at hg'
      split at hg'
      · rename_i e
        cases hg'
        rw [e]
        exact hsp args v hs hpl
      · cases hg'
    have h2 := plainExt_sound hm hF hE h1
    refine h2 call hcall f k args h out oh ?_ he
    rw [← hk]
    simp only [plainExt, g1, addG, hf, hpf, if_true]

/-! ### Bytes -/

theorem bytesA_one (l : List UInt8) : (bytesA l).all V.one = true := by simp [bytesA, V.one]
theorem onlys_bytes (ok : Nat → Bool) (l : List UInt8) : V.onlys ok (bytesA l) = true := V.onlys_of_scs (n := 0) (fun l hl => absurd hl (Nat.not_lt_zero l)) _ (V.scs_of_plains 0 _ (bytesA_plains l))
theorem bytesA_length (l : List UInt8) : (bytesA l).length = l.length := by simp [bytesA]
theorem bytesA_take (l : List UInt8) (n : Nat) : (bytesA l).take n = bytesA (l.take n) := by simp [bytesA]
theorem bytesA_drop (l : List UInt8) (n : Nat) : (bytesA l).drop n = bytesA (l.drop n) := by simp [bytesA]
theorem bytesA_get (l : List UInt8) (n : Nat) : (bytesA l)[n]? = (l[n]?).map fun b => .int .u8 (b.toNat : Int) := by simp [bytesA]
theorem bytesA_append (l k : List UInt8) : bytesA (l ++ k) = bytesA l ++ bytesA k := by simp [bytesA]
theorem bytesA_set (l : List UInt8) (n : Nat) (b : UInt8) : (bytesA l).set n (.int .u8 (b.toNat : Int)) = bytesA (l.set n b) := by simp [bytesA, List.map_set]
theorem bytesA_reps (n : Nat) : bytesA (List.replicate n 0) = List.replicate n (.int .u8 0) := by simp [bytesA]
theorem bytesA_inj {l k : List UInt8} (h : bytesA l = bytesA k) : l = k := by
  unfold bytesA at h
  refine List.map_inj_right ?_ |>.1 h
  intro a b hab
  simp only [V.int.injEq, true_and, Int.ofNat_inj] at hab
  exact UInt8.toNat_inj.1 hab

/-- Bytes laid over bytes. -/
def lay (p : List UInt8) (i : Nat) (s : List UInt8) : List UInt8 := p.take i ++ s ++ p.drop (i + s.length)

/-- So many bytes 0. -/
def zs (n : Nat) : List UInt8 := List.replicate n 0
theorem zs_length (n : Nat) : (zs n).length = n := by simp [zs]
theorem zs_get {n i : Nat} (h : i < n) : (zs n)[i]? = some 0 := by simp [zs, h]
theorem lay_all {p q : List UInt8} (h : p.length = q.length) : lay p 0 q = q := by simp [lay, h]
def z64 : List V := bytesA (zs 64)
theorem z64_eq : z64 = bytesA (zs 64) := rfl
def z16 : List V := bytesA (zs 16)
theorem z16_eq : z16 = bytesA (zs 16) := rfl

theorem lay_length {p s : List UInt8} {i : Nat} (h : i + s.length ≤ p.length) : (lay p i s).length = p.length := by simp [lay]; omega
theorem splice_bytes (p : List UInt8) (i : Nat) (s : List UInt8) : splice (bytesA p) i (bytesA s) = bytesA (lay p i s) := by
  simp [splice, lay, bytesA]

theorem strOf_bytes : ∀ s : List UInt8, strOf (bytesA s) = some s
  | [] => rfl
  | b :: r => by
    have := strOf_bytes r
    unfold bytesA at this ⊢
    simp only [List.map_cons, strOf, this]
    simp

def rdB : List V → Option (List UInt8)
  | [] => some []
  | .int .u8 n :: r => match rdB r with
    | some s => if 0 ≤ n ∧ n < 256 then some (UInt8.ofNat n.toNat :: s) else none
    | none => none
  | _ => none

theorem rdB_bytes : ∀ s : List UInt8, rdB (bytesA s) = some s
  | [] => rfl
  | b :: r => by
    have := rdB_bytes r
    have hb := b.toNat_lt
    unfold bytesA at this ⊢
    simp only [List.map_cons, rdB, this]
    rw [if_pos (by omega)]
    simp

theorem of_rdB : ∀ {cs : List V} {s : List UInt8}, rdB cs = some s → cs = bytesA s
  | [], s, h => by simp only [rdB, Option.some.injEq] at h; subst h; rfl
  | v :: r, s, h => by
    unfold rdB at h
    split at h
    · rename_i heq; cases heq
    · rename_i n r' heq
      cases heq
      split at h
      · rename_i s' hs'
        split at h
        · rename_i hn
          simp only [Option.some.injEq] at h; subst h
          rw [of_rdB hs']
          have : ((UInt8.ofNat n.toNat).toNat : Int) = n := by
            have hq : (UInt8.ofNat n.toNat).toNat = n.toNat := by simp; omega
            rw [hq]; omega
          simp only [bytesA, List.map_cons, this]
        · cases h
      · cases h
    · cases h

/-- An array of bytes as an argument. -/
def pageOf (n : Nat) : V → Option (List UInt8)
  | .agg cs => match rdB cs with
    | some p => if p.length = n then some p else none
    | none => none
  | _ => none
theorem pageOf_bytes {p : List UInt8} {n : Nat} (h : p.length = n) : pageOf n (.agg (bytesA p)) = some p := by simp [pageOf, rdB_bytes, h]
theorem of_pageOf {v : V} {p : List UInt8} {n : Nat} (h : pageOf n v = some p) : v = .agg (bytesA p) ∧ p.length = n := by
  unfold pageOf at h
  split at h
  · split at h
    · rename_i cs q hq
      split at h
      · rename_i hl
        simp only [Option.some.injEq] at h; subst h
        exact ⟨by rw [of_rdB hq], hl⟩
      · cases h
    · cases h
  · cases h

section
variable {o : List Obj} {e d : Nat}
theorem gets_all {l t fz n : Nat} {k : CK} {cs : List V} (ho : o[l]? = some (.cells k t fz cs)) (hn : cs.length = n) : (⟨o, e, d⟩ : Heap).gets l 0 n = some cs := by
  simp only [Heap.gets, ho]
  split
  · rename_i h0
    rw [h0] at hn
    rw [List.length_eq_zero_iff.1 hn]
  rw [if_pos (by omega)]
  simp [← hn]
theorem gets_bytes {l t fz i n : Nat} {k : CK} {p : List UInt8} (ho : o[l]? = some (.cells k t fz (bytesA p))) (hn : i + n ≤ p.length) : (⟨o, e, d⟩ : Heap).gets l i n = some (bytesA ((p.drop i).take n)) := by
  simp only [Heap.gets, ho, bytesA_length]
  split
  · rename_i h0
    subst h0
    simp [bytesA]
  · try rw [if_pos hn]
    rw [bytesA_drop, bytesA_take]
theorem get_bytes {l t fz i : Nat} {k : CK} {p : List UInt8} {b : UInt8} (ho : o[l]? = some (.cells k t fz (bytesA p))) (hb : p[i]? = some b) : (⟨o, e, d⟩ : Heap).get l i = some (.int .u8 (b.toNat : Int)) := by
  simp only [Heap.get, ho, bytesA_get, hb, Option.map_some]
theorem sets_bytes {l t i : Nat} {k : CK} {p s : List UInt8} (ho : o[l]? = some (.cells k t 0 (bytesA p))) (hk : k ≠ .ro) (hn : i + s.length ≤ p.length) : (⟨o, e, d⟩ : Heap).sets l i (bytesA s) = some ⟨o.set l (.cells k t 0 (bytesA (lay p i s))), e, min d l⟩ := by
  simp only [Heap.sets, ho, bytesA_length]
  rw [if_pos ⟨hk, Nat.zero_le _, hn, bytesA_one s⟩, if_pos (bytesA_plains s), splice_bytes]
theorem set_byte {l t i : Nat} {k : CK} {p : List UInt8} (ho : o[l]? = some (.cells k t 0 (bytesA p))) (hk : k ≠ .ro) (hn : i < p.length) (b : UInt8) : (⟨o, e, d⟩ : Heap).set l i (.int .u8 (b.toNat : Int)) = some ⟨o.set l (.cells k t 0 (bytesA (p.set i b))), e, min d l⟩ := by
  simp only [Heap.set, ho, bytesA_length]
  rw [if_pos ⟨hk, Nat.zero_le _, hn, rfl⟩]
  simp only [V.plain, if_true, bytesA_set]
end
end AM

/- AM, part 27: words and bytes, once more. -/
namespace AM
open Go
set_option linter.unusedVariables false
set_option linter.unusedSimpArgs false

theorem or_add_i {a c : Nat} (hc : c < 256) (h : a * 256 + c < 9223372036854775808) : bits .or .i64 ((a * 256 : Nat) : Int) (c : Int) = ((a * 256 + c : Nat) : Int) := by
  have e : a * 256 ||| c = a * 256 + c := by
    have h1 : c < 2 ^ 8 := hc
    have := Nat.shiftLeft_add_eq_or_of_lt h1 a
    rw [Nat.shiftLeft_eq] at this
    exact this.symm
  unfold bits
  have ha : (BitVec.ofInt IntKind.i64.bits ((a * 256 : Nat) : Int)).toNat = a * 256 := by
    simp only [IntKind.bits, BitVec.ofInt_natCast, BitVec.toNat_ofNat]
    omega
  have hcc : (BitVec.ofInt IntKind.i64.bits (c : Int)).toNat = c := by
    simp only [IntKind.bits, BitVec.ofInt_natCast, BitVec.toNat_ofNat]
    omega
  simp only [BitVec.toNat_or, ha, hcc, e]
  exact wrap_i64 (by omega) (by omega)

theorem shl8_i {x : Nat} (h : x * 256 < 9223372036854775808) : shiftA .shl .i64 (x : Int) 8 = some (.int .i64 ((x * 256 : Nat) : Int)) := by
  have e : min (Int.toNat 8) IntKind.i64.bits = 8 := by decide
  simp only [shiftA, e]
  rw [if_neg (by decide), wrap_i64 (by omega) (by omega)]
  have : ((x : Int) * 2 ^ 8) = ((x * 256 : Nat) : Int) := by omega
  rw [this]

theorem shr_i {n : Int} {i : Nat} (hi : i < 8) : shiftA .shr .i64 n (8 * (i : Int)) = some (.int .i64 (n.fdiv (2 ^ (8 * i)))) := by
  have e1 : (8 * (i : Int)).toNat = 8 * i := by omega
  have e2 : min (8 * i) IntKind.i64.bits = 8 * i := by simp only [IntKind.bits]; omega
  simp only [shiftA, e1, e2]
  rw [if_neg (by omega)]

/-- The byte of a number that stands so many bytes from its end. -/
def byteAt (n : Int) (j : Nat) : UInt8 := UInt8.ofNat ((n.fdiv (2 ^ (8 * j))) % 256).toNat
theorem wrap_byte (x : Int) : IntKind.u8.wrap x = ((UInt8.ofNat (x % 256).toNat).toNat : Int) := by
  rw [wrap_u8_mod]
  have h0 : 0 ≤ x % 256 := by omega
  have h1 : x % 256 < 256 := by omega
  simp
  omega
def tobeI (s : Nat) (n : Int) : List UInt8 := (List.range s).map fun j => byteAt n (s - 1 - j)
theorem tobeI_length (s : Nat) (n : Int) : (tobeI s n).length = s := by simp [tobeI]
theorem tobeI_get {s : Nat} {n : Int} {j : Nat} (h : j < s) : (tobeI s n)[j]? = some (byteAt n (s - 1 - j)) := by
  simp [tobeI, h]
theorem byteAt_nat (v j : Nat) : byteAt (v : Int) j = UInt8.ofNat (v / 256 ^ j) := by
  unfold byteAt
  have h2 : ((2 : Int) ^ (8 * j)) = ((256 ^ j : Nat) : Int) := by
    have h2 : (2 : Nat) ^ (8 * j) = 256 ^ j := by rw [Nat.pow_mul]
    rw [← h2, Int.natCast_pow]; rfl
  have ef : (v : Int).fdiv ((256 ^ j : Nat) : Int) = ((v / 256 ^ j : Nat) : Int) := by
    rw [Int.fdiv_eq_ediv_of_nonneg _ (Int.natCast_nonneg _), Int.natCast_ediv]
  rw [h2, ef]
  apply UInt8.toNat_inj.1
  have : ((((v / 256 ^ j : Nat) : Int)) % 256).toNat = (v / 256 ^ j) % 256 := by omega
  rw [this]
  simp
theorem tobeI_nat (s v : Nat) : tobeI s (v : Int) = tobe s v := by
  apply List.ext_getElem?
  intro i
  by_cases h : i < s
  · rw [tobeI_get h, tobe_get s v i h, byteAt_nat]
  · rw [List.getElem?_eq_none (by rw [tobeI_length]; omega), List.getElem?_eq_none (by rw [tobe_length]; omega)]

theorem lay_get {p s : List UInt8} {i k : Nat} (h : i + s.length ≤ p.length) : (lay p i s)[k]? = if i ≤ k ∧ k < i + s.length then s[k - i]? else p[k]? := by
  unfold lay
  rw [List.append_assoc]
  by_cases h1 : k < i
  · rw [List.getElem?_append_left (by simp; omega), if_neg (by omega), List.getElem?_take, if_pos h1]
  · rw [List.getElem?_append_right (by simp; omega)]
    have e1 : k - (p.take i).length = k - i := by simp; omega
    rw [e1]
    by_cases h2 : k < i + s.length
    · rw [List.getElem?_append_left (by omega), if_pos (by omega)]
    · rw [List.getElem?_append_right (by omega), if_neg (by omega), List.getElem?_drop]
      congr 1
      omega
theorem reps_zero : ∀ n : Nat, reps [.int .u8 0] n = bytesA (zs n)
  | 0 => rfl
  | n + 1 => by
    rw [reps, reps_zero n]
    simp [zs, bytesA, List.replicate_succ]

/-- Two byte arrays alike. -/
theorem eqKs_bytes : ∀ {n : Nat} {p q : List UInt8}, p.length = n → q.length = n → eqKs (List.replicate n .i) (bytesA p) (bytesA q) = some (p == q)
  | 0, [], [], _, _ => rfl
  | n + 1, b :: p, c :: q, hp, hq => by
    have ih := eqKs_bytes (n := n) (p := p) (q := q) (by simpa using hp) (by simpa using hq)
    simp only [bytesA, List.map_cons, List.replicate_succ, eqKs, eqK] at ih ⊢
    have hbc : ((b.toNat : Int) == (c.toNat : Int)) = (b == c) := by
      rw [Bool.eq_iff_iff]
      simp only [beq_iff_eq]
      constructor
      · intro h; exact UInt8.toNat_inj.1 (by omega)
      · rintro rfl; rfl
    simp only [decide_true, Bool.true_and, hbc] at *
    rw [ih]
    cases h : (b == c) <;> simp_all
theorem eqKs_page {n : Nat} {p q : List UInt8} (hp : p.length = n) (hq : q.length = n) : eqKs (kdsOf [(n, .i)]) (bytesA p) (bytesA q) = some (p == q) := by
  simp only [kdsOf, List.append_nil]
  exact eqKs_bytes hp hq
theorem eqKs_entry (k : IntKind) (a b : Int) (s t : List UInt8) : eqKs (kdsOf [(1, .i), (1, .s)]) [.int k a, .str s] [.int k b, .str t] = some (a == b && s == t) := by
  simp [kdsOf, eqKs, eqK]
end AM

/- AM, part 28: code step by step. -/
namespace AM
open Go
set_option linter.unusedVariables false
set_option linter.unusedSectionVars false

section
variable {F : Nat → Option AF} {ext : ExtF} (hx : ExtMono ext)
include hx

/-- One operation of a region in order. -/
theorem To.op {o : AO} {r : List AO} {S S' : Nat → V} {h : Heap} {oh : Option Heap} {Q : Ex → (Nat → V) → Heap → Prop} (he : execO (Den F ext) o S h = some (none, S', oh)) (hk : To F ext (.region r false) S' (oh.getD h) Q) : To F ext (.region (o :: r) false) S h Q := by
  obtain ⟨x, S2, h2, e, q⟩ := hk
  refine ⟨x, S2, h2, ?_, q⟩
  rw [eq_region hx] at e ⊢
  rw [ops_cons, he]
  cases oh <;> exact e

theorem To.op0 {o : AO} {r : List AO} {S S' : Nat → V} {h : Heap} {Q : Ex → (Nat → V) → Heap → Prop} (he : execO (Den F ext) o S h = some (none, S', none)) (hk : To F ext (.region r false) S' h Q) : To F ext (.region (o :: r) false) S h Q := To.op hx he hk
theorem To.op1 {o : AO} {r : List AO} {S S' : Nat → V} {h h' : Heap} {Q : Ex → (Nat → V) → Heap → Prop} (he : execO (Den F ext) o S h = some (none, S', some h')) (hk : To F ext (.region r false) S' h' Q) : To F ext (.region (o :: r) false) S h Q := To.op hx he hk

/-- It panics. -/
theorem To.opP {o : AO} {r : List AO} {S S' : Nat → V} {h : Heap} {v : V} {oh : Option Heap} {Q : Ex → (Nat → V) → Heap → Prop} (he : execO (Den F ext) o S h = some (some v, S', oh)) (hk : Q (.pan v) S' (oh.getD h)) : To F ext (.region (o :: r) false) S h Q := by
  refine ⟨_, _, _, ?_, hk⟩
  rw [eq_region hx, ops_cons, he]
  cases oh <;> rfl

theorem To.nop {S : Nat → V} {h : Heap} {Q : Ex → (Nat → V) → Heap → Prop} (hk : Q .norm S h) : To F ext (.region [] false) S h Q := ⟨_, _, _, eq_region hx S h [], hk⟩
theorem To.skip {S : Nat → V} {h : Heap} {Q : Ex → (Nat → V) → Heap → Prop} (hk : Q .norm S h) : To F ext .skip S h Q := ⟨_, _, _, Run_skip hx S h, hk⟩
theorem To.label {l : Nat} {S : Nat → V} {h : Heap} {Q : Ex → (Nat → V) → Heap → Prop} (hk : Q .norm S h) : To F ext (.label l) S h Q := ⟨_, _, _, Run_label hx S h l, hk⟩
theorem To.ret {S : Nat → V} {h : Heap} {Q : Ex → (Nat → V) → Heap → Prop} (hk : Q .ret S h) : To F ext .ret S h Q := ⟨_, _, _, Run_ret hx S h, hk⟩
theorem To.exit {id : Nat} {S : Nat → V} {h : Heap} {Q : Ex → (Nat → V) → Heap → Prop} (hk : Q (.exit id) S h) : To F ext (.exit id) S h Q := ⟨_, _, _, Run_exit hx S h id, hk⟩
theorem To.condT {o : Opd} {a b : AC} {S : Nat → V} {h : Heap} {Q : Ex → (Nat → V) → Heap → Prop} (ho : o.ev S = .bool true) (hc : To F ext a S h Q) : To F ext (.cond o a b) S h Q := To.cond hx ho hc
theorem To.condF {o : Opd} {a b : AC} {S : Nat → V} {h : Heap} {Q : Ex → (Nat → V) → Heap → Prop} (ho : o.ev S = .bool false) (hc : To F ext b S h Q) : To F ext (.cond o a b) S h Q := To.cond hx ho hc

/-- What is left of a region whose order is open. -/
def ToD (F : Nat → Option AF) (ext : ExtF) (N m : Nat) (l : List DO) (S : Nat → V) (h : Heap) (Q : (Nat → V) → Heap → Prop) : Prop := ∃ S' h', execD (Den F ext) N m l S h = some (S', h') ∧ Q S' h'

theorem To.draw0 {l : List DO} {S : Nat → V} {h : Heap} {Q : Ex → (Nat → V) → Heap → Prop} (hd : ToD F ext h.o.length 0 l S h (Q .norm)) : To F ext (.draw 0 l) S h Q := by
  obtain ⟨S', h', e, q⟩ := hd
  refine ⟨_, _, _, ?_, q⟩
  rw [eq_draw hx]
  simp only [drawA, if_true, e]

theorem To.draw {m : Nat} {l : List DO} {S : Nat → V} {h : Heap} {Q : Ex → (Nat → V) → Heap → Prop} (hm : m ≠ 0) (hd : ToD F ext h.o.length m l S ⟨h.o ++ List.replicate m .dead, h.o.length, h.o.length⟩ (fun S' h' => Q .norm S' ⟨h'.o, min h.e h'.e, min h.d h'.d⟩)) : To F ext (.draw m l) S h Q := by
  obtain ⟨S', h', e, q⟩ := hd
  refine ⟨_, _, _, ?_, q⟩
  rw [eq_draw hx]
  simp only [drawA, if_neg hm, e]

omit hx
theorem ToD.op {N m : Nat} {x : DO} {l : List DO} {S : Nat → V} {h : Heap} {v : V} {k : KD} {Q : (Nat → V) → Heap → Prop} (he : outD (Den F ext) N m x S h = some (v, k)) (hk : ToD F ext N m l (putO S x.o.d v) (k.app h) Q) : ToD F ext N m (x :: l) S h Q := by
  obtain ⟨S', h', e, q⟩ := hk
  exact ⟨S', h', by simp only [execD, he, e], q⟩
theorem ToD.op0 {N m : Nat} {x : DO} {l : List DO} {S S' : Nat → V} {h : Heap} {v : V} {Q : (Nat → V) → Heap → Prop} (he : outD (Den F ext) N m x S h = some (v, .q)) (hs : putO S x.o.d v = S') (hk : ToD F ext N m l S' h Q) : ToD F ext N m (x :: l) S h Q := ToD.op he (hs ▸ hk)
theorem ToD.op1 {N m : Nat} {x : DO} {l : List DO} {S S' : Nat → V} {h h' : Heap} {v : V} {k : KD} {Q : (Nat → V) → Heap → Prop} (he : outD (Den F ext) N m x S h = some (v, k)) (hs : putO S x.o.d v = S') (hh : k.app h = h') (hk : ToD F ext N m l S' h' Q) : ToD F ext N m (x :: l) S h Q := ToD.op he (hs ▸ hh ▸ hk)
theorem ToD.nop {N m : Nat} {S : Nat → V} {h : Heap} {Q : (Nat → V) → Heap → Prop} (hk : Q S h) : ToD F ext N m [] S h Q := ⟨S, h, rfl, hk⟩
end
end AM

/- AM, part 29: the arguments of a law, whatever they are, as abstract values; from what a law comes to, to its row. -/
namespace AM
open Go
set_option linter.unusedVariables false
set_option linter.unusedSimpArgs false
set_option linter.unusedSectionVars false

/-- The types of arguments. -/
inductive Ty where
  | bool
  | int (k : IntKind)
  | str
  | slice (t : Ty)
  | arr (n : Nat) (t : Ty)
  | struct (ts : List Ty)

mutual
/-- How many cells. -/
def Ty.size : Ty → Nat
  | .arr n t => n * t.size
  | .struct ts => Ty.sizes ts
  | .bool | .int _ | .str | .slice _ => 1
def Ty.sizes : List Ty → Nat
  | [] => 0
  | t :: ts => t.size + Ty.sizes ts
end

mutual
/-- Cells of a type; slices are rows that are never written. -/
def Ty.has (o : List Obj) : Ty → List V → Prop
  | .bool, cs => ∃ b, cs = [.bool b]
  | .int k, cs => ∃ n, cs = [.int k n] ∧ k.min ≤ n ∧ n ≤ k.max
  | .str, cs => ∃ s, cs = [.str s] ∧ s.length ≤ maxLen
  | .slice t, cs => cs = [.nils] ∨ ∃ l n, cs = [.slice l 0 n t.size] ∧ n ≤ maxLen ∧ l < o.length ∧ (n = 0 ∨ ∃ u xs, o[l]? = some (.cells .ro u 0 (List.flatten xs)) ∧ xs.length = n ∧ ∀ x ∈ xs, Ty.has o t x)
  | .arr n t, cs => ∃ xs, cs = List.flatten xs ∧ xs.length = n ∧ ∀ x ∈ xs, Ty.has o t x
  | .struct ts, cs => Ty.hass o ts cs
def Ty.hass (o : List Obj) : List Ty → List V → Prop
  | [], cs => cs = []
  | t :: ts, cs => ∃ a b, cs = a ++ b ∧ Ty.has o t a ∧ Ty.hass o ts b
end

/-- Never written, all of them. -/
def AllRo (o : List Obj) : Prop := ∀ (l : Nat) (x : Obj), o[l]? = some x → x.own = false

def Ext (o o' : List Obj) : Prop := ∃ r, o' = o ++ r
theorem Ext.refl (o : List Obj) : Ext o o := ⟨[], by simp⟩
theorem Ext.trans {a b c : List Obj} : Ext a b → Ext b c → Ext a c := by
  rintro ⟨r, rfl⟩ ⟨s, rfl⟩
  exact ⟨r ++ s, by simp⟩
theorem Ext.get {a b : List Obj} (h : Ext a b) {l : Nat} {x : Obj} (hx : a[l]? = some x) : b[l]? = some x := by
  obtain ⟨r, rfl⟩ := h
  rw [List.getElem?_append_left (List.getElem?_eq_some_iff.1 hx).1]
  exact hx
theorem Ext.len {a b : List Obj} (h : Ext a b) : a.length ≤ b.length := by
  obtain ⟨r, rfl⟩ := h
  simp

mutual
theorem Ty.has_ext {o o' : List Obj} (he : Ext o o') : ∀ (t : Ty) (cs : List V), Ty.has o t cs → Ty.has o' t cs
  | .bool, cs, h => h
  | .int _, cs, h => h
  | .str, cs, h => h
  | .slice t, cs, h => by
    rcases h with h | ⟨l, n, h1, h2, h3, h4⟩
    · exact .inl h
    · refine .inr ⟨l, n, h1, h2, Nat.lt_of_lt_of_le h3 he.len, ?_⟩
      rcases h4 with h4 | ⟨u, xs, h5, h6, h7⟩
      · exact .inl h4
      · exact .inr ⟨u, xs, he.get h5, h6, fun x hx => Ty.has_ext he t x (h7 x hx)⟩
  | .arr n t, cs, h => by
    obtain ⟨xs, h1, h2, h3⟩ := h
    exact ⟨xs, h1, h2, fun x hx => Ty.has_ext he t x (h3 x hx)⟩
  | .struct ts, cs, h => Ty.hass_ext he ts cs h
theorem Ty.hass_ext {o o' : List Obj} (he : Ext o o') : ∀ (ts : List Ty) (cs : List V), Ty.hass o ts cs → Ty.hass o' ts cs
  | [], cs, h => h
  | t :: ts, cs, h => by
    obtain ⟨a, b, h1, h2, h3⟩ := h
    exact ⟨a, b, h1, Ty.has_ext he t a h2, Ty.hass_ext he ts b h3⟩
end

section
variable {W : World}

/-- Cells of the world that can be read as abstract ones, behind any row of such. -/
def Opens (W : World) (k : List Obj → List V → Prop) (cs : List Value) : Prop :=
  ∀ (ι : Map) (o : List Obj), HR ι o W → AllRo o → ∃ κ o' cs', HR κ o' W ∧ AllRo o' ∧ Ext o o' ∧ Agree ι κ o.length ∧ V.reals κ cs' = cs ∧ V.scs o'.length cs' ∧ k o' cs'

theorem Opens.plain {k : List Obj → List V → Prop} {cs : List Value} {cs' : List V} (h1 : ∀ κ, V.reals κ cs' = cs) (h2 : V.plains cs' = true) (h3 : ∀ o, k o cs') : Opens W k cs :=
  fun ι o hr ha => ⟨ι, o, cs', hr, ha, Ext.refl o, Agree.refl _ _, h1 ι, V.scs_of_plains _ _ h2, h3 o⟩

theorem Opens.mono {k k' : List Obj → List V → Prop} {cs : List Value} (h : Opens W k cs) (hk : ∀ o x, k o x → k' o x) : Opens W k' cs := by
  intro ι o hr ha
  obtain ⟨κ, o', cs', h1, h2, h3, h4, h5, h6, h7⟩ := h ι o hr ha
  exact ⟨κ, o', cs', h1, h2, h3, h4, h5, h6, hk _ _ h7⟩

theorem reals_append (κ : Map) (a b : List V) : V.reals κ (a ++ b) = V.reals κ a ++ V.reals κ b := by simp only [V.reals_eq, List.map_append]

theorem Opens.append {k k' : List Obj → List V → Prop} {a b : List Value} (ha : Opens W k a) (hb : Opens W k' b) (hm : ∀ o o' x, Ext o o' → k o x → k o' x) :
    Opens W (fun o cs => ∃ x y, cs = x ++ y ∧ k o x ∧ k' o y) (a ++ b) := by
  intro ι o hr hro
  obtain ⟨κ, o1, x, h1, h2, h3, h4, h5, h6, h7⟩ := ha ι o hr hro
  obtain ⟨μ, o2, y, g1, g2, g3, g4, g5, g6, g7⟩ := hb κ o1 h1 h2
  refine ⟨μ, o2, x ++ y, g1, g2, h3.trans g3, h4.trans g4 h3.len, ?_, ?_, x, y, rfl, hm _ _ _ g3 h7, g7⟩
  · rw [reals_append, g5, V.reals_agree g4 x h6, h5]
  · exact scs_append.2 ⟨V.scs_mono g3.len x h6, g6⟩

/-- Rows of one kind. -/
theorem Opens.rows {k : List Obj → List V → Prop} (hm : ∀ o o' x, Ext o o' → k o x → k o' x) : ∀ (css : List (List Value)), (∀ c ∈ css, Opens W k c) → Opens W (fun o cs => ∃ xs, cs = List.flatten xs ∧ xs.length = css.length ∧ ∀ x ∈ xs, k o x) css.flatten
  | [], _ => Opens.plain (cs' := []) (fun _ => rfl) rfl fun o => ⟨[], rfl, rfl, by simp⟩
  | c :: r, h => by
    have ih := Opens.rows hm r fun x hx => h x (List.mem_cons_of_mem _ hx)
    rw [List.flatten_cons]
    refine (Opens.append (h c List.mem_cons_self) ih hm).mono ?_
    rintro o cs ⟨x, y, rfl, hx, xs, rfl, hl, hxs⟩
    exact ⟨x :: xs, rfl, by simp [hl], fun z hz => by
      rcases List.mem_cons.1 hz with rfl | hz
      · exact hx
      · exact hxs z hz⟩

/-- One more row that is never written. -/
theorem hr_add {ι : Map} {o : List Obj} (hr : HR ι o W) (ha : AllRo o) {x : Obj} (hx : x.own = false) {p : Place} (hor : OR ι W p x) (hs : x.sc o.length) :
    HR (ι.upd o.length p) (o ++ [x]) W ∧ AllRo (o ++ [x]) := by
  have ag := Map.agree_upd ι o.length p
  have look : ∀ (k : Nat) (y : Obj), (o ++ [x])[k]? = some y → (k = o.length ∧ y = x) ∨ (k < o.length ∧ o[k]? = some y) := by
    intro k y hy
    rw [List.getElem?_append] at hy
    split at hy
    · exact .inr ⟨by assumption, hy⟩
    · have hk : k - o.length = 0 := by
        rcases Nat.eq_zero_or_pos (k - o.length) with h0 | h0
        · exact h0
        · rw [List.getElem?_eq_none (by simp; omega)] at hy; simp at hy
      rw [hk] at hy
      simp at hy
      exact .inl ⟨by omega, hy.symm⟩
  have hro : AllRo (o ++ [x]) := by
    intro k y hy
    rcases look k y hy with ⟨_, rfl⟩ | ⟨_, hy'⟩
    · exact hx
    · exact ha k y hy'
  refine ⟨⟨fun k y hy => ?_, fun k k' y y' hkk hy hy' hyo => ?_, fun k y hy => ?_⟩, hro⟩
  · rcases look k y hy with ⟨rfl, rfl⟩ | ⟨hk, hy'⟩
    · rw [Map.upd_same]
      exact hor.agree ag hs
    · rw [ag k hk]
      exact (hr.obj k y hy').agree ag (hr.sc k y hy')
  · rw [hro k y hy] at hyo
    cases hyo
  · simp only [List.length_append, List.length_cons, List.length_nil]
    rcases look k y hy with ⟨rfl, rfl⟩ | ⟨hk, hy'⟩
    · exact Obj.sc_mono (by omega) hs
    · exact Obj.sc_mono (by omega) (hr.sc k y hy')

/-- The cells of a slice, one behind the other. -/
theorem cells_chunks {w : World} {base : Nat} {a : Addr} {e : Nat} : ∀ {n : Nat} {f : Nat → List Value}, (∀ i, i < n → w.cells? base (a.add (i * e)) e = some (f i)) → ∀ j, j < n * e → ∃ v, ((List.range n).map f).flatten[j]? = some v ∧ w.cell? (a.add j) = some v
  | 0, f, h, j, hj => by simp at hj
  | n + 1, f, h, j, hj => by
    have ih := cells_chunks (n := n) (f := f) fun i hi => h i (by omega)
    have hlen : ∀ m, m ≤ n + 1 → ((List.range m).map f).flatten.length = m * e := by
      intro m
      induction m with
      | zero => simp
      | succ m ihm =>
        intro hm
        obtain ⟨_, hl, _⟩ := World.cells?_some (h m (by omega))
        rw [List.range_succ, List.map_append, List.flatten_append, List.length_append, ihm (by omega)]
        simp [hl, Nat.succ_mul]
    by_cases hj' : j < n * e
    · obtain ⟨v, h1, h2⟩ := ih j hj'
      refine ⟨v, ?_, h2⟩
      rw [List.range_succ, List.map_append, List.flatten_append, List.getElem?_append_left (by rw [hlen n (by omega)]; exact hj')]
      exact h1
    · obtain ⟨_, hl, hc⟩ := World.cells?_some (h n (by omega))
      have hjn : j - n * e < e := by rw [Nat.succ_mul] at hj; omega
      have h2 := hc (j - n * e) hjn
      rw [List.getElem?_eq_getElem (by omega)] at h2
      refine ⟨(f n)[j - n * e]'(by omega), ?_, ?_⟩
      · rw [List.range_succ, List.map_append, List.flatten_append, List.getElem?_append_right (by rw [hlen n (by omega)]; omega), hlen n (by omega)]
        simp [List.getElem?_eq_getElem (show j - n * e < (f n).length by omega)]
      · rw [← h2]
        congr 1
        unfold Addr.add
        by_cases h0 : n * e = 0
        · simp only [h0, if_true, Nat.sub_zero]
        · by_cases h1 : j - n * e = 0
          · have : j = n * e := by omega
            simp [this, h0]
          · have : j ≠ 0 := by omega
            simp only [if_neg h0, if_neg h1, if_neg this]
            congr 1
            omega

/-- No spot, where there is no room. -/
def flatV : Value → Prop
  | .slice (some a) _ 0 => a.spot = none
  | _ => True
end
end AM

/- AM, part 30: what a law's arguments are, by their types. -/
namespace AM
open Go
set_option linter.unusedVariables false
set_option linter.unusedSimpArgs false
set_option linter.unusedSectionVars false

mutual
def Ty.hasSlice : Ty → Bool
  | .slice _ => true
  | .arr _ t => t.hasSlice
  | .struct ts => Ty.hasSlices ts
  | .bool | .int _ | .str => false
def Ty.hasSlices : List Ty → Bool
  | [] => false
  | t :: ts => t.hasSlice || Ty.hasSlices ts
end
mutual
/-- Slices in slices? -/
def Ty.deep : Ty → Bool
  | .slice t => t.hasSlice || t.deep
  | .arr _ t => t.deep
  | .struct ts => Ty.deeps ts
  | .bool | .int _ | .str => false
def Ty.deeps : List Ty → Bool
  | [] => false
  | t :: ts => t.deep || Ty.deeps ts
end

def fieldsOf (P : Program) (r : TypeId → Option Ty) : Nat → List Field → Option (List Ty)
  | _, [] => some []
  | off, f :: fs =>
    if f.offset = off then
      match r f.type with
      | some u => if P.cellsOf f.type = u.size then (match fieldsOf P r (off + u.size) fs with | some us => some (u :: us) | none => none) else none
      | none => none
    else none

def tyOf (P : Program) : Nat → TypeId → Option Ty
  | 0, _ => none
  | n + 1, t =>
    match P.underlying t with
    | some .bool => some .bool
    | some (.int k) => some (.int k)
    | some .string => some .str
    | some (.slice e) => match tyOf P n e with
      | some u => if 0 < u.size ∧ P.cellsOf e = u.size then some (.slice u) else none
      | none => none
    | some (.array m e) => match tyOf P n e with
      | some u => if P.cellsOf t = m * u.size ∧ P.cellsOf e = u.size then some (.arr m u) else none
      | none => none
    | some (.struct fs) => match fieldsOf P (tyOf P n) 0 fs.toList with
      | some us => if P.cellsOf t = Ty.sizes us then some (.struct us) else none
      | none => none
    | _ => none

/-- All cells of the world are without spots, where there is no room. -/
def FlatW (W : World) : Prop := ∀ (b : Nat) (arr : Array Value) t fr, W.heap[b]? = some (.cells arr t fr) → ∀ v ∈ arr.toList, flatV v

theorem flatten_chunks {α : Type} (sz : Nat) : ∀ (n : Nat) (cs : List α), cs.length = n * sz → ((List.range n).map fun i => (cs.drop (i * sz)).take sz).flatten = cs
  | 0, cs, h => by
    have : cs = [] := List.length_eq_zero_iff.1 (by simpa using h)
    subst this; rfl
  | n + 1, cs, h => by
    have ih := flatten_chunks sz n (cs.drop sz) (by rw [List.length_drop, h, Nat.succ_mul]; omega)
    rw [List.range_succ_eq_map, List.map_cons, List.flatten_cons, Nat.zero_mul, List.drop_zero, List.map_map]
    have : ((fun i => (cs.drop (i * sz)).take sz) ∘ Nat.succ) = fun i => ((cs.drop sz).drop (i * sz)).take sz := by
      funext i
      simp only [Function.comp, List.drop_drop]
      congr 2
      rw [Nat.succ_mul]; omega
    rw [this, ih, List.take_append_drop]

section
variable {H : Type} {enc : TypeId × Value → H} {P : Program} {W : World} {held : Bool}

theorem opens_fields {r : TypeId → Option Ty} {cs : List Value} : ∀ (fs : List Field) (off : Nat) (us : List Ty), fieldsOf P r off fs = some us →
    (∀ f ∈ fs, ∀ u, r f.type = some u → (u.hasSlice = true → Ty.hasSlices us = true) → (u.deep = true → Ty.deeps us = true) → Opens W (fun o c => Ty.has o u c) ((cs.drop f.offset).take (P.cellsOf f.type))) → (cs.drop off).length = Ty.sizes us → Opens W (fun o c => Ty.hass o us c) (cs.drop off)
  | [], off, us, h, _, hl => by
    simp only [fieldsOf, Option.some.injEq] at h
    subst h
    have : cs.drop off = [] := List.length_eq_zero_iff.1 (by simpa [Ty.sizes] using hl)
    rw [this]
    exact Opens.plain (cs' := []) (fun _ => rfl) rfl fun o => rfl
  | f :: fs, off, us, h, hf, hl => by
    unfold fieldsOf at h
    split at h
    · rename_i hoff
      split at h
      · rename_i u hu
        split at h
        · rename_i hc
          split at h
          · rename_i us' hus
            simp only [Option.some.injEq] at h
            subst h
            have h1 := hf f List.mem_cons_self u hu (fun h => by simp [Ty.hasSlices, h]) (fun h => by simp [Ty.deeps, h])
            have e1 : cs.drop off = (cs.drop f.offset).take (P.cellsOf f.type) ++ cs.drop (off + u.size) := by
              rw [hoff, hc, ← List.drop_drop, List.take_append_drop]
            have ih := opens_fields fs (off + u.size) us' hus (fun g hg u' hu' hs hd => hf g (List.mem_cons_of_mem _ hg) u' hu' (fun h => by simp [Ty.hasSlices, hs h]) (fun h => by simp [Ty.deeps, hd h])) (by
              rw [← List.drop_drop, List.length_drop, hl]
              simp [Ty.sizes])
            rw [e1]
            refine (Opens.append h1 ih (fun o o' x he hx => Ty.has_ext he u x hx)).mono ?_
            rintro o c ⟨x, y, rfl, hx, hy⟩
            exact ⟨x, y, rfl, hx, hy⟩
          · cases h
        · cases h
      · cases h
    · cases h

theorem opens : ∀ (n : Nat) (t : TypeId) (ty : Ty), tyOf P n t = some ty → ∀ (fuel : Nat) (cs : List Value) (x : DataW H × List MemPlace), DataW.trod enc P W 0 (fun _ => true) held fuel t cs = some x →
    (ty.hasSlice = true → ∀ v ∈ cs, flatV v) → (ty.deep = true → FlatW W) → Opens W (fun o c => Ty.has o ty c) cs
  | 0, t, ty, h => by simp [tyOf] at h
  | n + 1, t, ty, h => by
    intro fuel cs x ht hfl hdp
    unfold tyOf at h
    split at h
    · rename_i hu
      simp only [Option.some.injEq] at h; subst h
      obtain ⟨b, rfl, _⟩ := DataW.trod_bool hu ht
      exact Opens.plain (cs' := [.bool b]) (fun _ => rfl) rfl fun o => ⟨b, rfl⟩
    · rename_i k hu
      simp only [Option.some.injEq] at h; subst h
      obtain ⟨m, rfl, _, hw⟩ := DataW.trod_int hu ht
      refine Opens.plain (cs' := [.int k m]) (fun _ => rfl) rfl fun o => ⟨m, rfl, ?_⟩
      simpa [Lit.wf] using hw
    · rename_i hu
      simp only [Option.some.injEq] at h; subst h
      obtain ⟨s, rfl, _, hs⟩ := DataW.trod_string hu ht
      exact Opens.plain (cs' := [.str s.data.toList]) (fun _ => rfl) rfl fun o => ⟨_, rfl, by simpa using hs⟩
    · rename_i e hu
      split at h
      · rename_i u hue
        split at h
        · rename_i hsz
          obtain ⟨h0, hce⟩ := hsz
          simp only [Option.some.injEq] at h; subst h
          rcases Go.Deep.open_slice hu ht with ⟨rfl, _⟩ | ⟨a, len, cap, m, n', D, Pl, rfl, _, hlc, hcm, hm, _, hel⟩
          · exact Opens.plain (cs' := [.nils]) (fun _ => rfl) rfl fun o => .inl rfl
          · simp only [if_true] at hm
            subst hm
            by_cases hc0 : m = 0
            · subst hc0
              have hl0 : len = 0 := by omega
              subst hl0
              have hsp : a.spot = none := hfl rfl _ (List.mem_singleton.2 rfl)
              intro ι o hr ha
              obtain ⟨k1, k2⟩ := hr_add hr ha (x := .dead) rfl (p := ⟨a.block, a.off, 0⟩) trivial trivial
              refine ⟨_, _, [.slice o.length 0 0 u.size], k1, k2, ⟨_, rfl⟩, Map.agree_upd ι o.length _, ?_, ?_, .inr ⟨_, _, rfl, Nat.zero_le _, by simp, .inl rfl⟩⟩
              · simp only [V.reals, V.real, Map.upd_same, Nat.add_zero, Nat.zero_sub, Nat.zero_div]
                have : a = ⟨a.block, a.off, none⟩ := by rw [← hsp]
                rw [← this]
              · simp [V.scs, V.sc]
            · have hch : ∀ i, ∃ c, i < m → W.cells? 0 (a.add (i * u.size)) u.size = some c ∧ DataW.trod enc P W 0 (fun _ => true) held n' e c = some (D i, Pl i) := by
                intro i
                by_cases hi : i < m
                · obtain ⟨c, h1, h2⟩ := hel i hi
                  rw [hce] at h1
                  exact ⟨c, fun _ => ⟨h1, h2⟩⟩
                · exact ⟨[], fun h => absurd h hi⟩
              obtain ⟨f, hf⟩ := Classical.axiomOfChoice hch
              have hall := cells_chunks (w := W) (base := 0) (a := a) (e := u.size) (n := m) (f := f) fun i hi => (hf i hi).1
              have hlen := cells_chunks (w := W) (base := 0) (a := a) (e := u.size) (n := len) (f := f) fun i hi => (hf i (by omega)).1
              have hm0 : 0 < m * u.size := Nat.mul_pos (by omega) h0
              obtain ⟨v0, _, hv0⟩ := hall 0 hm0
              have ha0 : a.add 0 = a := rfl
              rw [ha0] at hv0
              obtain ⟨arr, t', fr, hblk, hsp⟩ : ∃ arr t' fr, W.heap[a.block]? = some (.cells arr t' fr) ∧ a.spot = none := by
                unfold World.cell? at hv0
                split at hv0
                · rename_i arr t' fr hb
                  split at hv0
                  · cases hv0
                  · rename_i hs
                    exact ⟨arr, t', fr, hb, by simpa using hs⟩
                · cases hv0
              obtain ⟨lo, hi⟩ := fr
              have hcell : ∀ j v, W.cell? (a.add j) = some v → arr[a.off + j]? = some v := by
                intro j v hv
                unfold Addr.add at hv
                split at hv
                · rename_i hj; subst hj
                  simpa [World.cell?, hblk, hsp] using hv
                · simpa [World.cell?, hblk] using hv
              have hflat : u.hasSlice = true → ∀ i, i < m → ∀ v ∈ f i, flatV v := by
                intro hs i hi v hv
                have hW := hdp (by simp [Ty.deep, hs])
                obtain ⟨_, hfl, hcc⟩ := World.cells?_some (hf i hi).1
                obtain ⟨j, hj⟩ := List.getElem?_of_mem hv
                have hjl := (List.getElem?_eq_some_iff.1 hj).1
                have := hcc j (by omega)
                rw [hj] at this
                unfold World.cell? at this
                split at this
                · rename_i arr' t'' fr' hb
                  split at this
                  · cases this
                  · exact hW _ _ _ _ hb v (by
                      have := Array.mem_of_getElem? this
                      simpa using this)
                · cases this
              have hrows := Opens.rows (W := W) (k := fun o c => Ty.has o u c) (fun o o' x he hx => Ty.has_ext he u x hx) ((List.range len).map f) (by
                intro c hc
                obtain ⟨i, hi, rfl⟩ := List.mem_map.1 hc
                have hi' : i < len := List.mem_range.1 hi
                exact opens n e u hue n' (f i) _ (hf i (by omega)).2 (fun hs => hflat hs i (by omega)) (fun hd => hdp (by simp [Ty.deep, hd])))
              intro ι o hr ha
              obtain ⟨κ, o', cs', h1, h2, h3, h4, h5, h6, xs, rfl, hxl, hxs⟩ := hrows ι o hr ha
              have hcl : xs.flatten.length = len * u.size := by
                have e1 : xs.flatten.length = (V.reals κ xs.flatten).length := by rw [V.reals_eq, List.length_map]
                rw [e1, h5]
                have key : ∀ k, k ≤ len → ((List.range k).map f).flatten.length = k * u.size := by
                  intro k
                  induction k with
                  | zero => simp
                  | succ k ihk =>
                    intro hk
                    obtain ⟨_, hl, _⟩ := World.cells?_some (hf k (by omega)).1
                    rw [List.range_succ, List.map_append, List.flatten_append, List.length_append, ihk (by omega)]
                    simp [hl, Nat.succ_mul]
                exact key len (Nat.le_refl _)
              have hle : len * u.size ≤ m * u.size := Nat.mul_le_mul_right _ hlc
              have hor : OR κ W ⟨a.block, a.off, m * u.size⟩ (.cells .ro 0 0 xs.flatten) := by
                refine ⟨arr, t', lo, hi, hblk, ?_, by rw [hcl]; exact hle, ?_, by simp, by simp⟩
                · obtain ⟨v, _, hv⟩ := hall (m * u.size - 1) (by omega)
                  have := (Array.getElem?_eq_some_iff.1 (hcell _ _ hv)).1
                  show a.off + m * u.size ≤ arr.size
                  omega
                · intro i c hi
                  have hil := (List.getElem?_eq_some_iff.1 hi).1
                  rw [hcl] at hil
                  obtain ⟨v, hv1, hv2⟩ := hlen i hil
                  have e1 : (V.reals κ xs.flatten)[i]? = some (c.real κ) := by rw [V.reals_eq, List.getElem?_map, hi]; rfl
                  rw [h5, hv1] at e1
                  cases e1
                  exact hcell _ _ hv2
              obtain ⟨k1, k2⟩ := hr_add h1 h2 (x := .cells .ro 0 0 xs.flatten) rfl (p := ⟨a.block, a.off, m * u.size⟩) hor h6
              have he2 : Ext o' (o' ++ [.cells .ro 0 0 xs.flatten]) := ⟨_, rfl⟩
              refine ⟨_, _, [.slice o'.length 0 len u.size], k1, k2, h3.trans he2, h4.trans (Map.agree_upd κ o'.length _) h3.len, ?_, ?_, .inr ⟨_, _, rfl, by omega, by simp, .inr ⟨0, xs, ?_, by simpa using hxl, fun x hx => Ty.has_ext he2 u x (hxs x hx)⟩⟩⟩
              · simp only [V.reals, V.real, Map.upd_same, Nat.add_zero, Nat.sub_zero]
                rw [Nat.mul_div_cancel _ h0]
                have : a = ⟨a.block, a.off, none⟩ := by rw [← hsp]
                rw [← this]
              · simp [V.scs, V.sc]
              · rw [List.getElem?_append_right (Nat.le_refl _), Nat.sub_self]; rfl
        · cases h
      · cases h
    · rename_i m e hu
      split at h
      · rename_i u hue
        split at h
        · rename_i hsz
          obtain ⟨hct, hce⟩ := hsz
          simp only [Option.some.injEq] at h; subst h
          obtain ⟨xs, k, _, _, hl, hxl, hx⟩ := DataW.trod_array hu ht
          rw [hct] at hl
          have hcs := flatten_chunks u.size m cs hl
          have := Opens.rows (W := W) (k := fun o c => Ty.has o u c) (fun o o' x he hx => Ty.has_ext he u x hx) ((List.range m).map fun i => (cs.drop (i * u.size)).take u.size) (by
            intro c hc
            obtain ⟨i, hi, rfl⟩ := List.mem_map.1 hc
            have hi' : i < m := List.mem_range.1 hi
            have h1 := hx i hi'
            rw [hce, List.getElem?_eq_getElem (by omega)] at h1
            exact opens n e u hue k _ _ h1 (fun hs v hv => hfl (by simpa [Ty.hasSlice] using hs) v (List.mem_of_mem_drop (List.mem_of_mem_take hv))) (fun hd => hdp (by simpa [Ty.deep] using hd)))
          rw [hcs] at this
          refine this.mono ?_
          rintro o c ⟨ys, rfl, hyl, hys⟩
          exact ⟨ys, rfl, by simpa using hyl, hys⟩
        · cases h
      · cases h
    · rename_i fs hu
      split at h
      · rename_i us hus
        split at h
        · rename_i hct
          simp only [Option.some.injEq] at h; subst h
          obtain ⟨xs, k, _, _, hl, hxl, hx⟩ := DataW.trod_struct hu ht
          have := opens_fields (P := P) (W := W) (r := tyOf P n) (cs := cs) fs.toList 0 us hus (by
            intro f hf u hue hs hd
            obtain ⟨i, hi⟩ := List.getElem?_of_mem hf
            have hif : fs[i]? = some f := by simpa using hi
            have hil := (Array.getElem?_eq_some_iff.1 hif).1
            have h1 := hx i f hif
            rw [List.getElem?_eq_getElem (by omega)] at h1
            exact opens n f.type u hue k _ _ h1 (fun hh v hv => hfl (by simpa [Ty.hasSlice] using hs hh) v (List.mem_of_mem_drop (List.mem_of_mem_take hv))) (fun hh => hdp (by simpa [Ty.deep] using hd hh))) (by
            rw [List.drop_zero, hl, hct])
          rw [List.drop_zero] at this
          exact this
        · cases h
      · cases h
    · cases h
end
end AM

/- AM, part 31: what was read of the arguments is read behind the call, too; from what a law comes to, to its row. -/
namespace AM
open Go
open Go.ChangeShapes Go.WideShapes Go.ChangeAt Go.RowKit
set_option linter.unusedVariables false
set_option linter.unusedSimpArgs false
set_option linter.unusedSectionVars false

theorem mapM_keep {α β : Type} {f g : α → Option β} : ∀ {l : List α} {r : List β}, l.mapM f = some r → (∀ a ∈ l, ∀ y ∈ r, f a = some y → g a = some y) → l.mapM g = some r
  | [], r, h, _ => by simpa using h
  | a :: l, r, h, hk => by
    rw [List.mapM_cons] at h ⊢
    cases ha : f a with
    | none => simp [ha] at h
    | some y =>
      cases hl : l.mapM f with
      | none => simp [ha, hl] at h
      | some ys =>
        simp [ha, hl] at h
        subst h
        have h1 := hk a List.mem_cons_self y List.mem_cons_self ha
        have h2 := mapM_keep hl fun b hb z hz => hk b (List.mem_cons_of_mem _ hb) z (List.mem_cons_of_mem _ hz)
        simp [h1, h2]

section
variable {H : Type} {enc : TypeId × Value → H} {P : Program} {W W' : World} {held : Bool} {sp : Nat → Bool}

theorem cell?_kept (hk : Kept W W') {a : Addr} {v : Value} (h : W.cell? a = some v) : W'.cell? a = some v := by
  unfold World.cell? at h ⊢
  split at h
  · rename_i c t fr hb
    have hl : a.block < W.heap.size := (Array.getElem?_eq_some_iff.1 hb).1
    rw [hk.2.2.2 _ hl, hb]
    exact h
  · cases h

theorem cells?_kept (hk : Kept W W') {a : Addr} {n : Nat} {cs : List Value} (h : W.cells? 0 a n = some cs) : W'.cells? 0 a n = some cs := by
  unfold World.cells? at h ⊢
  rw [if_pos (Nat.zero_le _)] at h ⊢
  exact mapM_keep h fun i _ y _ hy => cell?_kept hk hy

theorem mem_row0 {a : Addr} {n : Nat} (h : 0 < n) : MemPlace.cell a.block a.off ∈ MemPlace.row a n := by
  unfold MemPlace.row
  exact List.mem_map.2 ⟨0, List.mem_range.2 h, rfl⟩

theorem fieldsOf_mem {r : TypeId → Option Ty} : ∀ (fs : List Field) (off : Nat) (us : List Ty), fieldsOf P r off fs = some us → ∀ f ∈ fs, ∃ u, r f.type = some u
  | [], _, _, _, f, hf => by simp at hf
  | f :: fs, off, us, h, g, hg => by
    unfold fieldsOf at h
    split at h
    · split at h
      · rename_i u hu
        split at h
        · split at h
          · rename_i us' hus
            rcases List.mem_cons.1 hg with rfl | hg
            · exact ⟨u, hu⟩
            · exact fieldsOf_mem fs _ _ hus g hg
          · cases h
        · cases h
      · cases h
    · cases h

theorem trod_kept (hk : Kept W W') : ∀ (n : Nat) (t : TypeId) (ty : Ty), tyOf P n t = some ty → ∀ (fuel : Nat) (cs : List Value) (x : DataW H × List MemPlace), DataW.trod enc P W 0 (fun _ => true) held fuel t cs = some x →
    (∀ p ∈ x.2, sp p.block = true) → DataW.trod enc P W' 0 sp held fuel t cs = some x
  | 0, t, ty, h => by simp [tyOf] at h
  | n + 1, t, ty, h => by
    intro fuel cs x ht hsp
    cases fuel with
    | zero => simp [DataW.trod] at ht
    | succ m =>
      unfold tyOf at h
      split at h
      · rename_i hu
        obtain ⟨b, rfl, rfl⟩ := DataW.trod_bool hu ht
        unfold DataW.trod
        simp only [hu]
      · rename_i k hu
        obtain ⟨b, rfl, rfl, hw⟩ := DataW.trod_int hu ht
        unfold DataW.trod
        simp only [hu]
        rw [if_pos ⟨trivial, hw⟩]
      · rename_i hu
        obtain ⟨b, rfl, rfl, hw⟩ := DataW.trod_string hu ht
        unfold DataW.trod
        simp only [hu]
        rw [if_pos hw]
      · rename_i e hu
        split at h
        · rename_i u hue
          split at h
          · rename_i hsz
            obtain ⟨h0, hce⟩ := hsz
            rcases DataW.trod_slice hu ht with ⟨rfl, rfl⟩ | ⟨a, len, cap, elems, rest, n', hn', rfl, rfl, hb, hlc, hcm, hel, he1, he2, _⟩
            · unfold DataW.trod
              simp only [hu]
            · cases hn'
              obtain ⟨hrl, he2⟩ := he2 rfl
              have hk1 : ∀ i, ∀ y ∈ elems ++ rest, (W.cells? 0 (a.add (i * P.cellsOf e)) (P.cellsOf e)).bind (DataW.trod enc P W 0 (fun _ => true) held m e) = some y →
                  (W'.cells? 0 (a.add (i * P.cellsOf e)) (P.cellsOf e)).bind (DataW.trod enc P W' 0 sp held m e) = some y := by
                intro i y hy hyy
                obtain ⟨c, h1, h2⟩ := Option.bind_eq_some_iff.1 hyy
                rw [cells?_kept hk h1, Option.bind_some]
                exact trod_kept hk n e u hue m c y h2 fun p hp => hsp p (List.mem_append.2 (.inr (List.mem_flatMap.2 ⟨y, hy, hp⟩)))
              have hel' : (List.range len).mapM (fun i => (W'.cells? 0 (a.add (i * P.cellsOf e)) (P.cellsOf e)).bind (DataW.trod enc P W' 0 sp held m e)) = some elems := by
                refine mapM_some_of_get _ _ (by simpa using hel) fun i x hx => ?_
                obtain ⟨hi, hxi⟩ := List.getElem?_eq_some_iff.1 hx
                rw [List.length_range] at hi
                rw [List.getElem_range] at hxi
                subst hxi
                have h1 := he1 i hi
                have hi' : i < elems.length := by omega
                rw [List.getElem?_eq_getElem hi'] at h1 ⊢
                exact hk1 i _ (List.mem_append.2 (.inl (List.getElem_mem hi'))) h1
              have hre' : (List.range (cap - len)).mapM (fun j => (W'.cells? 0 (a.add ((len + j) * P.cellsOf e)) (P.cellsOf e)).bind (DataW.trod enc P W' 0 sp held m e)) = some rest := by
                refine mapM_some_of_get _ _ (by simpa using hrl) fun i x hx => ?_
                obtain ⟨hi, hxi⟩ := List.getElem?_eq_some_iff.1 hx
                rw [List.length_range] at hi
                rw [List.getElem_range] at hxi
                subst hxi
                have h1 := he2 i hi
                have hi' : i < rest.length := by omega
                rw [List.getElem?_eq_getElem hi'] at h1 ⊢
                exact hk1 _ _ (List.mem_append.2 (.inr (List.getElem_mem hi'))) h1
              unfold DataW.trod
              simp only [hu]
              rw [if_pos ⟨hb, hlc, hcm⟩, hel', Option.bind_some]
              by_cases hc0 : cap = 0
              · have hr0 : rest = [] := List.length_eq_zero_iff.1 (by omega)
                subst hc0
                subst hr0
                cases sp a.block <;> simp
              · have hpos : 0 < (elems.length + rest.length) * P.cellsOf e := by
                  rw [hce]
                  exact Nat.mul_pos (by omega) h0
                have := hsp _ (List.mem_append.2 (.inl (mem_row0 (a := a) hpos)))
                simp only [MemPlace.block] at this
                rw [this, if_pos rfl, hre', Option.map_some]
          · cases h
        · cases h
      · rename_i k e hu
        split at h
        · rename_i u hue
          unfold DataW.trod at ht ⊢
          rw [hu] at ht ⊢
          simp only at ht ⊢
          split at ht
          · rename_i hl
            rw [if_pos hl]
            obtain ⟨xs, h1, rfl⟩ := Option.map_eq_some_iff.1 ht
            rw [mapM_keep h1 fun i _ y hy hyy => trod_kept hk n e u hue m _ y hyy fun p hp => hsp p (List.mem_flatMap.2 ⟨y, hy, hp⟩), Option.map_some]
          · cases ht
        · cases h
      · rename_i fs hu
        split at h
        · rename_i us hus
          unfold DataW.trod at ht ⊢
          rw [hu] at ht ⊢
          simp only at ht ⊢
          split at ht
          · rename_i hl
            rw [if_pos hl]
            obtain ⟨xs, h1, rfl⟩ := Option.map_eq_some_iff.1 ht
            rw [mapM_keep h1 fun f hf y hy hyy => by
              obtain ⟨u, hue⟩ := fieldsOf_mem _ _ _ hus f hf
              exact trod_kept hk n f.type u hue m _ y hyy fun p hp => hsp p (List.mem_flatMap.2 ⟨y, hy, hp⟩), Option.map_some]
          · cases ht
        · cases h
      · cases h
end
end AM

/- AM, part 32: from what a law comes to, whatever its arguments, to its row. -/
namespace AM
open Go
open Go.ChangeShapes Go.WideShapes Go.ChangeAt Go.RowKit
set_option linter.unusedVariables false
set_option linter.unusedSimpArgs false
set_option linter.unusedSectionVars false

def Ty.isAgg : Ty → Bool
  | .arr .. | .struct _ => true
  | _ => false
/-- One argument. -/
def Ty.arg (o : List Obj) (t : Ty) (v : V) : Prop := (t.isAgg = true ∧ ∃ cs, v = .agg cs ∧ t.has o cs) ∨ (t.isAgg = false ∧ t.has o [v])
def Ty.args (o : List Obj) : List Ty → List V → Prop
  | [], vs => vs = []
  | t :: ts, vs => ∃ v r, vs = v :: r ∧ t.arg o v ∧ Ty.args o ts r

section
variable {H : Type} {enc : TypeId × Value → H} {P : Program} {W W' : World} {held : Bool} {sp : Nat → Bool}

theorem flat_of_okWide {b : Nat} {t : TypeId} {v : Value} (h : Cell.okWide P W .any b t v) : flatV v := by
  unfold flatV
  split
  · rename_i a len
    unfold Cell.okWide at h
    split at h
    all_goals try (rename_i h1 h2; cases h2)
    unfold Cell.ok at h
    split at h
    all_goals try (rename_i h1 h2; cases h2)
    · exact h.2.2.2.1
    · exact h.elim
  · trivial

theorem tyOf_agg {n : Nat} {t : TypeId} {ty : Ty} (h : tyOf P n t = some ty) : ty.isAgg = true ↔ (∃ fs, P.underlying t = some (.struct fs)) ∨ ∃ m e, P.underlying t = some (.array m e) := by
  cases n with
  | zero => simp [tyOf] at h
  | succ n =>
    unfold tyOf at h
    split at h
    · rename_i hu
      simp only [Option.some.injEq] at h; subst h
      simp [Ty.isAgg, hu]
    · rename_i k hu
      simp only [Option.some.injEq] at h; subst h
      simp [Ty.isAgg, hu]
    · rename_i hu
      simp only [Option.some.injEq] at h; subst h
      simp [Ty.isAgg, hu]
    · rename_i e hu
      split at h
      · split at h
        · simp only [Option.some.injEq] at h; subst h
          simp [Ty.isAgg, hu]
        · cases h
      · cases h
    · rename_i m e hu
      split at h
      · split at h
        · simp only [Option.some.injEq] at h; subst h
          simp [Ty.isAgg, hu]
        · cases h
      · cases h
    · rename_i fs hu
      split at h
      · split at h
        · simp only [Option.some.injEq] at h; subst h
          simp [Ty.isAgg, hu]
        · cases h
      · cases h
    · cases h

theorem cells_of_single {b : Nat} {t : TypeId} {v : Value} (h : Cell.okWide P W .any b t v) : v.cells = #[v] := by
  unfold Cell.okWide at h
  split at h
  all_goals try rfl
  unfold Cell.ok at h
  split at h
  all_goals first | rfl | exact h.elim

theorem open_arg {n : Nat} {t : TypeId} {ty : Ty} (hty : tyOf P n t = some ty) (hd : ty.deep = false) {b : Nat} {v : Value} (hv : Value.okWide P W .any b t v) {d : DataW H} {ps : List MemPlace}
    (ht : DataW.Trod enc P W 0 (fun _ => true) held t v d ps) : Opens W (fun o c => ∃ a, c = [a] ∧ Ty.arg o ty a) [v] := by
  obtain ⟨fuel, ht⟩ := ht
  by_cases ha : ty.isAgg = true
  · have hcs : ∃ cs, v = .agg cs ∧ Row.okWide P W .any b t cs := by
      rcases (tyOf_agg hty).1 ha with ⟨fs, hu⟩ | ⟨m, e, hu⟩
      · simp only [Value.okWide, hu] at hv
        obtain ⟨cs, h1, _, h2⟩ := hv
        exact ⟨cs, h1, h2⟩
      · simp only [Value.okWide, hu] at hv
        obtain ⟨cs, h1, _, h2⟩ := hv
        exact ⟨cs, h1, h2⟩
    obtain ⟨cs, rfl, hrow⟩ := hcs
    have hfl : ∀ x ∈ cs.toList, flatV x := by
      intro x hx
      obtain ⟨i, hi⟩ := List.getElem?_of_mem hx
      obtain ⟨ts, _, _, hc⟩ := hrow
      obtain ⟨u, _, hcu⟩ := hc i x (by simpa using hi)
      exact flat_of_okWide hcu
    have := opens n t ty hty fuel cs.toList _ ht (fun _ => hfl) (fun h => by rw [hd] at h; cases h)
    intro ι o hr hro
    obtain ⟨κ, o', cs', h1, h2, h3, h4, h5, h6, h7⟩ := this ι o hr hro
    refine ⟨κ, o', [.agg cs'], h1, h2, h3, h4, ?_, ⟨h6, trivial⟩, .agg cs', rfl, .inl ⟨ha, cs', rfl, h7⟩⟩
    simp only [V.reals, V.real, h5]
  · have hc : Cell.okWide P W .any b t v := by
      have hna : ¬ ((∃ fs, P.underlying t = some (.struct fs)) ∨ ∃ m e, P.underlying t = some (.array m e)) := fun h => ha ((tyOf_agg hty).2 h)
      unfold Value.okWide at hv
      split at hv
      · rename_i fs hu; exact absurd (.inl ⟨fs, hu⟩) hna
      · rename_i m e hu; exact absurd (.inr ⟨m, e, hu⟩) hna
      · exact hv
    have hcell := cells_of_single hc
    rw [hcell] at ht
    have := opens n t ty hty fuel [v] _ ht (fun _ x hx => by rw [List.mem_singleton.1 hx]; exact flat_of_okWide hc) (fun h => by rw [hd] at h; cases h)
    intro ι o hr hro
    obtain ⟨κ, o', cs', h1, h2, h3, h4, h5, h6, h7⟩ := this ι o hr hro
    have hl : cs'.length = 1 := by
      have : (V.reals κ cs').length = 1 := by rw [h5]; rfl
      rwa [V.reals_eq, List.length_map] at this
    obtain ⟨a, rfl⟩ := List.length_eq_one_iff.1 hl
    exact ⟨κ, o', [a], h1, h2, h3, h4, h5, h6, a, rfl, .inr ⟨by simpa using ha, h7⟩⟩

theorem Ty.arg_ext {o o' : List Obj} (he : Ext o o') {t : Ty} {v : V} (h : t.arg o v) : t.arg o' v := by
  rcases h with ⟨h1, cs, h2, h3⟩ | ⟨h1, h2⟩
  · exact .inl ⟨h1, cs, h2, Ty.has_ext he t cs h3⟩
  · exact .inr ⟨h1, Ty.has_ext he t _ h2⟩

theorem open_args {n b : Nat} : ∀ {ts : List TypeId} {tys : List Ty} {vs : List Value} {ds : List (DataW H)} {ps : List MemPlace}, ts.map (tyOf P n) = tys.map some → (∀ ty ∈ tys, ty.deep = false) →
    (∀ (j : Nat) t v, ts[j]? = some t → vs[j]? = some v → Value.okWide P W .any b t v) → DataW.TrodAll enc P W 0 (fun _ => true) held ts vs ds ps → Opens W (fun o c => Ty.args o tys c) vs
  | [], [], vs, ds, ps, _, _, _, h => by
    obtain ⟨rfl, rfl, rfl⟩ := trodAll_nil h
    exact Opens.plain (cs' := []) (fun _ => rfl) rfl fun o => rfl
  | [], _ :: _, _, _, _, h, _, _, _ => by simp at h
  | _ :: _, [], _, _, _, h, _, _, _ => by simp at h
  | t :: ts, ty :: tys, vs, ds, ps, hm, hd, hv, h => by
    obtain ⟨v, vs1, d, ds1, a, c, rfl, rfl, rfl, h1, h2⟩ := trodAll_cons h
    simp only [List.map_cons, List.cons.injEq] at hm
    have ha := open_arg hm.1 (hd ty List.mem_cons_self) (hv 0 t v rfl rfl) h1
    have ih := open_args (n := n) (b := b) hm.2 (fun x hx => hd x (List.mem_cons_of_mem _ hx)) (fun j t' v' h1 h2 => hv (j + 1) t' v' (by simpa using h1) (by simpa using h2)) h2
    have := Opens.append ha ih (by
      rintro o o' x he ⟨a, rfl, hx⟩
      exact ⟨a, rfl, Ty.arg_ext he hx⟩)
    refine this.mono ?_
    rintro o x ⟨y, z, rfl, ⟨a, rfl, hy⟩, hz⟩
    exact ⟨a, z, rfl, hy, hz⟩

theorem trodAll_kept (hk : Kept W W') {n : Nat} : ∀ {ts : List TypeId} {tys : List Ty} {vs : List Value} {ds : List (DataW H)} {ps : List MemPlace}, ts.map (tyOf P n) = tys.map some →
    DataW.TrodAll enc P W 0 (fun _ => true) held ts vs ds ps → (∀ p ∈ ps, sp p.block = true) → DataW.TrodAll enc P W' 0 sp held ts vs ds ps
  | [], [], vs, ds, ps, _, h, _ => by
    obtain ⟨rfl, rfl, rfl⟩ := trodAll_nil h
    exact trodAll_mk0
  | [], _ :: _, _, _, _, h, _, _ => by simp at h
  | _ :: _, [], _, _, _, h, _, _ => by simp at h
  | t :: ts, ty :: tys, vs, ds, ps, hm, h, hp => by
    obtain ⟨v, vs1, d, ds1, a, c, rfl, rfl, rfl, h1, h2⟩ := trodAll_cons h
    simp only [List.map_cons, List.cons.injEq] at hm
    obtain ⟨fuel, h1⟩ := h1
    exact trodAll_cons_mk ⟨fuel, trod_kept hk n t ty hm.1 fuel _ _ h1 fun p hp' => hp p (List.mem_append.2 (.inl hp'))⟩ (trodAll_kept hk hm.2 h2 fun p hp' => hp p (List.mem_append.2 (.inr hp')))

theorem trodAll_len : ∀ {ts : List TypeId} {vs : List Value} {ds : List (DataW H)} {ps : List MemPlace}, DataW.TrodAll enc P W 0 (fun _ => true) held ts vs ds ps → ds.length = ts.length
  | [], vs, ds, ps, h => by
    obtain ⟨rfl, rfl, rfl⟩ := trodAll_nil h
    rfl
  | t :: ts, vs, ds, ps, h => by
    obtain ⟨v, vs1, d, ds1, a, c, rfl, rfl, rfl, h1, h2⟩ := trodAll_cons h
    simp [trodAll_len h2]

/-- A law: what its row asks. -/
theorem law {fn : Func} {s : ChangeSpec} {tys : List Ty} {n f : Nat} {tb : TypeId} (hm : P.follows .mixedOrders = true) {F : Nat → Option AF} (hF : FOk P F) {E : ExtF} (hE : ExtSound P E)
    (hvars : s.vars = []) (hty : fn.params.toList.map (tyOf P n) = tys.map some) (hdeep : ∀ ty ∈ tys, ty.deep = false) (hres : fn.resultTypes = #[tb]) (htb : P.underlying tb = some .bool)
    (hfn : ∀ (H : Type) (ds : List (DataW H)), ds.length = tys.length → s.fn H ds = { results := [.lit (.bool true)], args := ds })
    (hden : ∀ (o : List Obj) (args : List V), AllRo o → Ty.args o tys args → ∃ oh, Den F E f args ⟨o, 0, 0⟩ = some (.val (.bool true), oh))
    {apart fresh handsOn again : Bool} {b : Nat} {args : Array Value} {ds gs : List (DataW H)} {before : List MemPlace}
    (hval : ∀ (j : Nat) t v, fn.params[j]? = some t → args[j]? = some v → Value.okWide P W .any b t v) (hW : DataW.Whole enc P fn.params.toList s.vars apart W args.toList ds gs before) :
    Calls P f args W fun e W' => ∃ v, e = .returned v ∧ s.post enc P fn apart fresh handsOn again W args v W' := by
  have hW' := hW
  obtain ⟨p, q, hA, hV, rfl, hfz, hnd⟩ := hW
  rw [hvars] at hV
  obtain ⟨rfl, rfl⟩ := trodVars_none hV
  obtain ⟨κ, o, avs, h1, h2, _, _, h5, h6, h7⟩ := open_args (n := n) (b := b) hty hdeep (fun j t v h1 h2 => hval j t v (by simpa using h1) (by simpa using h2)) hA noMap [] ⟨fun l o h => by simp at h, fun l l' o o' _ h => by simp at h, fun l o h => by simp at h⟩ (fun l o h => by simp at h)
  obtain ⟨oh, hd⟩ := hden o avs h2 h7
  have hargs : args = (V.reals κ avs).toArray := by rw [h5]
  have hlen : ds.length = tys.length := by
    have := trodAll_len hA
    rw [this, ← List.length_map (tyOf P n), hty, List.length_map]
  have hc := calls_of_den hm hF hE hd (fun l x hx => h2 l x hx) rfl h1 h6
  rw [← hargs] at hc
  refine hc.mono fun e W' ⟨he, hk⟩ => ⟨_, he, ?_⟩
  have hs : s.fn H (ds ++ []) = { results := [.lit (.bool true)], args := ds } := by rw [List.append_nil]; exact hfn H ds hlen
  refine post_kept (pa := p) (pv := []) hW' (fun _ _ _ => ?_) (fun sp hsp => ?_) (fun _ _ => ?_) rfl hk (ok_one hres rfl (okWide_bool_mk htb _))
  · rw [hs, hres]
    exact trodAll_cons_mk (shut_bool htb _) trodAll_mk0
  · rw [hs]
    exact trodAll_kept hk hty hA fun x hx => hsp x (by simpa using hx)
  · rw [hs, hvars]
    rfl
end
end AM

/- AM, part 33: arguments read by their types. -/
namespace AM
open Go
set_option linter.unusedVariables false
set_option linter.unusedSimpArgs false

theorem i64_min : IntKind.min .i64 = -9223372036854775808 := by decide
theorem i64_max : IntKind.max .i64 = 9223372036854775807 := by decide
theorem u8_min : IntKind.min .u8 = 0 := by decide
theorem u8_max : IntKind.max .u8 = 255 := by decide

theorem u8_byte {n : Int} (h0 : IntKind.min .u8 ≤ n) (h1 : n ≤ IntKind.max .u8) : ∃ b : UInt8, n = (b.toNat : Int) := by
  rw [u8_min] at h0
  rw [u8_max] at h1
  refine ⟨UInt8.ofNat n.toNat, ?_⟩
  simp
  omega

theorem bytes_of_chunks {o : List Obj} : ∀ (xs : List (List V)), (∀ x ∈ xs, Ty.has o (.int .u8) x) → ∃ p : List UInt8, List.flatten xs = bytesA p ∧ p.length = xs.length
  | [], _ => ⟨[], rfl, rfl⟩
  | x :: xs, h => by
    obtain ⟨p, h1, h2⟩ := bytes_of_chunks xs fun y hy => h y (List.mem_cons_of_mem _ hy)
    obtain ⟨n, rfl, h3, h4⟩ := h x List.mem_cons_self
    obtain ⟨b, rfl⟩ := u8_byte h3 h4
    exact ⟨b :: p, by rw [List.flatten_cons, h1]; rfl, by simp [h2]⟩

theorem has_bytes {o : List Obj} {n : Nat} {cs : List V} (h : Ty.has o (.arr n (.int .u8)) cs) : ∃ p : List UInt8, cs = bytesA p ∧ p.length = n := by
  obtain ⟨xs, rfl, hl, hx⟩ := h
  obtain ⟨p, h1, h2⟩ := bytes_of_chunks xs hx
  exact ⟨p, h1, h2.trans hl⟩

theorem arg_bytes {o : List Obj} {n : Nat} {v : V} (h : Ty.arg o (.arr n (.int .u8)) v) : ∃ p : List UInt8, v = .agg (bytesA p) ∧ p.length = n := by
  rcases h with ⟨_, cs, rfl, h⟩ | ⟨h, _⟩
  · obtain ⟨p, rfl, hp⟩ := has_bytes h
    exact ⟨p, rfl, hp⟩
  · cases h

theorem arg_int {o : List Obj} {k : IntKind} {v : V} (h : Ty.arg o (.int k) v) : ∃ n, v = .int k n ∧ k.min ≤ n ∧ n ≤ k.max := by
  rcases h with ⟨h, _⟩ | ⟨_, n, h, h2⟩
  · cases h
  · cases h
    exact ⟨n, rfl, h2⟩

theorem arg_bool {o : List Obj} {v : V} (h : Ty.arg o .bool v) : ∃ n, v = .bool n := by
  rcases h with ⟨h, _⟩ | ⟨_, n, h⟩
  · cases h
  · cases h
    exact ⟨n, rfl⟩

theorem arg_str {o : List Obj} {v : V} (h : Ty.arg o .str v) : ∃ s : List UInt8, v = .str s ∧ s.length ≤ maxLen := by
  rcases h with ⟨h, _⟩ | ⟨_, n, h, h2⟩
  · cases h
  · cases h
    exact ⟨n, rfl, h2⟩

theorem arg_struct {o : List Obj} {ts : List Ty} {v : V} (h : Ty.arg o (.struct ts) v) : ∃ cs, v = .agg cs ∧ Ty.hass o ts cs := by
  rcases h with ⟨_, cs, rfl, h⟩ | ⟨h, _⟩
  · exact ⟨cs, rfl, h⟩
  · cases h

theorem arg_slice {o : List Obj} {t : Ty} {v : V} (h : Ty.arg o (.slice t) v) : v = .nils ∨ ∃ l n, v = .slice l 0 n t.size ∧ n ≤ maxLen ∧ l < o.length ∧ (n = 0 ∨ ∃ u xs, o[l]? = some (.cells .ro u 0 (List.flatten xs)) ∧ xs.length = n ∧ ∀ x ∈ xs, Ty.has o t x) := by
  rcases h with ⟨h, _⟩ | ⟨_, h⟩
  · cases h
  · rcases h with h | ⟨l, n, h, h2⟩
    · cases h; exact .inl rfl
    · cases h; exact .inr ⟨l, n, rfl, h2⟩

/-- Rows of bytes. -/
theorem rows_bytes {o : List Obj} {k : Nat} : ∀ (xs : List (List V)), (∀ x ∈ xs, Ty.has o (.arr k (.int .u8)) x) → ∃ p : List UInt8, List.flatten xs = bytesA p ∧ p.length = k * xs.length
  | [], _ => ⟨[], rfl, rfl⟩
  | x :: xs, h => by
    obtain ⟨p, h1, h2⟩ := rows_bytes xs fun y hy => h y (List.mem_cons_of_mem _ hy)
    obtain ⟨q, rfl, hq⟩ := has_bytes (h x List.mem_cons_self)
    refine ⟨q ++ p, ?_, by simp [h2, hq, Nat.mul_succ]; omega⟩
    rw [List.flatten_cons, h1]
    simp [bytesA]
end AM

/- AM, part 34: the rows of a walk, in one set. -/
set_option linter.defProp false
namespace AM
open Go
def eqs {F : Nat → Option AF} {ext : ExtF} (hx : ExtMono ext) := And.intro (@eq_skip F ext hx) (And.intro (@eq_ret F ext hx) (And.intro (@eq_exit F ext hx) (And.intro (@eq_label F ext hx) (And.intro (@eq_seq F ext hx) (And.intro (@eq_region F ext hx) (And.intro (@eq_regionQ F ext hx) (And.intro (@eq_cond F ext hx) (And.intro (@eq_block F ext hx) (And.intro (@eq_scope F ext hx) (@eq_draw F ext hx))))))))))
attribute [go_sem] ops_nil ops_cons q_nil q_cons o_guard o_mv o_bin o_eqf o_un o_pick o_call o_nck o_load o_store o_alloc o_box o_build o_bslice o_faddr o_field o_iaddrA o_iaddrS o_idxA o_idxS o_slS o_slL o_slA o_toInt o_toStr o_cpS o_toBytes o_extract o_lenS o_lenL o_lenA o_copyS o_copyL stepV ok okh Option.bind_some Option.bind_none Option.map_some Option.map_none put_some put_none ev_t ev_k ev_f evs_nil evs_cons get_fput get_init get_slots enter_o enter_e enter_d List.getD_cons_zero List.getD_cons_succ finish resAll resOne resV leave V.plain V.plains binA intA strA unA eqA eqK Bool.and_true Bool.true_and Nat.le_refl and_self decide_true decide_false Bool.false_eq_true Bool.true_eq_false List.length_cons List.length_nil List.map_cons List.map_nil fillA V.cells splice List.take_succ_cons List.take_zero List.take_nil List.drop_succ_cons List.drop_zero List.drop_nil List.nil_append List.cons_append List.append_nil true_and and_true Nat.zero_add H0 enter partA Heap.new beq_self_eq_true List.getElem?_cons_zero List.getElem?_cons_succ List.getElem?_nil Heap.cellsAt Heap.exact Heap.holds Int.cast_ofNat_Int Nat.one_mul Nat.mul_one Nat.sub_zero drawA execD outD w_none w_some s_call s_callv s_nck s_load s_store s_alloc s_box s_build s_bslice s_faddr s_field s_iaddrA s_iaddrS s_idxA s_idxS s_slS s_slL s_slA s_toInt s_toStr s_cpS s_toBytes s_extract s_mkf s_mki s_lenS s_lenL s_lenA s_copyS s_copyL s_clearL s_minmax s_app s_appS s_mkSlice s_mkMap s_lookup s_mapSet s_mapDel s_lenM s_clearM s_mv s_bin s_eqf s_un s_pick KD.app newA V.only V.onlys Obj.only okL Heap.only deadKept isDead lookA V.beq V.beqs List.all_cons List.all_nil List.replicate_succ List.replicate_zero List.set_cons_zero List.set_cons_succ true_or or_true false_or or_false AOp.cls bytesA_plains bytesA_one Nat.zero_min Nat.min_zero Nat.min_self Nat.zero_le o_clearL o_minmax o_app o_appS o_mkSlice o_mkMap o_lookup o_mapSet o_mapDel o_lenM o_clearM o_mkf o_mki o_callv minmaxA maxi undefV onlys_bytes List.contains_nil Bool.or_true Bool.true_or Bool.or_false Bool.false_or Bool.not_true Bool.not_false false_and and_false Option.getD_some bft btf
end AM

/- AM, part 35: heaps that grow. -/
namespace AM
open Go
set_option linter.unusedVariables false
set_option linter.unusedSimpArgs false

section
variable {α : Type}
theorem app_get0 (o : List α) (a : α) (r : List α) : (o ++ a :: r)[o.length]? = some a := by simp
theorem app_getk (o r : List α) (k : Nat) : (o ++ r)[o.length + k]? = r[k]? := by simp [List.getElem?_append_right]
theorem app_set0 (o : List α) (a b : α) (r : List α) : (o ++ a :: r).set o.length b = o ++ b :: r := by simp
theorem app_setk (o r : List α) (k : Nat) (b : α) : (o ++ r).set (o.length + k) b = o ++ r.set k b := by
  rw [List.set_append_right _ _ (by omega)]
  simp
theorem app_old {o : List α} {l : Nat} {x : α} (h : o[l]? = some x) (r : List α) : (o ++ r)[l]? = some x := by
  rw [List.getElem?_append_left (List.getElem?_eq_some_iff.1 h).1]
  exact h
theorem get_lt {o : List α} {l : Nat} {x : α} (h : o[l]? = some x) : l < o.length := (List.getElem?_eq_some_iff.1 h).1
theorem set_other {o : List α} {l k : Nat} {x y : α} (h : o[l]? = some x) (hk : k ≠ l) : (o.set k y)[l]? = some x := by
  rw [List.getElem?_set_ne hk]; exact h
end
attribute [go_sem] app_get0 app_getk app_set0 app_setk List.append_assoc List.length_append

theorem app_gr {o : List Obj} {e d t s b m k j : Nat} {cs new : List V} (h : o[m]? = some (.cells .gr t 0 cs)) (hl : cs.length = k * s) (hj : 0 < j) (hs : 0 < s) (hr : roomOk (k + j) b = true) :
    appendA ⟨o, e, d⟩ t s b (.slice m 0 k s) j new = some (.slice o.length 0 (k + j) s, some ⟨o.set m .dead ++ [.cells .gr t 0 (cs ++ new)], e, min d m⟩) := by
  have h1 : ¬ (k + j) * s ≤ k * s := by
    have : k * s + 0 < k * s + j * s := Nat.add_lt_add_left (Nat.mul_pos hj hs) _
    rw [Nat.add_mul]
    omega
  simp only [appendA, h, if_true, hl, Nat.zero_add, Nat.le_refl, if_neg (Nat.ne_of_gt hj), if_neg h1, true_and, hr, and_self, Nat.zero_le]

theorem app_nil {o : List Obj} {e d t s b j : Nat} {new : List V} (hj : 0 < j) (hr : roomOk j b = true) :
    appendA ⟨o, e, d⟩ t s b .nils j new = some (.slice o.length 0 j s, some ⟨o ++ [.cells .gr t 0 new], e, d⟩) := by
  simp only [appendA, if_neg (Nat.ne_of_gt hj), hr, if_true, Heap.new]

/-- What was there is there. -/
structure Kp (h h' : Heap) : Prop where
  len : h.o.length ≤ h'.o.length
  get : ∀ x, x < h.o.length → h'.o[x]? = h.o[x]?
  e : h.o.length ≤ h'.e
  d : h.o.length ≤ h'.d

theorem Kp.enter (h : Heap) : Kp h (enter h) := ⟨Nat.le_refl _, fun _ _ => rfl, Nat.le_refl _, Nat.le_refl _⟩
theorem Kp.enter' (h : Heap) : Kp h ⟨h.o, h.o.length, h.o.length⟩ := Kp.enter h
theorem Kp.app {h : Heap} {o : List Obj} {e d : Nat} (k : Kp h ⟨o, e, d⟩) (r : List Obj) {e' d' : Nat} (he : h.o.length ≤ e') (hd : h.o.length ≤ d') : Kp h ⟨o ++ r, e', d'⟩ := by
  refine ⟨?_, fun x hx => ?_, he, hd⟩
  · have := k.len
    simp only [List.length_append] at *
    omega
  · have := k.len
    simp only at this ⊢
    rw [List.getElem?_append_left (by omega)]
    exact k.get x hx
theorem Kp.set {h : Heap} {o : List Obj} {e d : Nat} (k : Kp h ⟨o, e, d⟩) {l : Nat} {x : Obj} (hl : h.o.length ≤ l) {e' d' : Nat} (he : h.o.length ≤ e') (hd : h.o.length ≤ d') : Kp h ⟨o.set l x, e', d'⟩ := by
  refine ⟨by simpa using k.len, fun y hy => ?_, he, hd⟩
  simp only
  rw [List.getElem?_set_ne (by omega)]
  exact k.get y hy
theorem Kp.old {h : Heap} {o : List Obj} {e d : Nat} (k : Kp h ⟨o, e, d⟩) {l : Nat} {x : Obj} (hl : h.o[l]? = some x) : o[l]? = some x := by
  rw [← hl]
  exact k.get l (get_lt hl)

/-- What a call leaves that gives a plain value, and has turned nothing. -/
theorem leave_plain {h h' : Heap} {v : V} (k : Kp h h') (hv : v.plain = true) : leave h h' v = none := by
  unfold leave
  rw [if_pos ⟨k.e, hv⟩, if_pos k.d]
theorem leave_some {h h' : Heap} {v : V} (hv : v.plain = false) : leave h h' v = some ⟨h'.o, min h.e h'.e, min h.d h'.d⟩ := by
  unfold leave
  rw [if_neg (by simp [hv])]

theorem fin1 {a : AF} {h : Heap} {S : Nat → V} {h' : Heap} {i : Nat} (hr : a.res = [.t i]) : finish a h (some (.ret, S, h')) = some (.val (S i), leave h h' (S i)) := by
  simp only [finish, hr, resAll, resOne, resV]; rfl
theorem fin2 {a : AF} {h : Heap} {S : Nat → V} {h' : Heap} {i j : Nat} (hr : a.res = [.t i, .t j]) : finish a h (some (.ret, S, h')) = some (.val (.tuple [S i, S j]), leave h h' (.tuple [S i, S j])) := by
  simp only [finish, hr, resAll, resOne, resV]; rfl
theorem fin0 {a : AF} {h : Heap} {S : Nat → V} {h' : Heap} (hr : a.res = []) : finish a h (some (.ret, S, h')) = some (.val (.tuple []), leave h h' (.tuple [])) := by
  simp only [finish, hr, resAll, resV]
theorem fin0n {a : AF} {h : Heap} {S : Nat → V} {h' : Heap} (hr : a.res = []) : finish a h (some (.norm, S, h')) = some (.val (.tuple []), leave h h' (.tuple [])) := by
  simp only [finish, hr, resAll, resV]

/-- A call, by what holds behind the body, whatever it gives. -/
theorem To.denE {F : Nat → Option AF} {ext : ExtF} (hx : ExtMono ext) {f : Nat} {a : AF} {args : List V} {h : Heap} (hF : F f = some a) (hE : ∀ c, ext c f = none) (hn : args.length ≤ a.n) {R : Out → Option Heap → Prop}
    (hc : To F ext a.body (initS args) (AM.enter h) fun x S' h' => ∃ v oh, finish a h (some (x, S', h')) = some (v, oh) ∧ R v oh) : ∃ v oh, Den F ext f args h = some (v, oh) ∧ R v oh := by
  obtain ⟨x, S', h', e, v, oh, hf, hr⟩ := hc
  exact ⟨v, oh, Den_call hx h hF hE hn e hf, hr⟩

theorem To.unseq {F : Nat → Option AF} {ext : ExtF} (hx : ExtMono ext) {a b : AC} {S : Nat → V} {h : Heap} {Q : Ex → (Nat → V) → Heap → Prop} (hc : To F ext (.seq a b) S h Q) : To F ext a S h (andThen (fun S' h' => To F ext b S' h' Q) Q) := by
  obtain ⟨x, S', h', e, q⟩ := hc
  rw [eq_seq hx] at e
  cases ha : Run F ext a S h with
  | none => rw [ha] at e; cases e
  | some r =>
    obtain ⟨x1, S1, h1⟩ := r
    rw [ha] at e
    cases x1 with
    | norm => exact ⟨_, _, _, ha, _, _, _, e, q⟩
    | _ => cases e; exact ⟨_, _, _, ha, q⟩
end AM

