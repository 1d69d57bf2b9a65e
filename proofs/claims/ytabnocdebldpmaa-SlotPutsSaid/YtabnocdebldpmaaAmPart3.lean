/- Own texts, joined: AmBits, AmWp, AmExt, AmExt2, AmSim, AmPlain. -/
import Derived.Test.YtabnocdebldpmaaAmPart2
/- AM, part 21: plain laws of numbers. -/
namespace AM
open Go
set_option linter.unusedVariables false

theorem wrap_u64 {n : Int} (h0 : 0 ≤ n) (h1 : n < 18446744073709551616) : IntKind.u64.wrap n = n := by
  simp only [IntKind.wrap, IntKind.bits, IntKind.signed]
  simp
  omega
theorem wrap_u8 {n : Int} (h0 : 0 ≤ n) (h1 : n < 256) : IntKind.u8.wrap n = n := by
  simp only [IntKind.wrap, IntKind.bits, IntKind.signed]
  simp
  omega
theorem wrap_u8_mod (n : Int) : IntKind.u8.wrap n = n % 256 := by
  simp only [IntKind.wrap, IntKind.bits, IntKind.signed]
  simp
theorem wrap_u64_mod (n : Int) : IntKind.u64.wrap n = n % 18446744073709551616 := by
  simp only [IntKind.wrap, IntKind.bits, IntKind.signed]
  simp
theorem wrap_i64_eq (n : Int) : IntKind.i64.wrap n = if 9223372036854775808 ≤ n % 18446744073709551616 then n % 18446744073709551616 - 18446744073709551616 else n % 18446744073709551616 := by
  simp only [IntKind.wrap, IntKind.bits, IntKind.signed]
  simp
theorem wrap_i64 {n : Int} (h0 : -9223372036854775808 ≤ n) (h1 : n < 9223372036854775808) : IntKind.i64.wrap n = n := by
  rw [wrap_i64_eq]; split <;> omega
/-- Back and forth between the two kinds of 64 bits. -/
theorem wrap_i64_u64 {n : Int} (h0 : -9223372036854775808 ≤ n) (h1 : n < 9223372036854775808) : IntKind.i64.wrap (IntKind.u64.wrap n) = n := by
  rw [wrap_u64_mod, wrap_i64_eq]; split <;> omega
theorem wrap_i64_inj {a b : Int} (ha : 0 ≤ a) (ha' : a < 18446744073709551616) (hb : 0 ≤ b) (hb' : b < 18446744073709551616) (h : IntKind.i64.wrap a = IntKind.i64.wrap b) : a = b := by
  rw [wrap_i64_eq, wrap_i64_eq] at h; split at h <;> split at h <;> omega

theorem or_add {a c : Nat} (hc : c < 256) (h : a * 256 + c < 18446744073709551616) : bits .or .u64 ((a * 256 : Nat) : Int) (c : Int) = ((a * 256 + c : Nat) : Int) := by
  have e : a * 256 ||| c = a * 256 + c := by
    have h1 : c < 2 ^ 8 := hc
    have := Nat.shiftLeft_add_eq_or_of_lt h1 a
    rw [Nat.shiftLeft_eq] at this
    exact this.symm
  unfold bits
  have ha : (BitVec.ofInt IntKind.u64.bits ((a * 256 : Nat) : Int)).toNat = a * 256 := by
    simp only [IntKind.bits, BitVec.ofInt_natCast, BitVec.toNat_ofNat]
    omega
  have hcc : (BitVec.ofInt IntKind.u64.bits (c : Int)).toNat = c := by
    simp only [IntKind.bits, BitVec.ofInt_natCast, BitVec.toNat_ofNat]
    omega
  simp only [BitVec.toNat_or, ha, hcc, e]
  exact wrap_u64 (by omega) (by omega)

/-- A number out of bytes, the great end first. -/
def be (l : List UInt8) : Nat := l.foldl (fun a b => a * 256 + b.toNat) 0

theorem be_snoc (l : List UInt8) (b : UInt8) : be (l ++ [b]) = be l * 256 + b.toNat := by simp [be]

theorem foldl_be (l : List UInt8) : ∀ a, l.foldl (fun a (b : UInt8) => a * 256 + b.toNat) a = a * 256 ^ l.length + be l := by
  induction l with
  | nil => intro a; simp [be]
  | cons b l ih =>
    intro a
    have e : be (b :: l) = b.toNat * 256 ^ l.length + be l := by
      have h := ih b.toNat
      unfold be
      rw [List.foldl_cons, Nat.zero_mul, Nat.zero_add]
      exact h
    rw [List.foldl_cons, ih, e, List.length_cons, Nat.pow_succ, Nat.add_mul, Nat.mul_assoc, Nat.mul_comm 256]
    omega

theorem be_cons (b : UInt8) (l : List UInt8) : be (b :: l) = b.toNat * 256 ^ l.length + be l := by
  have := foldl_be l b.toNat
  simp only [be, List.foldl_cons, Nat.zero_mul, Nat.zero_add]
  exact this

theorem be_lt (l : List UInt8) : be l < 256 ^ l.length := by
  induction l with
  | nil => simp [be]
  | cons b l ih =>
    rw [be_cons, List.length_cons, Nat.pow_succ]
    have : b.toNat < 256 := b.toNat_lt
    have h2 : (b.toNat + 1) * 256 ^ l.length ≤ 256 * 256 ^ l.length := Nat.mul_le_mul_right _ (by omega)
    rw [Nat.add_mul] at h2
    omega

theorem be_inj : ∀ {l k : List UInt8}, l.length = k.length → be l = be k → l = k
  | [], [], _, _ => rfl
  | [], _ :: _, h, _ => by simp at h
  | _ :: _, [], h, _ => by simp at h
  | b :: l, c :: k, h, he => by
    simp only [List.length_cons, Nat.add_right_cancel_iff] at h
    rw [be_cons, be_cons, h] at he
    have h1 := be_lt l
    have h2 := be_lt k
    rw [h] at h1
    have hp : 0 < 256 ^ k.length := Nat.pow_pos (by decide)
    have hb : b.toNat = c.toNat := by
      have e1 : (b.toNat * 256 ^ k.length + be l) / 256 ^ k.length = b.toNat := by
        rw [Nat.mul_comm, Nat.mul_add_div hp, Nat.div_eq_of_lt h1, Nat.add_zero]
      have e2 : (c.toNat * 256 ^ k.length + be k) / 256 ^ k.length = c.toNat := by
        rw [Nat.mul_comm, Nat.mul_add_div hp, Nat.div_eq_of_lt h2, Nat.add_zero]
      rw [← e1, ← e2, he]
    rw [hb] at he
    have : be l = be k := by omega
    rw [be_inj h this, UInt8.toNat_inj.1 hb]

/-- The n lowest bytes of a number, the great end first. -/
def tobe : Nat → Nat → List UInt8
  | 0, _ => []
  | n + 1, v => tobe n (v / 256) ++ [UInt8.ofNat v]

theorem tobe_length : ∀ (n v : Nat), (tobe n v).length = n
  | 0, _ => rfl
  | n + 1, v => by simp [tobe, tobe_length n]

theorem be_tobe : ∀ (n v : Nat), be (tobe n v) = v % 256 ^ n
  | 0, v => by simp [tobe, be, Nat.mod_one]
  | n + 1, v => by
    rw [tobe, be_snoc, be_tobe n, Nat.pow_succ]
    have : (UInt8.ofNat v).toNat = v % 256 := by simp
    rw [this, Nat.mul_comm (256 ^ n) 256, Nat.mod_mul]
    omega

theorem tobe_get : ∀ (n v i : Nat), i < n → (tobe n v)[i]? = some (UInt8.ofNat (v / 256 ^ (n - 1 - i)))
  | 0, v, i, h => by omega
  | n + 1, v, i, h => by
    rw [tobe]
    by_cases hi : i < n
    · rw [List.getElem?_append_left (by rw [tobe_length]; exact hi), tobe_get n _ i hi, Nat.div_div_eq_div_mul]
      have : 256 * 256 ^ (n - 1 - i) = 256 ^ (n + 1 - 1 - i) := by
        rw [Nat.mul_comm, ← Nat.pow_succ]; congr 1; omega
      rw [this]
    · have : i = n := by omega
      subst this
      rw [List.getElem?_append_right (by rw [tobe_length]; exact Nat.le_refl _), tobe_length, Nat.sub_self]
      simp

theorem tobe_be : ∀ (l : List UInt8), tobe l.length (be l) = l := by
  intro l
  refine be_inj (tobe_length _ _) ?_
  rw [be_tobe, Nat.mod_eq_of_lt (be_lt l)]

/-- One byte out of a word. -/
theorem shr_byte {v : Nat} {i : Nat} (hi : i < 8) (hv : v < 18446744073709551616) :
    shiftA .shr .u64 (v : Int) (8 * (7 - (i : Int))) = some (.int .u64 ((v / 256 ^ (7 - i) : Nat) : Int)) := by
  have e1 : (8 * (7 - (i : Int))).toNat = 8 * (7 - i) := by omega
  have e2 : min (8 * (7 - i)) IntKind.u64.bits = 8 * (7 - i) := by simp only [IntKind.bits]; omega
  have e3 : ((2 : Int) ^ (8 * (7 - i))) = ((256 ^ (7 - i) : Nat) : Int) := by
    have h2 : (2 : Nat) ^ (8 * (7 - i)) = 256 ^ (7 - i) := by rw [Nat.pow_mul]
    rw [← h2, Int.natCast_pow]
    rfl
  simp only [shiftA, e1, e2, e3]
  have ef : (v : Int).fdiv ((256 ^ (7 - i) : Nat) : Int) = ((v / 256 ^ (7 - i) : Nat) : Int) := by
    rw [Int.fdiv_eq_ediv_of_nonneg _ (Int.natCast_nonneg _), Int.natCast_ediv]
  rw [if_neg (show ¬ (8 * (7 - (i : Int)) < 0) by omega), ef]

theorem shl8 {x : Nat} (h : x * 256 < 18446744073709551616) : shiftA .shl .u64 (x : Int) 8 = some (.int .u64 ((x * 256 : Nat) : Int)) := by
  have e : min (Int.toNat 8) IntKind.u64.bits = 8 := by decide
  simp only [shiftA, e]
  rw [if_neg (by decide), wrap_u64 (by omega) (by omega)]
  have : ((x : Int) * 2 ^ 8) = ((x * 256 : Nat) : Int) := by omega
  rw [this]

theorem idxOf_nat {n i : Nat} {k : IntKind} (h : i < n) : idxOf n (.int k (i : Int)) = some i := by
  show (if 0 ≤ (i : Int) ∧ (i : Int) < n then some (i : Int).toNat else none) = some i
  rw [if_pos ⟨by omega, by omega⟩]
  rfl

def AC.fst : AC → AC
  | .seq a _ => a
  | c => c
def AC.snd : AC → AC
  | .seq _ b => b
  | c => c
def AC.inn : AC → AC
  | .block _ c => c
  | .loop c => c
  | .scope c => c
  | c => c

theorem wf_i64 {a : Int} (h : (Lit.int .i64 a).wf = true) : -9223372036854775808 ≤ a ∧ a < 9223372036854775808 := by
  simp only [Lit.wf, Bool.and_eq_true, decide_eq_true_eq] at h
  have h1 : IntKind.i64.min = -9223372036854775808 := by decide
  have h2 : IntKind.i64.max = 9223372036854775807 := by decide
  omega
end AM

/- AM, part 22: what holds behind code. -/
namespace AM
open Go
set_option linter.unusedVariables false
set_option linter.unusedSectionVars false

section
variable {F : Nat → Option AF} {ext : ExtF}

/-- The code comes to an end, and then Q. -/
def To (F : Nat → Option AF) (ext : ExtF) (c : AC) (S : Nat → V) (h : Heap) (Q : Ex → (Nat → V) → Heap → Prop) : Prop :=
  ∃ x S' h', Run F ext c S h = some (x, S', h') ∧ Q x S' h'

theorem To.mono {c : AC} {S : Nat → V} {h : Heap} {Q Q' : Ex → (Nat → V) → Heap → Prop} (hc : To F ext c S h Q) (hQ : ∀ x S' h', Q x S' h' → Q' x S' h') : To F ext c S h Q' := by
  obtain ⟨x, S', h', e, q⟩ := hc
  exact ⟨x, S', h', e, hQ _ _ _ q⟩

theorem To.of {c : AC} {S : Nat → V} {h : Heap} {Q : Ex → (Nat → V) → Heap → Prop} {x : Ex} {S' : Nat → V} {h' : Heap} (e : Run F ext c S h = some (x, S', h')) (q : Q x S' h') : To F ext c S h Q := ⟨x, S', h', e, q⟩

/-- On with Q, where the code has come to its end in order. -/
def andThen (Q1 : (Nat → V) → Heap → Prop) (Q : Ex → (Nat → V) → Heap → Prop) : Ex → (Nat → V) → Heap → Prop
  | .norm, S, h => Q1 S h
  | x, S, h => Q x S h

theorem To.seq (hx : ExtMono ext) {a b : AC} {S : Nat → V} {h : Heap} {Q : Ex → (Nat → V) → Heap → Prop} (ha : To F ext a S h (andThen (fun S' h' => To F ext b S' h' Q) Q)) : To F ext (.seq a b) S h Q := by
  obtain ⟨x, S', h', e, q⟩ := ha
  cases x with
  | norm =>
    obtain ⟨x2, S2, h2, e2, q2⟩ := q
    exact ⟨x2, S2, h2, Run_seq hx S h a b e e2, q2⟩
  | _ => exact ⟨_, _, _, Run_seq_out hx S h a b (by simp) e, q⟩

/-- The first part is known. -/
theorem To.sq (hx : ExtMono ext) {a b : AC} {S S1 : Nat → V} {h h1 : Heap} {Q : Ex → (Nat → V) → Heap → Prop} (ha : Run F ext a S h = some (.norm, S1, h1)) (hb : To F ext b S1 h1 Q) : To F ext (.seq a b) S h Q := by
  obtain ⟨x2, S2, h2, e2, q2⟩ := hb
  exact ⟨x2, S2, h2, Run_seq hx S h a b ha e2, q2⟩

theorem To.cond (hx : ExtMono ext) {o : Opd} {a b : AC} {S : Nat → V} {h : Heap} {Q : Ex → (Nat → V) → Heap → Prop} {t : Bool} (ho : o.ev S = .bool t) (hc : To F ext (if t = true then a else b) S h Q) : To F ext (.cond o a b) S h Q := by
  obtain ⟨x2, S2, h2, e2, q2⟩ := hc
  exact ⟨x2, S2, h2, by rw [Run_cond hx S h o a b ho]; exact e2, q2⟩

/-- Out of a block. -/
def outOf (id : Nat) (Q : Ex → (Nat → V) → Heap → Prop) : Ex → (Nat → V) → Heap → Prop
  | .exit i, S, h => if i = id then Q .norm S h else Q (.exit i) S h
  | x, S, h => Q x S h

theorem To.block (hx : ExtMono ext) {id : Nat} {c : AC} {S : Nat → V} {h : Heap} {Q : Ex → (Nat → V) → Heap → Prop} (hc : To F ext c S h (outOf id Q)) : To F ext (.block id c) S h Q := by
  obtain ⟨x, S', h', e, q⟩ := hc
  refine ⟨_, S', h', Run_block hx S h id c e, ?_⟩
  cases x with
  | exit i =>
    simp only [outOf] at q
    by_cases hi : i = id
    · simp only [hi, if_true] at q ⊢; exact q
    · simp only [hi, if_false] at q ⊢; exact q
  | _ => exact q

theorem To.scope (hx : ExtMono ext) {c : AC} {S : Nat → V} {h : Heap} {Q : Ex → (Nat → V) → Heap → Prop} (hc : To F ext c S h Q) : To F ext (.scope c) S h Q := by
  obtain ⟨x, S', h', e, q⟩ := hc
  exact ⟨x, S', h', Run_scope hx S h c e, q⟩

/-- A loop, by what each round leaves and a number that falls. -/
theorem To.loop (hx : ExtMono ext) {c : AC} {Q : Ex → (Nat → V) → Heap → Prop} (I : Nat → (Nat → V) → Heap → Prop)
    (hr : ∀ k S h, I k S h → To F ext c S h (andThen (fun S' h' => ∃ j, j < k ∧ I j S' h') Q)) : ∀ k S h, I k S h → To F ext (.loop c) S h Q := by
  intro k
  induction k using Nat.strongRecOn with
  | ind k ih =>
    intro S h hI
    obtain ⟨x, S', h', e, q⟩ := hr k S h hI
    cases x with
    | norm =>
      obtain ⟨j, hj, hI'⟩ := q
      obtain ⟨x2, S2, h2, e2, q2⟩ := ih j hj S' h' hI'
      exact ⟨x2, S2, h2, Run_loop hx S h c e e2, q2⟩
    | _ => exact ⟨_, _, _, Run_loop_out hx S h c (by simp) e, q⟩

/-- A call, by what holds behind the body. -/
theorem To.den (hx : ExtMono ext) {f : Nat} {a : AF} {args : List V} {h : Heap} (hF : F f = some a) (hE : ∀ c, ext c f = none) (hn : args.length ≤ a.n) {q : Out × Option Heap}
    (hc : To F ext a.body (initS args) (enter h) fun x S' h' => finish a h (some (x, S', h')) = some q) : Den F ext f args h = some q := by
  obtain ⟨x, S', h', e, qq⟩ := hc
  exact Den_call hx h hF hE hn e qq

theorem andThen_norm (Q1 : (Nat → V) → Heap → Prop) (Q : Ex → (Nat → V) → Heap → Prop) (S : Nat → V) (h : Heap) : andThen Q1 Q .norm S h = Q1 S h := rfl
theorem andThen_ret (Q1 : (Nat → V) → Heap → Prop) (Q : Ex → (Nat → V) → Heap → Prop) (S : Nat → V) (h : Heap) : andThen Q1 Q .ret S h = Q .ret S h := rfl
theorem andThen_exit (Q1 : (Nat → V) → Heap → Prop) (Q : Ex → (Nat → V) → Heap → Prop) (S : Nat → V) (h : Heap) (i : Nat) : andThen Q1 Q (.exit i) S h = Q (.exit i) S h := rfl
end
end AM

/- AM, part 23: functions of plain arguments and a plain result, answered by what was proved of them. -/
namespace AM
open Go
set_option linter.unusedVariables false
set_option linter.unusedSectionVars false

/-- Answers by tables: plain arguments, a plain value. -/
def plainExt (g : Nat → Option (List V → Option V)) : ExtF := fun _ f => (g f).map fun sp => fun args _ => if V.plains args = true then (sp args).map fun v => (.val v, none) else none

theorem plainExt_mono (g : Nat → Option (List V → Option V)) : ExtMono (plainExt g) := by
  intro c c' _ f
  refine ⟨fun h => h, fun k h => ⟨k, h, fun a hp r e => e⟩⟩

theorem plainExt_none {g : Nat → Option (List V → Option V)} {f : Nat} (h : g f = none) (c : CallF) : plainExt g c f = none := by simp [plainExt, h]

/-- The tables say no more than what the functions come to over an empty heap. -/
def PlainOk (F : Nat → Option AF) (E : ExtF) (g : Nat → Option (List V → Option V)) : Prop :=
  ∀ f sp args v, g f = some sp → sp args = some v → V.plains args = true → v.plain = true ∧ ∃ oh, Den F E f args H0 = some (.val v, oh)

theorem keep_nx {ι : Map} {h : Heap} {w w' : World} (hr : HR ι h.o w) (hk : Kept w w') (ht : w'.tape = w.tape) : Nx ι h w ι h w' := by
  refine ⟨⟨fun l o hl => ?_, hr.apart, hr.sc⟩, Agree.refl _ _, Nat.le_refl _, ⟨hk.1, ht, hk.2.1, hk.2.2.1, fun b hb _ => hk.2.2.2 b hb, fun b _ h => h⟩, fun _ _ _ _ h => h, ⟨Nat.le_refl _, Nat.le_refl _⟩, fun _ _ _ => rfl, fun _ _ h _ _ => h⟩
  have ho := hr.obj l o hl
  cases hlive : o.live with
  | false => cases o <;> simp_all [Obj.live, OR]
  | true => exact ho.of_block (hk.2.2.2 _ (ho.lt hlive))

theorem plainExt_sound {P : Program} (hm : P.follows .mixedOrders = true) {F : Nat → Option AF} (hF : FOk P F) {E : ExtF} (hE : ExtSound P E) {g : Nat → Option (List V → Option V)} (hg : PlainOk F E g) : ExtSound P (plainExt g) := by
  intro call _ f k args h out oh hk he
  unfold plainExt at hk
  cases hgf : g f with
  | none => rw [hgf] at hk; cases hk
  | some sp =>
    rw [hgf] at hk
    simp only [Option.map_some, Option.some.injEq] at hk
    subst hk
    simp only at he
    split at he
    · rename_i hp
      cases hsp : sp args with
      | none => rw [hsp] at he; cases he
      | some v =>
        rw [hsp] at he
        simp only [Option.map_some, Option.some.injEq, Prod.mk.injEq] at he
        obtain ⟨rfl, rfl⟩ := he
        obtain ⟨hv, oh, hd⟩ := hg f sp args v hgf hsp hp
        obtain ⟨n, hn⟩ := of_Den hd
        obtain ⟨hok, hcalls⟩ := callN_ok hm hF hE n _ _ _ _ _ hn
        refine ⟨hok, fun ι w hr hs => ?_⟩
        refine (hcalls ι w (hr0 ι w) (V.scs_of_plains _ _ hp)).mono fun e w' ⟨κ, hnx, ho⟩ => ?_
        refine ⟨ι, keep_nx hr (kept_of_nx hnx noOwn0) hnx.fr.tape, ?_, V.sc_of_plain _ v hv⟩
        rw [ho.1]
        have h0 : v.real κ = v.real ι := V.real_agree (n := 0) (fun l hl => absurd hl (Nat.not_lt_zero l)) v (V.sc_of_plain 0 v hv)
        rw [h0]
    · cases he

theorem den_plain {F : Nat → Option AF} {g : Nat → Option (List V → Option V)} {f : Nat} {sp : List V → Option V} {args : List V} {v : V} (h : Heap) (hg : g f = some sp) (hs : sp args = some v) (hp : V.plains args = true) :
    Den F (plainExt g) f args h = some (.val v, none) := by
  refine Den_of (plainExt_mono g) (k := 1) ?_
  simp only [callN, plainExt, hg, Option.map_some, if_pos hp, hs]
end AM

/- AM, part 24: functions that a contract of the model's own tells of. -/
namespace AM
open Go
set_option linter.unusedVariables false

/-- What contracts say of some functions: plain arguments, a plain value, and the world as it was. -/
def PlainCalls (P : Program) (g : Nat → Option (List V → Option V)) : Prop :=
  ∀ f sp args v, g f = some sp → sp args = some v → V.plains args = true → callOk P f = true ∧ v.plain = true ∧ ∀ w, Calls P f (V.reals noMap args).toArray w fun e w' => e = .returned (v.real noMap) ∧ w' = w

theorem plainExt_calls {P : Program} {g : Nat → Option (List V → Option V)} (hg : PlainCalls P g) : ExtSound P (plainExt g) := by
  intro call _ f k args h out oh hk he
  unfold plainExt at hk
  cases hgf : g f with
  | none => rw [hgf] at hk; cases hk
  | some sp =>
    rw [hgf] at hk
    simp only [Option.map_some, Option.some.injEq] at hk
    subst hk
    simp only at he
    split at he
    · rename_i hp
      cases hsp : sp args with
      | none => rw [hsp] at he; cases he
      | some v =>
        rw [hsp] at he
        simp only [Option.map_some, Option.some.injEq, Prod.mk.injEq] at he
        obtain ⟨rfl, rfl⟩ := he
        obtain ⟨hok, hv, hc⟩ := hg f sp args v hgf hsp hp
        refine ⟨hok, fun ι w hr hs => ?_⟩
        have hre : V.reals ι args = V.reals noMap args := V.reals_agree (n := 0) (fun l hl => absurd hl (Nat.not_lt_zero l)) args (V.scs_of_plains 0 args hp)
        rw [hre]
        refine (hc w).mono fun e w' ⟨he, hw⟩ => ?_
        subst hw
        refine ⟨ι, Nx.refl hr, ?_, V.sc_of_plain _ v hv⟩
        rw [he]
        rw [V.real_agree (n := 0) (ι := ι) (κ := noMap) (fun l hl => absurd hl (Nat.not_lt_zero l)) v (V.sc_of_plain 0 v hv)]
    · cases he
end AM

/- AM, part 25: single operations as equations, for regions whose order is open. -/
namespace AM
open Go
set_option linter.unusedVariables false
set_option linter.unusedSectionVars false

section
variable {σ : Type} [Slots σ] {call : CallF} {S : σ} {h : Heap}

theorem s_nck (x : Opd) : stepA call (.nck x) S h = match stepV (.nck x) S h with | some (v, oh) => some (.val v, oh) | none => none := rfl
theorem s_load (n : Option Nat) (x : Opd) : stepA call (.load n x) S h = match stepV (.load n x) S h with | some (v, oh) => some (.val v, oh) | none => none := rfl
theorem s_store (n : Nat) (x v : Opd) : stepA call (.store n x v) S h = match stepV (.store n x v) S h with | some (v, oh) => some (.val v, oh) | none => none := rfl
theorem s_alloc (t : Nat) (z : List V) : stepA call (.alloc t z) S h = match stepV (.alloc t z) S h with | some (v, oh) => some (.val v, oh) | none => none := rfl
theorem s_box (t : Nat) (x : Opd) : stepA call (.box t x) S h = match stepV (.box t x) S h with | some (v, oh) => some (.val v, oh) | none => none := rfl
theorem s_build (z : List V) (ps : List (Nat × Nat × Opd)) : stepA call (.build z ps) S h = match stepV (.build z ps) S h with | some (v, oh) => some (.val v, oh) | none => none := rfl
theorem s_bslice (t e : Nat) (z : List V) (ps : List (Nat × Nat × Opd)) : stepA call (.bslice t e z ps) S h = match stepV (.bslice t e z ps) S h with | some (v, oh) => some (.val v, oh) | none => none := rfl
theorem s_faddr (off : Nat) (x : Opd) : stepA call (.faddr off x) S h = match stepV (.faddr off x) S h with | some (v, oh) => some (.val v, oh) | none => none := rfl
theorem s_field (off : Nat) (n : Option Nat) (x : Opd) : stepA call (.field off n x) S h = match stepV (.field off n x) S h with | some (v, oh) => some (.val v, oh) | none => none := rfl
theorem s_iaddrA (len e : Nat) (x i : Opd) : stepA call (.iaddrA len e x i) S h = match stepV (.iaddrA len e x i) S h with | some (v, oh) => some (.val v, oh) | none => none := rfl
theorem s_iaddrS (e : Nat) (x i : Opd) : stepA call (.iaddrS e x i) S h = match stepV (.iaddrS e x i) S h with | some (v, oh) => some (.val v, oh) | none => none := rfl
theorem s_idxA (len e : Nat) (n : Option Nat) (x i : Opd) : stepA call (.idxA len e n x i) S h = match stepV (.idxA len e n x i) S h with | some (v, oh) => some (.val v, oh) | none => none := rfl
theorem s_idxS (x i : Opd) : stepA call (.idxS x i) S h = match stepV (.idxS x i) S h with | some (v, oh) => some (.val v, oh) | none => none := rfl
theorem s_slS (x : Opd) (lo hi : Option Opd) : stepA call (.slS x lo hi) S h = match stepV (.slS x lo hi) S h with | some (v, oh) => some (.val v, oh) | none => none := rfl
theorem s_slL (e : Nat) (x : Opd) (lo hi : Option Opd) : stepA call (.slL e x lo hi) S h = match stepV (.slL e x lo hi) S h with | some (v, oh) => some (.val v, oh) | none => none := rfl
theorem s_slA (len e : Nat) (x : Opd) (lo hi : Option Opd) : stepA call (.slA len e x lo hi) S h = match stepV (.slA len e x lo hi) S h with | some (v, oh) => some (.val v, oh) | none => none := rfl
theorem s_toInt (k : IntKind) (x : Opd) : stepA call (.toInt k x) S h = match stepV (.toInt k x) S h with | some (v, oh) => some (.val v, oh) | none => none := rfl
theorem s_toStr (x : Opd) : stepA call (.toStr x) S h = match stepV (.toStr x) S h with | some (v, oh) => some (.val v, oh) | none => none := rfl
theorem s_cpS (x : Opd) : stepA call (.cpS x) S h = match stepV (.cpS x) S h with | some (v, oh) => some (.val v, oh) | none => none := rfl
theorem s_toBytes (t : Nat) (x : Opd) : stepA call (.toBytes t x) S h = match stepV (.toBytes t x) S h with | some (v, oh) => some (.val v, oh) | none => none := rfl
theorem s_extract (x : Opd) (i : Nat) : stepA call (.extract x i) S h = match stepV (.extract x i) S h with | some (v, oh) => some (.val v, oh) | none => none := rfl
theorem s_mkf (f : Nat) (a b : List Opd) : stepA call (.mkf f a b) S h = match stepV (.mkf f a b) S h with | some (v, oh) => some (.val v, oh) | none => none := rfl
theorem s_mki (t : Nat) (x : Opd) : stepA call (.mki t x) S h = match stepV (.mki t x) S h with | some (v, oh) => some (.val v, oh) | none => none := rfl
theorem s_lenS (x : Opd) : stepA call (.lenS x) S h = match stepV (.lenS x) S h with | some (v, oh) => some (.val v, oh) | none => none := rfl
theorem s_lenL (x : Opd) : stepA call (.lenL x) S h = match stepV (.lenL x) S h with | some (v, oh) => some (.val v, oh) | none => none := rfl
theorem s_lenA (n : Nat) : stepA call (.lenA n) S h = match stepV (.lenA n) S h with | some (v, oh) => some (.val v, oh) | none => none := rfl
theorem s_copyS (x y : Opd) : stepA call (.copyS x y) S h = match stepV (.copyS x y) S h with | some (v, oh) => some (.val v, oh) | none => none := rfl
theorem s_copyL (e : Nat) (x y : Opd) : stepA call (.copyL e x y) S h = match stepV (.copyL e x y) S h with | some (v, oh) => some (.val v, oh) | none => none := rfl
theorem s_clearL (e : Nat) (z : List V) (x : Opd) : stepA call (.clearL e z x) S h = match stepV (.clearL e z x) S h with | some (v, oh) => some (.val v, oh) | none => none := rfl
theorem s_minmax (mx : Bool) (xs : List Opd) : stepA call (.minmax mx xs) S h = match stepV (.minmax mx xs) S h with | some (v, oh) => some (.val v, oh) | none => none := rfl
theorem s_app (t e bytes : Nat) (z : List V) (x y : Opd) : stepA call (.app t e bytes z x y) S h = match stepV (.app t e bytes z x y) S h with | some (v, oh) => some (.val v, oh) | none => none := rfl
theorem s_appS (t bytes : Nat) (z : List V) (x y : Opd) : stepA call (.appS t bytes z x y) S h = match stepV (.appS t bytes z x y) S h with | some (v, oh) => some (.val v, oh) | none => none := rfl
theorem s_mkSlice (t e bytes : Nat) (z : List V) (l c : Opd) : stepA call (.mkSlice t e bytes z l c) S h = match stepV (.mkSlice t e bytes z l c) S h with | some (v, oh) => some (.val v, oh) | none => none := rfl
theorem s_mkMap  : stepA call (.mkMap ) S h = match stepV (.mkMap ) S h with | some (v, oh) => some (.val v, oh) | none => none := rfl
theorem s_lookup (kd : Kd) (z : V) (ok : Bool) (m k : Opd) : stepA call (.lookup kd z ok m k) S h = match stepV (.lookup kd z ok m k) S h with | some (v, oh) => some (.val v, oh) | none => none := rfl
theorem s_mapSet (kd : Kd) (m k x : Opd) : stepA call (.mapSet kd m k x) S h = match stepV (.mapSet kd m k x) S h with | some (v, oh) => some (.val v, oh) | none => none := rfl
theorem s_mapDel (kd : Kd) (m k : Opd) : stepA call (.mapDel kd m k) S h = match stepV (.mapDel kd m k) S h with | some (v, oh) => some (.val v, oh) | none => none := rfl
theorem s_lenM (m : Opd) : stepA call (.lenM m) S h = match stepV (.lenM m) S h with | some (v, oh) => some (.val v, oh) | none => none := rfl
theorem s_clearM (m : Opd) : stepA call (.clearM m) S h = match stepV (.clearM m) S h with | some (v, oh) => some (.val v, oh) | none => none := rfl
theorem s_mv (x : Opd) : stepA call (.mv x) S h = match stepV (.mv x) S h with | some (v, oh) => some (.val v, oh) | none => none := rfl
theorem s_bin (o : BinOp) (x y : Opd) : stepA call (.bin o x y) S h = match stepV (.bin o x y) S h with | some (v, oh) => some (.val v, oh) | none => none := rfl
theorem s_eqf (neg agg : Bool) (ks : List (Nat × Kd)) (x y : Opd) : stepA call (.eqf neg agg ks x y) S h = match stepV (.eqf neg agg ks x y) S h with | some (v, oh) => some (.val v, oh) | none => none := rfl
theorem s_un (o : UnOp) (x : Opd) : stepA call (.un o x) S h = match stepV (.un o x) S h with | some (v, oh) => some (.val v, oh) | none => none := rfl
theorem s_pick (c a b : Opd) : stepA call (.pick c a b) S h = match stepV (.pick c a b) S h with | some (v, oh) => some (.val v, oh) | none => none := rfl
theorem s_call (f : Nat) (args : List Opd) : stepA call (.call f args) S h = call f (evs S args) h := rfl
theorem s_callv (x : Opd) (args : List Opd) : stepA call (.callv x args) S h = match x.ev S with | .fn f first caps => call f (first ++ evs S args ++ caps) h | _ => none := rfl
theorem w_none : wantedA S none = true := rfl
theorem w_some (j : Nat) (w : Bool) : wantedA S (some (j, w)) = match Slots.get S j with | .bool b => b == w | _ => false := rfl
theorem bft : (false == true) = false := rfl
theorem btf : (true == false) = false := rfl
end
end AM

/- AM, part 26: layers of functions that are answered by what was proved of them; bytes in cells. -/
namespace AM
open Go
set_option linter.unusedVariables false
set_option linter.unusedSectionVars false

abbrev Ans := List V → Option V

/-- What is said of a function holds, of plain arguments, over an empty heap. -/
def SpOk (F : Nat → Option AF) (E : ExtF) (f : Nat) (sp : Ans) : Prop := ∀ args v, sp args = some v → V.plains args = true → v.plain = true ∧ ∃ oh, Den F E f args H0 = some (.val v, oh)

def addG (g : Nat → Option Ans) (l : List (Nat × Ans)) : Nat → Option Ans := fun k => match l.find? (fun p => p.1 == k) with
  | some p => some p.2
  | none => g k

theorem addG_sound {P : Program} (hm : P.follows .mixedOrders = true) {F : Nat → Option AF} (hF : FOk P F) {g : Nat → Option Ans} (hE : ExtSound P (plainExt g)) {l : List (Nat × Ans)} (hl : ∀ p ∈ l, SpOk F (plainExt g) p.1 p.2) : ExtSound P (plainExt (addG g l)) := by
  intro call hcall f k args h out oh hk he
  cases hf : l.find? (fun p => p.1 == f) with
  | none =>
    have hg : addG g l f = g f := by simp only [addG, hf]
    have hk' : plainExt g call f = some k := by
      rw [← hk]; simp only [plainExt, hg]
    exact hE call hcall f k args h out oh hk' he
  | some p =>
    have hp := List.mem_of_find?_eq_some hf
    have hpf : p.1 = f := by simpa using List.find?_some hf
    have hsp := hl p hp
    let g1 : Nat → Option Ans := fun j => if j = p.1 then some p.2 else none
    have h1 : PlainOk F (plainExt g) g1 := by
      intro f' sp args v hg' hs hpl
      simp only [g1] at hg'
      split at hg'
      · rename_i e
        cases hg'
        rw [e]
        exact hsp args v hs hpl
      · cases hg'
    have h2 := plainExt_sound hm hF hE h1
    refine h2 call hcall f k args h out oh ?_ he
    rw [← hk]
    simp only [plainExt, g1, addG, hf, hpf, if_true]

/-! ### Bytes -/

theorem bytesA_one (l : List UInt8) : (bytesA l).all V.one = true := by simp [bytesA, V.one]
theorem onlys_bytes (ok : Nat → Bool) (l : List UInt8) : V.onlys ok (bytesA l) = true := V.onlys_of_scs (n := 0) (fun l hl => absurd hl (Nat.not_lt_zero l)) _ (V.scs_of_plains 0 _ (bytesA_plains l))
theorem bytesA_length (l : List UInt8) : (bytesA l).length = l.length := by simp [bytesA]
theorem bytesA_take (l : List UInt8) (n : Nat) : (bytesA l).take n = bytesA (l.take n) := by simp [bytesA]
theorem bytesA_drop (l : List UInt8) (n : Nat) : (bytesA l).drop n = bytesA (l.drop n) := by simp [bytesA]
theorem bytesA_get (l : List UInt8) (n : Nat) : (bytesA l)[n]? = (l[n]?).map fun b => .int .u8 (b.toNat : Int) := by simp [bytesA]
theorem bytesA_append (l k : List UInt8) : bytesA (l ++ k) = bytesA l ++ bytesA k := by simp [bytesA]
theorem bytesA_set (l : List UInt8) (n : Nat) (b : UInt8) : (bytesA l).set n (.int .u8 (b.toNat : Int)) = bytesA (l.set n b) := by simp [bytesA, List.map_set]
theorem bytesA_reps (n : Nat) : bytesA (List.replicate n 0) = List.replicate n (.int .u8 0) := by simp [bytesA]
theorem bytesA_inj {l k : List UInt8} (h : bytesA l = bytesA k) : l = k := by
  unfold bytesA at h
  refine List.map_inj_right ?_ |>.1 h
  intro a b hab
  simp only [V.int.injEq, true_and, Int.ofNat_inj] at hab
  exact UInt8.toNat_inj.1 hab

/-- Bytes laid over bytes. -/
def lay (p : List UInt8) (i : Nat) (s : List UInt8) : List UInt8 := p.take i ++ s ++ p.drop (i + s.length)

/-- So many bytes 0. -/
def zs (n : Nat) : List UInt8 := List.replicate n 0
theorem zs_length (n : Nat) : (zs n).length = n := by simp [zs]
theorem zs_get {n i : Nat} (h : i < n) : (zs n)[i]? = some 0 := by simp [zs, h]
theorem lay_all {p q : List UInt8} (h : p.length = q.length) : lay p 0 q = q := by simp [lay, h]
def z64 : List V := bytesA (zs 64)
theorem z64_eq : z64 = bytesA (zs 64) := rfl
def z16 : List V := bytesA (zs 16)
theorem z16_eq : z16 = bytesA (zs 16) := rfl

theorem lay_length {p s : List UInt8} {i : Nat} (h : i + s.length ≤ p.length) : (lay p i s).length = p.length := by simp [lay]; omega
theorem splice_bytes (p : List UInt8) (i : Nat) (s : List UInt8) : splice (bytesA p) i (bytesA s) = bytesA (lay p i s) := by
  simp [splice, lay, bytesA]

theorem strOf_bytes : ∀ s : List UInt8, strOf (bytesA s) = some s
  | [] => rfl
  | b :: r => by
    have := strOf_bytes r
    unfold bytesA at this ⊢
    simp only [List.map_cons, strOf, this]
    simp

def rdB : List V → Option (List UInt8)
  | [] => some []
  | .int .u8 n :: r => match rdB r with
    | some s => if 0 ≤ n ∧ n < 256 then some (UInt8.ofNat n.toNat :: s) else none
    | none => none
  | _ => none

theorem rdB_bytes : ∀ s : List UInt8, rdB (bytesA s) = some s
  | [] => rfl
  | b :: r => by
    have := rdB_bytes r
    have hb := b.toNat_lt
    unfold bytesA at this ⊢
    simp only [List.map_cons, rdB, this]
    rw [if_pos (by omega)]
    simp

theorem of_rdB : ∀ {cs : List V} {s : List UInt8}, rdB cs = some s → cs = bytesA s
  | [], s, h => by simp only [rdB, Option.some.injEq] at h; subst h; rfl
  | v :: r, s, h => by
    unfold rdB at h
    split at h
    · rename_i heq; cases heq
    · rename_i n r' heq
      cases heq
      split at h
      · rename_i s' hs'
        split at h
        · rename_i hn
          simp only [Option.some.injEq] at h; subst h
          rw [of_rdB hs']
          have : ((UInt8.ofNat n.toNat).toNat : Int) = n := by
            have hq : (UInt8.ofNat n.toNat).toNat = n.toNat := by simp; omega
            rw [hq]; omega
          simp only [bytesA, List.map_cons, this]
        · cases h
      · cases h
    · cases h

/-- An array of bytes as an argument. -/
def pageOf (n : Nat) : V → Option (List UInt8)
  | .agg cs => match rdB cs with
    | some p => if p.length = n then some p else none
    | none => none
  | _ => none
theorem pageOf_bytes {p : List UInt8} {n : Nat} (h : p.length = n) : pageOf n (.agg (bytesA p)) = some p := by simp [pageOf, rdB_bytes, h]
theorem of_pageOf {v : V} {p : List UInt8} {n : Nat} (h : pageOf n v = some p) : v = .agg (bytesA p) ∧ p.length = n := by
  unfold pageOf at h
  split at h
  · split at h
    · rename_i cs q hq
      split at h
      · rename_i hl
        simp only [Option.some.injEq] at h; subst h
        exact ⟨by rw [of_rdB hq], hl⟩
      · cases h
    · cases h
  · cases h

section
variable {o : List Obj} {e d : Nat}
theorem gets_all {l t fz n : Nat} {k : CK} {cs : List V} (ho : o[l]? = some (.cells k t fz cs)) (hn : cs.length = n) : (⟨o, e, d⟩ : Heap).gets l 0 n = some cs := by
  simp only [Heap.gets, ho]
  split
  · rename_i h0
    rw [h0] at hn
    rw [List.length_eq_zero_iff.1 hn]
  rw [if_pos (by omega)]
  simp [← hn]
theorem gets_bytes {l t fz i n : Nat} {k : CK} {p : List UInt8} (ho : o[l]? = some (.cells k t fz (bytesA p))) (hn : i + n ≤ p.length) : (⟨o, e, d⟩ : Heap).gets l i n = some (bytesA ((p.drop i).take n)) := by
  simp only [Heap.gets, ho, bytesA_length]
  split
  · rename_i h0
    subst h0
    simp [bytesA]
  · try rw [if_pos hn]
    rw [bytesA_drop, bytesA_take]
theorem get_bytes {l t fz i : Nat} {k : CK} {p : List UInt8} {b : UInt8} (ho : o[l]? = some (.cells k t fz (bytesA p))) (hb : p[i]? = some b) : (⟨o, e, d⟩ : Heap).get l i = some (.int .u8 (b.toNat : Int)) := by
  simp only [Heap.get, ho, bytesA_get, hb, Option.map_some]
theorem sets_bytes {l t i : Nat} {k : CK} {p s : List UInt8} (ho : o[l]? = some (.cells k t 0 (bytesA p))) (hk : k ≠ .ro) (hn : i + s.length ≤ p.length) : (⟨o, e, d⟩ : Heap).sets l i (bytesA s) = some ⟨o.set l (.cells k t 0 (bytesA (lay p i s))), e, min d l⟩ := by
  simp only [Heap.sets, ho, bytesA_length]
  rw [if_pos ⟨hk, Nat.zero_le _, hn, bytesA_one s⟩, if_pos (bytesA_plains s), splice_bytes]
theorem set_byte {l t i : Nat} {k : CK} {p : List UInt8} (ho : o[l]? = some (.cells k t 0 (bytesA p))) (hk : k ≠ .ro) (hn : i < p.length) (b : UInt8) : (⟨o, e, d⟩ : Heap).set l i (.int .u8 (b.toNat : Int)) = some ⟨o.set l (.cells k t 0 (bytesA (p.set i b))), e, min d l⟩ := by
  simp only [Heap.set, ho, bytesA_length]
  rw [if_pos ⟨hk, Nat.zero_le _, hn, rfl⟩]
  simp only [V.plain, if_true, bytesA_set]
end
end AM

