/- AM, part 21: plain laws of numbers. -/
import Derived.Test.YtompkmidoklppaaAmEqn
namespace AM
open Go
set_option linter.unusedVariables false

theorem wrap_u64 {n : Int} (h0 : 0 ≤ n) (h1 : n < 18446744073709551616) : IntKind.u64.wrap n = n := by
  simp only [IntKind.wrap, IntKind.bits, IntKind.signed]
  simp
  omega
theorem wrap_u8 {n : Int} (h0 : 0 ≤ n) (h1 : n < 256) : IntKind.u8.wrap n = n := by
  simp only [IntKind.wrap, IntKind.bits, IntKind.signed]
  simp
  omega
theorem wrap_u8_mod (n : Int) : IntKind.u8.wrap n = n % 256 := by
  simp only [IntKind.wrap, IntKind.bits, IntKind.signed]
  simp
theorem wrap_u64_mod (n : Int) : IntKind.u64.wrap n = n % 18446744073709551616 := by
  simp only [IntKind.wrap, IntKind.bits, IntKind.signed]
  simp
theorem wrap_i64_eq (n : Int) : IntKind.i64.wrap n = if 9223372036854775808 ≤ n % 18446744073709551616 then n % 18446744073709551616 - 18446744073709551616 else n % 18446744073709551616 := by
  simp only [IntKind.wrap, IntKind.bits, IntKind.signed]
  simp
theorem wrap_i64 {n : Int} (h0 : -9223372036854775808 ≤ n) (h1 : n < 9223372036854775808) : IntKind.i64.wrap n = n := by
  rw [wrap_i64_eq]; split <;> omega
/-- Back and forth between the two kinds of 64 bits. -/
theorem wrap_i64_u64 {n : Int} (h0 : -9223372036854775808 ≤ n) (h1 : n < 9223372036854775808) : IntKind.i64.wrap (IntKind.u64.wrap n) = n := by
  rw [wrap_u64_mod, wrap_i64_eq]; split <;> omega
theorem wrap_i64_inj {a b : Int} (ha : 0 ≤ a) (ha' : a < 18446744073709551616) (hb : 0 ≤ b) (hb' : b < 18446744073709551616) (h : IntKind.i64.wrap a = IntKind.i64.wrap b) : a = b := by
  rw [wrap_i64_eq, wrap_i64_eq] at h; split at h <;> split at h <;> omega

theorem or_add {a c : Nat} (hc : c < 256) (h : a * 256 + c < 18446744073709551616) : bits .or .u64 ((a * 256 : Nat) : Int) (c : Int) = ((a * 256 + c : Nat) : Int) := by
  have e : a * 256 ||| c = a * 256 + c := by
    have h1 : c < 2 ^ 8 := hc
    have := Nat.shiftLeft_add_eq_or_of_lt h1 a
    rw [Nat.shiftLeft_eq] at this
    exact this.symm
  unfold bits
  have ha : (BitVec.ofInt IntKind.u64.bits ((a * 256 : Nat) : Int)).toNat = a * 256 := by
    simp only [IntKind.bits, BitVec.ofInt_natCast, BitVec.toNat_ofNat]
    omega
  have hcc : (BitVec.ofInt IntKind.u64.bits (c : Int)).toNat = c := by
    simp only [IntKind.bits, BitVec.ofInt_natCast, BitVec.toNat_ofNat]
    omega
  simp only [BitVec.toNat_or, ha, hcc, e]
  exact wrap_u64 (by omega) (by omega)

/-- A number out of bytes, the great end first. -/
def be (l : List UInt8) : Nat := l.foldl (fun a b => a * 256 + b.toNat) 0

theorem be_snoc (l : List UInt8) (b : UInt8) : be (l ++ [b]) = be l * 256 + b.toNat := by simp [be]

theorem foldl_be (l : List UInt8) : ∀ a, l.foldl (fun a (b : UInt8) => a * 256 + b.toNat) a = a * 256 ^ l.length + be l := by
  induction l with
  | nil => intro a; simp [be]
  | cons b l ih =>
    intro a
    have e : be (b :: l) = b.toNat * 256 ^ l.length + be l := by
      have h := ih b.toNat
      unfold be
      rw [List.foldl_cons, Nat.zero_mul, Nat.zero_add]
      exact h
    rw [List.foldl_cons, ih, e, List.length_cons, Nat.pow_succ, Nat.add_mul, Nat.mul_assoc, Nat.mul_comm 256]
    omega

theorem be_cons (b : UInt8) (l : List UInt8) : be (b :: l) = b.toNat * 256 ^ l.length + be l := by
  have := foldl_be l b.toNat
  simp only [be, List.foldl_cons, Nat.zero_mul, Nat.zero_add]
  exact this

theorem be_lt (l : List UInt8) : be l < 256 ^ l.length := by
  induction l with
  | nil => simp [be]
  | cons b l ih =>
    rw [be_cons, List.length_cons, Nat.pow_succ]
    have : b.toNat < 256 := b.toNat_lt
    have h2 : (b.toNat + 1) * 256 ^ l.length ≤ 256 * 256 ^ l.length := Nat.mul_le_mul_right _ (by omega)
    rw [Nat.add_mul] at h2
    omega

theorem be_inj : ∀ {l k : List UInt8}, l.length = k.length → be l = be k → l = k
  | [], [], _, _ => rfl
  | [], _ :: _, h, _ => by simp at h
  | _ :: _, [], h, _ => by simp at h
  | b :: l, c :: k, h, he => by
    simp only [List.length_cons, Nat.add_right_cancel_iff] at h
    rw [be_cons, be_cons, h] at he
    have h1 := be_lt l
    have h2 := be_lt k
    rw [h] at h1
    have hp : 0 < 256 ^ k.length := Nat.pow_pos (by decide)
    have hb : b.toNat = c.toNat := by
      have e1 : (b.toNat * 256 ^ k.length + be l) / 256 ^ k.length = b.toNat := by
        rw [Nat.mul_comm, Nat.mul_add_div hp, Nat.div_eq_of_lt h1, Nat.add_zero]
      have e2 : (c.toNat * 256 ^ k.length + be k) / 256 ^ k.length = c.toNat := by
        rw [Nat.mul_comm, Nat.mul_add_div hp, Nat.div_eq_of_lt h2, Nat.add_zero]
      rw [← e1, ← e2, he]
    rw [hb] at he
    have : be l = be k := by omega
    rw [be_inj h this, UInt8.toNat_inj.1 hb]

/-- The n lowest bytes of a number, the great end first. -/
def tobe : Nat → Nat → List UInt8
  | 0, _ => []
  | n + 1, v => tobe n (v / 256) ++ [UInt8.ofNat v]

theorem tobe_length : ∀ (n v : Nat), (tobe n v).length = n
  | 0, _ => rfl
  | n + 1, v => by simp [tobe, tobe_length n]

theorem be_tobe : ∀ (n v : Nat), be (tobe n v) = v % 256 ^ n
  | 0, v => by simp [tobe, be, Nat.mod_one]
  | n + 1, v => by
    rw [tobe, be_snoc, be_tobe n, Nat.pow_succ]
    have : (UInt8.ofNat v).toNat = v % 256 := by simp
    rw [this, Nat.mul_comm (256 ^ n) 256, Nat.mod_mul]
    omega

theorem tobe_get : ∀ (n v i : Nat), i < n → (tobe n v)[i]? = some (UInt8.ofNat (v / 256 ^ (n - 1 - i)))
  | 0, v, i, h => by omega
  | n + 1, v, i, h => by
    rw [tobe]
    by_cases hi : i < n
    · rw [List.getElem?_append_left (by rw [tobe_length]; exact hi), tobe_get n _ i hi, Nat.div_div_eq_div_mul]
      have : 256 * 256 ^ (n - 1 - i) = 256 ^ (n + 1 - 1 - i) := by
        rw [Nat.mul_comm, ← Nat.pow_succ]; congr 1; omega
      rw [this]
    · have : i = n := by omega
      subst this
      rw [List.getElem?_append_right (by rw [tobe_length]; exact Nat.le_refl _), tobe_length, Nat.sub_self]
      simp

theorem tobe_be : ∀ (l : List UInt8), tobe l.length (be l) = l := by
  intro l
  refine be_inj (tobe_length _ _) ?_
  rw [be_tobe, Nat.mod_eq_of_lt (be_lt l)]

/-- One byte out of a word. -/
theorem shr_byte {v : Nat} {i : Nat} (hi : i < 8) (hv : v < 18446744073709551616) :
    shiftA .shr .u64 (v : Int) (8 * (7 - (i : Int))) = some (.int .u64 ((v / 256 ^ (7 - i) : Nat) : Int)) := by
  have e1 : (8 * (7 - (i : Int))).toNat = 8 * (7 - i) := by omega
  have e2 : min (8 * (7 - i)) IntKind.u64.bits = 8 * (7 - i) := by simp only [IntKind.bits]; omega
  have e3 : ((2 : Int) ^ (8 * (7 - i))) = ((256 ^ (7 - i) : Nat) : Int) := by
    have h2 : (2 : Nat) ^ (8 * (7 - i)) = 256 ^ (7 - i) := by rw [Nat.pow_mul]
    rw [← h2, Int.natCast_pow]
    rfl
  simp only [shiftA, e1, e2, e3]
  have ef : (v : Int).fdiv ((256 ^ (7 - i) : Nat) : Int) = ((v / 256 ^ (7 - i) : Nat) : Int) := by
    rw [Int.fdiv_eq_ediv_of_nonneg _ (Int.natCast_nonneg _), Int.natCast_ediv]
  rw [if_neg (show ¬ (8 * (7 - (i : Int)) < 0) by omega), ef]

theorem shl8 {x : Nat} (h : x * 256 < 18446744073709551616) : shiftA .shl .u64 (x : Int) 8 = some (.int .u64 ((x * 256 : Nat) : Int)) := by
  have e : min (Int.toNat 8) IntKind.u64.bits = 8 := by decide
  simp only [shiftA, e]
  rw [if_neg (by decide), wrap_u64 (by omega) (by omega)]
  have : ((x : Int) * 2 ^ 8) = ((x * 256 : Nat) : Int) := by omega
  rw [this]

theorem idxOf_nat {n i : Nat} {k : IntKind} (h : i < n) : idxOf n (.int k (i : Int)) = some i := by
  show (if 0 ≤ (i : Int) ∧ (i : Int) < n then some (i : Int).toNat else none) = some i
  rw [if_pos ⟨by omega, by omega⟩]
  rfl

def AC.fst : AC → AC
  | .seq a _ => a
  | c => c
def AC.snd : AC → AC
  | .seq _ b => b
  | c => c
def AC.inn : AC → AC
  | .block _ c => c
  | .loop c => c
  | .scope c => c
  | c => c

theorem wf_i64 {a : Int} (h : (Lit.int .i64 a).wf = true) : -9223372036854775808 ≤ a ∧ a < 9223372036854775808 := by
  simp only [Lit.wf, Bool.and_eq_true, decide_eq_true_eq] at h
  have h1 : IntKind.i64.min = -9223372036854775808 := by decide
  have h2 : IntKind.i64.max = 9223372036854775807 := by decide
  omega
end AM
