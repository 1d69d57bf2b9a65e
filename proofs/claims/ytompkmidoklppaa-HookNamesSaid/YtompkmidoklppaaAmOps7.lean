/- AM, part 12: new slices; appends. -/
import Derived.Test.YtompkmidoklppaaAmOps6
namespace AM
open Go
set_option linter.unusedVariables false
set_option linter.unusedSimpArgs false
set_option linter.unusedSectionVars false

section
variable {P : Program} {ι : Map} {σ : Type} [Slots σ] {h : Heap} {w : World} {S : σ} {n : Nat} {a : Act}

theorem info_bytes {e b : Nat} (hb : bytesOf P e = some b) : ∃ i, P.info? e = some i ∧ i.bytes = b := by
  unfold bytesOf at hb
  cases hi : P.info? e with
  | none => simp [hi] at hb
  | some i => simp only [hi, Option.map_some, Option.some.injEq] at hb; exact ⟨i, rfl, hb⟩

theorem wrap_i64_in {x : Int} (h0 : 0 ≤ x) (h1 : x ≤ (ok1 : Int)) : IntKind.i64.wrap x = x := by
  rw [IntKind.wrap_i64]
  have : (ok1 : Int) = 281474976710656 := rfl
  omega

theorem good_mkSlice (hr : HR ι h.o w) (hs : SR ι S n a.tmps h.o.length) {d : Option Nat} {t e s b ty : Nat} {pos : String} {af : Array Edge} {g : Option (Nat × Bool)} {x y : Operand} {x' y' : Opd} (hx : trOpd x = some x') (hy : trOpd y = some y')
    (hu : P.underlying t = some (.slice e)) (hsz : szOf P e = some s) (hb : bytesOf P e = some b) {z : V} (hz : zeroOf P e = some z) (h0 : 0 < s) (hzl : z.cells.length = s)
    {k1 k2 : IntKind} {ln cp : Int} (hl : x'.ev S = .int k1 ln) (hc : y'.ev S = .int k2 cp) (c1 : 0 ≤ ln) (c2 : ln ≤ cp) (c3 : cp * b ≤ ok1) (c4 : cp ≤ ok1) :
    Good P a ⟨d, .makeSlice t x y, ty, pos, af, g⟩ ι h w (.slice h.o.length 0 ln.toNat s) (some (h.new (.cells .ex e 0 (reps z.cells cp.toNat)))) := by
  obtain ⟨z1, z2⟩ := zero_run (ι := ι) hz w
  obtain ⟨i, hi, rfl⟩ := info_bytes hb
  obtain ⟨m, rfl⟩ := Int.eq_ofNat_of_zero_le (show 0 ≤ cp by omega)
  obtain ⟨q, rfl⟩ := Int.eq_ofNat_of_zero_le c1
  have e1 : IntKind.i64.wrap (Int.ofNat m) = Int.ofNat m := wrap_i64_in (by simp) c4
  simp only [Int.ofNat_eq_natCast] at e1 c3 c4 c2 hl hc
  have e2 : IntKind.i64.wrap (q : Int) = (q : Int) := wrap_i64_in (by simp) (by omega)
  have hpz := reps_plains z.cells (V.cells_plains _ z2) m
  obtain ⟨κ, w', k1, k2, k3⟩ := newRow_ok (P := P) hr e (reps z.cells m) (V.scs_of_plains _ _ hpz)
  simp only [Int.toNat_natCast, Int.ofNat_eq_natCast]
  have hbig : ¬ (((m : Int) < 0 || decide ((i.bytes : Int) * m > 2 ^ 48)) || decide ((q : Int) < 0) || decide ((q : Int) > m)) = true := by
    have : (i.bytes : Int) * m = m * i.bytes := Int.mul_comm _ _
    have h48 : (ok1 : Int) = 2 ^ 48 := rfl
    simp
    omega
  refine ⟨κ, w', _, ?_, .inl rfl, k2, by simp [Heap.new, V.sc], fun h => by simp at h⟩
  have hti : (typeInfo e).run P w = .ok i w := by simp [typeInfo, hi]
  have hval : (V.slice h.o.length 0 q s).real κ = .slice (some ⟨(κ h.o.length).blk, (κ h.o.length).base, none⟩) q m := by
    simp only [V.real, Nat.add_zero, Nat.sub_zero, k3, reps_length, hzl, Nat.mul_div_cancel _ h0]
  rw [hval]
  by_cases hm0 : m * s = 0
  · have hm : m = 0 := by rcases Nat.mul_eq_zero.1 hm0 with h | h <;> omega
    subst hm
    have hz2 : (Array.map (fun x => (#[] : Array Value)[x % (#[] : Array Value).size]!) (Array.range (0 * s))) = (V.reals ι (reps z.cells 0)).toArray := by simp [reps, V.reals]
    simp only [execOp, Instr.makeSlice, Sem.run_bind, run_underlying hu, Result.andThen_ok, ev_ok hs hx, ev_ok hs hy, hl, hc, V.real, asInt, asIntOf, Sem.run_pure, hti, e1, e2, if_neg hbig, run_askRoom, sizeOf_run hsz, Int.toNat_natCast, if_pos hm0, hz2, k1]
  · have hz2 := zeros_eq (ι := ι) z.cells m (by omega)
    rw [hzl] at hz2
    simp only [execOp, Instr.makeSlice, Sem.run_bind, run_underlying hu, Result.andThen_ok, ev_ok hs hx, ev_ok hs hy, hl, hc, V.real, asInt, asIntOf, Sem.run_pure, hti, e1, e2, if_neg hbig, run_askRoom, sizeOf_run hsz, Int.toNat_natCast, if_neg hm0, z1, V.cells_real, hz2, k1]

theorem growBy_le (m : Nat) : ∀ (r c : Nat), c ≤ 2 * m + 1024 → Builtin.growBy m r c ≤ 2 * m + 1024
  | 0, c, h => h
  | r + 1, c, h => by
    unfold Builtin.growBy
    split
    · exact h
    · exact growBy_le m r _ (by omega)

theorem nextcap_le (m c : Nat) (h : c < m) : Builtin.nextslicecap m c ≤ 2 * m + 1024 := by
  unfold Builtin.nextslicecap
  split
  · omega
  · split
    · omega
    · exact growBy_le m 4 c (by omega)

/-- The growing road of append, as it runs. -/
theorem run_append_grow {e s b ty : Nat} {t u : Nat} {ats : Array Nat} (ha : ats[0]? = some t) (hu : P.underlying t = some (.slice e)) (hsz : szOf P e = some s) (hb : bytesOf P e = some b) {z : V} (hz : zeroOf P e = some z)
    (ha1 : ats[1]? = some u) (hnz : P.underlying u = some .string ∨ ∃ e', P.underlying u = some (.slice e')) {args : Array Value} {base : Option Addr} {sl sc k : Nat} {y : Value} (h0 : args[0]? = some (.slice base sl sc)) (h1 : args[1]? = some y)
    (hlen : ∀ w, (Builtin.lenOf y).run P w = .ok k w) {old new : List V} (hold : ∀ w', w'.heap = w.heap → (Builtin.firstCells s sl (.slice base sl sc)).run P w' = .ok (V.reals ι old).toArray w') (hnew : ∀ w', w'.heap = w.heap → (Builtin.firstCells s k y).run P w' = .ok (V.reals ι new).toArray w')
    (hcap : sc < sl + k) (hroom : roomOk (sl + k) b = true) (hol : old.length = sl * s) (hnl : new.length = k * s) (hr : HR ι h.o w) (hos : V.scs h.o.length old) (hns : V.scs h.o.length new) (bs : Array Bool) :
    ∃ κ w' c, (builtin .append ats ty bs args).run P w = .ok (.value (.slice (some ⟨(κ h.o.length).blk, 0, none⟩) (sl + k) c)) w' ∧ Nx ι h w κ (h.new (.cells .gr e 0 (old ++ new))) w' ∧ (κ h.o.length).base = 0 ∧
      (κ h.o.length).size = (old ++ new).length + (c - (sl + k)) * z.cells.length ∧ sl + k ≤ c ∧ (κ h.o.length).blk = w.heap.size := by
  obtain ⟨i, hi, rfl⟩ := info_bytes hb
  have hti : ∀ w, (typeInfo e).run P w = .ok i w := fun w => by simp [typeInfo, hi]
  let q := Question.appendCap (sl + k) sc e
  let c := q.cut (w.tape w.drawn q)
  let w1 : World := { w with drawn := w.drawn + 1 }
  have hc : sl + k ≤ c := by show sl + k ≤ sl + k + _; omega
  have hn1 : Nx ι h w ι h w1 := Nx.drew hr rfl rfl rfl rfl
  obtain ⟨z1, z2⟩ := zero_run (ι := ι) hz w1
  let rest : List Value := V.reals ι (reps z.cells (c - (sl + k)))
  have hsc2 : V.scs (h.o.length + 1) (old ++ new) := V.scs_mono (Nat.le_succ _) _ (scs_append.2 ⟨hos, hns⟩)
  have hn2 := newCells_sound hn1.hr .gr (by simp) e (old ++ new) rest hsc2 (0, 0) (by simp) (by simp)
  simp only at hn2
  rw [V.reals_agree (Map.agree_upd ι h.o.length _) (old ++ new) (scs_append.2 ⟨hos, hns⟩)] at hn2
  have hbound : ¬ (Builtin.nextslicecap (sl + k) sc * i.bytes > 2 ^ 48) := by
    have h1 := nextcap_le (sl + k) sc hcap
    have h2 : (2 * (sl + k) + 1024) * i.bytes ≤ ok1 := (of_decide_eq_true hroom).1
    have h3 := Nat.mul_le_mul_right i.bytes h1
    have : ok1 = 2 ^ 48 := rfl
    omega
  refine ⟨_, _, c, ?_, hn1.trans hn2, by rw [Map.upd_same], ?_, hc, by rw [Map.upd_same]⟩
  · have hnb : ¬ (sl + k ≤ sc) := by omega
    have hi64 : ¬ (((sl + k : Nat) : Int) > IntKind.i64.max) := by
      have h2 : sl + k ≤ ok1 := (of_decide_eq_true hroom).2
      have h3 : IntKind.i64.max = 9223372036854775807 := by decide
      have h4 : ok1 = 281474976710656 := rfl
      omega
    have hz3 : Builtin.zeroCells (V.reals ι z.cells).toArray (c - (sl + k)) = rest.toArray := by
      by_cases hzl : 0 < z.cells.length
      · exact zeroCells_eq z.cells _ hzl
      · have hz0 : z.cells = [] := List.eq_nil_of_length_eq_zero (by omega)
        have : ∀ k, reps ([] : List V) k = [] := by intro k; induction k with | zero => rfl | succ k ih => simp [reps, ih]
        simp only [rest, hz0, this, V.reals, Builtin.zeroCells]
        simp
    have hsum : ¬ (((sl + k : Nat) : Int) > IntKind.i64.max ∧ (False ∨ i.bytes = 0)) := fun hx => hi64 hx.1
    have hw1 : w1.heap = w.heap := rfl
    have hfin : (V.reals ι old).toArray ++ (V.reals ι new).toArray ++ rest.toArray = (V.reals ι (old ++ new) ++ rest).toArray := by
      simp only [V.reals_eq, List.map_append]
      apply Array.ext'
      simp
    rcases hnz with hd | ⟨e', hd⟩ <;>
    · simp only [builtin, Builtin.append_, ha, h0, h1, ha1, Sem.run_bind, run_underlying hu, run_underlying hd, Result.andThen_ok, sizeOf_run hsz, Sem.run_pure, Bool.false_eq_true, if_false, hlen, if_neg hnb, hti, if_neg hsum, if_neg hbound, run_choose]
      rw [if_neg (by simp [Question.forced])]
      simp only [Result.andThen_ok, run_askRoom, Bool.not_false, if_true]
      rw [hold w1 hw1]
      simp only [Result.andThen_ok]
      rw [hnew w1 hw1]
      simp only [Result.andThen_ok]
      rw [z1]
      simp only [Result.andThen_ok, V.cells_real, newRow, Sem.run_bind, run_newObj, Sem.run_pure]
      rw [hz3, hfin, Map.upd_same]
      rfl
  · rw [Map.upd_same]
    simp only [rest, V.reals_eq, List.length_map, reps_length]

end
end AM
