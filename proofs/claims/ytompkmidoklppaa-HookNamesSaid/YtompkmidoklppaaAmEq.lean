/- AM, part 6: '==' on flat values. -/
import Derived.Test.YtompkmidoklppaaAmOps
namespace AM
open Go
set_option linter.unusedVariables false
set_option linter.unusedSimpArgs false
set_option linter.unusedSectionVars false

section
variable {P : Program} {ι : Map}

theorem kdsOf_append (a b : List (Nat × Kd)) : kdsOf (a ++ b) = kdsOf a ++ kdsOf b := by
  induction a with
  | nil => rfl
  | cons x r ih => obtain ⟨n, k⟩ := x; simp [kdsOf, ih]

theorem eqKs_len : ∀ {ks : List Kd} {xs ys : List V} {b : Bool}, eqKs ks xs ys = some b → xs.length = ks.length ∧ ys.length = ks.length
  | [], [], [], _, _ => ⟨rfl, rfl⟩
  | k :: ks, x :: xs, y :: ys, b, h => by
    simp only [eqKs] at h
    split at h
    · rename_i u v hu hv
      obtain ⟨a1, a2⟩ := eqKs_len hv
      exact ⟨by simp [a1], by simp [a2]⟩
    · simp at h
  | [], [], _ :: _, _, h | [], _ :: _, _, _, h | _ :: _, [], _, _, h | _ :: _, _ :: _, [], _, h => by simp [eqKs] at h

theorem eqKs_append : ∀ {a c : List Kd} {xs ys : List V} {b : Bool}, eqKs (a ++ c) xs ys = some b →
    ∃ p q, eqKs a (xs.take a.length) (ys.take a.length) = some p ∧ eqKs c (xs.drop a.length) (ys.drop a.length) = some q ∧ b = (p && q)
  | [], c, xs, ys, b, h => ⟨true, b, by simp [eqKs], by simpa using h, by simp⟩
  | k :: a, c, x :: xs, y :: ys, b, h => by
    simp only [List.cons_append, eqKs] at h
    split at h
    · rename_i u v hu hv
      obtain ⟨p, q, h1, h2, h3⟩ := eqKs_append hv
      simp only [Option.some.injEq] at h
      refine ⟨u && p, q, ?_, by simpa using h2, by rw [← h, h3, Bool.and_assoc]⟩
      simp only [List.length_cons, List.take_succ_cons, eqKs, hu, h1]
    · simp at h
  | k :: a, c, [], _, _, h | k :: a, c, _ :: _, [], _, h => by simp [eqKs] at h

/-- A value of a type out of its cells. -/
def mkV (P : Program) (t : Nat) (cs : List Value) : Value :=
  match P.underlying t with
  | some d => if isAggD d = true then .agg cs.toArray else cs.getD 0 undef
  | none => undef

theorem isAgg_run {t : Nat} {d : TypeDesc} (ht : P.underlying t = some d) (w : World) : (isAgg t).run P w = .ok (isAggD d) w := by
  unfold isAgg
  rw [Sem.run_bind, run_underlying ht w]
  cases d <;> simp [isAggD]

theorem sizeOf_run {t n : Nat} (ht : szOf P t = some n) (w : World) : (Go.sizeOf t).run P w = .ok n w := by
  unfold szOf at ht
  cases hi : P.info? t with
  | none => simp [hi] at ht
  | some i =>
    simp only [hi, Option.map_some, Option.some.injEq] at ht
    subst ht
    simp [Go.sizeOf, typeInfo, hi]

/-- A part of a flat value. -/
theorem part_run {t n : Nat} {d : TypeDesc} (ht : P.underlying t = some d) (hn : szOf P t = some n) (ha : isAggD d = true ∨ n = 1) {cs : List Value} {off : Nat} (hl : off + n ≤ cs.length) (w : World) :
    (part t cs.toArray off).run P w = .ok (mkV P t ((cs.drop off).take n)) w := by
  unfold part mkV
  rw [Sem.run_bind, isAgg_run ht w, ht]
  cases hd : isAggD d with
  | true =>
    simp only [Result.andThen_ok, if_true, Sem.run_bind, sizeOf_run hn w, Sem.run_pure, hd]
    congr 2
    apply Array.ext'
    simp [List.extract_eq_take_drop]
  | false =>
    obtain rfl : n = 1 := by simpa [hd] using ha
    have hlt : off < cs.length := by omega
    simp [hd, hlt, List.getD, List.head?_drop, List.getElem?_eq_getElem hlt, List.getElem?_take, List.getElem?_drop]

def okKd : Kd → TypeDesc → Bool
  | .b, .bool => true
  | .i, .int _ => true
  | .s, .string => true
  | _, _ => false

theorem eqK_scalar {k : Kd} {x y : V} {b : Bool} (hk : eqK k x y = some b) {t : Nat} {d : TypeDesc} (ht : P.underlying t = some d)
    (hd : okKd k d = true) (D : Nat) (w : World) :
    (Op.equalIn (D + 1) t (x.real ι) (y.real ι)).run P w = .ok b w := by
  cases k <;> cases d <;> simp [okKd] at hd <;> simp only [eqK] at hk <;> split at hk <;> first
    | (simp at hk; done)
    | (simp only [Option.some.injEq] at hk; subst hk; simp [Op.equalIn, run_underlying ht, V.real, beq_toListBytes, toList_mk]; done)
    | (split at hk
       · rename_i hkk
         subst hkk
         simp only [Option.some.injEq] at hk; subst hk; simp [Op.equalIn, run_underlying ht, V.real]
       · simp at hk)

theorem flat_len : ∀ (d t : Nat) (ks : List (Nat × Kd)), flatT P d t = some ks → szOf P t = some (kdsOf ks).length ∧ ∃ dd, P.underlying t = some dd ∧ (isAggD dd = true ∨ (kdsOf ks).length = 1)
  | 0, t, ks, h => by simp [flatT] at h
  | d + 1, t, ks, h => by
    simp only [flatT] at h
    split at h
    · rename_i hu
      split at h <;> simp at h
      rename_i hz; subst h; exact ⟨hz, _, hu, .inr rfl⟩
    · rename_i hu
      split at h <;> simp at h
      rename_i hz; subst h; exact ⟨hz, _, hu, .inr rfl⟩
    · rename_i hu
      split at h <;> simp at h
      rename_i hz; subst h; exact ⟨hz, _, hu, .inr rfl⟩
    · rename_i fs hu
      split at h
      · rename_i hc
        obtain ⟨h1, h2, h3⟩ := hc
        refine ⟨?_, _, hu, .inl rfl⟩
        rw [← h3]
        have key : ∀ (l : List Field) (off : Nat) (ks : List (Nat × Kd)), flatT.flatF (flatT P d) l = some ks → (fieldsLie P l off).isSome = true → fieldsLie P l off = some (off + (kdsOf ks).length) := by
          intro l
          induction l with
          | nil => intro off ks hk _; simp only [flatT.flatF, Option.some.injEq] at hk; subst hk; rfl
          | cons f r ih =>
            intro off ks hk hl
            simp only [flatT.flatF] at hk
            split at hk
            · split at hk
              · rename_i a b ha hb
                simp only [Option.some.injEq] at hk
                subst hk
                obtain ⟨z1, _⟩ := flat_len d f.type a ha
                simp only [fieldsLie] at hl ⊢
                split at hl
                · rename_i ho
                  rw [if_pos ho]
                  rw [z1] at hl ⊢
                  simp only at hl ⊢
                  rw [ih _ _ hb hl, kdsOf_append, List.length_append]
                  congr 1; omega
                · simp at hl
              · simp at hk
            · simp at hk
        have := key fs.toList 0 ks h (by rw [h3]; exact h2)
        rw [this, Nat.zero_add]
      · simp at h
    · rename_i m e hu
      split at h
      · rename_i ks' sa sb hks ha hb
        obtain ⟨z1, dd, z2, z3⟩ := flat_len d e ks' hks
        rw [ha] at z1
        simp only [Option.some.injEq] at z1
        split at h
        · rename_i hab
          refine ⟨?_, _, hu, .inl rfl⟩
          rw [hb, ← hab, z1]
          congr 1
          split at h
          · simp only [Option.some.injEq] at h
            subst h
            simp [kdsOf]
          · simp only [Option.some.injEq] at h
            subst h
            clear hab hb hu
            induction m with
            | zero => simp [kdsOf]
            | succ m ih => rw [List.replicate_succ, List.flatten_cons, kdsOf_append, List.length_append, ← ih, Nat.succ_mul]; omega
        · simp at h
      · simp at h
    · simp at h

theorem flat_ok : ∀ (d t : Nat) (ks : List (Nat × Kd)), flatT P d t = some ks → ∀ (D : Nat), d ≤ D → ∀ (xs ys : List V) (b : Bool) (w : World), eqKs (kdsOf ks) xs ys = some b →
    (Op.equalIn D t (mkV P t (V.reals ι xs)) (mkV P t (V.reals ι ys))).run P w = .ok b w
  | 0, t, ks, h, D, _, _, _, _, _, _ => by simp [flatT] at h
  | d + 1, t, ks, h, D, hD, xs, ys, b, w, he => by
    obtain ⟨D, rfl⟩ : ∃ E, D = E + 1 := ⟨D - 1, by omega⟩
    have one : ∀ (k : Kd), kdsOf [(1, k)] = [k] := fun k => rfl
    have sc : ∀ (k : Kd) (dd : TypeDesc), ks = [(1, k)] → P.underlying t = some dd → isAggD dd = false → okKd k dd = true →
        (Op.equalIn (D + 1) t (mkV P t (V.reals ι xs)) (mkV P t (V.reals ι ys))).run P w = .ok b w := by
      intro k dd hks hu hg hm
      subst hks
      rw [one] at he
      obtain ⟨l1, l2⟩ := eqKs_len he
      match xs, ys, l1, l2 with
      | [x], [y], _, _ =>
        simp only [eqKs] at he
        split at he
        · rename_i u v hu' hv'
          simp only [Option.some.injEq] at hv' he
          subst hv'
          simp only [Bool.and_true] at he
          subst he
          simp only [mkV, hu, hg, V.reals, List.getD, List.getElem?_cons_zero, Option.getD_some, Bool.false_eq_true, if_false]
          exact eqK_scalar hu' hu hm D w
        · simp at he
    have h0 := h
    simp only [flatT] at h
    split at h
    · rename_i hu
      split at h <;> simp at h
      exact sc _ _ h.symm hu rfl rfl
    · rename_i hu
      split at h <;> simp at h
      exact sc _ _ h.symm hu rfl rfl
    · rename_i hu
      split at h <;> simp at h
      exact sc _ _ h.symm hu rfl rfl
    · rename_i fs hu
      split at h
      · rename_i hc
        obtain ⟨h1, h2, h3⟩ := hc
        have hfo : P.fieldsOf t = fs := by simp [Program.fieldsOf, hu]
        simp only [mkV, hu, isAggD, if_true]
        rw [run_equalIn_struct w D t _ _ (by rw [hfo]; exact hu) h1, hfo]
        have key : ∀ (l : List Field) (off : Nat) (ks : List (Nat × Kd)) (b : Bool), flatT.flatF (flatT P d) l = some ks → (fieldsLie P l off).isSome = true →
            eqKs (kdsOf ks) (xs.drop off) (ys.drop off) = some b → off + (kdsOf ks).length ≤ xs.length → off + (kdsOf ks).length ≤ ys.length →
            (Op.eqFields D (V.reals ι xs).toArray (V.reals ι ys).toArray l).run P w = .ok b w := by
          intro l
          induction l with
          | nil =>
            intro off ks b hk _ hb h1 h2
            simp only [flatT.flatF, Option.some.injEq] at hk
            subst hk
            have hlen := eqKs_len hb
            simp only [kdsOf, List.length_nil] at hlen
            have e1 : xs.drop off = [] := List.eq_nil_of_length_eq_zero hlen.1
            have e2 : ys.drop off = [] := List.eq_nil_of_length_eq_zero hlen.2
            rw [e1, e2] at hb
            simp only [kdsOf, eqKs, Option.some.injEq] at hb
            subst hb
            simp [Op.eqFields]
          | cons f r ih =>
            intro off ks b hk hl hb hx hy
            simp only [flatT.flatF] at hk
            split at hk
            · rename_i hname
              split at hk
              · rename_i ka kb ha hb2
                simp only [Option.some.injEq] at hk
                subst hk
                obtain ⟨z1, dd, z2, z3⟩ := flat_len d f.type ka ha
                simp only [fieldsLie] at hl
                split at hl
                · rename_i ho
                  rw [z1] at hl
                  simp only at hl
                  rw [kdsOf_append] at hb hx hy
                  rw [List.length_append] at hx hy
                  obtain ⟨p, q, e1, e2, e3⟩ := eqKs_append hb
                  rw [List.drop_drop, List.drop_drop] at e2
                  have hp1 := part_run (P := P) z2 z1 z3 (cs := V.reals ι xs) (off := off) (by rw [V.reals_eq, List.length_map]; omega) w
                  have hp2 := part_run (P := P) z2 z1 z3 (cs := V.reals ι ys) (off := off) (by rw [V.reals_eq, List.length_map]; omega) w
                  have hq := flat_ok d f.type ka ha D (by omega) _ _ p w e1
                  have er : ∀ (zs : List V), ((V.reals ι zs).drop off).take (kdsOf ka).length = V.reals ι ((zs.drop off).take (kdsOf ka).length) := by
                    intro zs; simp only [V.reals_eq, List.map_take, List.map_drop]
                  rw [er] at hp1 hp2
                  simp only [Op.eqFields, hname, ne_eq, not_false_eq_true, if_true, Sem.run_bind, ho, hp1, hp2, hq, Result.andThen_ok]
                  cases p with
                  | false => simp [e3]
                  | true =>
                    simp only [Bool.not_true, Bool.false_eq_true, if_false]
                    rw [e3, Bool.true_and]
                    exact ih _ kb q hb2 hl e2 (by omega) (by omega)
                · simp at hl
              · simp at hk
            · simp at hk
        obtain ⟨l1, l2⟩ := eqKs_len he
        exact key fs.toList 0 ks b h (by rw [h3]; exact h2) (by simpa using he) (by omega) (by omega)
      · simp at h
    · rename_i m e hu
      split at h
      · rename_i ks' sa sb hks ha hb
        obtain ⟨z1, dd, z2, z3⟩ := flat_len d e ks' hks
        have z1' := z1
        rw [ha] at z1'
        simp only [Option.some.injEq] at z1'
        split at h
        · rename_i hab
          simp only [mkV, hu, isAggD, if_true]
          have hk2 : kdsOf ks = kdsOf (List.replicate m ks').flatten := by
            split at h
            · simp only [Option.some.injEq] at h
              subst h
              clear hab hb he h0 hu sc
              induction m with
              | zero => simp [kdsOf]
              | succ m ih =>
                rename_i m0 k0 _ _
                simp only [kdsOf, List.append_nil] at ih
                simp only [List.replicate_succ, List.flatten_cons, kdsOf_append, kdsOf, List.append_nil, ← ih, List.replicate_append_replicate]
                congr 1
                rw [Nat.succ_mul]; omega
            · simp only [Option.some.injEq] at h
              rw [h]
          rw [hk2] at he
          have key : ∀ (k i : Nat) (b : Bool), eqKs (kdsOf (List.replicate k ks').flatten) (xs.drop (i * sa)) (ys.drop (i * sa)) = some b → i * sa + k * sa ≤ xs.length → i * sa + k * sa ≤ ys.length →
              (forIn (List.range' i k) (none, PUnit.unit) (fun (j : Nat) (r : Option Bool × PUnit) => do
                let x ← part e (V.reals ι xs).toArray (j * sa)
                let y ← part e (V.reals ι ys).toArray (j * sa)
                let z ← Op.equalIn D e x y
                if (!z) = true then pure (ForInStep.done (some false, PUnit.unit)) else pure (ForInStep.yield (none, PUnit.unit))) : Sem (Option Bool × PUnit)).run P w =
                .ok ((if b = true then none else some false), PUnit.unit) w := by
            intro k
            induction k with
            | zero =>
              intro i b hb _ _
              have hlen := eqKs_len hb
              simp only [List.replicate_zero, List.flatten_nil, kdsOf, List.length_nil] at hlen
              have e1 : xs.drop (i * sa) = [] := List.eq_nil_of_length_eq_zero hlen.1
              have e2 : ys.drop (i * sa) = [] := List.eq_nil_of_length_eq_zero hlen.2
              rw [e1, e2] at hb
              simp only [List.replicate_zero, List.flatten_nil, kdsOf, eqKs, Option.some.injEq] at hb
              subst hb
              simp
            | succ k ih =>
              intro i b hb hx hy
              rw [List.replicate_succ, List.flatten_cons, kdsOf_append] at hb
              obtain ⟨p, q, e1, e2, e3⟩ := eqKs_append hb
              rw [List.drop_drop, List.drop_drop, ← z1'] at e2
              have hks1 : (k + 1) * sa = k * sa + sa := Nat.succ_mul k sa
              have his : i * sa + sa = (i + 1) * sa := (Nat.succ_mul i sa).symm
              have hp1 := part_run (P := P) z2 z1 z3 (cs := V.reals ι xs) (off := i * sa) (by rw [V.reals_eq, List.length_map]; omega) w
              have hp2 := part_run (P := P) z2 z1 z3 (cs := V.reals ι ys) (off := i * sa) (by rw [V.reals_eq, List.length_map]; omega) w
              have hq := flat_ok d e ks' hks D (by omega) _ _ p w e1
              have er : ∀ (zs : List V), ((V.reals ι zs).drop (i * sa)).take (kdsOf ks').length = V.reals ι ((zs.drop (i * sa)).take (kdsOf ks').length) := by
                intro zs; simp only [V.reals_eq, List.map_take, List.map_drop]
              rw [er] at hp1 hp2
              simp only [List.range'_succ, List.forIn_cons, Sem.run_bind, hp1, hp2, hq, Result.andThen_ok]
              cases p with
              | false => simp [e3]
              | true =>
                simp only [Bool.not_true, Bool.false_eq_true, if_false, Sem.run_pure, Result.andThen_ok]
                rw [e3, Bool.true_and]
                rw [his] at e2
                exact ih (i + 1) q e2 (by omega) (by omega)
          obtain ⟨l1, l2⟩ := eqKs_len he
          have hkl : (kdsOf (List.replicate m ks').flatten).length = m * sa := by
            clear key he hk2 hab hb h h0 hu sc l1 l2
            induction m with
            | zero => simp [kdsOf]
            | succ m ih => rw [List.replicate_succ, List.flatten_cons, kdsOf_append, List.length_append, ih, Nat.succ_mul, ← z1']; omega
          have := key m 0 b (by simpa using he) (by omega) (by omega)
          simp only [Op.equalIn, Sem.run_bind, run_underlying hu, Result.andThen_ok, sizeOf_run ha]
          rw [Std.Legacy.Range.forIn_eq_forIn_range']
          simp only [Std.Legacy.Range.size, Nat.sub_zero, Nat.add_sub_cancel, Nat.div_one]
          rw [this]
          cases b <;> simp
        · simp at h
      · simp at h
    · simp at h

theorem mkV_agg {t : Nat} {d : TypeDesc} (ht : P.underlying t = some d) (hd : isAggD d = true) (cs : List Value) : mkV P t cs = .agg cs.toArray := by simp [mkV, ht, hd]

theorem bool_real (b : Bool) : (V.bool b).real ι = .bool b := rfl

variable {σ : Type} [Slots σ] {h : Heap} {w : World} {S : σ} {n : Nat} {a : Act}

theorem good_eqs (hr : HR ι h.o w) (hs : SR ι S n a.tmps h.o.length) {d : Option Nat} {op : BinOp} (hop : op = .eql ∨ op = .neq) {t u ty : Nat} {pos : String} {af : Array Edge} {g : Option (Nat × Bool)} {x y : Operand} {x' y' : Opd}
    (hx : trOpd x = some x') (hy : trOpd y = some y') {b : Bool} (hne : ∀ X Y, op = .eql ∨ op = .neq → (x'.ev S).real ι = X → (y'.ev S).real ι = Y → (eqGuard op t x y X Y).run P w = .ok () w ∧ binOp op t X Y = (do let r ← Op.equal t X Y; pure (.bool (if op = .neq then !r else r))))
    (hv : (Op.equalIn 10000 t ((x'.ev S).real ι) ((y'.ev S).real ι)).run P w = .ok b w) :
    Good P a ⟨d, .binOp op t x y u, ty, pos, af, g⟩ ι h w (.bool (if (op == .neq) = true then !b else b)) none := by
  refine Good.same hr trivial ?_
  obtain ⟨h1, h2⟩ := hne _ _ hop rfl rfl
  simp only [execOp, Sem.run_bind, ev_ok hs hx, ev_ok hs hy, h1, h2, Result.andThen_ok, Sem.run_pure, Op.equal, Op.maxDepth, hv, V.real]
  rcases hop with rfl | rfl <;> simp
end
end AM
