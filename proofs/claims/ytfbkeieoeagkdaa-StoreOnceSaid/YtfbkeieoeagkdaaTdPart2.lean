/- Own texts, joined: TdQ, TdR, TdT, TdV, TdW, TdX, TdK, TdYh, TdZ, TdJna, TdJnb, TdJnc, TdJnd, TdJne, TdJnf. -/
import Derived.Test.YtfbkeieoeagkdaaTdPart1
/- Disk: calls. -/
namespace Go.Proofs.Ytfbkeieoeagkdaa
open Go AM
set_option linter.unusedSimpArgs false
set_option linter.unusedVariables false
set_option maxRecDepth 100000

theorem leave_same2 {o o' : List AM.Obj} {e d d' : Nat} {v : V} (hv : v.plain = true) (hl : o'.length = o.length) (hd : o.length ≤ d' → o' = o) : ∃ d'', (leave ⟨o, e, d⟩ ⟨o', o.length, d'⟩ v).getD ⟨o, e, d⟩ = ⟨o', e, d''⟩ ∧ min d d' ≤ d'' ∧ (o' = o ∨ d'' ≤ d') := by
  unfold leave
  simp only
  rw [if_pos ⟨Nat.le_refl _, hv⟩]
  split
  · rename_i hc
    exact ⟨d, by rw [hd hc]; rfl, Nat.min_le_left _ _, .inl (hd hc)⟩
  · exact ⟨min d d', by rw [List.take_of_length_le (by omega)]; rfl, Nat.le_refl _, .inr (Nat.min_le_right _ _)⟩

set_option maxHeartbeats 4000000 in
theorem burn_q2 {o : List AM.Obj} {e d dd t : Nat} {on down : Bool} {left : Int} {r : List V} (h : o[dd]? = some (.cells .ex t 0 (.bool on :: .bool down :: .int .i64 left :: r))) :
    ∃ v oh, Den FF E2 49 [.ptr dd 0] ⟨o, e, d⟩ = some (v, oh) ∧ v = .val (.bool (burnB on down left)) ∧ ∃ d', oh.getD ⟨o, e, d⟩ = ⟨o.set dd (.cells .ex t 0 (burnC on down left ++ r)), e, d'⟩ ∧ min d dd ≤ d' ∧ (o.set dd (.cells .ex t 0 (burnC on down left ++ r)) = o ∨ d' ≤ dd) := by
  have hl := get_lt h
  have hs : ∀ x, (o.set dd x)[dd]? = some x := fun x => List.getElem?_set_self hl
  have hid : o.set dd (.cells .ex t 0 (.bool on :: .bool down :: .int .i64 left :: r)) = o := by
    apply List.ext_getElem?
    intro i
    by_cases hi : dd = i
    · subst hi; rw [hs, h]
    · rw [List.getElem?_set_ne hi]
  refine To.denE hxE2 (f := 49) (a := af49) rfl (E2_none rfl) (Nat.le_of_ble_eq_true rfl) ?_
  have l2 : ∀ n, (2 : Nat) < n + 1 + 1 + 1 := fun n => by omega
  have l1 : ∀ n, (1 : Nat) < n + 1 + 1 + 1 := fun n => by omega
  have m2 : ∀ n, (2 : Nat) + 1 ≤ n + 1 + 1 + 1 := fun n => by omega
  have m1 : ∀ n, (1 : Nat) + 1 ≤ n + 1 + 1 + 1 := fun n => by omega
  cases down
  case true =>
    (repeat' (first | refine To.seq hxE2 ?_ | refine To.op0 hxE2 (by simp only [go_sem, eqs hxE2, reduceIte, seval, Heap.gets, Heap.sets, Heap.get, bytesA_length, bytesA_one, bytesA_plains, List.take_of_length_le, List.drop_of_length_le, Nat.add_zero, V.one, Nat.reduceLeDiff, List.all_cons, List.all_nil, ne_eq, not_false_eq_true, Nat.zero_le, h]; rfl) ?_ | refine To.nop hxE2 ?_ | (refine To.condT hxE2 ?_ ?_; focus (simp only [go_sem, eqs hxE2, reduceIte, seval, Heap.gets, Heap.sets, Heap.get, bytesA_length, bytesA_one, bytesA_plains, List.take_of_length_le, List.drop_of_length_le, Nat.add_zero, V.one, Nat.reduceLeDiff, List.all_cons, List.all_nil, ne_eq, not_false_eq_true, Nat.zero_le, h]; done)) | refine To.ret hxE2 ?_))
    refine ⟨_, _, fin1 (i := 2) rfl, by simp only [get_fput, reduceIte, Nat.reduceEqDiff]; simp [burnB], ?_⟩
    simp only [burnC, if_true, List.cons_append, List.nil_append, hid]
    obtain ⟨d2, q1, q2, q3⟩ := leave_same2 (e := e) (d := d) (d' := o.length) (v := .bool false) rfl rfl (fun _ => rfl)
    exact ⟨d2, by simp only [get_fput, reduceIte, Nat.reduceEqDiff]; exact q1, by omega, .inl trivial⟩
  cases on
  case false =>
    (repeat' (first | refine To.seq hxE2 ?_ | refine To.op0 hxE2 (by simp only [go_sem, eqs hxE2, reduceIte, seval, Heap.gets, Heap.sets, Heap.get, bytesA_length, bytesA_one, bytesA_plains, List.take_of_length_le, List.drop_of_length_le, Nat.add_zero, V.one, Nat.reduceLeDiff, List.all_cons, List.all_nil, ne_eq, not_false_eq_true, Nat.zero_le, h]; rfl) ?_ | refine To.nop hxE2 ?_ | (refine To.condT hxE2 ?_ ?_; focus (simp only [go_sem, eqs hxE2, reduceIte, seval, Heap.gets, Heap.sets, Heap.get, bytesA_length, bytesA_one, bytesA_plains, List.take_of_length_le, List.drop_of_length_le, Nat.add_zero, V.one, Nat.reduceLeDiff, List.all_cons, List.all_nil, ne_eq, not_false_eq_true, Nat.zero_le, h]; done)) | (refine To.condF hxE2 ?_ ?_; focus (simp only [go_sem, eqs hxE2, reduceIte, seval, Heap.gets, Heap.sets, Heap.get, bytesA_length, bytesA_one, bytesA_plains, List.take_of_length_le, List.drop_of_length_le, Nat.add_zero, V.one, Nat.reduceLeDiff, List.all_cons, List.all_nil, ne_eq, not_false_eq_true, Nat.zero_le, h]; done)) | refine To.ret hxE2 ?_ | refine To.skip hxE2 ?_))
    refine ⟨_, _, fin1 (i := 2) rfl, by simp only [get_fput, reduceIte, Nat.reduceEqDiff]; simp [burnB], ?_⟩
    simp only [burnC, Bool.false_eq_true, if_false, List.cons_append, List.nil_append, hid]
    obtain ⟨d2, q1, q2, q3⟩ := leave_same2 (e := e) (d := d) (d' := o.length) (v := .bool true) rfl rfl (fun _ => rfl)
    exact ⟨d2, by simp only [get_fput, reduceIte, Nat.reduceEqDiff]; exact q1, by omega, .inl trivial⟩
  (repeat' (first | refine To.seq hxE2 ?_ | refine To.op0 hxE2 (by simp only [go_sem, eqs hxE2, reduceIte, seval, Heap.gets, Heap.sets, Heap.get, bytesA_length, bytesA_one, bytesA_plains, List.take_of_length_le, List.drop_of_length_le, Nat.add_zero, V.one, Nat.reduceLeDiff, List.all_cons, List.all_nil, ne_eq, not_false_eq_true, Nat.zero_le, h, hs, List.set_set, l1, l2, m1, m2]; rfl) ?_ | refine To.op1 hxE2 (by simp only [go_sem, eqs hxE2, reduceIte, seval, Heap.gets, Heap.sets, Heap.get, bytesA_length, bytesA_one, bytesA_plains, List.take_of_length_le, List.drop_of_length_le, Nat.add_zero, V.one, Nat.reduceLeDiff, List.all_cons, List.all_nil, ne_eq, not_false_eq_true, Nat.zero_le, h, hs, List.set_set, l1, l2, m1, m2]; rfl) ?_ | refine To.nop hxE2 ?_ | (refine To.condF hxE2 ?_ ?_; focus (simp only [go_sem, eqs hxE2, reduceIte, seval, Heap.gets, Heap.sets, Heap.get, bytesA_length, bytesA_one, bytesA_plains, List.take_of_length_le, List.drop_of_length_le, Nat.add_zero, V.one, Nat.reduceLeDiff, List.all_cons, List.all_nil, ne_eq, not_false_eq_true, Nat.zero_le, h, hs, List.set_set, l1, l2, m1, m2]; done)) | refine To.ret hxE2 ?_ | refine To.skip hxE2 ?_))
  refine ⟨_, _, fin1 (i := 2) rfl, by simp only [get_fput, reduceIte, Nat.reduceEqDiff]; simp [burnB], ?_⟩
  simp only [burnC, Bool.false_eq_true, if_false, if_true, List.cons_append, List.nil_append]
  obtain ⟨d2, q1, q2, q3⟩ := leave_same2 (o := o) (o' := o.set dd (.cells .ex t 0 (.bool true :: .bool (decide (IntKind.i64.wrap (left - 1) < 0)) :: .int .i64 (IntKind.i64.wrap (left - 1)) :: r))) (e := e) (d := d) (d' := min (min o.length dd) dd) (v := .bool (!decide (IntKind.i64.wrap (left - 1) < 0))) rfl (by simp) (fun hc => by omega)
  exact ⟨d2, by simp only [get_fput, reduceIte, Nat.reduceEqDiff]; exact q1, by omega, q3.imp id (fun h => by omega)⟩

theorem z64_len : z64.length = 64 := rfl
theorem z64_drop : List.drop 64 z64 = [] := rfl
theorem z64_take : List.take 64 z64 = z64 := rfl
theorem z64_one : z64.all V.one = true := rfl
theorem z64_plains : V.plains z64 = true := rfl

def burnD (on down : Bool) (left : Int) : Bool := if down = true then down else if on = true then decide (IntKind.i64.wrap (left - 1) < 0) else down
def burnL (on down : Bool) (left : Int) : Int := if down = true then left else if on = true then IntKind.i64.wrap (left - 1) else left
theorem burnC_eq (on down : Bool) (left : Int) : burnC on down left = [.bool on, .bool (burnD on down left), .int .i64 (burnL on down left)] := by
  unfold burnC burnD burnL
  cases down <;> cases on <;> rfl

section
variable {o : List AM.Obj} {e d dd pg lm : Nat} {on down : Bool} {left : Int} {pgs : List Pg} {ca : List (Nat × Pg)}
theorem PD.lp (P : PD o dd pg lm on down left pgs ca) : pg < o.length := get_lt P.hp
theorem PD.ld (P : PD o dd pg lm on down left pgs ca) : dd < o.length := get_lt P.hd
theorem PD.ll (P : PD o dd pg lm on down left pgs ca) : lm < o.length := get_lt P.hm

theorem fin_kc {a : AF} {h : Heap} {S : Nat → V} {h' : Heap} {j l n : Nat} {cs : List V} (hr : a.res = [.c j (some n)]) (hS : S j = .ptr l 0) (hg : h'.gets l 0 n = some cs) (hp : V.plains cs = true) (k : Kp h h') : finish a h (some (.ret, S, h')) = some (.val (.agg cs), none) := by
  have h1 : resAll S h' a.res = some [.agg cs] := by
    rw [hr]; unfold resAll resOne; simp only [get_slots, hS, hg, Option.map_some, resAll]
  exact fin_k (vs := [.agg cs]) h1 rfl hp k
theorem fin_kc2 {a : AF} {h : Heap} {S : Nat → V} {h' : Heap} {j i l n : Nat} {cs : List V} {v : V} (hr : a.res = [.c j (some n), .t i]) (hS : S j = .ptr l 0) (hi : S i = v) (hg : h'.gets l 0 n = some cs) (hp : V.plains cs = true) (hv : v.plain = true) (k : Kp h h') : finish a h (some (.ret, S, h')) = some (.val (.tuple [.agg cs, v]), none) := by
  have h1 : resAll S h' a.res = some [.agg cs, v] := by
    rw [hr]; unfold resAll resOne; simp only [get_slots, hS, hg, hi, Option.map_some, resAll, resOne]
  exact fin_k (vs := [.agg cs, v]) h1 rfl (by simp [V.plain, V.plains, hp, hv]) k
theorem kp_app {o r : List AM.Obj} {e d e' d' : Nat} (he : o.length ≤ e') (hd : o.length ≤ d') : Kp ⟨o, e, d⟩ ⟨o ++ r, e', d'⟩ := Kp.app (Kp.enter' ⟨o, e, d⟩) r he hd
theorem gets_app {o : List AM.Obj} {e d t : Nat} {cs : List V} (h : cs.length = 64) : (⟨o ++ [.cells .ex t 0 cs], e, d⟩ : Heap).gets o.length 0 64 = some cs := by
  simp only [Heap.gets, app_get0, Nat.zero_add, h, Nat.le_refl, if_true, List.drop_zero]
  rw [if_neg (by decide), List.take_of_length_le (by omega)]

theorem PD.app (P : PD o dd pg lm on down left pgs ca) (r : List AM.Obj) : PD (o ++ r) dd pg lm on down left pgs ca := ⟨app_old P.hd r, app_old P.hp r, app_old P.hm r, P.p64, P.c64, P.nd⟩
theorem gets_app2 {o : List AM.Obj} {e d t : Nat} {cs : List V} {r : List AM.Obj} (h : cs.length = 64) : (⟨o ++ (.cells .ex t 0 cs :: r), e, d⟩ : Heap).gets o.length 0 64 = some cs := by
  simp only [Heap.gets, app_get0, Nat.zero_add, h, Nat.le_refl, if_true, List.drop_zero]
  rw [if_neg (by decide), List.take_of_length_le (by omega)]

set_option maxHeartbeats 4000000 in
theorem lasts_q (P : PD o dd pg lm on down left pgs ca) (i : Int) : Den FF E2 14 [.ptr dd 0, .int .i64 i] ⟨o, e, d⟩ = some (.val (.agg (bytesA (lastP pgs i))), none) := by
  refine To.den hxE2 (f := 14) (a := af14) rfl (E2_none rfl) (Nat.le_of_ble_eq_true rfl) ?_
  have gd : ∀ r, (o ++ r)[dd]? = some (.cells .ex 92 0 [.bool on, .bool down, .int .i64 left, .slice pg 0 pgs.length 64, .map lm]) := fun r => app_old P.hd r
  have gp : ∀ r, (o ++ r)[pg]? = some (.cells .ex 31 0 (pgC pgs)) := fun r => app_old P.hp r
  unfold lastP
  by_cases h1 : i < 0
  · have d1 : decide (i < 0) = true := decide_eq_true h1
    rw [if_pos h1]
    (repeat' (first | refine To.seq hxE2 ?_ | refine To.op0 hxE2 (by simp only [go_sem, eqs hxE2, reduceIte, seval, Heap.gets, Heap.sets, Heap.get, bytesA_length, bytesA_one, bytesA_plains, List.take_of_length_le, List.drop_of_length_le, Nat.add_zero, V.one, Nat.reduceLeDiff, List.all_cons, List.all_nil, ne_eq, not_false_eq_true, Nat.zero_le, gd, d1, z64_len, z64_drop, z64_one, z64_plains]; rfl) ?_ | refine To.op1 hxE2 (by simp only [go_sem, eqs hxE2, reduceIte, seval, Heap.gets, Heap.sets, Heap.get, bytesA_length, bytesA_one, bytesA_plains, List.take_of_length_le, List.drop_of_length_le, Nat.add_zero, V.one, Nat.reduceLeDiff, List.all_cons, List.all_nil, ne_eq, not_false_eq_true, Nat.zero_le, gd, d1, z64_len, z64_drop, z64_one, z64_plains]; rfl) ?_ | refine To.nop hxE2 ?_ | (refine To.condT hxE2 ?_ ?_; focus (simp only [go_sem, eqs hxE2, reduceIte, seval, Heap.gets, Heap.sets, Heap.get, bytesA_length, bytesA_one, bytesA_plains, List.take_of_length_le, List.drop_of_length_le, Nat.add_zero, V.one, Nat.reduceLeDiff, List.all_cons, List.all_nil, ne_eq, not_false_eq_true, Nat.zero_le, gd, d1, z64_len, z64_drop, z64_one, z64_plains]; done)) | refine To.ret hxE2 ?_))
    try simp only [andThen, outOf]
    exact fin_kc (cs := z64) (l := o.length) rfl (by simp only [go_sem, eqs hxE2, reduceIte, seval]) (gets_app rfl) rfl (kp_app (by omega) (by omega))
  have d1 : decide (i < 0) = false := decide_eq_false h1
  rw [if_neg h1]
  obtain ⟨k, rfl⟩ := Int.eq_ofNat_of_zero_le (Int.not_lt.1 h1)
  by_cases h2 : pgs.length ≤ k
  · have d2 : decide ((pgs.length : Int) ≤ (k : Int)) = true := decide_eq_true (by omega)
    (repeat' (first | refine To.seq hxE2 ?_ | refine To.op0 hxE2 (by simp only [go_sem, eqs hxE2, reduceIte, seval, Heap.gets, Heap.sets, Heap.get, bytesA_length, bytesA_one, bytesA_plains, List.take_of_length_le, List.drop_of_length_le, Nat.add_zero, V.one, Nat.reduceLeDiff, List.all_cons, List.all_nil, ne_eq, not_false_eq_true, Nat.zero_le, gd, d1, d2, z64_len, z64_drop, z64_one, z64_plains]; rfl) ?_ | refine To.op1 hxE2 (by simp only [go_sem, eqs hxE2, reduceIte, seval, Heap.gets, Heap.sets, Heap.get, bytesA_length, bytesA_one, bytesA_plains, List.take_of_length_le, List.drop_of_length_le, Nat.add_zero, V.one, Nat.reduceLeDiff, List.all_cons, List.all_nil, ne_eq, not_false_eq_true, Nat.zero_le, gd, d1, d2, z64_len, z64_drop, z64_one, z64_plains]; rfl) ?_ | refine To.nop hxE2 ?_ | (refine To.condT hxE2 ?_ ?_; focus (simp only [go_sem, eqs hxE2, reduceIte, seval, Heap.gets, Heap.sets, Heap.get, bytesA_length, bytesA_one, bytesA_plains, List.take_of_length_le, List.drop_of_length_le, Nat.add_zero, V.one, Nat.reduceLeDiff, List.all_cons, List.all_nil, ne_eq, not_false_eq_true, Nat.zero_le, gd, d1, d2, z64_len, z64_drop, z64_one, z64_plains]; done)) | refine To.ret hxE2 ?_))
    try simp only [andThen, outOf]
    have e1 : pgs.getD (Int.toNat (k : Int)) (zs 64) = zs 64 := by rw [Int.toNat_natCast, List.getD_eq_getElem?_getD, List.getElem?_eq_none h2]; rfl
    rw [e1]
    exact fin_kc (cs := z64) (l := o.length) rfl (by simp only [go_sem, eqs hxE2, reduceIte, seval]) (gets_app rfl) rfl (kp_app (by omega) (by omega))
  have d2 : decide ((pgs.length : Int) ≤ (k : Int)) = false := decide_eq_false (by omega)
  have hk : k < pgs.length := by omega
  have hg : pgs[k]? = some pgs[k] := List.getElem?_eq_getElem hk
  have e1 : pgs.getD (Int.toNat (k : Int)) (zs 64) = pgs[k] := by rw [Int.toNat_natCast, List.getD_eq_getElem?_getD, hg]; rfl
  rw [e1]
  have hat := pgC_at P.p64 hg
  have hkk : (k + 1) * 64 ≤ pgs.length * 64 := Nat.mul_le_mul_right 64 hk
  have hle : k * 64 + 64 ≤ (pgC pgs).length := by rw [pgC_len P.p64]; omega
  have ix : idxOf pgs.length (.int .i64 (k : Int)) = some k := idxOf_nat hk
  have h64 := P.p64 _ (List.getElem_mem hk)
  generalize pgs[k] = p at hat h64 ⊢
  (repeat' (first | refine To.seq hxE2 ?_ | refine To.op0 hxE2 (by simp only [go_sem, eqs hxE2, reduceIte, seval, Heap.gets, Heap.sets, Heap.get, bytesA_length, bytesA_one, bytesA_plains, List.take_of_length_le, List.drop_of_length_le, Nat.add_zero, V.one, Nat.reduceLeDiff, List.all_cons, List.all_nil, ne_eq, not_false_eq_true, Nat.zero_le, gd, gp, d1, d2, ix, hle, hat, h64, z64_len, z64_drop, z64_one, z64_plains]; rfl) ?_ | refine To.op1 hxE2 (by simp only [go_sem, eqs hxE2, reduceIte, seval, Heap.gets, Heap.sets, Heap.get, bytesA_length, bytesA_one, bytesA_plains, List.take_of_length_le, List.drop_of_length_le, Nat.add_zero, V.one, Nat.reduceLeDiff, List.all_cons, List.all_nil, ne_eq, not_false_eq_true, Nat.zero_le, gd, gp, d1, d2, ix, hle, hat, h64, z64_len, z64_drop, z64_one, z64_plains]; rfl) ?_ | refine To.nop hxE2 ?_ | (refine To.condF hxE2 ?_ ?_; focus (simp only [go_sem, eqs hxE2, reduceIte, seval, Heap.gets, Heap.sets, Heap.get, bytesA_length, bytesA_one, bytesA_plains, List.take_of_length_le, List.drop_of_length_le, Nat.add_zero, V.one, Nat.reduceLeDiff, List.all_cons, List.all_nil, ne_eq, not_false_eq_true, Nat.zero_le, gd, gp, d1, d2, ix, hle, hat, h64, z64_len, z64_drop, z64_one, z64_plains]; done)) | refine To.ret hxE2 ?_ | refine To.skip hxE2 ?_))
  try simp only [andThen, outOf]
  exact fin_kc (cs := bytesA p) (l := o.length) rfl (by simp only [go_sem, eqs hxE2, reduceIte, seval]) (gets_app (by rw [bytesA_length]; exact h64)) (bytesA_plains _) (kp_app (by omega) (by omega))

def readP (down : Bool) (pgs : List Pg) (ca : List (Nat × Pg)) (i : Int) : Pg := if hasE down pgs.length i = 0 then (findC i.toNat ca).getD (pgs.getD i.toNat (zs 64)) else zs 64

theorem hasE_ok {i : Int} {n : Nat} (h : hasE down n i = 0) : down = false ∧ ∃ k : Nat, i = (k : Int) ∧ k < n := by
  unfold hasE at h
  split at h
  · cases h
  · rename_i hd
    split at h
    · cases h
    · rename_i hi
      obtain ⟨k, rfl⟩ := Int.eq_ofNat_of_zero_le (a := i) (by omega)
      exact ⟨by simpa using hd, k, rfl, by omega⟩
set_option maxHeartbeats 4000000 in
theorem read_q (P : PD o dd pg lm on down left pgs ca) (i : Int) : Den FF E2 17 [.ptr dd 0, .int .i64 i] ⟨o, e, d⟩ = some (.val (.tuple [.agg (bytesA (readP down pgs ca i)), .int .i64 (hasE down pgs.length i)]), none) := by
  refine To.den hxE2 (f := 17) (a := af17) rfl (E2_none rfl) (Nat.le_of_ble_eq_true rfl) ?_
  have q := has_q (e := o.length) (d := o.length) (P.app [.cells .ex 31 0 z64]) i
  have gd : ∀ r, (o ++ r)[dd]? = some (.cells .ex 92 0 [.bool on, .bool down, .int .i64 left, .slice pg 0 pgs.length 64, .map lm]) := fun r => app_old P.hd r
  have gp : ∀ r, (o ++ r)[pg]? = some (.cells .ex 31 0 (pgC pgs)) := fun r => app_old P.hp r
  have gm : ∀ r, (o ++ r)[lm]? = some (.map (ca.map ent)) := fun r => app_old P.hm r
  unfold readP
  by_cases h0 : hasE down pgs.length i = 0
  · rw [if_pos h0]
    rw [h0] at q ⊢
    obtain ⟨_, k, rfl, hk⟩ := hasE_ok h0
    rw [Int.toNat_natCast]
    have hkey : V.key .i (.int .i64 (k : Int)) = true := rfl
    have hmf := mapFind_ent k ca P.nd
    cases hf : findC k ca with
    | some p =>
      rw [hf] at hmf
      have hp64 : p.length = 64 := by
        unfold findC at hf
        obtain ⟨x, hx, rfl⟩ := Option.map_eq_some_iff.1 hf
        exact (P.c64 x (List.mem_of_find?_eq_some hx)).1
      have htk : List.take 64 (bytesA p) = bytesA p := List.take_of_length_le (by rw [bytesA_length]; omega)
      have hdr : List.drop 64 (bytesA p) = [] := List.drop_eq_nil_of_le (by rw [bytesA_length]; omega)
      (repeat' (first | refine To.seq hxE2 ?_ | refine To.op0 hxE2 (by simp only [go_sem, eqs hxE2, reduceIte, seval, Heap.gets, Heap.sets, Heap.get, bytesA_length, bytesA_one, bytesA_plains, List.take_of_length_le, List.drop_of_length_le, Nat.add_zero, V.one, Nat.reduceLeDiff, List.all_cons, List.all_nil, ne_eq, not_false_eq_true, Nat.zero_le, q, gd, gp, gm, hkey, hmf, hp64, htk, hdr, z64_len, z64_drop, z64_one, z64_plains, bne_self_eq_false, Option.isSome_some]; rfl) ?_ | refine To.op1 hxE2 (by simp only [go_sem, eqs hxE2, reduceIte, seval, Heap.gets, Heap.sets, Heap.get, bytesA_length, bytesA_one, bytesA_plains, List.take_of_length_le, List.drop_of_length_le, Nat.add_zero, V.one, Nat.reduceLeDiff, List.all_cons, List.all_nil, ne_eq, not_false_eq_true, Nat.zero_le, q, gd, gp, gm, hkey, hmf, hp64, htk, hdr, z64_len, z64_drop, z64_one, z64_plains, bne_self_eq_false, Option.isSome_some]; rfl) ?_ | refine To.nop hxE2 ?_ | (refine To.condT hxE2 ?_ ?_; focus (simp only [go_sem, eqs hxE2, reduceIte, seval, Heap.gets, Heap.sets, Heap.get, bytesA_length, bytesA_one, bytesA_plains, List.take_of_length_le, List.drop_of_length_le, Nat.add_zero, V.one, Nat.reduceLeDiff, List.all_cons, List.all_nil, ne_eq, not_false_eq_true, Nat.zero_le, q, gd, gp, gm, hkey, hmf, hp64, htk, hdr, z64_len, z64_drop, z64_one, z64_plains, bne_self_eq_false, Option.isSome_some]; done)) | (refine To.condF hxE2 ?_ ?_; focus (simp only [go_sem, eqs hxE2, reduceIte, seval, Heap.gets, Heap.sets, Heap.get, bytesA_length, bytesA_one, bytesA_plains, List.take_of_length_le, List.drop_of_length_le, Nat.add_zero, V.one, Nat.reduceLeDiff, List.all_cons, List.all_nil, ne_eq, not_false_eq_true, Nat.zero_le, q, gd, gp, gm, hkey, hmf, hp64, htk, hdr, z64_len, z64_drop, z64_one, z64_plains, bne_self_eq_false, Option.isSome_some]; done)) | refine To.ret hxE2 ?_ | refine To.skip hxE2 ?_))
      try simp only [andThen, outOf]
      exact fin_kc2 (cs := bytesA p) (l := o.length) rfl (by simp only [go_sem, eqs hxE2, reduceIte, seval]) (by simp only [go_sem, eqs hxE2, reduceIte, seval]) (gets_app2 (by rw [bytesA_length]; exact hp64)) (bytesA_plains _) rfl (kp_app (by omega) (by omega))
    | none =>
      rw [hf] at hmf
      have hg : pgs[k]? = some pgs[k] := List.getElem?_eq_getElem hk
      have e1 : pgs.getD k (zs 64) = pgs[k] := by rw [List.getD_eq_getElem?_getD, hg]; rfl
      rw [Option.getD_none, e1]
      have hat := pgC_at P.p64 hg
      have hkk : (k + 1) * 64 ≤ pgs.length * 64 := Nat.mul_le_mul_right 64 hk
      have hle : k * 64 + 64 ≤ (pgC pgs).length := by rw [pgC_len P.p64]; omega
      have ix : idxOf pgs.length (.int .i64 (k : Int)) = some k := idxOf_nat hk
      have h64 := P.p64 _ (List.getElem_mem hk)
      generalize pgs[k] = p at hat h64 ⊢
      (repeat' (first | refine To.seq hxE2 ?_ | refine To.op0 hxE2 (by simp only [go_sem, eqs hxE2, reduceIte, seval, Heap.gets, Heap.sets, Heap.get, bytesA_length, bytesA_one, bytesA_plains, List.take_of_length_le, List.drop_of_length_le, Nat.add_zero, V.one, Nat.reduceLeDiff, List.all_cons, List.all_nil, ne_eq, not_false_eq_true, Nat.zero_le, q, gd, gp, gm, hkey, hmf, ix, hle, hat, h64, z64_len, z64_drop, z64_one, z64_plains, bne_self_eq_false, Option.isSome_none, Option.getD_none]; rfl) ?_ | refine To.op1 hxE2 (by simp only [go_sem, eqs hxE2, reduceIte, seval, Heap.gets, Heap.sets, Heap.get, bytesA_length, bytesA_one, bytesA_plains, List.take_of_length_le, List.drop_of_length_le, Nat.add_zero, V.one, Nat.reduceLeDiff, List.all_cons, List.all_nil, ne_eq, not_false_eq_true, Nat.zero_le, q, gd, gp, gm, hkey, hmf, ix, hle, hat, h64, z64_len, z64_drop, z64_one, z64_plains, bne_self_eq_false, Option.isSome_none, Option.getD_none]; rfl) ?_ | refine To.nop hxE2 ?_ | (refine To.condF hxE2 ?_ ?_; focus (simp only [go_sem, eqs hxE2, reduceIte, seval, Heap.gets, Heap.sets, Heap.get, bytesA_length, bytesA_one, bytesA_plains, List.take_of_length_le, List.drop_of_length_le, Nat.add_zero, V.one, Nat.reduceLeDiff, List.all_cons, List.all_nil, ne_eq, not_false_eq_true, Nat.zero_le, q, gd, gp, gm, hkey, hmf, ix, hle, hat, h64, z64_len, z64_drop, z64_one, z64_plains, bne_self_eq_false, Option.isSome_none, Option.getD_none]; done)) | refine To.ret hxE2 ?_ | refine To.skip hxE2 ?_))
      try simp only [andThen, outOf]
      exact fin_kc2 (cs := bytesA p) (l := o.length) rfl (by simp only [go_sem, eqs hxE2, reduceIte, seval]) (by simp only [go_sem, eqs hxE2, reduceIte, seval]) (gets_app2 (by rw [bytesA_length]; exact h64)) (bytesA_plains _) rfl (kp_app (by omega) (by omega))
  · rw [if_neg h0]
    have hb : (hasE down pgs.length i != 0) = true := by simpa using h0
    generalize hasE down pgs.length i = er at q hb ⊢
    (repeat' (first | refine To.seq hxE2 ?_ | refine To.op0 hxE2 (by simp only [go_sem, eqs hxE2, reduceIte, seval, Heap.gets, Heap.sets, Heap.get, bytesA_length, bytesA_one, bytesA_plains, List.take_of_length_le, List.drop_of_length_le, Nat.add_zero, V.one, Nat.reduceLeDiff, List.all_cons, List.all_nil, ne_eq, not_false_eq_true, Nat.zero_le, q, gd, gp, gm, hb, z64_len, z64_drop, z64_one, z64_plains]; rfl) ?_ | refine To.op1 hxE2 (by simp only [go_sem, eqs hxE2, reduceIte, seval, Heap.gets, Heap.sets, Heap.get, bytesA_length, bytesA_one, bytesA_plains, List.take_of_length_le, List.drop_of_length_le, Nat.add_zero, V.one, Nat.reduceLeDiff, List.all_cons, List.all_nil, ne_eq, not_false_eq_true, Nat.zero_le, q, gd, gp, gm, hb, z64_len, z64_drop, z64_one, z64_plains]; rfl) ?_ | refine To.nop hxE2 ?_ | (refine To.condT hxE2 ?_ ?_; focus (simp only [go_sem, eqs hxE2, reduceIte, seval, Heap.gets, Heap.sets, Heap.get, bytesA_length, bytesA_one, bytesA_plains, List.take_of_length_le, List.drop_of_length_le, Nat.add_zero, V.one, Nat.reduceLeDiff, List.all_cons, List.all_nil, ne_eq, not_false_eq_true, Nat.zero_le, q, gd, gp, gm, hb, z64_len, z64_drop, z64_one, z64_plains]; done)) | refine To.ret hxE2 ?_))
    try simp only [andThen, outOf]
    exact fin_kc2 (cs := z64) (l := o.length) rfl (by simp only [go_sem, eqs hxE2, reduceIte, seval]) (by simp only [go_sem, eqs hxE2, reduceIte, seval]) (gets_app2 rfl) rfl rfl (kp_app (by omega) (by omega))
end
end Go.Proofs.Ytfbkeieoeagkdaa

/- Disk: calls that turn it. -/
namespace Go.Proofs.Ytfbkeieoeagkdaa
open Go AM
set_option linter.unusedSimpArgs false
set_option linter.unusedVariables false
set_option maxRecDepth 100000

/-- All but the disk's own three objects stays. -/
structure Dx (dd pg lm : Nat) (o o' : List AM.Obj) : Prop where
  len : o'.length = o.length
  get : ∀ l, l ≠ dd → l ≠ pg → l ≠ lm → o'[l]? = o[l]?
theorem Dx.refl {dd pg lm : Nat} {o : List AM.Obj} : Dx dd pg lm o o := ⟨rfl, fun _ _ _ _ => rfl⟩
theorem Dx.trans {dd pg lm : Nat} {o o' o'' : List AM.Obj} (h : Dx dd pg lm o o') (k : Dx dd pg lm o' o'') : Dx dd pg lm o o'' := ⟨k.len.trans h.len, fun l a b c => (k.get l a b c).trans (h.get l a b c)⟩
section
variable {o : List AM.Obj} {e d dd pg lm : Nat} {on down : Bool} {left : Int} {pgs : List Pg} {ca : List (Nat × Pg)}
theorem PD.ne1 (P : PD o dd pg lm on down left pgs ca) : dd ≠ lm := by rintro rfl; have := P.hd; rw [P.hm] at this; cases this
theorem PD.ne2 (P : PD o dd pg lm on down left pgs ca) : pg ≠ lm := by rintro rfl; have := P.hp; rw [P.hm] at this; cases this
theorem PD.ne3 (P : PD o dd pg lm on down left pgs ca) : dd ≠ pg := by
  rintro rfl
  have := P.hd
  rw [P.hp] at this
  simp only [Option.some.injEq] at this
  injection this with _ h
  exact absurd h (by decide)

/-- The fuse turned. -/
theorem PD.fuse (P : PD o dd pg lm on down left pgs ca) (on' down' : Bool) (left' : Int) : PD (o.set dd (.cells .ex 92 0 [.bool on', .bool down', .int .i64 left', .slice pg 0 pgs.length 64, .map lm])) dd pg lm on' down' left' pgs ca :=
  ⟨List.getElem?_set_self P.ld, by rw [List.getElem?_set_ne P.ne3]; exact P.hp, by rw [List.getElem?_set_ne P.ne1]; exact P.hm, P.p64, P.c64, P.nd⟩
theorem dx_dd (x : AM.Obj) : Dx dd pg lm o (o.set dd x) := ⟨by simp, fun l a _ _ => List.getElem?_set_ne (Ne.symm a)⟩
theorem dx_lm (x : AM.Obj) : Dx dd pg lm o (o.set lm x) := ⟨by simp, fun l _ _ c => List.getElem?_set_ne (Ne.symm c)⟩
theorem dx_pg (x : AM.Obj) : Dx dd pg lm o (o.set pg x) := ⟨by simp, fun l _ b _ => List.getElem?_set_ne (Ne.symm b)⟩

theorem set_app (o r : List AM.Obj) {l : Nat} (x : AM.Obj) (h : l < o.length) : (o ++ r).set l x = o.set l x ++ r := List.set_append_left _ _ h

/-- What is left behind objects that are let go. -/
theorem leave_app {o o' r : List AM.Obj} {e d e' d' : Nat} {v : V} (hv : v.plain = true) (hl : o'.length = o.length) (he : o.length ≤ e') (hd : o.length ≤ d' → o' = o) : ∃ d'', (leave ⟨o, e, d⟩ ⟨o' ++ r, e', d'⟩ v).getD ⟨o, e, d⟩ = ⟨o', e, d''⟩ := by
  unfold leave
  simp only
  rw [if_pos ⟨he, hv⟩]
  split
  · rename_i hc
    exact ⟨d, by rw [hd hc]; rfl⟩
  · exact ⟨_, by rw [← hl, List.take_left]; rfl⟩

theorem leave_app2 {o o' r : List AM.Obj} {e d e' d' : Nat} {v : V} (hv : v.plain = true) (hl : o'.length = o.length) (he : o.length ≤ e') (hd : o.length ≤ d' → o' = o) : ∃ d'', (leave ⟨o, e, d⟩ ⟨o' ++ r, e', d'⟩ v).getD ⟨o, e, d⟩ = ⟨o', e, d''⟩ ∧ (o' = o ∨ d'' ≤ d') ∧ min d d' ≤ d'' ∧ d'' ≤ d := by
  unfold leave
  simp only
  rw [if_pos ⟨he, hv⟩]
  split
  · rename_i hc
    exact ⟨d, by rw [hd hc]; rfl, .inl (hd hc), Nat.min_le_left _ _, Nat.le_refl _⟩
  · exact ⟨_, by rw [← hl, List.take_left]; rfl, .inr (Nat.min_le_right _ _), Nat.le_refl _, Nat.min_le_left _ _⟩
/-- What has turned lies low. -/
def Low (dd pg lm : Nat) (o o' : List AM.Obj) (d d' : Nat) : Prop := d' ≤ d ∧ (o' = o ∨ d' ≤ max dd (max pg lm))

set_option maxHeartbeats 4000000 in
theorem write_no (P : PD o dd pg lm on down left pgs ca) {i : Int} {p : Pg} (hp : p.length = 64) (h0 : hasE down pgs.length i ≠ 0) : Den FF E2 13 [.ptr dd 0, .int .i64 i, .agg (bytesA p)] ⟨o, e, d⟩ = some (.val (.int .i64 (hasE down pgs.length i)), none) := by
  refine To.den hxE2 (f := 13) (a := af13) rfl (E2_none rfl) (Nat.le_of_ble_eq_true rfl) ?_
  have q := has_q (e := o.length) (d := o.length) (P.app [.cells .ex 31 0 (bytesA p)]) i
  have hb : (hasE down pgs.length i != 0) = true := by simpa using h0
  generalize hasE down pgs.length i = er at q hb ⊢
  (repeat' (first | refine To.seq hxE2 ?_ | refine To.op0 hxE2 (by simp only [go_sem, eqs hxE2, reduceIte, seval, Heap.gets, Heap.sets, Heap.get, bytesA_length, bytesA_one, bytesA_plains, List.take_of_length_le, List.drop_of_length_le, Nat.add_zero, V.one, Nat.reduceLeDiff, List.all_cons, List.all_nil, ne_eq, not_false_eq_true, Nat.zero_le, q, hb]; rfl) ?_ | refine To.op1 hxE2 (by simp only [go_sem, eqs hxE2, reduceIte, seval, Heap.gets, Heap.sets, Heap.get, bytesA_length, bytesA_one, bytesA_plains, List.take_of_length_le, List.drop_of_length_le, Nat.add_zero, V.one, Nat.reduceLeDiff, List.all_cons, List.all_nil, ne_eq, not_false_eq_true, Nat.zero_le, q, hb]; rfl) ?_ | refine To.nop hxE2 ?_ | (refine To.condT hxE2 ?_ ?_; focus (simp only [go_sem, eqs hxE2, reduceIte, seval, Heap.gets, Heap.sets, Heap.get, bytesA_length, bytesA_one, bytesA_plains, List.take_of_length_le, List.drop_of_length_le, Nat.add_zero, V.one, Nat.reduceLeDiff, List.all_cons, List.all_nil, ne_eq, not_false_eq_true, Nat.zero_le, q, hb]; done)) | refine To.ret hxE2 ?_))
  try simp only [andThen, outOf]
  exact fin_k1 (i := 6) (v := .int .i64 er) rfl (by simp only [go_sem, eqs hxE2, reduceIte, seval]) rfl (kp_app (by omega) (by omega))

set_option maxHeartbeats 4000000 in
theorem write_burnt' (P : PD o dd pg lm on down left pgs ca) {i : Int} {p : Pg} (hp : p.length = 64) (h0 : hasE down pgs.length i = 0) (hB : burnB on down left = false) :
    ∃ v oh, Den FF E2 13 [.ptr dd 0, .int .i64 i, .agg (bytesA p)] ⟨o, e, d⟩ = some (v, oh) ∧ v = .val (.int .i64 5) ∧ ∃ o' d', oh.getD ⟨o, e, d⟩ = ⟨o', e, d'⟩ ∧ PD o' dd pg lm on (burnD on down left) (burnL on down left) pgs ca ∧ Dx dd pg lm o o' ∧ Low dd pg lm o o' d d' := by
  refine To.denE hxE2 (f := 13) (a := af13) rfl (E2_none rfl) (Nat.le_of_ble_eq_true rfl) ?_
  have q := has_q (e := o.length) (d := o.length) (P.app [.cells .ex 31 0 (bytesA p)]) i
  rw [h0] at q
  obtain ⟨vb, ohb, qb, rfl, db, hgb, hdb, hdu⟩ := burn_q2 (e := o.length) (d := o.length) (P.app [.cells .ex 31 0 (bytesA p)]).hd
  rw [hB] at qb
  rw [burnC_eq] at hgb hdu
  simp only [List.cons_append, List.nil_append] at hgb hdu
  rw [set_app _ _ _ P.ld] at hgb hdu
  have P2 := P.fuse on (burnD on down left) (burnL on down left)
  have dx := dx_dd (dd := dd) (pg := pg) (lm := lm) (o := o) (.cells .ex 92 0 [.bool on, .bool (burnD on down left), .int .i64 (burnL on down left), .slice pg 0 pgs.length 64, .map lm])
  have hld := P.ld
  generalize hO : o.set dd (.cells .ex 92 0 [.bool on, .bool (burnD on down left), .int .i64 (burnL on down left), .slice pg 0 pgs.length 64, .map lm]) = o1 at hgb P2 dx hdu
  (repeat' (first | refine To.seq hxE2 ?_ | refine To.op0 hxE2 (by simp only [go_sem, eqs hxE2, reduceIte, seval, Heap.gets, Heap.sets, Heap.get, bytesA_length, bytesA_one, bytesA_plains, List.take_of_length_le, List.drop_of_length_le, Nat.add_zero, V.one, Nat.reduceLeDiff, List.all_cons, List.all_nil, ne_eq, not_false_eq_true, Nat.zero_le, q, bne_self_eq_false]; rfl) ?_ | refine To.op1 hxE2 (by simp only [go_sem, eqs hxE2, reduceIte, seval, Heap.gets, Heap.sets, Heap.get, bytesA_length, bytesA_one, bytesA_plains, List.take_of_length_le, List.drop_of_length_le, Nat.add_zero, V.one, Nat.reduceLeDiff, List.all_cons, List.all_nil, ne_eq, not_false_eq_true, Nat.zero_le, q, bne_self_eq_false]; rfl) ?_ | refine To.nop hxE2 ?_ | (refine To.condF hxE2 ?_ ?_; focus (simp only [go_sem, eqs hxE2, reduceIte, seval, Heap.gets, Heap.sets, Heap.get, bytesA_length, bytesA_one, bytesA_plains, List.take_of_length_le, List.drop_of_length_le, Nat.add_zero, V.one, Nat.reduceLeDiff, List.all_cons, List.all_nil, ne_eq, not_false_eq_true, Nat.zero_le, q, bne_self_eq_false]; done)) | refine To.skip hxE2 ?_))
  refine To.op hxE2 (by simp only [go_sem, eqs hxE2, reduceIte, seval, qb]; rfl) ?_
  rw [hgb]
  (repeat' (first | refine To.seq hxE2 ?_ | refine To.op0 hxE2 (by simp only [go_sem, eqs hxE2, reduceIte, seval, Heap.gets, Heap.sets, Heap.get, bytesA_length, bytesA_one, bytesA_plains, List.take_of_length_le, List.drop_of_length_le, Nat.add_zero, V.one, Nat.reduceLeDiff, List.all_cons, List.all_nil, ne_eq, not_false_eq_true, Nat.zero_le]; rfl) ?_ | refine To.nop hxE2 ?_ | (refine To.condT hxE2 ?_ ?_; focus (simp only [go_sem, eqs hxE2, reduceIte, seval, Heap.gets, Heap.sets, Heap.get, bytesA_length, bytesA_one, bytesA_plains, List.take_of_length_le, List.drop_of_length_le, Nat.add_zero, V.one, Nat.reduceLeDiff, List.all_cons, List.all_nil, ne_eq, not_false_eq_true, Nat.zero_le]; done)) | refine To.ret hxE2 ?_))
  refine ⟨_, _, fin1 (i := 6) rfl, by simp only [go_sem, eqs hxE2, reduceIte, seval], ?_⟩
  obtain ⟨d2, hlv, hlow, _, hld2⟩ := leave_app2 (o := o) (o' := o1) (r := [.cells .ex 31 0 (bytesA p)]) (e := e) (d := d) (e' := o.length) (d' := db) (v := .int .i64 5) rfl dx.len (Nat.le_refl _) (fun h => by
    rcases hdu with hdu | hdu
    · exact List.append_cancel_right hdu
    · omega)
  refine ⟨o1, d2, by simp only [get_fput, reduceIte, Nat.reduceEqDiff]; exact hlv, P2, dx, ?_⟩
  refine ⟨hld2, ?_⟩
  rcases hlow with h | h
  · exact .inl h
  · rcases hdu with hdu | hdu
    · exact .inl (List.append_cancel_right hdu)
    · exact .inr (by omega)
theorem write_burnt (P : PD o dd pg lm on down left pgs ca) {i : Int} {p : Pg} (hp : p.length = 64) (h0 : hasE down pgs.length i = 0) (hB : burnB on down left = false) :
    ∃ v oh, Den FF E2 13 [.ptr dd 0, .int .i64 i, .agg (bytesA p)] ⟨o, e, d⟩ = some (v, oh) ∧ v = .val (.int .i64 5) ∧ ∃ o' d', oh.getD ⟨o, e, d⟩ = ⟨o', e, d'⟩ ∧ PD o' dd pg lm on (burnD on down left) (burnL on down left) pgs ca ∧ Dx dd pg lm o o' := by
  obtain ⟨v, oh, q, h, o', d', hg, P', D, _⟩ := write_burnt' (e := e) (d := d) P hp h0 hB
  exact ⟨v, oh, q, h, o', d', hg, P', D⟩

set_option maxHeartbeats 8000000 in
theorem write_ok' (P : PD o dd pg lm on down left pgs ca) {k : Nat} {p : Pg} (hp : p.length = 64) (hk : k < pgs.length) (h0 : hasE down pgs.length (k : Int) = 0) (hB : burnB on down left = true) :
    ∃ v oh, Den FF E2 13 [.ptr dd 0, .int .i64 (k : Int), .agg (bytesA p)] ⟨o, e, d⟩ = some (v, oh) ∧ v = .val (.int .i64 0) ∧ ∃ o' d', oh.getD ⟨o, e, d⟩ = ⟨o', e, d'⟩ ∧ PD o' dd pg lm on (burnD on down left) (burnL on down left) pgs (putC k p ca) ∧ Dx dd pg lm o o' ∧ Low dd pg lm o o' d d' := by
  refine To.denE hxE2 (f := 13) (a := af13) rfl (E2_none rfl) (Nat.le_of_ble_eq_true rfl) ?_
  have q := has_q (e := o.length) (d := o.length) (P.app [.cells .ex 31 0 (bytesA p)]) (k : Int)
  rw [h0] at q
  obtain ⟨vb, ohb, qb, rfl, db, hgb, hdb, hdu⟩ := burn_q2 (e := o.length) (d := o.length) (P.app [.cells .ex 31 0 (bytesA p)]).hd
  rw [hB] at qb
  rw [burnC_eq] at hgb hdu
  simp only [List.cons_append, List.nil_append] at hgb hdu
  rw [set_app _ _ _ P.ld] at hgb hdu
  have P2 := P.fuse on (burnD on down left) (burnL on down left)
  have dx := dx_dd (dd := dd) (pg := pg) (lm := lm) (o := o) (.cells .ex 92 0 [.bool on, .bool (burnD on down left), .int .i64 (burnL on down left), .slice pg 0 pgs.length 64, .map lm])
  have hll := P.ll
  generalize hO : o.set dd (.cells .ex 92 0 [.bool on, .bool (burnD on down left), .int .i64 (burnL on down left), .slice pg 0 pgs.length 64, .map lm]) = o1 at hgb P2 dx hdu
  have gd : ∀ r, (o1 ++ r)[dd]? = some (.cells .ex 92 0 [.bool on, .bool (burnD on down left), .int .i64 (burnL on down left), .slice pg 0 pgs.length 64, .map lm]) := fun r => app_old P2.hd r
  have gm : ∀ r, (o1 ++ r)[lm]? = some (.map (ca.map ent)) := fun r => app_old P2.hm r
  have gb : (o1 ++ [AM.Obj.cells .ex 31 0 (bytesA p)])[o.length]? = some (.cells .ex 31 0 (bytesA p)) := by rw [← dx.len]; exact app_get0 _ _ _
  have hkey : V.key .i (.int .i64 (k : Int)) = true := rfl
  have hmp := mapPut_ent k p ca P.nd
  have htk : List.take 64 (bytesA p) = bytesA p := List.take_of_length_le (by rw [bytesA_length]; omega)
  have hst : ∀ x, (o1 ++ [AM.Obj.cells .ex 31 0 (bytesA p)]).set lm x = o1.set lm x ++ [AM.Obj.cells .ex 31 0 (bytesA p)] := fun x => set_app _ _ _ (by rw [dx.len]; exact hll)
  (repeat' (first | refine To.seq hxE2 ?_ | refine To.op0 hxE2 (by simp only [go_sem, eqs hxE2, reduceIte, seval, Heap.gets, Heap.sets, Heap.get, bytesA_length, bytesA_one, bytesA_plains, List.take_of_length_le, List.drop_of_length_le, Nat.add_zero, V.one, Nat.reduceLeDiff, List.all_cons, List.all_nil, ne_eq, not_false_eq_true, Nat.zero_le, q, bne_self_eq_false]; rfl) ?_ | refine To.op1 hxE2 (by simp only [go_sem, eqs hxE2, reduceIte, seval, Heap.gets, Heap.sets, Heap.get, bytesA_length, bytesA_one, bytesA_plains, List.take_of_length_le, List.drop_of_length_le, Nat.add_zero, V.one, Nat.reduceLeDiff, List.all_cons, List.all_nil, ne_eq, not_false_eq_true, Nat.zero_le, q, bne_self_eq_false]; rfl) ?_ | refine To.nop hxE2 ?_ | (refine To.condF hxE2 ?_ ?_; focus (simp only [go_sem, eqs hxE2, reduceIte, seval, Heap.gets, Heap.sets, Heap.get, bytesA_length, bytesA_one, bytesA_plains, List.take_of_length_le, List.drop_of_length_le, Nat.add_zero, V.one, Nat.reduceLeDiff, List.all_cons, List.all_nil, ne_eq, not_false_eq_true, Nat.zero_le, q, bne_self_eq_false]; done)) | refine To.skip hxE2 ?_))
  refine To.op hxE2 (by simp only [go_sem, eqs hxE2, reduceIte, seval, qb]; rfl) ?_
  rw [hgb]
  (repeat' (first | refine To.seq hxE2 ?_ | refine To.op0 hxE2 (by simp only [go_sem, eqs hxE2, reduceIte, seval, Heap.gets, Heap.sets, Heap.get, bytesA_length, bytesA_one, bytesA_plains, List.take_of_length_le, List.drop_of_length_le, Nat.add_zero, V.one, Nat.reduceLeDiff, List.all_cons, List.all_nil, ne_eq, not_false_eq_true, Nat.zero_le, gd, gm, gb, hkey, hmp, htk, hp, hst, Heap.setMap]; rfl) ?_ | refine To.nop hxE2 ?_ | (refine To.condF hxE2 ?_ ?_; focus (simp only [go_sem, eqs hxE2, reduceIte, seval, Heap.gets, Heap.sets, Heap.get, bytesA_length, bytesA_one, bytesA_plains, List.take_of_length_le, List.drop_of_length_le, Nat.add_zero, V.one, Nat.reduceLeDiff, List.all_cons, List.all_nil, ne_eq, not_false_eq_true, Nat.zero_le, gd, gm, gb, hkey, hmp, htk, hp, hst, Heap.setMap]; done)) | refine To.ret hxE2 ?_ | refine To.skip hxE2 ?_ | refine To.draw0 hxE2 ?_ | refine ToD.op0 (by simp only [go_sem, eqs hxE2, reduceIte, seval, Heap.gets, Heap.sets, Heap.get, bytesA_length, bytesA_one, bytesA_plains, List.take_of_length_le, List.drop_of_length_le, Nat.add_zero, V.one, Nat.reduceLeDiff, List.all_cons, List.all_nil, ne_eq, not_false_eq_true, Nat.zero_le, gd, gm, gb, hkey, hmp, htk, hp, hst, Heap.setMap]; rfl) (by simp only [put_some, put_none]; rfl) ?_ | refine ToD.op1 (by simp only [go_sem, eqs hxE2, reduceIte, seval, Heap.gets, Heap.sets, Heap.get, bytesA_length, bytesA_one, bytesA_plains, List.take_of_length_le, List.drop_of_length_le, Nat.add_zero, V.one, Nat.reduceLeDiff, List.all_cons, List.all_nil, ne_eq, not_false_eq_true, Nat.zero_le, gd, gm, gb, hkey, hmp, htk, hp, hst, Heap.setMap]; rfl) (by simp only [put_some, put_none]; rfl) (by simp only [KD.app, go_sem, eqs hxE2, reduceIte, seval, Heap.gets, Heap.sets, Heap.get, bytesA_length, bytesA_one, bytesA_plains, List.take_of_length_le, List.drop_of_length_le, Nat.add_zero, V.one, Nat.reduceLeDiff, List.all_cons, List.all_nil, ne_eq, not_false_eq_true, Nat.zero_le, gd, gm, gb, hkey, hmp, htk, hp, hst, Heap.setMap]; rfl) ?_ | refine ToD.nop ?_))
  refine ⟨_, _, fin1 (i := 6) rfl, by simp only [go_sem, eqs hxE2, reduceIte, seval], ?_⟩
  obtain ⟨d2, hlv, hlow, _, hld2⟩ := leave_app2 (o := o) (o' := o1.set lm (.map ((putC k p ca).map ent))) (r := [.cells .ex 31 0 (bytesA p)]) (e := e) (d := d) (e' := o.length) (d' := min db lm) (v := .int .i64 0) rfl (by simp [dx.len]) (Nat.le_refl _) (fun h => by omega)
  refine ⟨o1.set lm (.map ((putC k p ca).map ent)), d2, by simp only [get_fput, reduceIte, Nat.reduceEqDiff]; exact hlv, ?_, dx.trans (dx_lm _), hld2, hlow.imp id (fun h => by omega)⟩
  refine ⟨by rw [List.getElem?_set_ne (Ne.symm P.ne1)]; exact P2.hd, by rw [List.getElem?_set_ne (Ne.symm P.ne2)]; exact P2.hp, List.getElem?_set_self P2.ll, P.p64, fun x hx => ?_, putC_nodup P.nd⟩
  rcases putC_mem hx with rfl | hx
  · exact ⟨hp, hk⟩
  · exact P.c64 x hx
theorem write_ok (P : PD o dd pg lm on down left pgs ca) {k : Nat} {p : Pg} (hp : p.length = 64) (hk : k < pgs.length) (h0 : hasE down pgs.length (k : Int) = 0) (hB : burnB on down left = true) :
    ∃ v oh, Den FF E2 13 [.ptr dd 0, .int .i64 (k : Int), .agg (bytesA p)] ⟨o, e, d⟩ = some (v, oh) ∧ v = .val (.int .i64 0) ∧ ∃ o' d', oh.getD ⟨o, e, d⟩ = ⟨o', e, d'⟩ ∧ PD o' dd pg lm on (burnD on down left) (burnL on down left) pgs (putC k p ca) ∧ Dx dd pg lm o o' := by
  obtain ⟨v, oh, q, h, o', d', hg, P', D, _⟩ := write_ok' (e := e) (d := d) P hp hk h0 hB
  exact ⟨v, oh, q, h, o', d', hg, P', D⟩

theorem layP_len : (layP ca pgs).length = pgs.length := by simp [layP]
theorem layP_get {i : Nat} (hi : i < pgs.length) : (layP ca pgs)[i]? = some ((findC i ca).getD (pgs.getD i [])) := by
  unfold layP
  rw [List.getElem?_map, List.getElem?_range hi]; rfl
theorem layP_64 (P : PD o dd pg lm on down left pgs ca) : ∀ p ∈ layP ca pgs, p.length = 64 := by
  intro p hp
  obtain ⟨i, hi, rfl⟩ := List.mem_map.1 hp
  have hi := List.mem_range.1 hi
  cases hf : findC i ca with
  | some q =>
    obtain ⟨x, hx, rfl⟩ := Option.map_eq_some_iff.1 hf
    exact (P.c64 x (List.mem_of_find?_eq_some hx)).1
  | none =>
    rw [Option.getD_none, List.getD_eq_getElem?_getD, List.getElem?_eq_getElem hi]
    exact P.p64 _ (List.getElem_mem hi)

theorem flush_no' (P : PD o dd pg lm on down left pgs ca) (hB : burnB on down left = false) :
    ∃ v oh, Den FF E2 16 [.ptr dd 0] ⟨o, e, d⟩ = some (v, oh) ∧ v = .val (.int .i64 5) ∧ ∃ o' d', oh.getD ⟨o, e, d⟩ = ⟨o', e, d'⟩ ∧ PD o' dd pg lm on (burnD on down left) (burnL on down left) pgs ca ∧ Dx dd pg lm o o' ∧ Low dd pg lm o o' d d' := by
  refine ⟨_, _, den_hand rfl rfl (by unfold flushG; simp only [P.hd, hB, if_true]; rfl), rfl, ?_⟩
  rw [burnC_eq]
  exact ⟨_, _, rfl, P.fuse _ _ _, dx_dd _, Nat.min_le_left _ _, .inr (by show min d dd ≤ _; omega)⟩
theorem flush_no (P : PD o dd pg lm on down left pgs ca) (hB : burnB on down left = false) :
    ∃ v oh, Den FF E2 16 [.ptr dd 0] ⟨o, e, d⟩ = some (v, oh) ∧ v = .val (.int .i64 5) ∧ ∃ o' d', oh.getD ⟨o, e, d⟩ = ⟨o', e, d'⟩ ∧ PD o' dd pg lm on (burnD on down left) (burnL on down left) pgs ca ∧ Dx dd pg lm o o' := by
  obtain ⟨v, oh, q, h, o', d', hg, P', D, _⟩ := flush_no' (e := e) (d := d) P hB
  exact ⟨v, oh, q, h, o', d', hg, P', D⟩
theorem flush_ok' (P : PD o dd pg lm on down left pgs ca) (hB : burnB on down left = true) :
    ∃ v oh, Den FF E2 16 [.ptr dd 0] ⟨o, e, d⟩ = some (v, oh) ∧ v = .val (.int .i64 0) ∧ ∃ o' d', oh.getD ⟨o, e, d⟩ = ⟨o', e, d'⟩ ∧ PD o' dd pg lm on (burnD on down left) (burnL on down left) (layP ca pgs) [] ∧ Dx dd pg lm o o' ∧ Low dd pg lm o o' d d' := by
  have hes : (ca.map ent).all (pageEnt pgs.length) = true := by
    rw [List.all_eq_true]
    intro x hx
    obtain ⟨y, hy, rfl⟩ := List.mem_map.1 hx
    exact pageEnt_ent (P.c64 y hy).1 (P.c64 y hy).2
  have hck : CK.ex ≠ CK.ro := by decide
  refine ⟨_, _, den_hand rfl rfl (by unfold flushG; simp only [P.hd, P.hp, P.hm, hB, Bool.true_eq_false, if_false]; rw [if_pos ⟨hck, P.ne3, pgC_len P.p64, hes, apart_ent P.nd⟩]), rfl, ?_⟩
  rw [burnC_eq, lay_eq P.p64]
  refine ⟨_, _, rfl, ⟨?_, ?_, ?_, layP_64 P, by simp, by simp⟩, ((dx_dd _).trans (dx_pg _)).trans (dx_lm _), Nat.min_le_left _ _, .inr (by show min d (min dd (min pg lm)) ≤ _; omega)⟩
  · rw [List.getElem?_set_ne (Ne.symm P.ne1), List.getElem?_set_ne (Ne.symm P.ne3), List.getElem?_set_self P.ld, layP_len]; rfl
  · rw [List.getElem?_set_ne (Ne.symm P.ne2), List.getElem?_set_self (by simpa using P.lp)]
  · rw [List.getElem?_set_self (by simpa using P.ll)]; rfl
theorem flush_ok (P : PD o dd pg lm on down left pgs ca) (hB : burnB on down left = true) :
    ∃ v oh, Den FF E2 16 [.ptr dd 0] ⟨o, e, d⟩ = some (v, oh) ∧ v = .val (.int .i64 0) ∧ ∃ o' d', oh.getD ⟨o, e, d⟩ = ⟨o', e, d'⟩ ∧ PD o' dd pg lm on (burnD on down left) (burnL on down left) (layP ca pgs) [] ∧ Dx dd pg lm o o' := by
  obtain ⟨v, oh, q, h, o', d', hg, P', D, _⟩ := flush_ok' (e := e) (d := d) P hB
  exact ⟨v, oh, q, h, o', d', hg, P', D⟩
end
end Go.Proofs.Ytfbkeieoeagkdaa

/- Disk: a new disk; arguments. -/
namespace Go.Proofs.Ytfbkeieoeagkdaa
open Go AM
set_option linter.unusedSimpArgs false
set_option linter.unusedVariables false
set_option maxRecDepth 100000

theorem reps_pages : ∀ N : Nat, reps z64 N = pgC (List.replicate N (zs 64))
  | 0 => rfl
  | N + 1 => by
    rw [List.replicate_succ]
    unfold pgC
    rw [List.flatMap_cons]
    have := reps_pages N
    unfold pgC at this
    rw [← this]; rfl

set_option maxHeartbeats 2000000 in
theorem newD_q {o : List AM.Obj} {e d N : Nat} (h1 : 1 ≤ N) (h2 : N ≤ 512) : ∃ v oh, Den FF E2 12 [.int .i64 (N : Int)] ⟨o, e, d⟩ = some (v, oh) ∧ v = .val (.tuple [.ptr (o.length + 2) 0, .int .i64 0]) ∧
    ∃ rr e' d', rr.length = 3 ∧ oh.getD ⟨o, e, d⟩ = ⟨o ++ rr, e', d'⟩ ∧ PD (o ++ rr) (o.length + 2) o.length (o.length + 1) false false 0 (List.replicate N (zs 64)) [] := by
  refine To.denE hxE2 (f := 12) (a := af12) rfl (E2_none rfl) (Nat.le_of_ble_eq_true rfl) ?_
  have d1 : decide ((N : Int) < 1) = false := decide_eq_false (by omega)
  have d2 : decide ((512 : Int) < (N : Int)) = false := decide_eq_false (by omega)
  have c1 : (0 : Int) ≤ (N : Int) := by omega
  have c2 : (N : Int) * ((64 : Nat) : Int) ≤ (AM.ok1 : Int) := by unfold AM.ok1; omega
  have c3 : (N : Int) ≤ (AM.ok1 : Int) := by unfold AM.ok1; omega
  have c2' : (N : Int) * 64 ≤ (AM.ok1 : Int) := c2
  (repeat' (first | refine To.seq hxE2 ?_ | refine To.op0 hxE2 (by simp only [go_sem, eqs hxE2, reduceIte, seval, Heap.gets, Heap.sets, Heap.get, bytesA_length, bytesA_one, bytesA_plains, List.take_of_length_le, List.drop_of_length_le, Nat.add_zero, V.one, Nat.reduceLeDiff, List.all_cons, List.all_nil, ne_eq, not_false_eq_true, Nat.zero_le, d1, d2, c1, c2, c2', c3, Int.le_refl, Int.toNat_natCast]; rfl) ?_ | refine To.op1 hxE2 (by simp only [go_sem, eqs hxE2, reduceIte, seval, Heap.gets, Heap.sets, Heap.get, bytesA_length, bytesA_one, bytesA_plains, List.take_of_length_le, List.drop_of_length_le, Nat.add_zero, V.one, Nat.reduceLeDiff, List.all_cons, List.all_nil, ne_eq, not_false_eq_true, Nat.zero_le, d1, d2, c1, c2, c2', c3, Int.le_refl, Int.toNat_natCast]; rfl) ?_ | refine To.nop hxE2 ?_ | (refine To.condF hxE2 ?_ ?_; focus (simp only [go_sem, eqs hxE2, reduceIte, seval, Heap.gets, Heap.sets, Heap.get, bytesA_length, bytesA_one, bytesA_plains, List.take_of_length_le, List.drop_of_length_le, Nat.add_zero, V.one, Nat.reduceLeDiff, List.all_cons, List.all_nil, ne_eq, not_false_eq_true, Nat.zero_le, d1, d2, c1, c2, c2', c3, Int.le_refl, Int.toNat_natCast]; done)) | refine To.ret hxE2 ?_ | refine To.skip hxE2 ?_))
  try simp only [andThen, outOf]
  refine ⟨_, _, fin2 (i := 2) (j := 3) rfl, by simp only [go_sem, eqs hxE2, reduceIte, seval], ?_⟩
  have hlv : ∀ h' : Heap, ∀ x y : V, V.plain x = false → (leave ⟨o, e, d⟩ h' (.tuple [x, y])) = some ⟨h'.o, min e h'.e, min d h'.d⟩ := fun h' x y hx => leave_some (by simp [V.plain, V.plains, hx])
  rw [hlv _ _ _ (by simp only [get_fput, reduceIte, Nat.reduceEqDiff]; rfl)]
  refine ⟨[.cells .ex 31 0 (pgC (List.replicate N (zs 64))), .map [], .cells .ex 92 0 [.bool false, .bool false, .int .i64 0, .slice o.length 0 N 64, .map (o.length + 1)]], min e o.length, min d o.length, rfl, ?_, ?_⟩
  · rw [← reps_pages]; rfl
  · refine ⟨?_, ?_, ?_, ?_, by simp, by simp⟩
    · rw [List.length_replicate]; exact app_getk _ _ 2
    · exact app_get0 _ _ _
    · exact app_getk _ _ 1
    · intro p hp
      rw [List.eq_of_mem_replicate hp]; rfl

/-- A slice of bytes, of pages, as an argument. -/
structure BArg (o : List AM.Obj) (v : V) (b : List UInt8) : Prop where
  len : lenLV v = some (.int .i64 (b.length : Int), none)
  at_ : b ≠ [] → ∃ l t, v = .slice l 0 b.length 1 ∧ o[l]? = some (.cells .ro t 0 (bytesA b))
structure PArg (o : List AM.Obj) (v : V) (ps : List Pg) : Prop where
  len : lenLV v = some (.int .i64 (ps.length : Int), none)
  at_ : ps ≠ [] → ∃ l t, v = .slice l 0 ps.length 64 ∧ o[l]? = some (.cells .ro t 0 (pgC ps))
  p64 : ∀ p ∈ ps, p.length = 64
theorem has_u8 {o : List AM.Obj} : ∀ {xs : List (List V)}, (∀ x ∈ xs, Ty.has o (.int .u8) x) → ∃ b : List UInt8, List.flatten xs = bytesA b ∧ b.length = xs.length
  | [], _ => ⟨[], rfl, rfl⟩
  | x :: xs, h => by
    obtain ⟨b, h1, h2⟩ := has_u8 (xs := xs) fun y hy => h y (List.mem_cons_of_mem _ hy)
    obtain ⟨n, rfl, hn1, hn2⟩ := h x List.mem_cons_self
    obtain ⟨c, rfl⟩ := u8_byte hn1 hn2
    exact ⟨c :: b, by rw [List.flatten_cons, h1]; rfl, by simp [h2]⟩
theorem barg_of {o : List AM.Obj} {v : V} (h : Ty.arg o (.slice (.int .u8)) v) : ∃ b, BArg o v b ∧ b.length ≤ maxLen := by
  rcases arg_slice h with rfl | ⟨a, rfl⟩ | ⟨l, n, rfl, hn, u, xs, h1, h2, h3⟩
  · exact ⟨[], ⟨rfl, fun h => absurd rfl h⟩, Nat.zero_le _⟩
  · exact ⟨[], ⟨rfl, fun h => absurd rfl h⟩, Nat.zero_le _⟩
  · obtain ⟨b, hb, hbl⟩ := has_u8 h3
    rw [hb] at h1
    subst h2
    rw [← hbl] at hn ⊢
    exact ⟨b, ⟨rfl, fun _ => ⟨l, u, rfl, h1⟩⟩, hn⟩
theorem has_pgs {o : List AM.Obj} : ∀ {xs : List (List V)}, (∀ x ∈ xs, Ty.has o (.arr 64 (.int .u8)) x) → ∃ ps : List Pg, List.flatten xs = pgC ps ∧ ps.length = xs.length ∧ ∀ p ∈ ps, p.length = 64
  | [], _ => ⟨[], rfl, rfl, by simp⟩
  | x :: xs, h => by
    obtain ⟨ps, h1, h2, h3⟩ := has_pgs (xs := xs) fun y hy => h y (List.mem_cons_of_mem _ hy)
    obtain ⟨p, rfl, hp⟩ := has_bytes (h x List.mem_cons_self)
    refine ⟨p :: ps, by rw [List.flatten_cons, h1]; rfl, by simp [h2], fun q hq => ?_⟩
    rcases List.mem_cons.1 hq with rfl | hq
    · exact hp
    · exact h3 q hq
theorem parg_of {o : List AM.Obj} {v : V} (h : Ty.arg o (.slice (.arr 64 (.int .u8))) v) : ∃ ps, PArg o v ps ∧ ps.length ≤ maxLen := by
  rcases arg_slice h with rfl | ⟨a, rfl⟩ | ⟨l, n, rfl, hn, u, xs, h1, h2, h3⟩
  · exact ⟨[], ⟨rfl, fun h => absurd rfl h, by simp⟩, Nat.zero_le _⟩
  · exact ⟨[], ⟨rfl, fun h => absurd rfl h, by simp⟩, Nat.zero_le _⟩
  · obtain ⟨ps, hb, hbl, h64⟩ := has_pgs h3
    rw [hb] at h1
    subst h2
    rw [← hbl] at hn ⊢
    exact ⟨ps, ⟨rfl, fun _ => ⟨l, u, rfl, h1⟩, h64⟩, hn⟩
end Go.Proofs.Ytfbkeieoeagkdaa

/- Disk: Fuse and Crash as facts. -/
namespace Go.Proofs.Ytfbkeieoeagkdaa
open Go AM
set_option linter.unusedSimpArgs false
set_option linter.unusedVariables false
set_option maxRecDepth 100000

def tear (c : Nat) (p q : Pg) : Pg := p.take c ++ q.drop c
def hasK (ca : List (Nat × Pg)) (i : Nat) : Bool := (findC i ca).isSome
def keysN (n : Nat) (ca : List (Nat × Pg)) : List Nat := (List.range n).filter (hasK ca)
/-- What a crash leaves of the pages: from the k-th key on. -/
def crashN (ca : List (Nat × Pg)) (ch : List UInt8) : Nat → List Nat → List Pg → List Pg
  | _, [], pgs => pgs
  | k, i :: r, pgs => crashN ca ch (k + 1) r (match ch[k]? with
    | some c => pgs.set i (tear (c.toNat % 65) ((findC i ca).getD (zs 64)) (pgs.getD i (zs 64)))
    | none => pgs)

theorem hasK_iff {i : Nat} : ∀ {ca : List (Nat × Pg)}, hasK ca i = true ↔ i ∈ ca.map (·.1)
  | [] => by simp [hasK, findC]
  | e :: r => by
    have ih := hasK_iff (i := i) (ca := r)
    unfold hasK findC at ih ⊢
    rw [List.find?_cons]
    by_cases h : e.1 = i
    · subst h; simp
    · have h1 : (e.1 == i) = false := by simpa using h
      simp only [h1, List.map_cons, List.mem_cons]
      rw [ih]
      constructor
      · exact .inr
      · rintro (rfl | h2)
        · exact absurd rfl h
        · exact h2
theorem keysN_mem {n i : Nat} {ca : List (Nat × Pg)} : i ∈ keysN n ca ↔ i < n ∧ i ∈ ca.map (·.1) := by
  unfold keysN
  rw [List.mem_filter, List.mem_range, hasK_iff]

theorem isort_keys {n : Nat} {ca : List (Nat × Pg)} (hnd : (ca.map (·.1)).Nodup) (hlt : ∀ e ∈ ca, e.1 < n) : isort (ca.map fun e => (e.1 : Int)) = (keysN n ca).map fun i : Nat => (i : Int) := by
  have hp : (keysN n ca).Perm (ca.map (·.1)) := by
    refine (List.perm_ext_iff_of_nodup (List.nodup_range.filter _) hnd).2 fun i => ?_
    show i ∈ keysN n ca ↔ _
    rw [keysN_mem]
    constructor
    · exact fun h => h.2
    · intro h
      obtain ⟨e, he, rfl⟩ := List.mem_map.1 h
      exact ⟨hlt e he, h⟩
  have hq : (isort (ca.map fun e => (e.1 : Int))).Perm ((keysN n ca).map fun i : Nat => (i : Int)) := by
    refine (isort_perm _).trans ?_
    have h2 := (hp.map fun i : Nat => (i : Int)).symm
    rw [List.map_map] at h2
    exact h2
  refine List.Perm.eq_of_pairwise (le := fun a b => a ≤ b) (fun a b _ _ h1 h2 => Int.le_antisymm h1 h2) (isort_sorted _) ?_ hq
  refine List.pairwise_map.2 ?_
  have : (List.range n).Pairwise (· ≤ ·) := List.pairwise_lt_range.imp fun h => Nat.le_of_lt h
  exact (this.filter _).imp fun h => by omega

theorem keysOf_ent : ∀ {ca : List (Nat × Pg)}, (∀ e ∈ ca, e.1 < 1000000) → keysOf (ca.map ent) = some (ca.map fun e => (e.1 : Int))
  | [], h => rfl
  | e :: r, h => by
    have ih := keysOf_ent fun x hx => h x (List.mem_cons_of_mem _ hx)
    have := h e List.mem_cons_self
    rw [List.map_cons]
    unfold ent keysOf
    rw [if_pos (by omega)]
    unfold ent at ih
    rw [ih]; rfl

theorem tear_len {c : Nat} {p q : Pg} (hp : p.length = 64) (hq : q.length = 64) (hc : c ≤ 64) : (tear c p q).length = 64 := by
  unfold tear
  rw [List.length_append, List.length_take, List.length_drop]; omega
theorem tk64 {A B : List V} {k : Nat} (h : A.length = 64) : (A ++ B).take (64 + k) = A ++ B.take k := by
  rw [List.take_append, h, List.take_of_length_le (by omega), Nat.add_sub_cancel_left]
theorem dr64 {A B : List V} {k : Nat} (h : A.length = 64) : (A ++ B).drop (64 + k) = B.drop k := by
  rw [← List.drop_drop, List.drop_left' h]
theorem pgC_set : ∀ {pgs : List Pg} {i : Nat} {q x : Pg}, (∀ p ∈ pgs, p.length = 64) → pgs[i]? = some q → x.length = 64 → pgC (pgs.set i x) = (pgC pgs).take (i * 64) ++ bytesA x ++ (pgC pgs).drop (i * 64 + 64)
  | [], i, q, x, h, hi, hx => by simp at hi
  | p :: r, 0, q, x, h, hi, hx => by
    have hp := h p List.mem_cons_self
    unfold pgC
    rw [List.set_cons_zero, List.flatMap_cons, List.flatMap_cons, Nat.zero_mul, List.take_zero, List.nil_append, Nat.zero_add, List.drop_left' (by rw [bytesA_length, hp])]
  | p :: r, i + 1, q, x, h, hi, hx => by
    have hp := h p List.mem_cons_self
    have ih := pgC_set (fun y hy => h y (List.mem_cons_of_mem _ hy)) (by simpa using hi : r[i]? = some q) hx
    unfold pgC at ih ⊢
    rw [List.set_cons_succ, List.flatMap_cons, List.flatMap_cons, ih]
    have e1 : (i + 1) * 64 = 64 + i * 64 := by omega
    have e2 : 64 + i * 64 + 64 = 64 + (i * 64 + 64) := by omega
    rw [e1, e2, tk64 (by rw [bytesA_length, hp]), dr64 (by rw [bytesA_length, hp]), List.append_assoc, List.append_assoc, List.append_assoc]
/-- A beginning of a page laid over one. -/
theorem pgC_tear {pgs : List Pg} {i c : Nat} {p q : Pg} (h : ∀ p ∈ pgs, p.length = 64) (hi : pgs[i]? = some q) (hp : p.length = 64) (hc : c ≤ 64) : splice (pgC pgs) (i * 64) ((bytesA p).take c) = pgC (pgs.set i (tear c p q)) := by
  have hq := h q (List.mem_of_getElem? hi)
  rw [pgC_set h hi (tear_len hp hq hc)]
  have hat := pgC_at h hi
  have hlen := pgC_len h
  have hil : i < pgs.length := (List.getElem?_eq_some_iff.1 hi).1
  have hkk : (i + 1) * 64 ≤ pgs.length * 64 := Nat.mul_le_mul_right 64 hil
  unfold splice tear
  rw [bytesA_append, ← bytesA_take, ← bytesA_drop, ← hat]
  have l1 : ((bytesA p).take c).length = c := by rw [List.length_take, bytesA_length]; omega
  rw [l1, List.drop_take, List.drop_drop, List.append_assoc, List.append_assoc, List.append_assoc]
  congr 2
  have e1 : List.drop (i * 64 + c) (pgC pgs) = List.take (64 - c) (List.drop (i * 64 + c) (pgC pgs)) ++ List.drop (64 - c) (List.drop (i * 64 + c) (pgC pgs)) := (List.take_append_drop _ _).symm
  rw [e1, List.drop_drop, List.take_append_of_le_length (by rw [List.length_take, List.length_drop]; omega), List.take_of_length_le (l := List.take _ _) (by rw [List.length_take]; omega)]
  congr 2; omega

section
variable {o : List AM.Obj} {e d dd pg lm : Nat} {on down : Bool} {left : Int} {pgs : List Pg} {ca : List (Nat × Pg)}
set_option maxHeartbeats 2000000 in
theorem fuse_q (P : PD o dd pg lm on down left pgs ca) (n : Int) : ∃ v oh, Den FF E2 18 [.ptr dd 0, .int .i64 n] ⟨o, e, d⟩ = some (v, oh) ∧ v = .val (.tuple []) ∧ ∃ o' d', oh.getD ⟨o, e, d⟩ = ⟨o', e, d'⟩ ∧ PD o' dd pg lm (decide (0 ≤ n)) down (if 0 > n then 0 else n) pgs ca ∧ Dx dd pg lm o o' := by
  refine To.denE hxE2 (f := 18) (a := af18) rfl (E2_none rfl) (Nat.le_of_ble_eq_true rfl) ?_
  have hs : ∀ x, (o.set dd x)[dd]? = some x := fun x => List.getElem?_set_self P.ld
  have hld := P.ld
  (repeat' (first | refine To.seq hxE2 ?_ | refine To.op0 hxE2 (by simp only [go_sem, eqs hxE2, reduceIte, seval, Heap.gets, Heap.sets, Heap.get, bytesA_length, bytesA_one, bytesA_plains, List.take_of_length_le, List.drop_of_length_le, Nat.add_zero, V.one, Nat.reduceLeDiff, List.all_cons, List.all_nil, ne_eq, not_false_eq_true, Nat.zero_le, P.hd, hs, List.set_set]; rfl) ?_ | refine To.op1 hxE2 (by simp only [go_sem, eqs hxE2, reduceIte, seval, Heap.gets, Heap.sets, Heap.get, bytesA_length, bytesA_one, bytesA_plains, List.take_of_length_le, List.drop_of_length_le, Nat.add_zero, V.one, Nat.reduceLeDiff, List.all_cons, List.all_nil, ne_eq, not_false_eq_true, Nat.zero_le, P.hd, hs, List.set_set]; rfl) ?_ | refine To.nop hxE2 ?_ | (refine To.condT hxE2 ?_ ?_; focus (simp only [go_sem, eqs hxE2, reduceIte, seval, Heap.gets, Heap.sets, Heap.get, bytesA_length, bytesA_one, bytesA_plains, List.take_of_length_le, List.drop_of_length_le, Nat.add_zero, V.one, Nat.reduceLeDiff, List.all_cons, List.all_nil, ne_eq, not_false_eq_true, Nat.zero_le, P.hd, hs, List.set_set]; done))))
  try simp only [andThen, outOf]
  refine ⟨_, _, fin0n rfl, rfl, ?_⟩
  obtain ⟨d2, hlv, _⟩ := leave_same2 (o := o) (o' := o.set dd (.cells .ex 92 0 [.bool (decide (0 ≤ n)), .bool down, .int .i64 (if 0 > n then 0 else n), .slice pg 0 pgs.length 64, .map lm])) (e := e) (d := d) (d' := min (min o.length dd) dd) (v := .tuple []) rfl (by simp) (fun h => by omega)
  exact ⟨_, d2, hlv, P.fuse _ _ _, dx_dd _⟩
end
end Go.Proofs.Ytfbkeieoeagkdaa

/- Disk: Crash as a fact. -/
namespace Go.Proofs.Ytfbkeieoeagkdaa
open Go AM
set_option linter.unusedSimpArgs false
set_option linter.unusedVariables false
set_option maxRecDepth 100000
section
variable {o : List AM.Obj} {e d dd pg lm : Nat} {on down : Bool} {left : Int} {pgs : List Pg} {ca : List (Nat × Pg)}

theorem keys_q : Den FF E2 51 [.map lm] ⟨o, o.length, o.length⟩ = some (.val (.fn 69 [] [.ptr o.length 0]), some ⟨o ++ [.cells .ex 29 0 [.map lm]], o.length, o.length⟩) := by
  refine To.den hxE2 (f := 51) (a := af51) rfl (E2_none rfl) (Nat.le_of_ble_eq_true rfl) ?_
  (repeat' (first | refine To.seq hxE2 ?_ | refine To.op0 hxE2 (by simp only [go_sem, eqs hxE2, reduceIte, seval, Heap.gets, Heap.sets, Heap.get, bytesA_length, bytesA_one, bytesA_plains, List.take_of_length_le, List.drop_of_length_le, Nat.add_zero, V.one, Nat.reduceLeDiff, List.all_cons, List.all_nil, ne_eq, not_false_eq_true, Nat.zero_le]; rfl) ?_ | refine To.op1 hxE2 (by simp only [go_sem, eqs hxE2, reduceIte, seval, Heap.gets, Heap.sets, Heap.get, bytesA_length, bytesA_one, bytesA_plains, List.take_of_length_le, List.drop_of_length_le, Nat.add_zero, V.one, Nat.reduceLeDiff, List.all_cons, List.all_nil, ne_eq, not_false_eq_true, Nat.zero_le]; rfl) ?_ | refine To.nop hxE2 ?_ | refine To.ret hxE2 ?_))
  try simp only [andThen, outOf]
  rw [fin1 (i := 2) rfl, leave_some (by simp only [go_sem, eqs hxE2, reduceIte, seval])]
  simp only [go_sem, eqs hxE2, reduceIte, seval]

theorem PD.small (P : PD o dd pg lm on down left pgs ca) (h : pgs.length ≤ 1000000) : ∀ e ∈ ca, e.1 < 1000000 := fun e he => by have := (P.c64 e he).2; omega
theorem PD.calen (P : PD o dd pg lm on down left pgs ca) : ca.length = (keysN pgs.length ca).length := by
  have h := isort_keys P.nd fun e he => (P.c64 e he).2
  have h1 := (isort_perm (ca.map fun e => (e.1 : Int))).length_eq
  rw [h] at h1
  simpa using h1.symm
theorem sorted_nil (P : PD o dd pg lm on down left pgs []) {b t : Nat} {r : List AM.Obj} {e d : Nat} (hb : (o ++ r)[b]? = some (.cells .ex t 0 [.map lm])) :
    Den FF E2 50 [.fn 69 [] [.ptr b 0]] ⟨o ++ r, e, d⟩ = some (.val .nils, none) := by
  refine den_hand rfl rfl (sortedH_of ?_)
  have hm : (o ++ r)[lm]? = some (.map []) := app_old P.hm r
  unfold sortedG
  simp only [hb, hm, keysOf]
  rw [if_pos ⟨rfl, Nat.zero_le _⟩, if_pos trivial]
theorem sorted_some (P : PD o dd pg lm on down left pgs ca) (hs : pgs.length ≤ 1000000) (hc : ca ≠ []) {b t : Nat} {r : List AM.Obj} {e d : Nat} (hb : (o ++ r)[b]? = some (.cells .ex t 0 [.map lm])) :
    Den FF E2 50 [.fn 69 [] [.ptr b 0]] ⟨o ++ r, e, d⟩ = some (.val (.slice (o ++ r).length 0 (keysN pgs.length ca).length 1), some ⟨(o ++ r) ++ [.cells .gr 3 0 ((keysN pgs.length ca).map fun i : Nat => V.int .i64 (i : Int))], e, d⟩) := by
  refine den_hand rfl rfl (sortedH_of ?_)
  have hm : (o ++ r)[lm]? = some (.map (ca.map ent)) := app_old P.hm r
  have hlen : ca.length ≤ 1000000 := by
    rw [P.calen]
    exact Nat.le_trans (List.length_filter_le _ _) (by rw [List.length_range]; exact hs)
  have hne : ¬ (ca.map fun e => (e.1 : Int)) = [] := by simpa using hc
  unfold sortedG
  simp only [hb, hm, keysOf_ent (P.small hs)]
  rw [if_pos ⟨apart_ent P.nd, by rw [List.length_map]; exact hlen⟩, if_neg hne, isort_keys P.nd fun e he => (P.c64 e he).2, List.map_map, List.length_map, P.calen]
  rfl

theorem PD.take (P : PD o dd pg lm on down left pgs ca) {n : Nat} (h1 : dd < n) (h2 : pg < n) (h3 : lm < n) : PD (o.take n) dd pg lm on down left pgs ca :=
  ⟨by rw [List.getElem?_take_of_lt h1]; exact P.hd, by rw [List.getElem?_take_of_lt h2]; exact P.hp, by rw [List.getElem?_take_of_lt h3]; exact P.hm, P.p64, P.c64, P.nd⟩
/-- A page is torn. -/
theorem PD.tearP (P : PD o dd pg lm on down left pgs ca) {i : Nat} {x q : Pg} (hi : pgs[i]? = some q) (hx : x.length = 64) : PD (o.set pg (.cells .ex 31 0 (pgC (pgs.set i x)))) dd pg lm on down left (pgs.set i x) ca :=
  ⟨by rw [List.getElem?_set_ne (Ne.symm P.ne3), List.length_set]; exact P.hd, List.getElem?_set_self P.lp, by rw [List.getElem?_set_ne P.ne2]; exact P.hm, fun p hp => by
    rcases List.mem_or_eq_of_mem_set hp with h | rfl
    · exact P.p64 p h
    · exact hx, fun e he => by rw [List.length_set]; exact P.c64 e he, P.nd⟩

set_option maxHeartbeats 16000000 in
theorem crash_q (P : PD o dd pg lm on down left pgs ca) (hs : pgs.length ≤ 1000000) {v : V} {b : List UInt8} (hB : BArg o v b) (hbm : b.length ≤ 1000000) :
    ∃ r oh, Den FF E2 20 [.ptr dd 0, v] ⟨o, e, d⟩ = some (r, oh) ∧ r = .val (.tuple []) ∧ ∃ o' d', oh.getD ⟨o, e, d⟩ = ⟨o', e, d'⟩ ∧ PD o' dd pg lm false false 0 (crashN ca b 0 (keysN pgs.length ca) pgs) [] ∧ Dx dd pg lm o o' := by
  refine To.denE hxE2 (f := 20) (a := af20) rfl (E2_none rfl) (Nat.le_of_ble_eq_true rfl) ?_
  have hK : (keysN pgs.length ca).length ≤ 1000000 := Nat.le_trans (List.length_filter_le _ _) (by rw [List.length_range]; exact hs)
  have hKm : ∀ i ∈ keysN pgs.length ca, i ∈ ca.map (·.1) := fun i hi => (keysN_mem.1 hi).2
  have hc0 : ca = [] → keysN pgs.length ca = [] := fun h => List.eq_nil_of_length_eq_zero (by rw [← P.calen, h]; rfl)
  have hld := P.ld
  have hlp := P.lp
  have hll := P.ll
  have qk := keys_q (o := o) (lm := lm)
  have qs : ∃ kv kr, Den FF E2 50 [.fn 69 [] [.ptr o.length 0]] ⟨o ++ [.cells .ex 29 0 [.map lm]], o.length, o.length⟩ = some (.val kv, kr) ∧ (∃ r, kr.getD ⟨o ++ [.cells .ex 29 0 [.map lm]], o.length, o.length⟩ = ⟨o ++ r, o.length, o.length⟩ ∧
      (keysN pgs.length ca ≠ [] → kv = .slice (o.length + 1) 0 (keysN pgs.length ca).length 1 ∧ (o ++ r)[o.length + 1]? = some (.cells .gr 3 0 ((keysN pgs.length ca).map fun i : Nat => V.int .i64 (i : Int))))) ∧ lenLV kv = some (.int .i64 ((keysN pgs.length ca).length : Int), none) := by
    by_cases hc : ca = []
    · subst hc
      refine ⟨_, _, sorted_nil P (app_get0 _ _ _), ⟨_, rfl, fun h => absurd (hc0 rfl) h⟩, ?_⟩
      rw [hc0 rfl]; rfl
    · refine ⟨_, _, sorted_some P hs hc (app_get0 _ _ _), ⟨_, by rw [List.append_assoc]; rfl, fun _ => ⟨by simp, ?_⟩⟩, rfl⟩
      exact app_getk _ _ 1
  obtain ⟨kv, kr, qs, ⟨r, hr, hkv⟩, hkl⟩ := qs
  have Pr := P.app r
  (repeat' (first | refine To.seq hxE2 ?_ | refine To.op0 hxE2 (by simp only [go_sem, eqs hxE2, reduceIte, seval, Heap.gets, Heap.sets, Heap.get, bytesA_length, bytesA_one, bytesA_plains, List.take_of_length_le, List.drop_of_length_le, Nat.add_zero, V.one, Nat.reduceLeDiff, List.all_cons, List.all_nil, ne_eq, not_false_eq_true, Nat.zero_le, P.hd, qk]; rfl) ?_ | refine To.op1 hxE2 (by simp only [go_sem, eqs hxE2, reduceIte, seval, Heap.gets, Heap.sets, Heap.get, bytesA_length, bytesA_one, bytesA_plains, List.take_of_length_le, List.drop_of_length_le, Nat.add_zero, V.one, Nat.reduceLeDiff, List.all_cons, List.all_nil, ne_eq, not_false_eq_true, Nat.zero_le, P.hd, qk]; rfl) ?_ | refine To.nop hxE2 ?_ | (refine To.condF hxE2 ?_ ?_; focus (simp only [go_sem, eqs hxE2, reduceIte, seval, Heap.gets, Heap.sets, Heap.get, bytesA_length, bytesA_one, bytesA_plains, List.take_of_length_le, List.drop_of_length_le, Nat.add_zero, V.one, Nat.reduceLeDiff, List.all_cons, List.all_nil, ne_eq, not_false_eq_true, Nat.zero_le, P.hd, qk]; done)) | refine To.skip hxE2 ?_))
  refine To.op hxE2 (by simp only [go_sem, eqs hxE2, reduceIte, seval, qs]; rfl) ?_
  rw [hr]
  (repeat' (first | refine To.op0 hxE2 (by simp only [go_sem, eqs hxE2, reduceIte, seval, Heap.gets, Heap.sets, Heap.get, bytesA_length, bytesA_one, bytesA_plains, List.take_of_length_le, List.drop_of_length_le, Nat.add_zero, V.one, Nat.reduceLeDiff, List.all_cons, List.all_nil, ne_eq, not_false_eq_true, Nat.zero_le, hkl]; rfl) ?_ | refine To.nop hxE2 ?_ | refine To.block hxE2 ?_))
  generalize hKe : keysN pgs.length ca = K at *
  have hold : ∀ l, l < o.length → (o ++ r)[l]? = o[l]? := fun l hl => List.getElem?_append_left hl
  have hro : o.length ≤ (o ++ r).length := by simp
  generalize o ++ r = oo at *
  refine To.loop hxE2 (fun m S h' => ∃ (j : Nat) (oo : List AM.Obj) (d' : Nat) (pg' : List Pg), j + m = K.length ∧ h' = ⟨oo, o.length, d'⟩ ∧ PD oo dd pg lm on down left pg' ca ∧ o.length ≤ oo.length ∧ (∀ l, l < o.length → l ≠ dd → l ≠ pg → l ≠ lm → oo[l]? = o[l]?) ∧
    (K ≠ [] → oo[o.length + 1]? = some (.cells .gr 3 0 (K.map fun i : Nat => V.int .i64 (i : Int)))) ∧ crashN ca b j (K.drop j) pg' = crashN ca b 0 K pgs ∧ S 0 = .ptr dd 0 ∧ S 1 = v ∧ S 14 = kv ∧ S 15 = .int .i64 (K.length : Int) ∧ S 16 = .int .i64 (j : Int)) ?_ K.length _ _ ?_
  · rintro m S _ ⟨j, oo, d', pg', hm, rfl, P', hle', hold', hrow, hcr, s0, s1, s14, s15, s16⟩
    by_cases hj : j < K.length
    · have hlt : decide ((j : Int) < (K.length : Int)) = true := decide_eq_true (by omega)
      have hK0 : K ≠ [] := by rintro rfl; simp at hj
      obtain ⟨rfl, _⟩ := hkv hK0
      have hrow := hrow hK0
      have hKj : K[j]? = some K[j] := List.getElem?_eq_getElem hj
      have hdrop : K.drop j = K[j] :: K.drop (j + 1) := List.drop_eq_getElem_cons hj
      have hmem := hKm _ (List.getElem_mem hj)
      generalize K[j] = i at hKj hdrop hmem
      obtain ⟨en, hen, rfl⟩ := List.mem_map.1 hmem
      have hil := (P'.c64 en hen).2
      have hfi : ∃ p, findC en.1 ca = some p ∧ p.length = 64 := by
        have h1 := (hasK_iff (i := en.1) (ca := ca)).2 hmem
        unfold hasK at h1
        cases hf : findC en.1 ca with
        | none => rw [hf] at h1; cases h1
        | some p =>
          refine ⟨p, rfl, ?_⟩
          unfold findC at hf
          obtain ⟨x, hx, rfl⟩ := Option.map_eq_some_iff.1 hf
          exact (P'.c64 x (List.mem_of_find?_eq_some hx)).1
      obtain ⟨p, hfp, hp64⟩ := hfi
      generalize en.1 = i at *
      have ix : idxOf K.length (.int .i64 (j : Int)) = some j := idxOf_nat hj
      have hkj : (K.map fun i : Nat => V.int .i64 (i : Int))[j]? = some (.int .i64 (i : Int)) := by rw [List.getElem?_map, hKj]; rfl
      have wj : IntKind.i64.wrap ((j : Int) + 1) = ((j + 1 : Nat) : Int) := by rw [wrap_i64 (by omega) (by omega)]; omega
      have hbl := hB.len
      rw [hdrop] at hcr
      (repeat' (first | refine To.seq hxE2 ?_ | refine To.op0 hxE2 (by simp only [go_sem, eqs hxE2, reduceIte, seval, Heap.gets, Heap.sets, Heap.get, bytesA_length, bytesA_one, bytesA_plains, List.take_of_length_le, List.drop_of_length_le, Nat.add_zero, V.one, Nat.reduceLeDiff, List.all_cons, List.all_nil, ne_eq, not_false_eq_true, Nat.zero_le, s0, s1, s14, s15, s16, hlt, ix, hrow, hkj, hbl]; rfl) ?_ | refine To.nop hxE2 ?_ | (refine To.condT hxE2 ?_ ?_; focus (simp only [go_sem, eqs hxE2, reduceIte, seval, Heap.gets, Heap.sets, Heap.get, bytesA_length, bytesA_one, bytesA_plains, List.take_of_length_le, List.drop_of_length_le, Nat.add_zero, V.one, Nat.reduceLeDiff, List.all_cons, List.all_nil, ne_eq, not_false_eq_true, Nat.zero_le, s0, s1, s14, s15, s16, hlt, ix, hrow, hkj, hbl]; done)) | refine To.block hxE2 ?_ | refine To.skip hxE2 ?_))
      simp only [andThen]
      by_cases hjb : j < b.length
      · have d24 : decide ((j : Int) < (b.length : Int)) = true := decide_eq_true (by omega)
        obtain ⟨x, hx⟩ : ∃ x, b[j]? = some x := ⟨b[j], List.getElem?_eq_getElem hjb⟩
        have hb0 : b ≠ [] := by rintro rfl; simp at hjb
        obtain ⟨lb, tb, rfl, hlb⟩ := hB.at_ hb0
        have hlb' : oo[lb]? = some (.cells .ro tb 0 (bytesA b)) := by
          rw [hold' lb (get_lt hlb) (by rintro rfl; rw [P.hd] at hlb; cases hlb) (by rintro rfl; rw [P.hp] at hlb; cases hlb) (by rintro rfl; rw [P.hm] at hlb; cases hlb)]
          exact hlb
        have hq : pg'[i]? = some pg'[i] := List.getElem?_eq_getElem hil
        have hq64 := P'.p64 _ (List.getElem_mem hil)
        have hqd : pg'.getD i (zs 64) = pg'[i] := by rw [List.getD_eq_getElem?_getD, hq]; rfl
        generalize pg'[i] = q at hq hq64 hqd
        have hc65 : x.toNat % 65 < 65 := Nat.mod_lt _ (by decide)
        have hcr' : crashN ca b (j + 1) (K.drop (j + 1)) (pg'.set i (tear (x.toNat % 65) p q)) = crashN ca b 0 K pgs := by
          rw [← hcr, crashN, hx, hfp, hqd]; rfl
        have hxl : x.toNat < 256 := x.toNat_lt
        have w1 : IntKind.i64.wrap (x.toNat : Int) = (x.toNat : Int) := wrap_i64 (by omega) (by omega)
        have m1 : Int.tmod (x.toNat : Int) 65 = ((x.toNat % 65 : Nat) : Int) := by rw [Int.tmod_eq_emod_of_nonneg (by omega)]; omega
        generalize x.toNat % 65 = c at *
        have ixb : idxOf b.length (.int .i64 (j : Int)) = some j := idxOf_nat hjb
        have ixp : idxOf pg'.length (.int .i64 (i : Int)) = some i := idxOf_nat hil
        have hbx : (bytesA b)[j]? = some (.int .u8 (x.toNat : Int)) := by rw [bytesA_get, hx]; rfl
        have hpl := pgC_len P'.p64
        have hkk : (i + 1) * 64 ≤ pg'.length * 64 := Nat.mul_le_mul_right 64 hil
        have hle2 : i * 64 + 64 ≤ (pgC pg').length := by omega
        have hle3 : i * 64 + c ≤ (pgC pg').length := by omega
        have hl1 : (List.take c (bytesA p)).length = c := by rw [List.length_take, bytesA_length]; omega
        have ho1 : (List.take c (bytesA p)).all V.one = true := by rw [bytesA_take]; exact bytesA_one _
        have hp1 : V.plains (List.take c (bytesA p)) = true := by rw [bytesA_take]; exact bytesA_plains _
        have hmin : min 64 c = c := Nat.min_eq_right (by omega)
        have hbd : boundsA 64 64 none (some (.int .i64 (c : Int))) = some (0, c) := by
          simp only [boundsA, hiB, loB]
          rw [if_pos (by omega)]
          simp
        have hbd2 : boundsA 64 64 none none = some (0, 64) := rfl
        have hsp : List.take (i * 64) (pgC pg') ++ (List.take c (bytesA p) ++ List.drop (i * 64 + c) (pgC pg')) = pgC (pg'.set i (tear c p q)) := by
          have := pgC_tear P'.p64 hq hp64 (by omega : c ≤ 64)
          unfold splice at this
          rw [hl1, List.append_assoc] at this
          exact this
        have gd : ∀ r, (oo ++ r)[dd]? = some (.cells .ex 92 0 [.bool on, .bool down, .int .i64 left, .slice pg 0 pg'.length 64, .map lm]) := fun r => app_old P'.hd r
        have gp : ∀ r, (oo ++ r)[pg]? = some (.cells .ex 31 0 (pgC pg')) := fun r => app_old P'.hp r
        have gb : ∀ r, (oo ++ r)[lb]? = some (.cells .ro tb 0 (bytesA b)) := fun r => app_old hlb' r
        have hst : ∀ r x, (oo ++ r).set pg x = oo.set pg x ++ r := fun r x => set_app _ _ _ P'.lp
        have hkey : V.key .i (.int .i64 (i : Int)) = true := rfl
        have hmf := mapFind_ent i ca P'.nd
        rw [hfp, Option.map_some] at hmf
        have hgets : ∀ e d, (⟨oo ++ [.cells .ex 31 0 (bytesA p)], e, d⟩ : Heap).gets oo.length 0 c = some (List.take c (bytesA p)) := fun e d => by
          simp only [Heap.gets, app_get0]
          split
          · rename_i h; rw [h]; rfl
          · rw [if_pos (by rw [bytesA_length]; omega), List.drop_zero]
        have hdr : List.drop 64 z64 = [] := rfl
        have htl : K ≠ [] := hK0
        have hx64 : (tear c p q).length = 64 := tear_len hp64 hq64 (by omega)
        by_cases hone : i * 64 = 0 ∧ (pgC pg').length = 64
        · have hT : (i * 64 = 0 ∧ (pgC pg').length = 64) = True := eq_true hone
          have hsp0 : List.take c (bytesA p) ++ List.drop c (pgC pg') = pgC (pg'.set i (tear c p q)) := by
            rw [hone.1, List.take_zero, List.nil_append, Nat.zero_add] at hsp
            exact hsp
          have hlec : c ≤ (pgC pg').length := by omega
          (repeat' (first | refine To.seq hxE2 ?_ | refine To.op0 hxE2 (by simp only [go_sem, eqs hxE2, reduceIte, seval, Heap.sets, Heap.get, bytesA_length, bytesA_one, bytesA_plains, List.take_of_length_le, List.drop_of_length_le, Nat.add_zero, V.one, Nat.reduceLeDiff, List.all_cons, List.all_nil, ne_eq, not_false_eq_true, Nat.zero_le, s0, s1, s14, s15, s16, d24, P'.hd, P'.hm, gd, gp, gb, ixb, ixp, hbx, w1, m1, hT, hsp0, hlec, hbd, hbd2, hgets, hmin, hl1, ho1, hp1, hle3, hsp, hst, hkey, hmf, hdr, hp64, z64_len, z64_one, z64_plains, wj]; rfl) ?_ | refine To.op1 hxE2 (by simp only [go_sem, eqs hxE2, reduceIte, seval, Heap.sets, Heap.get, bytesA_length, bytesA_one, bytesA_plains, List.take_of_length_le, List.drop_of_length_le, Nat.add_zero, V.one, Nat.reduceLeDiff, List.all_cons, List.all_nil, ne_eq, not_false_eq_true, Nat.zero_le, s0, s1, s14, s15, s16, d24, P'.hd, P'.hm, gd, gp, gb, ixb, ixp, hbx, w1, m1, hT, hsp0, hlec, hbd, hbd2, hgets, hmin, hl1, ho1, hp1, hle3, hsp, hst, hkey, hmf, hdr, hp64, z64_len, z64_one, z64_plains, wj]; rfl) ?_ | refine To.nop hxE2 ?_ | (refine To.condT hxE2 ?_ ?_; focus (simp only [go_sem, eqs hxE2, reduceIte, seval, Heap.sets, Heap.get, bytesA_length, bytesA_one, bytesA_plains, List.take_of_length_le, List.drop_of_length_le, Nat.add_zero, V.one, Nat.reduceLeDiff, List.all_cons, List.all_nil, ne_eq, not_false_eq_true, Nat.zero_le, s0, s1, s14, s15, s16, d24, P'.hd, P'.hm, gd, gp, gb, ixb, ixp, hbx, w1, m1, hT, hsp0, hlec, hbd, hbd2, hgets, hmin, hl1, ho1, hp1, hle3, hsp, hst, hkey, hmf, hdr, hp64, z64_len, z64_one, z64_plains, wj]; done)) | refine To.draw0 hxE2 ?_ | refine ToD.op0 (by simp only [go_sem, eqs hxE2, reduceIte, seval, Heap.sets, Heap.get, bytesA_length, bytesA_one, bytesA_plains, List.take_of_length_le, List.drop_of_length_le, Nat.add_zero, V.one, Nat.reduceLeDiff, List.all_cons, List.all_nil, ne_eq, not_false_eq_true, Nat.zero_le, s0, s1, s14, s15, s16, d24, P'.hd, P'.hm, gd, gp, gb, ixb, ixp, hbx, w1, m1, hT, hsp0, hlec, hbd, hbd2, hgets, hmin, hl1, ho1, hp1, hle3, hsp, hst, hkey, hmf, hdr, hp64, z64_len, z64_one, z64_plains, wj]; rfl) (by simp only [put_some, put_none]; rfl) ?_ | refine ToD.op1 (by simp only [go_sem, eqs hxE2, reduceIte, seval, Heap.sets, Heap.get, bytesA_length, bytesA_one, bytesA_plains, List.take_of_length_le, List.drop_of_length_le, Nat.add_zero, V.one, Nat.reduceLeDiff, List.all_cons, List.all_nil, ne_eq, not_false_eq_true, Nat.zero_le, s0, s1, s14, s15, s16, d24, P'.hd, P'.hm, gd, gp, gb, ixb, ixp, hbx, w1, m1, hT, hsp0, hlec, hbd, hbd2, hgets, hmin, hl1, ho1, hp1, hle3, hsp, hst, hkey, hmf, hdr, hp64, z64_len, z64_one, z64_plains, wj]; rfl) (by simp only [put_some, put_none]; rfl) (by simp only [KD.app, go_sem, eqs hxE2, reduceIte, seval, Heap.sets, Heap.get, bytesA_length, bytesA_one, bytesA_plains, List.take_of_length_le, List.drop_of_length_le, Nat.add_zero, V.one, Nat.reduceLeDiff, List.all_cons, List.all_nil, ne_eq, not_false_eq_true, Nat.zero_le, s0, s1, s14, s15, s16, d24, P'.hd, P'.hm, gd, gp, gb, ixb, ixp, hbx, w1, m1, hT, hsp0, hlec, hbd, hbd2, hgets, hmin, hl1, ho1, hp1, hle3, hsp, hst, hkey, hmf, hdr, hp64, z64_len, z64_one, z64_plains, wj]; rfl) ?_ | refine ToD.nop ?_))
          simp only [andThen, outOf]
          refine ⟨m - 1, by omega, j + 1, _, _, pg'.set i (tear c p q), by omega, rfl, (P'.tearP hq hx64).app _, by simp; omega, fun l hl a b' c' => ?_, fun _ => ?_, hcr', ?_⟩
          · rw [List.getElem?_append_left (by simp; omega), List.getElem?_set_ne (Ne.symm b')]; exact hold' l hl a b' c'
          · exact app_old (by rw [List.getElem?_set_ne (by omega)]; exact hrow) _
          · simp only [go_sem, eqs hxE2, reduceIte, seval, s0, s1, s14, s15]
        · have hf : (i * 64 = 0 ∧ (pgC pg').length = 64) = False := eq_false hone
          (repeat' (first | refine To.seq hxE2 ?_ | refine To.op0 hxE2 (by simp only [go_sem, eqs hxE2, reduceIte, seval, Heap.sets, Heap.get, bytesA_length, bytesA_one, bytesA_plains, List.take_of_length_le, List.drop_of_length_le, Nat.add_zero, V.one, Nat.reduceLeDiff, List.all_cons, List.all_nil, ne_eq, not_false_eq_true, Nat.zero_le, s0, s1, s14, s15, s16, d24, P'.hd, P'.hm, gd, gp, gb, ixb, ixp, hbx, w1, m1, hf, hle2, hbd, hbd2, hgets, hmin, hl1, ho1, hp1, hle3, hsp, hst, hkey, hmf, hdr, hp64, z64_len, z64_one, z64_plains, wj]; rfl) ?_ | refine To.op1 hxE2 (by simp only [go_sem, eqs hxE2, reduceIte, seval, Heap.sets, Heap.get, bytesA_length, bytesA_one, bytesA_plains, List.take_of_length_le, List.drop_of_length_le, Nat.add_zero, V.one, Nat.reduceLeDiff, List.all_cons, List.all_nil, ne_eq, not_false_eq_true, Nat.zero_le, s0, s1, s14, s15, s16, d24, P'.hd, P'.hm, gd, gp, gb, ixb, ixp, hbx, w1, m1, hf, hle2, hbd, hbd2, hgets, hmin, hl1, ho1, hp1, hle3, hsp, hst, hkey, hmf, hdr, hp64, z64_len, z64_one, z64_plains, wj]; rfl) ?_ | refine To.nop hxE2 ?_ | (refine To.condT hxE2 ?_ ?_; focus (simp only [go_sem, eqs hxE2, reduceIte, seval, Heap.sets, Heap.get, bytesA_length, bytesA_one, bytesA_plains, List.take_of_length_le, List.drop_of_length_le, Nat.add_zero, V.one, Nat.reduceLeDiff, List.all_cons, List.all_nil, ne_eq, not_false_eq_true, Nat.zero_le, s0, s1, s14, s15, s16, d24, P'.hd, P'.hm, gd, gp, gb, ixb, ixp, hbx, w1, m1, hf, hle2, hbd, hbd2, hgets, hmin, hl1, ho1, hp1, hle3, hsp, hst, hkey, hmf, hdr, hp64, z64_len, z64_one, z64_plains, wj]; done)) | refine To.draw0 hxE2 ?_ | refine ToD.op0 (by simp only [go_sem, eqs hxE2, reduceIte, seval, Heap.sets, Heap.get, bytesA_length, bytesA_one, bytesA_plains, List.take_of_length_le, List.drop_of_length_le, Nat.add_zero, V.one, Nat.reduceLeDiff, List.all_cons, List.all_nil, ne_eq, not_false_eq_true, Nat.zero_le, s0, s1, s14, s15, s16, d24, P'.hd, P'.hm, gd, gp, gb, ixb, ixp, hbx, w1, m1, hf, hle2, hbd, hbd2, hgets, hmin, hl1, ho1, hp1, hle3, hsp, hst, hkey, hmf, hdr, hp64, z64_len, z64_one, z64_plains, wj]; rfl) (by simp only [put_some, put_none]; rfl) ?_ | refine ToD.op1 (by simp only [go_sem, eqs hxE2, reduceIte, seval, Heap.sets, Heap.get, bytesA_length, bytesA_one, bytesA_plains, List.take_of_length_le, List.drop_of_length_le, Nat.add_zero, V.one, Nat.reduceLeDiff, List.all_cons, List.all_nil, ne_eq, not_false_eq_true, Nat.zero_le, s0, s1, s14, s15, s16, d24, P'.hd, P'.hm, gd, gp, gb, ixb, ixp, hbx, w1, m1, hf, hle2, hbd, hbd2, hgets, hmin, hl1, ho1, hp1, hle3, hsp, hst, hkey, hmf, hdr, hp64, z64_len, z64_one, z64_plains, wj]; rfl) (by simp only [put_some, put_none]; rfl) (by simp only [KD.app, go_sem, eqs hxE2, reduceIte, seval, Heap.sets, Heap.get, bytesA_length, bytesA_one, bytesA_plains, List.take_of_length_le, List.drop_of_length_le, Nat.add_zero, V.one, Nat.reduceLeDiff, List.all_cons, List.all_nil, ne_eq, not_false_eq_true, Nat.zero_le, s0, s1, s14, s15, s16, d24, P'.hd, P'.hm, gd, gp, gb, ixb, ixp, hbx, w1, m1, hf, hle2, hbd, hbd2, hgets, hmin, hl1, ho1, hp1, hle3, hsp, hst, hkey, hmf, hdr, hp64, z64_len, z64_one, z64_plains, wj]; rfl) ?_ | refine ToD.nop ?_))
          simp only [andThen, outOf]
          refine ⟨m - 1, by omega, j + 1, _, _, pg'.set i (tear c p q), by omega, rfl, (P'.tearP hq hx64).app _, by simp; omega, fun l hl a b' c' => ?_, fun _ => ?_, hcr', ?_⟩
          · rw [List.getElem?_append_left (by simp; omega), List.getElem?_set_ne (Ne.symm b')]; exact hold' l hl a b' c'
          · exact app_old (by rw [List.getElem?_set_ne (by omega)]; exact hrow) _
          · simp only [go_sem, eqs hxE2, reduceIte, seval, s0, s1, s14, s15]
      · have d24 : decide ((j : Int) < (b.length : Int)) = false := decide_eq_false (by omega)
        have hbn : b[j]? = none := List.getElem?_eq_none (by omega)
        (repeat' (first | refine To.op0 hxE2 (by simp only [go_sem, eqs hxE2, reduceIte, seval, Heap.gets, Heap.sets, Heap.get, bytesA_length, bytesA_one, bytesA_plains, List.take_of_length_le, List.drop_of_length_le, Nat.add_zero, V.one, Nat.reduceLeDiff, List.all_cons, List.all_nil, ne_eq, not_false_eq_true, Nat.zero_le, s0, s1, s14, s15, s16, d24, wj]; rfl) ?_ | refine To.nop hxE2 ?_ | (refine To.condF hxE2 ?_ ?_; focus (simp only [go_sem, eqs hxE2, reduceIte, seval, Heap.gets, Heap.sets, Heap.get, bytesA_length, bytesA_one, bytesA_plains, List.take_of_length_le, List.drop_of_length_le, Nat.add_zero, V.one, Nat.reduceLeDiff, List.all_cons, List.all_nil, ne_eq, not_false_eq_true, Nat.zero_le, s0, s1, s14, s15, s16, d24, wj]; done)) | refine To.skip hxE2 ?_))
        simp only [andThen, outOf]
        refine ⟨m - 1, by omega, j + 1, oo, d', pg', by omega, rfl, P', hle', hold', fun _ => hrow, ?_, ?_⟩
        · rw [← hcr, crashN, hbn]
        · simp only [go_sem, eqs hxE2, reduceIte, seval, s0, s1, s14, s15]
    · have hlt : decide ((j : Int) < (K.length : Int)) = false := decide_eq_false (by omega)
      have hjK : K.drop j = [] := List.drop_eq_nil_of_le (by omega)
      rw [hjK, crashN] at hcr
      subst hcr
      have hd2 : (oo.set lm (.map []))[dd]? = some (.cells .ex 92 0 [.bool on, .bool down, .int .i64 left, .slice pg 0 (crashN ca b 0 K pgs).length 64, .map lm]) := by rw [List.getElem?_set_ne (Ne.symm P'.ne1)]; exact P'.hd
      (repeat' (first | refine To.seq hxE2 ?_ | refine To.op0 hxE2 (by simp only [go_sem, eqs hxE2, reduceIte, seval, Heap.gets, Heap.sets, Heap.get, bytesA_length, bytesA_one, bytesA_plains, List.take_of_length_le, List.drop_of_length_le, Nat.add_zero, V.one, Nat.reduceLeDiff, List.all_cons, List.all_nil, ne_eq, not_false_eq_true, Nat.zero_le, s0, s1, s14, s15, s16, hlt, P'.hd, P'.hm, hd2, Heap.setMap]; rfl) ?_ | refine To.op1 hxE2 (by simp only [go_sem, eqs hxE2, reduceIte, seval, Heap.gets, Heap.sets, Heap.get, bytesA_length, bytesA_one, bytesA_plains, List.take_of_length_le, List.drop_of_length_le, Nat.add_zero, V.one, Nat.reduceLeDiff, List.all_cons, List.all_nil, ne_eq, not_false_eq_true, Nat.zero_le, s0, s1, s14, s15, s16, hlt, P'.hd, P'.hm, hd2, Heap.setMap]; rfl) ?_ | refine To.nop hxE2 ?_ | (refine To.condF hxE2 ?_ ?_; focus (simp only [go_sem, eqs hxE2, reduceIte, seval, Heap.gets, Heap.sets, Heap.get, bytesA_length, bytesA_one, bytesA_plains, List.take_of_length_le, List.drop_of_length_le, Nat.add_zero, V.one, Nat.reduceLeDiff, List.all_cons, List.all_nil, ne_eq, not_false_eq_true, Nat.zero_le, s0, s1, s14, s15, s16, hlt, P'.hd, P'.hm, hd2, Heap.setMap]; done)) | refine To.exit hxE2 ?_))
      try simp only [andThen, outOf]
      refine ⟨_, _, fin0n rfl, rfl, ?_⟩
      have PX : PD ((oo.set lm (.map [])).set dd (.cells .ex 92 0 [.bool false, .bool false, .int .i64 0, .slice pg 0 (crashN ca b 0 K pgs).length 64, .map lm])) dd pg lm false false 0 (crashN ca b 0 K pgs) [] := by
        have Pm : PD (oo.set lm (.map [])) dd pg lm on down left (crashN ca b 0 K pgs) [] := ⟨hd2, by rw [List.getElem?_set_ne (Ne.symm P'.ne2)]; exact P'.hp, List.getElem?_set_self P'.ll, P'.p64, by simp, by simp⟩
        exact Pm.fuse _ _ _
      refine ⟨_, min d (min (min d' lm) dd), ?_, PX.take hld hlp hll, ?_⟩
      · unfold leave
        simp only
        rw [if_pos ⟨Nat.le_refl _, rfl⟩, if_neg (by omega)]
        rfl
      · refine ⟨by rw [List.length_take, List.length_set, List.length_set]; omega, fun l a b' c' => ?_⟩
        by_cases hl : l < o.length
        · rw [List.getElem?_take_of_lt hl, List.getElem?_set_ne (Ne.symm a), List.getElem?_set_ne (Ne.symm c')]
          exact hold' l hl a b' c'
        · rw [List.getElem?_eq_none (by rw [List.length_take]; omega), List.getElem?_eq_none (by omega)]
  · refine ⟨0, oo, _, pgs, by omega, rfl, Pr, hro, fun l hl _ _ _ => hold l hl, fun h => (hkv h).2, rfl, ?_⟩
    simp only [go_sem, eqs hxE2, reduceIte, seval, initS]
end
end Go.Proofs.Ytfbkeieoeagkdaa

/- Disk: scripts, as they come in. -/
namespace Go.Proofs.Ytfbkeieoeagkdaa
open Go AM
set_option linter.unusedSimpArgs false
set_option linter.unusedVariables false
set_option maxRecDepth 100000

structure Op3 where
  K : Int
  N : Int
  p : Pg
  L : V
  b : List UInt8
def Op3.cs (x : Op3) : List V := .int .i64 x.K :: .int .i64 x.N :: (bytesA x.p ++ [x.L])
structure Op3.fits (o : List AM.Obj) (x : Op3) : Prop where
  p64 : x.p.length = 64
  arg : BArg o x.L x.b
  max : x.b.length ≤ maxLen
  one : x.L.one = true
  nmax : x.N < 2 ^ 63
structure OArg (o : List AM.Obj) (v : V) (xs : List Op3) : Prop where
  len : lenLV v = some (.int .i64 (xs.length : Int), none)
  at_ : xs ≠ [] → ∃ l t, v = .slice l 0 xs.length 67 ∧ o[l]? = some (.cells .ro t 0 (xs.map Op3.cs).flatten)
  fits : ∀ x ∈ xs, x.fits o
  max : xs.length ≤ maxLen
abbrev Op3Ty : Ty := .struct [.int .i64, .int .i64, .arr 64 (.int .u8), .slice (.int .u8)]
theorem op3_of {o : List AM.Obj} {x : List V} (h : Ty.has o Op3Ty x) : ∃ y : Op3, x = y.cs ∧ y.fits o := by
  obtain ⟨c0, x0, rfl, ⟨K, rfl, _⟩, c1, x1, rfl, ⟨N, rfl, _, hN⟩, c2, x2, rfl, hp, c3, x3, rfl, hL, rfl⟩ := h
  obtain ⟨p, rfl, hp64⟩ := has_bytes hp
  have hN : N < 2 ^ 63 := by
    have e : IntKind.i64.max = 9223372036854775807 := rfl
    omega
  rcases hL with h | ⟨a, h⟩ | ⟨l, n, h, hn, u, xs, h1, h2, h3⟩
  · subst h
    exact ⟨⟨K, N, p, .nils, []⟩, by simp [Op3.cs], hp64, ⟨rfl, fun h => absurd rfl h⟩, Nat.zero_le _, rfl, hN⟩
  · subst h
    exact ⟨⟨K, N, p, .zsl a, []⟩, by simp [Op3.cs], hp64, ⟨rfl, fun h => absurd rfl h⟩, Nat.zero_le _, rfl, hN⟩
  · subst h
    obtain ⟨b, hb, hbl⟩ := has_u8 h3
    rw [hb] at h1
    subst h2
    rw [← hbl] at hn ⊢
    exact ⟨⟨K, N, p, .slice l 0 b.length 1, b⟩, by simp [Op3.cs, Ty.size], hp64, ⟨rfl, fun _ => ⟨l, u, rfl, h1⟩⟩, hn, rfl, hN⟩
theorem ops3_of {o : List AM.Obj} : ∀ {xs : List (List V)}, (∀ x ∈ xs, Ty.has o Op3Ty x) → ∃ l : List Op3, xs = l.map Op3.cs ∧ ∀ y ∈ l, y.fits o
  | [], _ => ⟨[], rfl, by simp⟩
  | a :: r, h => by
    obtain ⟨l, hl, hf⟩ := ops3_of (xs := r) fun x hx => h x (List.mem_cons_of_mem _ hx)
    obtain ⟨y, rfl, hy⟩ := op3_of (h a List.mem_cons_self)
    refine ⟨y :: l, by rw [hl]; rfl, fun z hz => ?_⟩
    rcases List.mem_cons.1 hz with rfl | hz
    · exact hy
    · exact hf z hz
theorem oarg_of {o : List AM.Obj} {v : V} (h : Ty.arg o (.slice Op3Ty) v) : ∃ xs, OArg o v xs := by
  rcases arg_slice h with rfl | ⟨a, rfl⟩ | ⟨l, n, rfl, hn, u, xs, q1, q2, q3⟩
  · exact ⟨[], rfl, fun h => absurd rfl h, by simp, Nat.zero_le _⟩
  · exact ⟨[], rfl, fun h => absurd rfl h, by simp, Nat.zero_le _⟩
  · obtain ⟨k, rfl, k1⟩ := ops3_of q3
    rw [List.length_map] at q2
    subst q2
    exact ⟨k, rfl, fun _ => ⟨l, u, rfl, q1⟩, k1, hn⟩
theorem op3_len {x : Op3} (h : x.p.length = 64) : x.cs.length = 67 := by
  simp only [Op3.cs, List.length_cons, List.length_append, List.length_nil, bytesA_length]
  omega
theorem BArg.of {o o' : List AM.Obj} {v : V} {b : List UInt8} (h : BArg o v b) (hk : ∀ l, l < o.length → o'[l]? = o[l]?) : BArg o' v b :=
  ⟨h.len, fun hb => by obtain ⟨l, t, hv, hl⟩ := h.at_ hb; exact ⟨l, t, hv, (hk l (get_lt hl)).trans hl⟩⟩
end Go.Proofs.Ytfbkeieoeagkdaa

/- Disk: what a crash leaves, page by page. -/
namespace Go.Proofs.Ytfbkeieoeagkdaa
open Go AM
set_option linter.unusedSimpArgs false
set_option linter.unusedVariables false

theorem crash_len (ca : List (Nat × Pg)) (ch : List UInt8) : ∀ (K : List Nat) (k : Nat) (pgs : List Pg), (crashN ca ch k K pgs).length = pgs.length
  | [], k, pgs => rfl
  | i :: r, k, pgs => by
    rw [crashN, crash_len ca ch r]
    split
    · rw [List.length_set]
    · rfl
theorem crash_out (ca : List (Nat × Pg)) (ch : List UInt8) {i : Nat} : ∀ (K : List Nat) (k : Nat) (pgs : List Pg), i ∉ K → (crashN ca ch k K pgs)[i]? = pgs[i]?
  | [], k, pgs, h => rfl
  | j :: r, k, pgs, h => by
    rw [crashN, crash_out ca ch r _ _ (fun hh => h (List.mem_cons_of_mem _ hh))]
    split
    · rw [List.getElem?_set_ne]
      rintro rfl
      exact h List.mem_cons_self
    · rfl
theorem crash_get (ca : List (Nat × Pg)) (ch : List UInt8) {i : Nat} : ∀ (K : List Nat) (k : Nat) (pgs : List Pg), K.Nodup → i < pgs.length →
    (crashN ca ch k K pgs)[i]? = pgs[i]? ∨ (i ∈ K.take (ch.length - k) ∧ ∃ c, c ≤ 64 ∧ (crashN ca ch k K pgs)[i]? = some (tear c ((findC i ca).getD (zs 64)) (pgs.getD i (zs 64))))
  | [], k, pgs, hn, hi => .inl rfl
  | j :: r, k, pgs, hn, hi => by
    obtain ⟨h1, h2⟩ := List.nodup_cons.1 hn
    rw [crashN]
    cases hc : ch[k]? with
    | none =>
      have hk : ch.length ≤ k := List.getElem?_eq_none_iff.1 hc
      rcases crash_get ca ch r (k + 1) pgs h2 hi with h | ⟨h, _⟩
      · exact .inl h
      · rw [show ch.length - (k + 1) = 0 by omega, List.take_zero] at h; cases h
    | some c =>
      have hk : k < ch.length := (List.getElem?_eq_some_iff.1 hc).1
      have ht : (j :: r).take (ch.length - k) = j :: r.take (ch.length - (k + 1)) := by
        rw [show ch.length - k = (ch.length - (k + 1)) + 1 by omega, List.take_succ_cons]
      rw [ht]
      by_cases hij : i = j
      · subst hij
        right
        refine ⟨List.mem_cons_self, c.toNat % 65, by have := Nat.mod_lt c.toNat (by decide : 65 > 0); omega, ?_⟩
        rw [crash_out ca ch r _ _ h1, List.getElem?_set_self hi]
      · have e1 : (pgs.set j (tear (c.toNat % 65) ((findC j ca).getD (zs 64)) (pgs.getD j (zs 64))))[i]? = pgs[i]? := List.getElem?_set_ne (Ne.symm hij)
        have e2 : (pgs.set j (tear (c.toNat % 65) ((findC j ca).getD (zs 64)) (pgs.getD j (zs 64)))).getD i (zs 64) = pgs.getD i (zs 64) := by rw [List.getD_eq_getElem?_getD, e1, List.getD_eq_getElem?_getD]
        rcases crash_get ca ch r (k + 1) (pgs.set j (tear (c.toNat % 65) ((findC j ca).getD (zs 64)) (pgs.getD j (zs 64)))) h2 (by rw [List.length_set]; exact hi) with h | ⟨h, c', hc', hg⟩
        · exact .inl (h.trans e1)
        · rw [e2] at hg
          exact .inr ⟨List.mem_cons_of_mem _ h, c', hc', hg⟩
theorem sub_len {l m : List Nat} : l.Nodup → (∀ x ∈ l, x ∈ m) → l.length ≤ m.length := by
  induction l generalizing m with
  | nil => intro _ _; exact Nat.zero_le _
  | cons a l ih =>
    intro hn hs
    obtain ⟨h1, h2⟩ := List.nodup_cons.1 hn
    have ha := hs a List.mem_cons_self
    have := ih (m := m.erase a) h2 fun x hx => (List.mem_erase_of_ne (by rintro rfl; exact h1 hx)).2 (hs x (List.mem_cons_of_mem _ hx))
    rw [List.length_erase_of_mem ha] at this
    have hp : 0 < m.length := List.length_pos_of_mem ha
    rw [List.length_cons]; omega
/-- The pages that a crash has turned. -/
def tornL (R pgs : List Pg) (n : Nat) : List Nat := (List.range n).filter fun j => R[j]? != pgs[j]?
theorem torn_le (ca : List (Nat × Pg)) (ch : List UInt8) (pgs : List Pg) {n : Nat} {K : List Nat} (hK : K.Nodup) (hn : n ≤ pgs.length) : (tornL (crashN ca ch 0 K pgs) pgs n).length ≤ K.length ∧ (tornL (crashN ca ch 0 K pgs) pgs n).length ≤ ch.length := by
  have h : (tornL (crashN ca ch 0 K pgs) pgs n).length ≤ (K.take ch.length).length := by
    refine sub_len (List.nodup_range.filter _) fun x hx => ?_
    obtain ⟨hx1, hx2⟩ := List.mem_filter.1 hx
    have hxn := List.mem_range.1 hx1
    rcases crash_get ca ch K 0 pgs hK (by omega : x < pgs.length) with h | ⟨h, _⟩
    · simp [h] at hx2
    · simpa using h
  rw [List.length_take] at h
  omega
theorem torn_succ (R pgs : List Pg) (n : Nat) : (tornL R pgs (n + 1)).length = (tornL R pgs n).length + (if R[n]? != pgs[n]? then 1 else 0) := by
  unfold tornL
  rw [List.range_succ, List.filter_append, List.length_append]
  congr 1
  rw [List.filter_cons]
  cases R[n]? != pgs[n]? <;> simp
end Go.Proofs.Ytfbkeieoeagkdaa

/- Disk: helps for the laws over scripts. -/
namespace Go.Proofs.Ytfbkeieoeagkdaa
open Go AM
set_option linter.unusedSimpArgs false
set_option linter.unusedVariables false
set_option maxRecDepth 100000
section
variable {o : List AM.Obj} {e d dd pg lm : Nat} {on down : Bool} {left : Int} {pgs : List Pg} {ca : List (Nat × Pg)}
theorem write_any (P : PD o dd pg lm on down left pgs ca) {i : Int} {p : Pg} (hp : p.length = 64) :
    ∃ n oh, Den FF E2 13 [.ptr dd 0, .int .i64 i, .agg (bytesA p)] ⟨o, e, d⟩ = some (.val (.int .i64 n), oh) ∧ ∃ o' d' down' left' ca', oh.getD ⟨o, e, d⟩ = ⟨o', e, d'⟩ ∧ PD o' dd pg lm on down' left' pgs ca' ∧ Dx dd pg lm o o' := by
  by_cases h0 : hasE down pgs.length i = 0
  · obtain ⟨hdn, k, rfl, hk⟩ := hasE_ok h0
    cases hB : burnB on down left
    · obtain ⟨v, oh, q, rfl, o', d', hg, P', D⟩ := write_burnt (e := e) (d := d) P hp h0 hB
      exact ⟨_, oh, q, o', d', _, _, _, hg, P', D⟩
    · obtain ⟨v, oh, q, rfl, o', d', hg, P', D⟩ := write_ok (e := e) (d := d) P hp hk h0 hB
      exact ⟨_, oh, q, o', d', _, _, _, hg, P', D⟩
  · exact ⟨_, none, write_no P hp h0, o, d, _, _, _, rfl, P, Dx.refl⟩
theorem flush_any (P : PD o dd pg lm on down left pgs ca) :
    ∃ n oh, Den FF E2 16 [.ptr dd 0] ⟨o, e, d⟩ = some (.val (.int .i64 n), oh) ∧ ∃ o' d' down' left' pgs' ca', oh.getD ⟨o, e, d⟩ = ⟨o', e, d'⟩ ∧ PD o' dd pg lm on down' left' pgs' ca' ∧ pgs'.length = pgs.length ∧ Dx dd pg lm o o' := by
  cases hB : burnB on down left
  · obtain ⟨v, oh, q, rfl, o', d', hg, P', D⟩ := flush_no (e := e) (d := d) P hB
    exact ⟨_, oh, q, o', d', _, _, _, _, hg, P', rfl, D⟩
  · obtain ⟨v, oh, q, rfl, o', d', hg, P', D⟩ := flush_ok (e := e) (d := d) P hB
    exact ⟨_, oh, q, o', d', _, _, _, _, hg, P', layP_len, D⟩
end
theorem op3_one {x : Op3} (h : x.L.one = true) : x.cs.all V.one = true := by
  have e : x.cs = .int .i64 x.K :: .int .i64 x.N :: (bytesA x.p ++ [x.L]) := rfl
  rw [e, List.all_cons, List.all_cons, List.all_append, bytesA_one, List.all_cons, h]
  rfl
theorem gen_ed {c : AC} {S : Nat → V} {o : List AM.Obj} {e d : Nat} {Q : Ex → (Nat → V) → Heap → Prop} (h : ∀ e1 d1, To FF E2 c S ⟨o, e1, d1⟩ Q) : To FF E2 c S ⟨o, e, d⟩ Q := h e d
theorem z512_eq : z512 = pgC (List.replicate 8 (zs 64)) := reps_pages 8
/-- A page laid into an array of pages. -/
theorem splice_pg {pgs : List Pg} {i : Nat} {p : Pg} (h : ∀ p ∈ pgs, p.length = 64) (hi : i < pgs.length) (hp : p.length = 64) : List.take (i * 64) (pgC pgs) ++ (bytesA p ++ List.drop (i * 64 + 64) (pgC pgs)) = pgC (pgs.set i p) := by
  rw [pgC_set h (List.getElem?_eq_getElem hi) hp, List.append_assoc]
theorem readP_64 {o : List AM.Obj} {dd pg lm : Nat} {on down : Bool} {left : Int} {pgs : List Pg} {ca : List (Nat × Pg)} (P : PD o dd pg lm on down left pgs ca) (i : Nat) (hi : i < pgs.length) : (readP down pgs ca (i : Int)).length = 64 := by
  unfold readP
  split
  · rw [Int.toNat_natCast]
    cases hf : findC i ca with
    | some q =>
      obtain ⟨x, hx, rfl⟩ := Option.map_eq_some_iff.1 hf
      exact (P.c64 x (List.mem_of_find?_eq_some hx)).1
    | none =>
      rw [Option.getD_none, List.getD_eq_getElem?_getD, List.getElem?_eq_getElem hi]
      exact P.p64 _ (List.getElem_mem hi)
  · rfl
theorem eqKs_bytes : ∀ (a b : List UInt8), a.length = b.length → eqKs (List.replicate a.length .i) (bytesA a) (bytesA b) = some (a == b)
  | [], [], _ => rfl
  | x :: a, y :: b, h => by
    have ih := eqKs_bytes a b (by simpa using h)
    have e1 : bytesA (x :: a) = .int .u8 (x.toNat : Int) :: bytesA a := rfl
    have e2 : bytesA (y :: b) = .int .u8 (y.toNat : Int) :: bytesA b := rfl
    rw [e1, e2, List.length_cons, List.replicate_succ]
    simp only [eqKs, eqK, if_true, ih]
    congr 1
    rw [Bool.eq_iff_iff, Bool.and_eq_true, beq_iff_eq, beq_iff_eq, beq_iff_eq, List.cons.injEq, Int.ofNat_inj, UInt8.toNat_inj]
theorem eqB64 {a b : Pg} (ha : a.length = 64) (hb : b.length = 64) : eqKs (kdsOf [(64, .i)]) (bytesA a) (bytesA b) = some (a == b) := by
  have : kdsOf [(64, Kd.i)] = List.replicate 64 .i := rfl
  rw [this, ← ha]
  exact eqKs_bytes a b (by omega)
theorem pgC_byte {pgs : List Pg} {i k : Nat} {p : Pg} {x : UInt8} (h : ∀ p ∈ pgs, p.length = 64) (hi : pgs[i]? = some p) (hx : p[k]? = some x) : (pgC pgs)[i * 64 + k]? = some (.int .u8 (x.toNat : Int)) := by
  have hat := pgC_at h hi
  have hp := h p (List.mem_of_getElem? hi)
  have hk : k < 64 := by have := (List.getElem?_eq_some_iff.1 hx).1; omega
  have h1 := congrArg (fun l => l[k]?) hat
  simp only [List.getElem?_take, if_pos hk, List.getElem?_drop, bytesA_get, hx, Option.map_some] at h1
  exact h1
theorem tear_lo {c j : Nat} {p q : Pg} (hc : c ≤ p.length) (hj : j < c) : (tear c p q)[j]? = p[j]? := by
  unfold tear
  rw [List.getElem?_append_left (by rw [List.length_take]; omega), List.getElem?_take_of_lt hj]
theorem tear_hi {c j : Nat} {p q : Pg} (hc : c ≤ p.length) (hj : c ≤ j) : (tear c p q)[j]? = q[j]? := by
  unfold tear
  rw [List.getElem?_append_right (by rw [List.length_take]; omega), List.length_take, List.getElem?_drop]
  congr 1; omega
theorem opz_drop : List.drop 67 opz = [] := rfl
theorem opz_len : opz.length = 67 := rfl

end Go.Proofs.Ytfbkeieoeagkdaa

/- Helps for more than one chain. -/
namespace Go.Proofs.Ytfbkeieoeagkdaa
open Go AM
set_option linter.unusedSimpArgs false
set_option linter.unusedVariables false
set_option maxRecDepth 100000

theorem ty_ne {o : List AM.Obj} {a b : Nat} {t u : Nat} {c c' : List V} (h1 : o[a]? = some (.cells .ex t 0 c)) (h2 : o[b]? = some (.cells .ex u 0 c')) (hne : t ≠ u) : a ≠ b := by
  rintro rfl
  rw [h1] at h2
  simp only [Option.some.injEq] at h2
  injection h2 with _ h
  exact hne h
theorem set_same {α : Type} {l : List α} {i : Nat} {x : α} (h : l[i]? = some x) : l.set i x = l := by
  apply List.ext_getElem?
  intro j
  by_cases hj : i = j
  · subst hj; rw [List.getElem?_set_self (List.getElem?_eq_some_iff.1 h).1, h]
  · rw [List.getElem?_set_ne hj]
theorem bytesA_set (p : Pg) (b : Nat) (x : UInt8) : bytesA (p.set b x) = (bytesA p).set b (.int .u8 (x.toNat : Int)) := by unfold bytesA; rw [List.map_set]
theorem ne_map {o : List AM.Obj} {a b : Nat} {t : Nat} {c : List V} {es : List (V × V)} (h1 : o[a]? = some (.cells .ex t 0 c)) (h2 : o[b]? = some (.map es)) : a ≠ b := by
  rintro rfl
  rw [h1] at h2
  cases h2
theorem findC_putC {k i : Nat} {p : Pg} : ∀ {ca : List (Nat × Pg)}, findC i (putC k p ca) = if i = k then some p else findC i ca
  | [] => by
    unfold putC findC
    by_cases h : i = k
    · subst h; simp
    · have h1 : (k == i) = false := by simpa using Ne.symm h
      simp [h1, h]
  | e :: r => by
    have ih := findC_putC (k := k) (i := i) (p := p) (ca := r)
    unfold putC
    by_cases hk : k = e.1
    · rw [if_pos hk]
      by_cases h : i = k
      · subst h; simp [findC]
      · have h1 : (k == i) = false := by simpa using Ne.symm h
        have h2 : (e.1 == i) = false := by rw [← hk]; exact h1
        rw [if_neg h]
        simp [findC, List.find?_cons, h1, h2]
    · rw [if_neg hk]
      unfold findC at ih ⊢
      rw [List.find?_cons, List.find?_cons]
      by_cases h : e.1 = i
      · have h1 : (e.1 == i) = true := by simpa using h
        have h2 : i ≠ k := by rintro rfl; exact hk h.symm
        simp [h1, h2]
      · have h1 : (e.1 == i) = false := by simpa using h
        simp only [h1]
        exact ih
theorem BArg.keep {o o' : List AM.Obj} {v : V} {b : List UInt8} (h : BArg o v b) (hk : ∀ (l t : Nat) (c : List V), o[l]? = some (AM.Obj.cells .ro t 0 c) → o'[l]? = some (AM.Obj.cells .ro t 0 c)) : BArg o' v b :=
  ⟨h.len, fun hb => by obtain ⟨l, t, hv, hl⟩ := h.at_ hb; exact ⟨l, t, hv, hk _ _ _ hl⟩⟩
theorem beqs_bytes : ∀ p : List UInt8, V.beqs (bytesA p) (bytesA p) = true
  | [] => rfl
  | b :: r => by
    have e : bytesA (b :: r) = .int .u8 (b.toNat : Int) :: bytesA r := rfl
    rw [e]
    simp [V.beqs, V.beq, beqs_bytes r]
section
variable {F : Nat → Option AF} {ext : ExtF}
theorem ToD.quiet {N : Nat} {x : DO} {l : List DO} {S : Nat → V} {h : Heap} {v : V} {Q : (Nat → V) → Heap → Prop} (hw : wantedA S x.o.g = true) (hp : x.pl = none) (he : stepA (Den F ext) x.o.op S h = some (.val v, none)) (hk : ToD F ext N 0 l (putO S x.o.d v) h Q) : ToD F ext N 0 (x :: l) S h Q := by
  refine ToD.op (k := .q) ?_ hk
  simp only [outD, hw, if_true, hp, he, true_or]
theorem ToD.callD {N : Nat} {x : DO} {l : List DO} {S : Nat → V} {h h' : Heap} {v : V} {oh : Option Heap} {Q : (Nat → V) → Heap → Prop} (hw : wantedA S x.o.g = true) (hp : x.pl = none) (hc : x.o.op.cls = 2) (he : stepA (Den F ext) x.o.op S h = some (.val v, oh)) (hh : oh.getD h = h') (hr : x.rc.all (lookA (Den F ext) S h') = true) (hk : ToD F ext N 0 l (putO S x.o.d v) h' Q) : ToD F ext N 0 (x :: l) S h Q := by
  cases oh with
  | none =>
    simp only [Option.getD_none] at hh
    subst hh
    exact ToD.quiet hw hp he hk
  | some h2 =>
    simp only [Option.getD_some] at hh
    subst hh
    refine ToD.op (k := .c h2) ?_ hk
    simp only [outD, hw, if_true, hp, he, hc, hr, true_or, and_self]
end
end Go.Proofs.Ytfbkeieoeagkdaa

/- Journal: numbers in pages. -/
namespace Go.Proofs.Ytfbkeieoeagkdaa
open Go AM
set_option linter.unusedSimpArgs false
set_option linter.unusedVariables false
set_option maxRecDepth 100000

/-- The byte of a number at a place, from the right. -/
def byteI (n : Int) (i : Nat) : UInt8 := UInt8.ofNat (n / 2 ^ (8 * i) % 256).toNat
/-- A page with the last bytes of a number laid in. -/
def setK (p : Pg) (at_ sz : Nat) (n : Int) : Nat → Pg
  | 0 => p
  | i + 1 => (setK p at_ sz n i).set (at_ + sz - 1 - i) (byteI n i)
/-- The first bytes as a number. -/
def getK (p : Pg) (at_ : Nat) : Nat → Nat
  | 0 => 0
  | i + 1 => getK p at_ i * 256 + (p.getD (at_ + i) 0).toNat
theorem setK_len (p : Pg) (at_ sz : Nat) (n : Int) : ∀ i, (setK p at_ sz n i).length = p.length
  | 0 => rfl
  | i + 1 => by rw [setK, List.length_set, setK_len p at_ sz n i]
theorem getK_lt (p : Pg) (at_ : Nat) : ∀ i, getK p at_ i < 256 ^ i
  | 0 => by simp [getK]
  | i + 1 => by
    have ih := getK_lt p at_ i
    have := (p.getD (at_ + i) 0).toNat_lt
    rw [getK, Nat.pow_succ]
    omega
theorem byteI_nat (n : Int) (i : Nat) : ((byteI n i).toNat : Int) = n / 2 ^ (8 * i) % 256 := by
  unfold byteI
  generalize n / 2 ^ (8 * i) = x
  have h0 := Int.emod_nonneg x (by decide : (256 : Int) ≠ 0)
  have h1 := Int.emod_lt_of_pos x (by decide : (0 : Int) < 256)
  rw [UInt8.toNat_ofNat']
  omega
theorem byteI_wrap (n : Int) (i : Nat) : IntKind.u8.wrap (n.fdiv (2 ^ (8 * i))) = ((byteI n i).toNat : Int) := by
  have h1 : n.fdiv (2 ^ (8 * i)) = n / 2 ^ (8 * i) := Int.fdiv_eq_ediv_of_nonneg _ (Int.le_of_lt (Int.pow_pos (by omega)))
  rw [h1, wrap_u8_mod, byteI_nat]
theorem bytesA_at {p : Pg} {k : Nat} (x : UInt8) (h : k < p.length) : List.take k (bytesA p) ++ V.int .u8 (x.toNat : Int) :: List.drop (k + 1) (bytesA p) = bytesA (p.set k x) := by
  rw [bytesA_set, List.set_eq_take_append_cons_drop, if_pos (by rw [bytesA_length]; exact h)]
theorem gets_app3 {o : List AM.Obj} {e d t : Nat} {x : AM.Obj} {cs : List V} {r : List AM.Obj} (h : cs.length = 64) : (⟨o ++ (x :: .cells .ex t 0 cs :: r), e, d⟩ : Heap).gets (o.length + 1) 0 64 = some cs := by
  have hg : (o ++ (x :: AM.Obj.cells .ex t 0 cs :: r))[o.length + 1]? = some (.cells .ex t 0 cs) := by
    rw [app_getk]; rfl
  simp only [Heap.gets, hg, Nat.zero_add, h, Nat.le_refl, if_true, List.drop_zero]
  rw [if_neg (by decide), List.take_of_length_le (by omega)]
theorem or_add64 {a c : Nat} (hc : c < 256) (h : a * 256 + c < 9223372036854775808) : bits .or .i64 ((a * 256 : Nat) : Int) (c : Int) = ((a * 256 + c : Nat) : Int) := by
  have e : a * 256 ||| c = a * 256 + c := by
    have h1 : c < 2 ^ 8 := hc
    have := Nat.shiftLeft_add_eq_or_of_lt h1 a
    rw [Nat.shiftLeft_eq] at this
    exact this.symm
  unfold bits
  have ha : (BitVec.ofInt IntKind.i64.bits ((a * 256 : Nat) : Int)).toNat = a * 256 := by
    simp only [IntKind.bits, BitVec.ofInt_natCast, BitVec.toNat_ofNat]
    omega
  have hcc : (BitVec.ofInt IntKind.i64.bits (c : Int)).toNat = c := by
    simp only [IntKind.bits, BitVec.ofInt_natCast, BitVec.toNat_ofNat]
    omega
  simp only [BitVec.toNat_or, ha, hcc, e]
  exact wrap_i64 (by omega) (by omega)
section
variable {o : List AM.Obj} {e d : Nat}
set_option maxHeartbeats 1000000 in
theorem inside_q {a s : Nat} (h1 : a + s ≤ 64) : Den FF E2 103 [.int .i64 (a : Int), .int .i64 (s : Int)] ⟨o, e, d⟩ = some (.val (.bool true), none) := by
  refine To.den hxE2 (f := 103) (a := af103) rfl (E2_none rfl) (Nat.le_of_ble_eq_true rfl) ?_
  have c0 : decide ((0 : Int) ≤ (a : Int)) = true := decide_eq_true (by omega)
  have c1 : decide ((0 : Int) ≤ (s : Int)) = true := decide_eq_true (by omega)
  have c2 : decide ((s : Int) ≤ 64) = true := decide_eq_true (by omega)
  have w : IntKind.i64.wrap (64 - (s : Int)) = 64 - (s : Int) := wrap_i64 (by omega) (by omega)
  have c3 : decide ((a : Int) ≤ 64 - (s : Int)) = true := decide_eq_true (by omega)
  (repeat' (first | refine To.seq hxE2 ?_ | refine To.op0 hxE2 (by simp only [go_sem, eqs hxE2, reduceIte, seval, c0, c1, c2, w, c3]; rfl) ?_ | refine To.nop hxE2 ?_ | refine To.ret hxE2 ?_))
  try simp only [andThen, outOf]
  exact fin_k1 (i := 4) (v := .bool true) rfl (by simp only [go_sem, eqs hxE2, reduceIte, seval]) rfl (Kp.enter' _)
set_option maxHeartbeats 1000000 in
theorem number_q {a s : Nat} (h0 : 1 ≤ s) (h4 : s ≤ 4) (h1 : a + s ≤ 64) : Den FF E2 86 [.int .i64 (a : Int), .int .i64 (s : Int)] ⟨o, e, d⟩ = some (.val (.bool true), none) := by
  refine To.den hxE2 (f := 86) (a := af86) rfl (E2_none rfl) (Nat.le_of_ble_eq_true rfl) ?_
  have c1 : decide ((1 : Int) ≤ (s : Int)) = true := decide_eq_true (by omega)
  have c2 : decide ((s : Int) ≤ 4) = true := decide_eq_true (by omega)
  have q := inside_q (o := o) (e := o.length) (d := o.length) h1
  (repeat' (first | refine To.seq hxE2 ?_ | refine To.op0 hxE2 (by simp only [go_sem, eqs hxE2, reduceIte, seval, c1, c2, q]; rfl) ?_ | refine To.nop hxE2 ?_ | refine To.ret hxE2 ?_))
  try simp only [andThen, outOf]
  exact fin_k1 (i := 4) (v := .bool true) rfl (by simp only [go_sem, eqs hxE2, reduceIte, seval]) rfl (Kp.enter' _)
set_option maxHeartbeats 4000000 in
theorem set_q {p : Pg} (hp : p.length = 64) {a s : Nat} (h0 : 1 ≤ s) (h4 : s ≤ 4) (h1 : a + s ≤ 64) (n : Int) : Den FF E2 87 [.agg (bytesA p), .int .i64 (a : Int), .int .i64 (s : Int), .int .i64 n] ⟨o, e, d⟩ = some (.val (.agg (bytesA (setK p a s n s))), none) := by
  refine To.den hxE2 (f := 87) (a := af87) rfl (E2_none rfl) (Nat.le_of_ble_eq_true rfl) ?_
  have q : ∀ r e d, Den FF E2 86 [.int .i64 (a : Int), .int .i64 (s : Int)] ⟨o ++ r, e, d⟩ = some (.val (.bool true), none) := fun r e d => number_q h0 h4 h1
  (repeat' (first | refine To.seq hxE2 ?_ | refine To.op0 hxE2 (by simp only [go_sem, eqs hxE2, reduceIte, seval, q, z64_len, z64_drop, z64_one, z64_plains]; rfl) ?_ | refine To.op1 hxE2 (by simp only [go_sem, eqs hxE2, reduceIte, seval, q, z64_len, z64_drop, z64_one, z64_plains]; rfl) ?_ | refine To.nop hxE2 ?_ | (refine To.condF hxE2 ?_ ?_; focus (simp only [go_sem, eqs hxE2, reduceIte, seval, q, z64_len, z64_drop, z64_one, z64_plains]; done)) | refine To.block hxE2 ?_ | refine To.skip hxE2 ?_))
  refine To.loop hxE2 (fun m S h' => ∃ (i e' d' : Nat), i + m = s ∧ h' = ⟨o ++ [.cells .ex 31 0 (bytesA (setK p a s n i)), .cells .ex 31 0 z64], e', d'⟩ ∧ o.length ≤ e' ∧ o.length ≤ d' ∧ S 1 = .int .i64 (a : Int) ∧ S 2 = .int .i64 (s : Int) ∧ S 3 = .int .i64 n ∧ S 4 = .ptr o.length 0 ∧ S 8 = .ptr (o.length + 1) 0 ∧ S 15 = .int .i64 (s : Int) ∧ S 16 = .int .i64 (i : Int)) ?_ s _ _ ?_
  · rintro m S _ ⟨i, e', d', hm, rfl, he, hd, s1, s2, s3, s4, s8, s15, s16⟩
    have hl := setK_len p a s n i
    by_cases hi : i < s
    · have hlt : decide ((i : Int) < (s : Int)) = true := decide_eq_true (by omega)
      have w1 : IntKind.i64.wrap ((a : Int) + (s : Int)) = (a : Int) + (s : Int) := wrap_i64 (by omega) (by omega)
      have w2 : IntKind.i64.wrap ((a : Int) + (s : Int) - 1) = (a : Int) + (s : Int) - 1 := wrap_i64 (by omega) (by omega)
      have w3 : IntKind.i64.wrap ((a : Int) + (s : Int) - 1 - (i : Int)) = ((a + s - 1 - i : Nat) : Int) := by rw [wrap_i64 (by omega) (by omega)]; omega
      have w4 : IntKind.i64.wrap (8 * (i : Int)) = ((8 * i : Nat) : Int) := by rw [wrap_i64 (by omega) (by omega)]; omega
      have wi : IntKind.i64.wrap ((i : Int) + 1) = ((i + 1 : Nat) : Int) := by rw [wrap_i64 (by omega) (by omega)]; omega
      have hsh : shiftA .shr .i64 n ((8 * i : Nat) : Int) = some (.int .i64 (n.fdiv (2 ^ (8 * i)))) := by
        unfold shiftA
        rw [if_neg (by omega)]
        simp only [Int.toNat_natCast]
        rw [Nat.min_eq_left (by simp only [IntKind.bits]; omega)]
      have wb := byteI_wrap n i
      have ix : idxOf 64 (.int .i64 ((a + s - 1 - i : Nat) : Int)) = some (a + s - 1 - i) := idxOf_nat (by omega)
      have hk : a + s - 1 - i < (bytesA (setK p a s n i)).length := by rw [bytesA_length]; omega
      have hk2 : a + s - 1 - i + 1 ≤ (bytesA (setK p a s n i)).length := hk
      have hs := bytesA_at (p := setK p a s n i) (byteI n i) (by omega : a + s - 1 - i < (setK p a s n i).length)
      have hg0 : ∀ x y, (o ++ [x, y])[o.length]? = some x := fun x y => app_get0 _ _ _
      have hs0 : ∀ x y z : AM.Obj, (o ++ [x, y]).set o.length z = o ++ [z, y] := fun x y z => app_set0 _ _ _ _
      generalize hB : bytesA (setK p a s n i) = B at *
      (repeat' (first | refine To.seq hxE2 ?_ | refine To.op0 hxE2 (by simp only [go_sem, eqs hxE2, reduceIte, seval, Heap.gets, Heap.sets, Heap.get, bytesA_length, bytesA_one, bytesA_plains, List.take_of_length_le, List.drop_of_length_le, Nat.add_zero, V.one, Nat.reduceLeDiff, List.all_cons, List.all_nil, ne_eq, not_false_eq_true, Nat.zero_le, s1, s2, s3, s4, s8, s15, s16, hlt, w1, w2, w3, w4, wi, hsh, wb, ix, hk, hk2, hs, hg0, hs0]; rfl) ?_ | refine To.op1 hxE2 (by simp only [go_sem, eqs hxE2, reduceIte, seval, Heap.gets, Heap.sets, Heap.get, bytesA_length, bytesA_one, bytesA_plains, List.take_of_length_le, List.drop_of_length_le, Nat.add_zero, V.one, Nat.reduceLeDiff, List.all_cons, List.all_nil, ne_eq, not_false_eq_true, Nat.zero_le, s1, s2, s3, s4, s8, s15, s16, hlt, w1, w2, w3, w4, wi, hsh, wb, ix, hk, hk2, hs, hg0, hs0]; rfl) ?_ | refine To.nop hxE2 ?_ | (refine To.condT hxE2 ?_ ?_; focus (simp only [go_sem, eqs hxE2, reduceIte, seval, Heap.gets, Heap.sets, Heap.get, bytesA_length, bytesA_one, bytesA_plains, List.take_of_length_le, List.drop_of_length_le, Nat.add_zero, V.one, Nat.reduceLeDiff, List.all_cons, List.all_nil, ne_eq, not_false_eq_true, Nat.zero_le, s1, s2, s3, s4, s8, s15, s16, hlt, w1, w2, w3, w4, wi, hsh, wb, ix, hk, hk2, hs, hg0, hs0]; done)) | refine To.block hxE2 ?_ | refine To.skip hxE2 ?_))
      try simp only [andThen, outOf]
      refine ⟨m - 1, by omega, i + 1, _, _, by omega, rfl, by omega, by omega, ?_⟩
      simp only [go_sem, eqs hxE2, reduceIte, seval, s1, s2, s3, s4, s8, s15]
    · have hlt : decide ((i : Int) < (s : Int)) = false := decide_eq_false (by omega)
      have hie : i = s := by omega
      subst hie
      have htk : List.take 64 (bytesA (setK p a i n i)) = bytesA (setK p a i n i) := List.take_of_length_le (by rw [bytesA_length]; omega)
      have hl2 : (setK p a i n i).length = 64 := by omega
      have hg0 : ∀ x y, (o ++ [x, y])[o.length]? = some x := fun x y => app_get0 _ _ _
      have hg1 : ∀ x y, (o ++ [x, y])[o.length + 1]? = some y := fun x y => app_getk _ _ 1
      have hs1 : ∀ x y z : AM.Obj, (o ++ [x, y]).set (o.length + 1) z = o ++ [x, z] := fun x y z => app_setk _ _ 1 _
      (repeat' (first | refine To.seq hxE2 ?_ | refine To.op0 hxE2 (by simp only [go_sem, eqs hxE2, reduceIte, seval, Heap.gets, Heap.sets, Heap.get, bytesA_length, bytesA_one, bytesA_plains, List.take_of_length_le, List.drop_of_length_le, Nat.add_zero, V.one, Nat.reduceLeDiff, List.all_cons, List.all_nil, ne_eq, not_false_eq_true, Nat.zero_le, s1, s2, s3, s4, s8, s15, s16, hlt, htk, hl2, hg0, hg1, hs1, z64_len, z64_drop, z64_one, z64_plains]; rfl) ?_ | refine To.op1 hxE2 (by simp only [go_sem, eqs hxE2, reduceIte, seval, Heap.gets, Heap.sets, Heap.get, bytesA_length, bytesA_one, bytesA_plains, List.take_of_length_le, List.drop_of_length_le, Nat.add_zero, V.one, Nat.reduceLeDiff, List.all_cons, List.all_nil, ne_eq, not_false_eq_true, Nat.zero_le, s1, s2, s3, s4, s8, s15, s16, hlt, htk, hl2, hg0, hg1, hs1, z64_len, z64_drop, z64_one, z64_plains]; rfl) ?_ | refine To.nop hxE2 ?_ | (refine To.condF hxE2 ?_ ?_; focus (simp only [go_sem, eqs hxE2, reduceIte, seval, Heap.gets, Heap.sets, Heap.get, bytesA_length, bytesA_one, bytesA_plains, List.take_of_length_le, List.drop_of_length_le, Nat.add_zero, V.one, Nat.reduceLeDiff, List.all_cons, List.all_nil, ne_eq, not_false_eq_true, Nat.zero_le, s1, s2, s3, s4, s8, s15, s16, hlt, htk, hl2, hg0, hg1, hs1, z64_len, z64_drop, z64_one, z64_plains]; done)) | refine To.ret hxE2 ?_ | refine To.exit hxE2 ?_))
      try simp only [andThen, outOf]
      exact fin_kc (j := 8) (l := o.length + 1) (n := 64) rfl (by simp only [go_sem, eqs hxE2, reduceIte, seval, s8]) (gets_app3 (by rw [bytesA_length]; exact hl2)) (bytesA_plains _) (kp_app (by omega) (by omega))
  · refine ⟨0, _, _, by omega, rfl, ?_, ?_, ?_⟩
    · simp
    · simp
    · simp only [go_sem, eqs hxE2, reduceIte, seval, initS]
set_option maxHeartbeats 4000000 in
theorem get_q {p : Pg} (hp : p.length = 64) {a s : Nat} (h0 : 1 ≤ s) (h4 : s ≤ 4) (h1 : a + s ≤ 64) : Den FF E2 71 [.agg (bytesA p), .int .i64 (a : Int), .int .i64 (s : Int)] ⟨o, e, d⟩ = some (.val (.int .i64 (getK p a s : Int)), none) := by
  refine To.den hxE2 (f := 71) (a := af71) rfl (E2_none rfl) (Nat.le_of_ble_eq_true rfl) ?_
  have q : ∀ r e d, Den FF E2 86 [.int .i64 (a : Int), .int .i64 (s : Int)] ⟨o ++ r, e, d⟩ = some (.val (.bool true), none) := fun r e d => number_q h0 h4 h1
  have w1 : IntKind.i64.wrap ((a : Int) + (s : Int)) = ((a + s : Nat) : Int) := by rw [wrap_i64 (by omega) (by omega)]; omega
  have hbd : boundsA 64 64 (some (.int .i64 (a : Int))) (some (.int .i64 ((a + s : Nat) : Int))) = some (a, a + s) := by
    simp only [boundsA, hiB, loB]
    rw [if_pos (by omega)]
    simp only [Int.toNat_natCast]
    rw [if_pos (by omega)]
  have hg0 : ∀ x, (o ++ [x])[o.length]? = some x := fun x => app_get0 _ _ _
  have ha64 : a < 64 := by omega
  (repeat' (first | refine To.seq hxE2 ?_ | refine To.op0 hxE2 (by simp only [go_sem, eqs hxE2, reduceIte, seval, q]; rfl) ?_ | refine To.op1 hxE2 (by simp only [go_sem, eqs hxE2, reduceIte, seval, q]; rfl) ?_ | refine To.nop hxE2 ?_ | (refine To.condF hxE2 ?_ ?_; focus (simp only [go_sem, eqs hxE2, reduceIte, seval, q]; done)) | refine To.skip hxE2 ?_))
  refine To.mono (Q := fun ex S' h' => ex = .norm ∧ h' = ⟨o ++ [.cells .ex 31 0 (bytesA p)], o.length, o.length⟩ ∧ S' 7 = .int .i64 0 ∧ S' 18 = .slice o.length a s 1 ∧ S' 19 = .int .i64 (s : Int) ∧ S' 20 = .int .i64 0) ?_ ?_
  · by_cases h0a : a = 0
    · subst h0a
      have w0 : IntKind.i64.wrap (0 + (s : Int)) = (s : Int) := by rw [wrap_i64 (by omega) (by omega)]; omega
      have e1 : boundsA 64 64 (some (.int .i64 0)) (some (.int .i64 (s : Int))) = some (0, s) := by
        rw [Nat.zero_add] at hbd
        exact hbd
      (repeat' (first | refine To.op0 hxE2 (by simp only [go_sem, eqs hxE2, reduceIte, seval, Heap.gets, Heap.sets, Heap.get, bytesA_length, bytesA_one, bytesA_plains, List.take_of_length_le, List.drop_of_length_le, Nat.add_zero, V.one, Nat.reduceLeDiff, List.all_cons, List.all_nil, ne_eq, not_false_eq_true, Nat.zero_le, w0, e1, hg0, hp]; rfl) ?_ | refine To.nop hxE2 ?_))
      refine ⟨rfl, rfl, ?_⟩
      simp only [go_sem, eqs hxE2, reduceIte, seval]
    · have e1 : a + s - a = s := by omega
      (repeat' (first | refine To.op0 hxE2 (by simp only [go_sem, eqs hxE2, reduceIte, seval, Heap.gets, Heap.sets, Heap.get, bytesA_length, bytesA_one, bytesA_plains, List.take_of_length_le, List.drop_of_length_le, Nat.add_zero, V.one, Nat.reduceLeDiff, List.all_cons, List.all_nil, ne_eq, not_false_eq_true, Nat.zero_le, w1, hbd, hg0, hp, h0a, ha64, e1]; rfl) ?_ | refine To.nop hxE2 ?_))
      refine ⟨rfl, rfl, ?_⟩
      simp only [go_sem, eqs hxE2, reduceIte, seval]
  rintro ex S2 h2 ⟨rfl, rfl, s7, s18, s19, s20⟩
  simp only [andThen]
  (repeat' (first | refine To.block hxE2 ?_))
  refine To.loop hxE2 (fun m S h' => ∃ i : Nat, i + m = s ∧ h' = ⟨o ++ [.cells .ex 31 0 (bytesA p)], o.length, o.length⟩ ∧ S 7 = .int .i64 (getK p a i : Int) ∧ S 18 = .slice o.length a s 1 ∧ S 19 = .int .i64 (s : Int) ∧ S 20 = .int .i64 (i : Int)) ?_ s _ _ ⟨0, by omega, rfl, s7, s18, s19, s20⟩
  rintro m S _ ⟨i, hm, rfl, s7, s18, s19, s20⟩
  by_cases hi : i < s
  · have hlt : decide ((i : Int) < (s : Int)) = true := decide_eq_true (by omega)
    have ix : idxOf s (.int .i64 (i : Int)) = some i := idxOf_nat hi
    have wi : IntKind.i64.wrap ((i : Int) + 1) = ((i + 1 : Nat) : Int) := by rw [wrap_i64 (by omega) (by omega)]; omega
    obtain ⟨x, hx⟩ : ∃ x, p[a + i]? = some x := ⟨p[a + i], List.getElem?_eq_getElem (by omega)⟩
    have hbx : (bytesA p)[a + i]? = some (.int .u8 (x.toNat : Int)) := by rw [bytesA_get, hx]; rfl
    have hxl := x.toNat_lt
    have hgl := getK_lt p a i
    have hp3 : 256 ^ i ≤ 256 ^ 3 := Nat.pow_le_pow_right (by decide) (by omega)
    have hgl2 : getK p a i < 16777216 := by omega
    have hstep : getK p a (i + 1) = getK p a i * 256 + x.toNat := by rw [getK, List.getD_eq_getElem?_getD, hx]; rfl
    have w8 : IntKind.i64.wrap (x.toNat : Int) = (x.toNat : Int) := wrap_i64 (by omega) (by omega)
    have hsh : shiftA .shl .i64 (getK p a i : Int) 8 = some (.int .i64 ((getK p a i * 256 : Nat) : Int)) := by
      unfold shiftA
      rw [if_neg (by omega)]
      simp only
      have e8 : (min (8 : Int).toNat IntKind.i64.bits) = 8 := rfl
      rw [e8, wrap_i64 (by omega) (by omega)]
      congr 2
    have hor : bits .or .i64 ((getK p a i * 256 : Nat) : Int) (x.toNat : Int) = ((getK p a i * 256 + x.toNat : Nat) : Int) := or_add64 (by omega) (by omega)
    (repeat' (first | refine To.seq hxE2 ?_ | refine To.op0 hxE2 (by simp only [go_sem, eqs hxE2, reduceIte, seval, Heap.gets, Heap.sets, Heap.get, bytesA_length, bytesA_one, bytesA_plains, List.take_of_length_le, List.drop_of_length_le, Nat.add_zero, V.one, Nat.reduceLeDiff, List.all_cons, List.all_nil, ne_eq, not_false_eq_true, Nat.zero_le, s7, s18, s19, s20, hlt, ix, wi, hg0, hbx, w8, hsh, hor]; rfl) ?_ | refine To.nop hxE2 ?_ | (refine To.condT hxE2 ?_ ?_; focus (simp only [go_sem, eqs hxE2, reduceIte, seval, Heap.gets, Heap.sets, Heap.get, bytesA_length, bytesA_one, bytesA_plains, List.take_of_length_le, List.drop_of_length_le, Nat.add_zero, V.one, Nat.reduceLeDiff, List.all_cons, List.all_nil, ne_eq, not_false_eq_true, Nat.zero_le, s7, s18, s19, s20, hlt, ix, wi, hg0, hbx, w8, hsh, hor]; done)) | refine To.block hxE2 ?_ | refine To.skip hxE2 ?_))
    try simp only [andThen, outOf]
    refine ⟨m - 1, by omega, i + 1, by omega, trivial, ?_⟩
    rw [hstep]
    simp only [go_sem, eqs hxE2, reduceIte, seval, s18, s19]
  · have hlt : decide ((i : Int) < (s : Int)) = false := decide_eq_false (by omega)
    have hie : i = s := by omega
    subst hie
    (repeat' (first | refine To.seq hxE2 ?_ | refine To.op0 hxE2 (by simp only [go_sem, eqs hxE2, reduceIte, seval, Heap.gets, Heap.sets, Heap.get, bytesA_length, bytesA_one, bytesA_plains, List.take_of_length_le, List.drop_of_length_le, Nat.add_zero, V.one, Nat.reduceLeDiff, List.all_cons, List.all_nil, ne_eq, not_false_eq_true, Nat.zero_le, s7, s18, s19, s20, hlt]; rfl) ?_ | refine To.nop hxE2 ?_ | (refine To.condF hxE2 ?_ ?_; focus (simp only [go_sem, eqs hxE2, reduceIte, seval, Heap.gets, Heap.sets, Heap.get, bytesA_length, bytesA_one, bytesA_plains, List.take_of_length_le, List.drop_of_length_le, Nat.add_zero, V.one, Nat.reduceLeDiff, List.all_cons, List.all_nil, ne_eq, not_false_eq_true, Nat.zero_le, s7, s18, s19, s20, hlt]; done)) | refine To.ret hxE2 ?_ | refine To.exit hxE2 ?_))
    try simp only [andThen, outOf]
    exact fin_k1 (i := 6) (v := .int .i64 (getK p a i : Int)) rfl (by simp only [go_sem, eqs hxE2, reduceIte, seval, s7]) rfl (kp_app (by omega) (by omega))
end
end Go.Proofs.Ytfbkeieoeagkdaa

/- Journal: heads. -/
namespace Go.Proofs.Ytfbkeieoeagkdaa
open Go AM
set_option linter.unusedSimpArgs false
set_option linter.unusedVariables false
set_option maxRecDepth 100000

def headP (s : Int) (lv : Bool) (c sm : Int) : Pg := setK (setK (setK (setK (setK (zs 64) 0 4 s 4) 4 1 (if lv = true then 1 else 0) 1) 5 2 c 2) 7 4 sm 4) 60 4 s 4
def headV (s : Int) (lv : Bool) (c sm : Int) : List V := [.int .i64 s, .bool lv, .int .i64 c, .int .u32 sm]
def rightH (s : Int) (lv : Bool) (c sm : Int) : Bool := decide (0 ≤ s ∧ s ≤ 4294967295) && (if lv = true then decide (1 ≤ c ∧ c ≤ 512) else decide (c = 0 ∧ sm = 0))
theorem headP_len (s : Int) (lv : Bool) (c sm : Int) : (headP s lv c sm).length = 64 := by
  unfold headP
  simp only [setK_len]; rfl
section
variable {o : List AM.Obj} {e d : Nat}
set_option maxHeartbeats 4000000 in
theorem put_q {s : Int} {lv : Bool} {c sm : Int} (h0 : 0 ≤ sm) (h1 : sm < 2 ^ 32) : Den FF E2 73 [.agg (headV s lv c sm)] ⟨o, e, d⟩ = some (.val (.agg (bytesA (headP s lv c sm))), none) := by
  refine To.den hxE2 (f := 73) (a := af73) rfl (E2_none rfl) (Nat.le_of_ble_eq_true rfl) ?_
  have l0 : (zs 64).length = 64 := rfl
  have q1 : ∀ r e d, Den FF E2 87 [.agg z64, .int .i64 0, .int .i64 4, .int .i64 s] ⟨o ++ r, e, d⟩ = some (.val (.agg (bytesA (setK (zs 64) 0 4 s 4))), none) := fun r e d => set_q (p := zs 64) l0 (a := 0) (s := 4) (by omega) (by omega) (by omega) s
  have l1 : (setK (zs 64) 0 4 s 4).length = 64 := by rw [setK_len, l0]
  have hh : headP s lv c sm = setK (setK (setK (setK (setK (zs 64) 0 4 s 4) 4 1 (if lv = true then 1 else 0) 1) 5 2 c 2) 7 4 sm 4) 60 4 s 4 := rfl
  rw [hh]
  generalize setK (zs 64) 0 4 s 4 = p1 at *
  have q2 : ∀ r e d, Den FF E2 87 [.agg (bytesA p1), .int .i64 4, .int .i64 1, .int .i64 (if lv = true then 1 else 0)] ⟨o ++ r, e, d⟩ = some (.val (.agg (bytesA (setK p1 4 1 (if lv = true then 1 else 0) 1))), none) := fun r e d => set_q l1 (a := 4) (s := 1) (by omega) (by omega) (by omega) _
  have l2 : (setK p1 4 1 (if lv = true then 1 else 0) 1).length = 64 := by rw [setK_len, l1]
  generalize setK p1 4 1 (if lv = true then 1 else 0) 1 = p2 at *
  have q3 : ∀ r e d, Den FF E2 87 [.agg (bytesA p2), .int .i64 5, .int .i64 2, .int .i64 c] ⟨o ++ r, e, d⟩ = some (.val (.agg (bytesA (setK p2 5 2 c 2))), none) := fun r e d => set_q l2 (a := 5) (s := 2) (by omega) (by omega) (by omega) _
  have l3 : (setK p2 5 2 c 2).length = 64 := by rw [setK_len, l2]
  generalize setK p2 5 2 c 2 = p3 at *
  have q4 : ∀ r e d, Den FF E2 87 [.agg (bytesA p3), .int .i64 7, .int .i64 4, .int .i64 sm] ⟨o ++ r, e, d⟩ = some (.val (.agg (bytesA (setK p3 7 4 sm 4))), none) := fun r e d => set_q l3 (a := 7) (s := 4) (by omega) (by omega) (by omega) _
  have l4 : (setK p3 7 4 sm 4).length = 64 := by rw [setK_len, l3]
  generalize setK p3 7 4 sm 4 = p4 at *
  have q5 : ∀ r e d, Den FF E2 87 [.agg (bytesA p4), .int .i64 60, .int .i64 4, .int .i64 s] ⟨o ++ r, e, d⟩ = some (.val (.agg (bytesA (setK p4 60 4 s 4))), none) := fun r e d => set_q l4 (a := 60) (s := 4) (by omega) (by omega) (by omega) _
  have l5 : (setK p4 60 4 s 4).length = 64 := by rw [setK_len, l4]
  generalize setK p4 60 4 s 4 = p5 at *
  have tk : ∀ p : Pg, p.length = 64 → List.take 64 (bytesA p) = bytesA p := fun p h => List.take_of_length_le (by rw [bytesA_length]; omega)
  have dr : ∀ p : Pg, p.length = 64 → List.drop 64 (bytesA p) = [] := fun p h => List.drop_eq_nil_of_le (by rw [bytesA_length]; omega)
  have wm : IntKind.i64.wrap sm = sm := wrap_i64 (by omega) (by omega)
  cases lv
  · simp only [Bool.false_eq_true, if_false] at q2
    (repeat' (first | refine To.seq hxE2 ?_ | refine To.op0 hxE2 (by simp only [go_sem, eqs hxE2, reduceIte, seval, Heap.gets, Heap.sets, Heap.get, bytesA_length, bytesA_one, bytesA_plains, List.take_of_length_le, List.drop_of_length_le, Nat.add_zero, V.one, Nat.reduceLeDiff, List.all_cons, List.all_nil, ne_eq, not_false_eq_true, Nat.zero_le, headV, q1, q2, q3, q4, q5, l1, l2, l3, l4, l5, tk p1 l1, tk p2 l2, tk p3 l3, tk p4 l4, tk p5 l5, dr p1 l1, dr p2 l2, dr p3 l3, dr p4 l4, wm, z64_len, z64_drop, z64_take, z64_one, z64_plains]; rfl) ?_ | refine To.op1 hxE2 (by simp only [go_sem, eqs hxE2, reduceIte, seval, Heap.gets, Heap.sets, Heap.get, bytesA_length, bytesA_one, bytesA_plains, List.take_of_length_le, List.drop_of_length_le, Nat.add_zero, V.one, Nat.reduceLeDiff, List.all_cons, List.all_nil, ne_eq, not_false_eq_true, Nat.zero_le, headV, q1, q2, q3, q4, q5, l1, l2, l3, l4, l5, tk p1 l1, tk p2 l2, tk p3 l3, tk p4 l4, tk p5 l5, dr p1 l1, dr p2 l2, dr p3 l3, dr p4 l4, wm, z64_len, z64_drop, z64_take, z64_one, z64_plains]; rfl) ?_ | refine To.nop hxE2 ?_ | (refine To.condF hxE2 ?_ ?_; focus (simp only [go_sem, eqs hxE2, reduceIte, seval, Heap.gets, Heap.sets, Heap.get, bytesA_length, bytesA_one, bytesA_plains, List.take_of_length_le, List.drop_of_length_le, Nat.add_zero, V.one, Nat.reduceLeDiff, List.all_cons, List.all_nil, ne_eq, not_false_eq_true, Nat.zero_le, headV, q1, q2, q3, q4, q5, l1, l2, l3, l4, l5, tk p1 l1, tk p2 l2, tk p3 l3, tk p4 l4, tk p5 l5, dr p1 l1, dr p2 l2, dr p3 l3, dr p4 l4, wm, z64_len, z64_drop, z64_take, z64_one, z64_plains]; done)) | refine To.ret hxE2 ?_ | refine To.skip hxE2 ?_))
    try simp only [andThen, outOf]
    exact fin_kc (j := 2) (l := o.length + 1) (n := 64) rfl (by simp only [go_sem, eqs hxE2, reduceIte, seval]) (gets_app3 (by rw [bytesA_length]; exact l5)) (bytesA_plains _) (kp_app (by omega) (by omega))
  · simp only [if_true] at q2
    (repeat' (first | refine To.seq hxE2 ?_ | refine To.op0 hxE2 (by simp only [go_sem, eqs hxE2, reduceIte, seval, Heap.gets, Heap.sets, Heap.get, bytesA_length, bytesA_one, bytesA_plains, List.take_of_length_le, List.drop_of_length_le, Nat.add_zero, V.one, Nat.reduceLeDiff, List.all_cons, List.all_nil, ne_eq, not_false_eq_true, Nat.zero_le, headV, q1, q2, q3, q4, q5, l1, l2, l3, l4, l5, tk p1 l1, tk p2 l2, tk p3 l3, tk p4 l4, tk p5 l5, dr p1 l1, dr p2 l2, dr p3 l3, dr p4 l4, wm, z64_len, z64_drop, z64_take, z64_one, z64_plains]; rfl) ?_ | refine To.op1 hxE2 (by simp only [go_sem, eqs hxE2, reduceIte, seval, Heap.gets, Heap.sets, Heap.get, bytesA_length, bytesA_one, bytesA_plains, List.take_of_length_le, List.drop_of_length_le, Nat.add_zero, V.one, Nat.reduceLeDiff, List.all_cons, List.all_nil, ne_eq, not_false_eq_true, Nat.zero_le, headV, q1, q2, q3, q4, q5, l1, l2, l3, l4, l5, tk p1 l1, tk p2 l2, tk p3 l3, tk p4 l4, tk p5 l5, dr p1 l1, dr p2 l2, dr p3 l3, dr p4 l4, wm, z64_len, z64_drop, z64_take, z64_one, z64_plains]; rfl) ?_ | refine To.nop hxE2 ?_ | (refine To.condT hxE2 ?_ ?_; focus (simp only [go_sem, eqs hxE2, reduceIte, seval, Heap.gets, Heap.sets, Heap.get, bytesA_length, bytesA_one, bytesA_plains, List.take_of_length_le, List.drop_of_length_le, Nat.add_zero, V.one, Nat.reduceLeDiff, List.all_cons, List.all_nil, ne_eq, not_false_eq_true, Nat.zero_le, headV, q1, q2, q3, q4, q5, l1, l2, l3, l4, l5, tk p1 l1, tk p2 l2, tk p3 l3, tk p4 l4, tk p5 l5, dr p1 l1, dr p2 l2, dr p3 l3, dr p4 l4, wm, z64_len, z64_drop, z64_take, z64_one, z64_plains]; done)) | refine To.ret hxE2 ?_))
    try simp only [andThen, outOf]
    exact fin_kc (j := 2) (l := o.length + 1) (n := 64) rfl (by simp only [go_sem, eqs hxE2, reduceIte, seval]) (gets_app3 (by rw [bytesA_length]; exact l5)) (bytesA_plains _) (kp_app (by omega) (by omega))
set_option maxHeartbeats 4000000 in
theorem right_q {s : Int} {lv : Bool} {c sm : Int} : Den FF E2 72 [.agg (headV s lv c sm)] ⟨o, e, d⟩ = some (.val (.bool (rightH s lv c sm)), none) := by
  refine To.den hxE2 (f := 72) (a := af72) rfl (E2_none rfl) (Nat.le_of_ble_eq_true rfl) ?_
  unfold rightH
  by_cases h1 : s < 0
  · have d1 : decide (s < 0) = true := decide_eq_true h1
    have e1 : decide (0 ≤ s ∧ s ≤ 4294967295) = false := decide_eq_false (by omega)
    rw [e1, Bool.false_and]
    (repeat' (first | refine To.seq hxE2 ?_ | refine To.op0 hxE2 (by simp only [go_sem, eqs hxE2, reduceIte, seval, Heap.gets, Heap.sets, Heap.get, bytesA_length, bytesA_one, bytesA_plains, List.take_of_length_le, List.drop_of_length_le, Nat.add_zero, V.one, Nat.reduceLeDiff, List.all_cons, List.all_nil, ne_eq, not_false_eq_true, Nat.zero_le, headV, d1]; rfl) ?_ | refine To.op1 hxE2 (by simp only [go_sem, eqs hxE2, reduceIte, seval, Heap.gets, Heap.sets, Heap.get, bytesA_length, bytesA_one, bytesA_plains, List.take_of_length_le, List.drop_of_length_le, Nat.add_zero, V.one, Nat.reduceLeDiff, List.all_cons, List.all_nil, ne_eq, not_false_eq_true, Nat.zero_le, headV, d1]; rfl) ?_ | refine To.nop hxE2 ?_ | (refine To.condT hxE2 ?_ ?_; focus (simp only [go_sem, eqs hxE2, reduceIte, seval, Heap.gets, Heap.sets, Heap.get, bytesA_length, bytesA_one, bytesA_plains, List.take_of_length_le, List.drop_of_length_le, Nat.add_zero, V.one, Nat.reduceLeDiff, List.all_cons, List.all_nil, ne_eq, not_false_eq_true, Nat.zero_le, headV, d1]; done)) | refine To.ret hxE2 ?_))
    try simp only [andThen, outOf]
    exact fin_k1 (i := 2) (v := .bool false) rfl (by simp only [go_sem, eqs hxE2, reduceIte, seval]) rfl (kp_app (by omega) (by omega))
  have d1 : decide (s < 0) = false := decide_eq_false h1
  by_cases h2 : 4294967295 < s
  · have d2 : decide (4294967295 < s) = true := decide_eq_true h2
    have e1 : decide (0 ≤ s ∧ s ≤ 4294967295) = false := decide_eq_false (by omega)
    rw [e1, Bool.false_and]
    (repeat' (first | refine To.seq hxE2 ?_ | refine To.op0 hxE2 (by simp only [go_sem, eqs hxE2, reduceIte, seval, Heap.gets, Heap.sets, Heap.get, bytesA_length, bytesA_one, bytesA_plains, List.take_of_length_le, List.drop_of_length_le, Nat.add_zero, V.one, Nat.reduceLeDiff, List.all_cons, List.all_nil, ne_eq, not_false_eq_true, Nat.zero_le, headV, d1, d2]; rfl) ?_ | refine To.op1 hxE2 (by simp only [go_sem, eqs hxE2, reduceIte, seval, Heap.gets, Heap.sets, Heap.get, bytesA_length, bytesA_one, bytesA_plains, List.take_of_length_le, List.drop_of_length_le, Nat.add_zero, V.one, Nat.reduceLeDiff, List.all_cons, List.all_nil, ne_eq, not_false_eq_true, Nat.zero_le, headV, d1, d2]; rfl) ?_ | refine To.nop hxE2 ?_ | (refine To.condT hxE2 ?_ ?_; focus (simp only [go_sem, eqs hxE2, reduceIte, seval, Heap.gets, Heap.sets, Heap.get, bytesA_length, bytesA_one, bytesA_plains, List.take_of_length_le, List.drop_of_length_le, Nat.add_zero, V.one, Nat.reduceLeDiff, List.all_cons, List.all_nil, ne_eq, not_false_eq_true, Nat.zero_le, headV, d1, d2]; done)) | refine To.ret hxE2 ?_))
    try simp only [andThen, outOf]
    exact fin_k1 (i := 2) (v := .bool false) rfl (by simp only [go_sem, eqs hxE2, reduceIte, seval]) rfl (kp_app (by omega) (by omega))
  have d2 : decide (4294967295 < s) = false := decide_eq_false h2
  have e1 : decide (0 ≤ s ∧ s ≤ 4294967295) = true := decide_eq_true (by omega)
  rw [e1, Bool.true_and]
  cases lv
  · rw [if_neg (by decide)]
    by_cases h3 : c = 0
    · subst h3
      have e2 : decide ((0 : Int) = 0 ∧ sm = 0) = (sm == 0) := by rw [Bool.eq_iff_iff]; simp
      rw [e2]
      (repeat' (first | refine To.seq hxE2 ?_ | refine To.op0 hxE2 (by simp only [go_sem, eqs hxE2, reduceIte, seval, Heap.gets, Heap.sets, Heap.get, bytesA_length, bytesA_one, bytesA_plains, List.take_of_length_le, List.drop_of_length_le, Nat.add_zero, V.one, Nat.reduceLeDiff, List.all_cons, List.all_nil, ne_eq, not_false_eq_true, Nat.zero_le, headV, d1, d2]; rfl) ?_ | refine To.op1 hxE2 (by simp only [go_sem, eqs hxE2, reduceIte, seval, Heap.gets, Heap.sets, Heap.get, bytesA_length, bytesA_one, bytesA_plains, List.take_of_length_le, List.drop_of_length_le, Nat.add_zero, V.one, Nat.reduceLeDiff, List.all_cons, List.all_nil, ne_eq, not_false_eq_true, Nat.zero_le, headV, d1, d2]; rfl) ?_ | refine To.nop hxE2 ?_ | (refine To.condF hxE2 ?_ ?_; focus (simp only [go_sem, eqs hxE2, reduceIte, seval, Heap.gets, Heap.sets, Heap.get, bytesA_length, bytesA_one, bytesA_plains, List.take_of_length_le, List.drop_of_length_le, Nat.add_zero, V.one, Nat.reduceLeDiff, List.all_cons, List.all_nil, ne_eq, not_false_eq_true, Nat.zero_le, headV, d1, d2]; done)) | refine To.ret hxE2 ?_ | refine To.skip hxE2 ?_))
      try simp only [andThen, outOf]
      exact fin_k1 (i := 2) (v := .bool (sm == 0)) rfl (by simp only [go_sem, eqs hxE2, reduceIte, seval]) rfl (kp_app (by omega) (by omega))
    · have b3 : (c == 0) = false := by simpa using h3
      have e2 : decide (c = 0 ∧ sm = 0) = false := decide_eq_false (by simp [h3])
      rw [e2]
      (repeat' (first | refine To.seq hxE2 ?_ | refine To.op0 hxE2 (by simp only [go_sem, eqs hxE2, reduceIte, seval, Heap.gets, Heap.sets, Heap.get, bytesA_length, bytesA_one, bytesA_plains, List.take_of_length_le, List.drop_of_length_le, Nat.add_zero, V.one, Nat.reduceLeDiff, List.all_cons, List.all_nil, ne_eq, not_false_eq_true, Nat.zero_le, headV, d1, d2, b3]; rfl) ?_ | refine To.op1 hxE2 (by simp only [go_sem, eqs hxE2, reduceIte, seval, Heap.gets, Heap.sets, Heap.get, bytesA_length, bytesA_one, bytesA_plains, List.take_of_length_le, List.drop_of_length_le, Nat.add_zero, V.one, Nat.reduceLeDiff, List.all_cons, List.all_nil, ne_eq, not_false_eq_true, Nat.zero_le, headV, d1, d2, b3]; rfl) ?_ | refine To.nop hxE2 ?_ | (refine To.condF hxE2 ?_ ?_; focus (simp only [go_sem, eqs hxE2, reduceIte, seval, Heap.gets, Heap.sets, Heap.get, bytesA_length, bytesA_one, bytesA_plains, List.take_of_length_le, List.drop_of_length_le, Nat.add_zero, V.one, Nat.reduceLeDiff, List.all_cons, List.all_nil, ne_eq, not_false_eq_true, Nat.zero_le, headV, d1, d2, b3]; done)) | refine To.ret hxE2 ?_ | refine To.skip hxE2 ?_))
      try simp only [andThen, outOf]
      exact fin_k1 (i := 2) (v := .bool false) rfl (by simp only [go_sem, eqs hxE2, reduceIte, seval]) rfl (kp_app (by omega) (by omega))
  · rw [if_pos rfl]
    by_cases h3 : 1 ≤ c
    · have d3 : decide (1 ≤ c) = true := decide_eq_true h3
      have e2 : decide (1 ≤ c ∧ c ≤ 512) = decide (c ≤ 512) := by simp [h3]
      rw [e2]
      (repeat' (first | refine To.seq hxE2 ?_ | refine To.op0 hxE2 (by simp only [go_sem, eqs hxE2, reduceIte, seval, Heap.gets, Heap.sets, Heap.get, bytesA_length, bytesA_one, bytesA_plains, List.take_of_length_le, List.drop_of_length_le, Nat.add_zero, V.one, Nat.reduceLeDiff, List.all_cons, List.all_nil, ne_eq, not_false_eq_true, Nat.zero_le, headV, d1, d2, d3]; rfl) ?_ | refine To.op1 hxE2 (by simp only [go_sem, eqs hxE2, reduceIte, seval, Heap.gets, Heap.sets, Heap.get, bytesA_length, bytesA_one, bytesA_plains, List.take_of_length_le, List.drop_of_length_le, Nat.add_zero, V.one, Nat.reduceLeDiff, List.all_cons, List.all_nil, ne_eq, not_false_eq_true, Nat.zero_le, headV, d1, d2, d3]; rfl) ?_ | refine To.nop hxE2 ?_ | (refine To.condT hxE2 ?_ ?_; focus (simp only [go_sem, eqs hxE2, reduceIte, seval, Heap.gets, Heap.sets, Heap.get, bytesA_length, bytesA_one, bytesA_plains, List.take_of_length_le, List.drop_of_length_le, Nat.add_zero, V.one, Nat.reduceLeDiff, List.all_cons, List.all_nil, ne_eq, not_false_eq_true, Nat.zero_le, headV, d1, d2, d3]; done)) | (refine To.condF hxE2 ?_ ?_; focus (simp only [go_sem, eqs hxE2, reduceIte, seval, Heap.gets, Heap.sets, Heap.get, bytesA_length, bytesA_one, bytesA_plains, List.take_of_length_le, List.drop_of_length_le, Nat.add_zero, V.one, Nat.reduceLeDiff, List.all_cons, List.all_nil, ne_eq, not_false_eq_true, Nat.zero_le, headV, d1, d2, d3]; done)) | refine To.ret hxE2 ?_ | refine To.skip hxE2 ?_))
      try simp only [andThen, outOf]
      exact fin_k1 (i := 2) (v := .bool (decide (c ≤ 512))) rfl (by simp only [go_sem, eqs hxE2, reduceIte, seval]) rfl (kp_app (by omega) (by omega))
    · have d3 : decide (1 ≤ c) = false := decide_eq_false h3
      have e2 : decide (1 ≤ c ∧ c ≤ 512) = false := decide_eq_false (by omega)
      rw [e2]
      (repeat' (first | refine To.seq hxE2 ?_ | refine To.op0 hxE2 (by simp only [go_sem, eqs hxE2, reduceIte, seval, Heap.gets, Heap.sets, Heap.get, bytesA_length, bytesA_one, bytesA_plains, List.take_of_length_le, List.drop_of_length_le, Nat.add_zero, V.one, Nat.reduceLeDiff, List.all_cons, List.all_nil, ne_eq, not_false_eq_true, Nat.zero_le, headV, d1, d2, d3]; rfl) ?_ | refine To.op1 hxE2 (by simp only [go_sem, eqs hxE2, reduceIte, seval, Heap.gets, Heap.sets, Heap.get, bytesA_length, bytesA_one, bytesA_plains, List.take_of_length_le, List.drop_of_length_le, Nat.add_zero, V.one, Nat.reduceLeDiff, List.all_cons, List.all_nil, ne_eq, not_false_eq_true, Nat.zero_le, headV, d1, d2, d3]; rfl) ?_ | refine To.nop hxE2 ?_ | (refine To.condT hxE2 ?_ ?_; focus (simp only [go_sem, eqs hxE2, reduceIte, seval, Heap.gets, Heap.sets, Heap.get, bytesA_length, bytesA_one, bytesA_plains, List.take_of_length_le, List.drop_of_length_le, Nat.add_zero, V.one, Nat.reduceLeDiff, List.all_cons, List.all_nil, ne_eq, not_false_eq_true, Nat.zero_le, headV, d1, d2, d3]; done)) | (refine To.condF hxE2 ?_ ?_; focus (simp only [go_sem, eqs hxE2, reduceIte, seval, Heap.gets, Heap.sets, Heap.get, bytesA_length, bytesA_one, bytesA_plains, List.take_of_length_le, List.drop_of_length_le, Nat.add_zero, V.one, Nat.reduceLeDiff, List.all_cons, List.all_nil, ne_eq, not_false_eq_true, Nat.zero_le, headV, d1, d2, d3]; done)) | refine To.ret hxE2 ?_ | refine To.skip hxE2 ?_))
      try simp only [andThen, outOf]
      exact fin_k1 (i := 2) (v := .bool false) rfl (by simp only [go_sem, eqs hxE2, reduceIte, seval]) rfl (kp_app (by omega) (by omega))
set_option maxHeartbeats 4000000 in
theorem encode_q {s : Int} {lv : Bool} {c sm : Int} (h0 : 0 ≤ sm) (h1 : sm < 2 ^ 32) : Den FF E2 76 [.agg (headV s lv c sm)] ⟨o, e, d⟩ = some (.val (.tuple [.agg (if rightH s lv c sm = true then bytesA (headP s lv c sm) else z64), .int .i64 (if rightH s lv c sm = true then 0 else 22)]), none) := by
  refine To.den hxE2 (f := 76) (a := af76) rfl (E2_none rfl) (Nat.le_of_ble_eq_true rfl) ?_
  have q1 : ∀ r e d, Den FF E2 72 [.agg (headV s lv c sm)] ⟨o ++ r, e, d⟩ = some (.val (.bool (rightH s lv c sm)), none) := fun r e d => right_q
  have q2 : ∀ r e d, Den FF E2 73 [.agg (headV s lv c sm)] ⟨o ++ r, e, d⟩ = some (.val (.agg (bytesA (headP s lv c sm))), none) := fun r e d => put_q h0 h1
  have hl := headP_len s lv c sm
  have htk : List.take 64 (bytesA (headP s lv c sm)) = bytesA (headP s lv c sm) := List.take_of_length_le (by rw [bytesA_length]; omega)
  have hv : (headV s lv c sm).length = 4 := rfl
  have ho : (headV s lv c sm).all V.one = true := rfl
  have hpl : V.plains (headV s lv c sm) = true := rfl
  have ht4 : List.take 4 (headV s lv c sm) = headV s lv c sm := rfl
  generalize headV s lv c sm = hV at *
  generalize headP s lv c sm = pP at *
  cases hr : rightH s lv c sm
  · rw [hr] at q1
    (repeat' (first | refine To.seq hxE2 ?_ | refine To.op0 hxE2 (by simp only [go_sem, eqs hxE2, reduceIte, seval, Heap.gets, Heap.sets, Heap.get, bytesA_length, bytesA_one, bytesA_plains, List.take_of_length_le, List.drop_of_length_le, Nat.add_zero, V.one, Nat.reduceLeDiff, List.all_cons, List.all_nil, ne_eq, not_false_eq_true, Nat.zero_le, q1, hv, ho, hpl, ht4, z64_len, z64_drop, z64_take, z64_one, z64_plains]; rfl) ?_ | refine To.op1 hxE2 (by simp only [go_sem, eqs hxE2, reduceIte, seval, Heap.gets, Heap.sets, Heap.get, bytesA_length, bytesA_one, bytesA_plains, List.take_of_length_le, List.drop_of_length_le, Nat.add_zero, V.one, Nat.reduceLeDiff, List.all_cons, List.all_nil, ne_eq, not_false_eq_true, Nat.zero_le, q1, hv, ho, hpl, ht4, z64_len, z64_drop, z64_take, z64_one, z64_plains]; rfl) ?_ | refine To.nop hxE2 ?_ | (refine To.condT hxE2 ?_ ?_; focus (simp only [go_sem, eqs hxE2, reduceIte, seval, Heap.gets, Heap.sets, Heap.get, bytesA_length, bytesA_one, bytesA_plains, List.take_of_length_le, List.drop_of_length_le, Nat.add_zero, V.one, Nat.reduceLeDiff, List.all_cons, List.all_nil, ne_eq, not_false_eq_true, Nat.zero_le, q1, hv, ho, hpl, ht4, z64_len, z64_drop, z64_take, z64_one, z64_plains]; done)) | refine To.ret hxE2 ?_))
    try simp only [andThen, outOf]
    exact fin_kc2 (j := 2) (cs := z64) (l := o.length + 1) (v := .int .i64 22) rfl (by simp only [go_sem, eqs hxE2, reduceIte, seval]) (by simp only [go_sem, eqs hxE2, reduceIte, seval]) (gets_app3 rfl) rfl rfl (kp_app (by omega) (by omega))
  · rw [hr] at q1
    (repeat' (first | refine To.seq hxE2 ?_ | refine To.op0 hxE2 (by simp only [go_sem, eqs hxE2, reduceIte, seval, Heap.gets, Heap.sets, Heap.get, bytesA_length, bytesA_one, bytesA_plains, List.take_of_length_le, List.drop_of_length_le, Nat.add_zero, V.one, Nat.reduceLeDiff, List.all_cons, List.all_nil, ne_eq, not_false_eq_true, Nat.zero_le, q1, q2, hv, ho, hpl, ht4, hl, htk, z64_len, z64_drop, z64_take, z64_one, z64_plains]; rfl) ?_ | refine To.op1 hxE2 (by simp only [go_sem, eqs hxE2, reduceIte, seval, Heap.gets, Heap.sets, Heap.get, bytesA_length, bytesA_one, bytesA_plains, List.take_of_length_le, List.drop_of_length_le, Nat.add_zero, V.one, Nat.reduceLeDiff, List.all_cons, List.all_nil, ne_eq, not_false_eq_true, Nat.zero_le, q1, q2, hv, ho, hpl, ht4, hl, htk, z64_len, z64_drop, z64_take, z64_one, z64_plains]; rfl) ?_ | refine To.nop hxE2 ?_ | (refine To.condF hxE2 ?_ ?_; focus (simp only [go_sem, eqs hxE2, reduceIte, seval, Heap.gets, Heap.sets, Heap.get, bytesA_length, bytesA_one, bytesA_plains, List.take_of_length_le, List.drop_of_length_le, Nat.add_zero, V.one, Nat.reduceLeDiff, List.all_cons, List.all_nil, ne_eq, not_false_eq_true, Nat.zero_le, q1, q2, hv, ho, hpl, ht4, hl, htk, z64_len, z64_drop, z64_take, z64_one, z64_plains]; done)) | refine To.ret hxE2 ?_ | refine To.skip hxE2 ?_))
    try simp only [andThen, outOf]
    exact fin_kc2 (j := 2) (cs := bytesA pP) (l := o.length + 1) (v := .int .i64 0) rfl (by simp only [go_sem, eqs hxE2, reduceIte, seval]) (by simp only [go_sem, eqs hxE2, reduceIte, seval]) (gets_app3 (by rw [bytesA_length]; exact hl)) (bytesA_plains _) rfl (kp_app (by omega) (by omega))
end
end Go.Proofs.Ytfbkeieoeagkdaa

/- Journal: sums of pages. -/
namespace Go.Proofs.Ytfbkeieoeagkdaa
open Go AM
set_option linter.unusedSimpArgs false
set_option linter.unusedVariables false
set_option maxRecDepth 100000

/-- A byte added to a sum's two numbers. -/
def sum1 (x : Nat × Nat) (c : UInt8) : Nat × Nat := ((x.1 + c.toNat) % 65535, (x.2 + (x.1 + c.toNat) % 65535) % 65535)
def sumB (x : Nat × Nat) (p : Pg) : Nat × Nat := p.foldl sum1 x
def sumP (ps : List Pg) : Nat := (ps.foldl sumB (0, 0)).2 * 65536 + (ps.foldl sumB (0, 0)).1
def lowS (x : Nat × Nat) : Prop := x.1 < 65535 ∧ x.2 < 65535
theorem sum1_low (x : Nat × Nat) (c : UInt8) : lowS (sum1 x c) := ⟨Nat.mod_lt _ (by decide), Nat.mod_lt _ (by decide)⟩
theorem sumB_low : ∀ (p : Pg) {x : Nat × Nat}, lowS x → lowS (sumB x p)
  | [], x, h => h
  | c :: r, x, h => sumB_low r (sum1_low x c)
theorem sums_low : ∀ (ps : List Pg) {x : Nat × Nat}, lowS x → lowS (ps.foldl sumB x)
  | [], x, h => h
  | p :: r, x, h => sums_low r (sumB_low p h)
theorem sumP_lt (ps : List Pg) : sumP ps < 2 ^ 32 := by
  obtain ⟨h1, h2⟩ := sums_low ps (x := (0, 0)) ⟨by decide, by decide⟩
  unfold sumP
  omega
theorem wrap_u32 {n : Int} (h0 : 0 ≤ n) (h1 : n < 4294967296) : IntKind.u32.wrap n = n := by
  simp only [IntKind.wrap, IntKind.bits, IntKind.signed]
  simp
  omega
theorem or_add32 {a c : Nat} (hc : c < 65536) (h : a * 65536 + c < 4294967296) : bits .or .u32 ((a * 65536 : Nat) : Int) (c : Int) = ((a * 65536 + c : Nat) : Int) := by
  have e : a * 65536 ||| c = a * 65536 + c := by
    have h1 : c < 2 ^ 16 := hc
    have := Nat.shiftLeft_add_eq_or_of_lt h1 a
    rw [Nat.shiftLeft_eq] at this
    exact this.symm
  unfold bits
  have ha : (BitVec.ofInt IntKind.u32.bits ((a * 65536 : Nat) : Int)).toNat = a * 65536 := by
    simp only [IntKind.bits, BitVec.ofInt_natCast, BitVec.toNat_ofNat]
    omega
  have hcc : (BitVec.ofInt IntKind.u32.bits (c : Int)).toNat = c := by
    simp only [IntKind.bits, BitVec.ofInt_natCast, BitVec.toNat_ofNat]
    omega
  simp only [BitVec.toNat_or, ha, hcc, e]
  exact wrap_u32 (by omega) (by omega)
def pairV (x : Nat × Nat) : List V := [.int .u32 (x.1 : Int), .int .u32 (x.2 : Int)]
/-- Pages in a row. -/
structure PgRow (o : List AM.Obj) (v : V) (ps : List Pg) : Prop where
  len : lenLV v = some (.int .i64 (ps.length : Int), none)
  at_ : ps ≠ [] → ∃ l ck t, v = .slice l 0 ps.length 64 ∧ o[l]? = some (.cells ck t 0 (pgC ps))
  p64 : ∀ p ∈ ps, p.length = 64
section
variable {o : List AM.Obj} {e d : Nat}
set_option maxHeartbeats 8000000 in
theorem add_q {pl bl t t2 : Nat} {ck : CK} {x : Nat × Nat} {pg : Pg} (hx : lowS x) (h64 : pg.length = 64) (hp : o[pl]? = some (.cells .ex t 0 (pairV x))) (hb : o[bl]? = some (.cells ck t2 0 (bytesA pg))) (hne : pl ≠ bl) :
    ∃ v oh, Den FF E2 89 [.ptr pl 0, .slice bl 0 64 1] ⟨o, e, d⟩ = some (v, oh) ∧ v = .val (.tuple []) ∧ ∃ d', oh.getD ⟨o, e, d⟩ = ⟨o.set pl (.cells .ex t 0 (pairV (sumB x pg))), e, d'⟩ ∧ min d pl ≤ d' := by
  refine To.denE hxE2 (f := 89) (a := af89) rfl (E2_none rfl) (Nat.le_of_ble_eq_true rfl) ?_
  have lpl := get_lt hp
  have hsx : ∀ y, (o.set pl y)[pl]? = some y := fun y => List.getElem?_set_self lpl
  have hsb : ∀ y, (o.set pl y)[bl]? = some (.cells ck t2 0 (bytesA pg)) := fun y => by rw [List.getElem?_set_ne hne]; exact hb
  have hid : o.set pl (.cells .ex t 0 (pairV x)) = o := set_same hp
  (repeat' (first | refine To.seq hxE2 ?_ | refine To.op0 hxE2 (by simp only [go_sem, eqs hxE2, reduceIte, seval]; rfl) ?_ | refine To.nop hxE2 ?_ | refine To.block hxE2 ?_))
  refine To.loop hxE2 (fun m S h' => ∃ (i d' : Nat), i + m = 64 ∧ h' = ⟨o.set pl (.cells .ex t 0 (pairV (sumB x (pg.take i)))), o.length, d'⟩ ∧ (i = 0 ∨ d' ≤ pl) ∧ pl ≤ d' ∧ S 0 = .ptr pl 0 ∧ S 6 = .slice bl 0 64 1 ∧ S 7 = .int .i64 64 ∧ S 8 = .int .i64 (i : Int)) ?_ 64 _ _ ?_
  · rintro m S _ ⟨i, d', hm, rfl, hd1, hd2, s0, s6, s7, s8⟩
    by_cases hi : i < 64
    · have hlt : decide ((i : Int) < 64) = true := decide_eq_true (by omega)
      have ix : idxOf 64 (.int .i64 (i : Int)) = some i := idxOf_nat hi
      have wi : IntKind.i64.wrap ((i : Int) + 1) = ((i + 1 : Nat) : Int) := by rw [wrap_i64 (by omega) (by omega)]; omega
      obtain ⟨c, hc⟩ : ∃ c, pg[i]? = some c := ⟨pg[i], List.getElem?_eq_getElem (by omega)⟩
      have hbc : (bytesA pg)[i]? = some (.int .u8 (c.toNat : Int)) := by rw [bytesA_get, hc]; rfl
      have hcl := c.toNat_lt
      have hst : sumB x (pg.take (i + 1)) = sum1 (sumB x (pg.take i)) c := by
        unfold sumB
        rw [List.take_add_one, hc, Option.toList_some, List.foldl_append]; rfl
      obtain ⟨h1, h2⟩ := sumB_low (pg.take i) hx
      generalize hy : sumB x (pg.take i) = y at *
      have wc : IntKind.u32.wrap (c.toNat : Int) = (c.toNat : Int) := wrap_u32 (by omega) (by omega)
      have w1 : IntKind.u32.wrap ((y.1 : Int) + (c.toNat : Int)) = ((y.1 + c.toNat : Nat) : Int) := by rw [wrap_u32 (by omega) (by omega)]; omega
      have m1 : Int.tmod ((y.1 + c.toNat : Nat) : Int) 65535 = (((y.1 + c.toNat) % 65535 : Nat) : Int) := by rw [Int.tmod_eq_emod_of_nonneg (by omega)]; omega
      have hm1 : (y.1 + c.toNat) % 65535 < 65535 := Nat.mod_lt _ (by decide)
      have hs1 : sum1 y c = ((y.1 + c.toNat) % 65535, (y.2 + (y.1 + c.toNat) % 65535) % 65535) := rfl
      rw [hs1] at hst
      generalize (y.1 + c.toNat) % 65535 = a1 at *
      have w2 : IntKind.u32.wrap ((y.2 : Int) + (a1 : Int)) = ((y.2 + a1 : Nat) : Int) := by rw [wrap_u32 (by omega) (by omega)]; omega
      have m2 : Int.tmod ((y.2 + a1 : Nat) : Int) 65535 = (((y.2 + a1) % 65535 : Nat) : Int) := by rw [Int.tmod_eq_emod_of_nonneg (by omega)]; omega
      (repeat' (first | refine To.seq hxE2 ?_ | refine To.op0 hxE2 (by simp only [go_sem, eqs hxE2, reduceIte, seval, Heap.gets, Heap.sets, Heap.get, bytesA_length, bytesA_one, bytesA_plains, List.take_of_length_le, List.drop_of_length_le, Nat.add_zero, V.one, Nat.reduceLeDiff, List.all_cons, List.all_nil, ne_eq, not_false_eq_true, Nat.zero_le, pairV, s0, s6, s7, s8, hlt, ix, wi, hsx, hsb, hbc, wc, w1, m1, w2, m2, List.set_set]; rfl) ?_ | refine To.op1 hxE2 (by simp only [go_sem, eqs hxE2, reduceIte, seval, Heap.gets, Heap.sets, Heap.get, bytesA_length, bytesA_one, bytesA_plains, List.take_of_length_le, List.drop_of_length_le, Nat.add_zero, V.one, Nat.reduceLeDiff, List.all_cons, List.all_nil, ne_eq, not_false_eq_true, Nat.zero_le, pairV, s0, s6, s7, s8, hlt, ix, wi, hsx, hsb, hbc, wc, w1, m1, w2, m2, List.set_set]; rfl) ?_ | refine To.nop hxE2 ?_ | (refine To.condT hxE2 ?_ ?_; focus (simp only [go_sem, eqs hxE2, reduceIte, seval, Heap.gets, Heap.sets, Heap.get, bytesA_length, bytesA_one, bytesA_plains, List.take_of_length_le, List.drop_of_length_le, Nat.add_zero, V.one, Nat.reduceLeDiff, List.all_cons, List.all_nil, ne_eq, not_false_eq_true, Nat.zero_le, pairV, s0, s6, s7, s8, hlt, ix, wi, hsx, hsb, hbc, wc, w1, m1, w2, m2, List.set_set]; done)) | refine To.block hxE2 ?_ | refine To.skip hxE2 ?_ | refine To.draw0 hxE2 ?_ | refine ToD.op0 (by simp only [go_sem, eqs hxE2, reduceIte, seval, Heap.gets, Heap.sets, Heap.get, bytesA_length, bytesA_one, bytesA_plains, List.take_of_length_le, List.drop_of_length_le, Nat.add_zero, V.one, Nat.reduceLeDiff, List.all_cons, List.all_nil, ne_eq, not_false_eq_true, Nat.zero_le, pairV, s0, s6, s7, s8, hlt, ix, wi, hsx, hsb, hbc, wc, w1, m1, w2, m2, List.set_set]; rfl) (by simp only [put_some, put_none]; rfl) ?_ | refine ToD.op1 (by simp only [go_sem, eqs hxE2, reduceIte, seval, Heap.gets, Heap.sets, Heap.get, bytesA_length, bytesA_one, bytesA_plains, List.take_of_length_le, List.drop_of_length_le, Nat.add_zero, V.one, Nat.reduceLeDiff, List.all_cons, List.all_nil, ne_eq, not_false_eq_true, Nat.zero_le, pairV, s0, s6, s7, s8, hlt, ix, wi, hsx, hsb, hbc, wc, w1, m1, w2, m2, List.set_set]; rfl) (by simp only [put_some, put_none]; rfl) (by simp only [KD.app, go_sem, eqs hxE2, reduceIte, seval, Heap.gets, Heap.sets, Heap.get, bytesA_length, bytesA_one, bytesA_plains, List.take_of_length_le, List.drop_of_length_le, Nat.add_zero, V.one, Nat.reduceLeDiff, List.all_cons, List.all_nil, ne_eq, not_false_eq_true, Nat.zero_le, pairV, s0, s6, s7, s8, hlt, ix, wi, hsx, hsb, hbc, wc, w1, m1, w2, m2, List.set_set]; rfl) ?_ | refine ToD.nop ?_))
      try simp only [andThen, outOf]
      refine ⟨m - 1, by omega, i + 1, _, by omega, by rw [hst]; rfl, .inr (by omega), by omega, ?_⟩
      simp only [go_sem, eqs hxE2, reduceIte, seval, s0, s6, s7]
    · have hlt : decide ((i : Int) < 64) = false := decide_eq_false (by omega)
      have hie : pg.take i = pg := List.take_of_length_le (by omega)
      rw [hie]
      (repeat' (first | refine To.seq hxE2 ?_ | refine To.op0 hxE2 (by simp only [go_sem, eqs hxE2, reduceIte, seval, s0, s6, s7, s8, hlt]; rfl) ?_ | refine To.nop hxE2 ?_ | (refine To.condF hxE2 ?_ ?_; focus (simp only [go_sem, eqs hxE2, reduceIte, seval, s0, s6, s7, s8, hlt]; done)) | refine To.exit hxE2 ?_))
      try simp only [andThen, outOf, if_true]
      refine ⟨_, _, fin0n rfl, rfl, ?_⟩
      obtain ⟨d2, q1, q2, q3⟩ := leave_same2 (o := o) (o' := o.set pl (.cells .ex t 0 (pairV (sumB x pg)))) (e := e) (d := d) (d' := d') (v := .tuple []) rfl (by simp) (fun h => by omega)
      exact ⟨d2, q1, by omega⟩
  · refine ⟨0, o.length, by omega, ?_, .inl rfl, by omega, ?_⟩
    · rw [List.take_zero]
      show _ = (⟨o.set pl (.cells .ex t 0 (pairV x)), o.length, o.length⟩ : Heap)
      rw [hid]; rfl
    · simp only [go_sem, eqs hxE2, reduceIte, seval, initS]
set_option maxHeartbeats 1000000 in
theorem psum_q {x : Nat × Nat} (hx : lowS x) : Den FF E2 90 [.agg (pairV x)] ⟨o, e, d⟩ = some (.val (.int .u32 ((x.2 * 65536 + x.1 : Nat) : Int)), none) := by
  refine To.den hxE2 (f := 90) (a := af90) rfl (E2_none rfl) (Nat.le_of_ble_eq_true rfl) ?_
  obtain ⟨h1, h2⟩ := hx
  have hsh : shiftA .shl .u32 (x.2 : Int) 16 = some (.int .u32 ((x.2 * 65536 : Nat) : Int)) := by
    unfold shiftA
    rw [if_neg (by omega)]
    simp only
    have e8 : (min (16 : Int).toNat IntKind.u32.bits) = 16 := rfl
    rw [e8, wrap_u32 (by omega) (by omega)]
    congr 2
  have hor := or_add32 (a := x.2) (c := x.1) (by omega) (by omega)
  (repeat' (first | refine To.seq hxE2 ?_ | refine To.op0 hxE2 (by simp only [go_sem, eqs hxE2, reduceIte, seval, Heap.gets, Heap.sets, Heap.get, bytesA_length, bytesA_one, bytesA_plains, List.take_of_length_le, List.drop_of_length_le, Nat.add_zero, V.one, Nat.reduceLeDiff, List.all_cons, List.all_nil, ne_eq, not_false_eq_true, Nat.zero_le, pairV, hsh, hor]; rfl) ?_ | refine To.op1 hxE2 (by simp only [go_sem, eqs hxE2, reduceIte, seval, Heap.gets, Heap.sets, Heap.get, bytesA_length, bytesA_one, bytesA_plains, List.take_of_length_le, List.drop_of_length_le, Nat.add_zero, V.one, Nat.reduceLeDiff, List.all_cons, List.all_nil, ne_eq, not_false_eq_true, Nat.zero_le, pairV, hsh, hor]; rfl) ?_ | refine To.nop hxE2 ?_ | refine To.ret hxE2 ?_))
  try simp only [andThen, outOf]
  exact fin_k1 (i := 2) (v := .int .u32 ((x.2 * 65536 + x.1 : Nat) : Int)) rfl (by simp only [go_sem, eqs hxE2, reduceIte, seval]) rfl (kp_app (by omega) (by omega))
set_option maxHeartbeats 8000000 in
theorem sumPages_q {v : V} {ps : List Pg} (hv : PgRow o v ps) (hn : ps.length ≤ 1000000) : Den FF E2 81 [v] ⟨o, e, d⟩ = some (.val (.int .u32 (sumP ps : Int)), none) := by
  refine To.den hxE2 (f := 81) (a := af81) rfl (E2_none rfl) (Nat.le_of_ble_eq_true rfl) ?_
  have hl := hv.len
  (repeat' (first | refine To.seq hxE2 ?_ | refine To.op0 hxE2 (by simp only [go_sem, eqs hxE2, reduceIte, seval, Heap.gets, Heap.sets, Heap.get, bytesA_length, bytesA_one, bytesA_plains, List.take_of_length_le, List.drop_of_length_le, Nat.add_zero, V.one, Nat.reduceLeDiff, List.all_cons, List.all_nil, ne_eq, not_false_eq_true, Nat.zero_le, hl]; rfl) ?_ | refine To.op1 hxE2 (by simp only [go_sem, eqs hxE2, reduceIte, seval, Heap.gets, Heap.sets, Heap.get, bytesA_length, bytesA_one, bytesA_plains, List.take_of_length_le, List.drop_of_length_le, Nat.add_zero, V.one, Nat.reduceLeDiff, List.all_cons, List.all_nil, ne_eq, not_false_eq_true, Nat.zero_le, hl]; rfl) ?_ | refine To.nop hxE2 ?_ | refine To.block hxE2 ?_))
  refine To.loop hxE2 (fun m S h' => ∃ (i e' d' : Nat) (r : List AM.Obj), i + m = ps.length ∧ h' = ⟨o ++ (.cells .ex 141 0 (pairV ((ps.take i).foldl sumB (0, 0))) :: r), e', d'⟩ ∧ o.length ≤ e' ∧ o.length ≤ d' ∧ S 3 = .ptr o.length 0 ∧ S 6 = v ∧ S 7 = .int .i64 (ps.length : Int) ∧ S 8 = .int .i64 (i : Int)) ?_ ps.length _ _ ?_
  · rintro m S _ ⟨i, e', d', r, hm, rfl, he, hd, s3, s6, s7, s8⟩
    obtain ⟨hy1, hy2⟩ := sums_low (ps.take i) (x := (0, 0)) ⟨by decide, by decide⟩
    by_cases hi : i < ps.length
    · have hlt : decide ((i : Int) < (ps.length : Int)) = true := decide_eq_true (by omega)
      have ix : idxOf ps.length (.int .i64 (i : Int)) = some i := idxOf_nat hi
      have wi : IntKind.i64.wrap ((i : Int) + 1) = ((i + 1 : Nat) : Int) := by rw [wrap_i64 (by omega) (by omega)]; omega
      obtain ⟨l, ck, t, rfl, hlb⟩ := hv.at_ (by rintro rfl; simp at hi)
      have hg : ps[i]? = some ps[i] := List.getElem?_eq_getElem hi
      have hat := pgC_at hv.p64 hg
      have hkk : (i + 1) * 64 ≤ ps.length * 64 := Nat.mul_le_mul_right 64 hi
      have hle : i * 64 + 64 ≤ (pgC ps).length := by rw [pgC_len hv.p64]; omega
      have h64 := hv.p64 _ (List.getElem_mem hi)
      have hst : (ps.take (i + 1)).foldl sumB (0, 0) = sumB ((ps.take i).foldl sumB (0, 0)) ps[i] := by
        rw [List.take_add_one, hg, Option.toList_some, List.foldl_append]; rfl
      generalize ps[i] = p at *
      generalize hy : (ps.take i).foldl sumB (0, 0) = y at *
      have gl : ∀ r, (o ++ r)[l]? = some (.cells ck t 0 (pgC ps)) := fun r => app_old hlb r
      have htk : List.take 64 (bytesA p) = bytesA p := List.take_of_length_le (by rw [bytesA_length]; omega)
      have hbd2 : boundsA 64 64 none none = some (0, 64) := rfl
      have hgb : ((o ++ (AM.Obj.cells .ex 141 0 (pairV y) :: r)) ++ [AM.Obj.cells .ex 31 0 (bytesA p)])[(o ++ (AM.Obj.cells .ex 141 0 (pairV y) :: r)).length]? = some (.cells .ex 31 0 (bytesA p)) := app_get0 _ _ _
      have hgp : ((o ++ (AM.Obj.cells .ex 141 0 (pairV y) :: r)) ++ [AM.Obj.cells .ex 31 0 (bytesA p)])[o.length]? = some (.cells .ex 141 0 (pairV y)) := app_old (app_get0 _ _ _) _
      obtain ⟨v0, oh, q, rfl, d2, hg2, hd2⟩ := add_q (e := e') (d := min d' (o.length + (r.length + 1))) ⟨hy1, hy2⟩ h64 hgp hgb (by simp)
      have hset : ((o ++ (AM.Obj.cells .ex 141 0 (pairV y) :: r)) ++ [AM.Obj.cells .ex 31 0 (bytesA p)]).set o.length (.cells .ex 141 0 (pairV (sumB y p))) = o ++ (.cells .ex 141 0 (pairV (sumB y p)) :: (r ++ [.cells .ex 31 0 (bytesA p)])) := by
        rw [List.append_assoc]
        exact app_set0 _ _ _ _
      rw [hset] at hg2
      simp only [List.append_assoc, List.cons_append, List.length_append, List.length_cons] at q hg2
      (repeat' (first | refine To.seq hxE2 ?_ | refine To.op0 hxE2 (by simp only [go_sem, eqs hxE2, reduceIte, seval, Heap.gets, Heap.sets, Heap.get, bytesA_length, bytesA_one, bytesA_plains, List.take_of_length_le, List.drop_of_length_le, Nat.add_zero, V.one, Nat.reduceLeDiff, List.all_cons, List.all_nil, ne_eq, not_false_eq_true, Nat.zero_le, s3, s6, s7, s8, hlt, ix, gl, hat, hle, h64, htk, hbd2, z64_len, z64_drop, z64_one, z64_plains]; rfl) ?_ | refine To.op1 hxE2 (by simp only [go_sem, eqs hxE2, reduceIte, seval, Heap.gets, Heap.sets, Heap.get, bytesA_length, bytesA_one, bytesA_plains, List.take_of_length_le, List.drop_of_length_le, Nat.add_zero, V.one, Nat.reduceLeDiff, List.all_cons, List.all_nil, ne_eq, not_false_eq_true, Nat.zero_le, s3, s6, s7, s8, hlt, ix, gl, hat, hle, h64, htk, hbd2, z64_len, z64_drop, z64_one, z64_plains]; rfl) ?_ | refine To.nop hxE2 ?_ | (refine To.condT hxE2 ?_ ?_; focus (simp only [go_sem, eqs hxE2, reduceIte, seval, Heap.gets, Heap.sets, Heap.get, bytesA_length, bytesA_one, bytesA_plains, List.take_of_length_le, List.drop_of_length_le, Nat.add_zero, V.one, Nat.reduceLeDiff, List.all_cons, List.all_nil, ne_eq, not_false_eq_true, Nat.zero_le, s3, s6, s7, s8, hlt, ix, gl, hat, hle, h64, htk, hbd2, z64_len, z64_drop, z64_one, z64_plains]; done)) | refine To.block hxE2 ?_ | refine To.skip hxE2 ?_))
      refine To.op hxE2 (by simp only [go_sem, eqs hxE2, reduceIte, seval, s3, q]; rfl) ?_
      rw [hg2]
      (repeat' (first | refine To.op0 hxE2 (by simp only [go_sem, eqs hxE2, reduceIte, seval, s8, wi]; rfl) ?_ | refine To.nop hxE2 ?_))
      try simp only [andThen, outOf]
      refine ⟨m - 1, by omega, i + 1, _, _, _, by omega, by rw [hst], he, by omega, ?_⟩
      simp only [go_sem, eqs hxE2, reduceIte, seval, s3, s6, s7]
    · have hlt : decide ((i : Int) < (ps.length : Int)) = false := decide_eq_false (by omega)
      have hie : ps.take i = ps := List.take_of_length_le (by omega)
      rw [hie] at hy1 hy2 ⊢
      have q := fun r e d => psum_q (o := o ++ r) (e := e) (d := d) (x := ps.foldl sumB (0, 0)) ⟨hy1, hy2⟩
      have hpv : (pairV (ps.foldl sumB (0, 0))).length = 2 := rfl
      have hsum : (ps.foldl sumB (0, 0)).2 * 65536 + (ps.foldl sumB (0, 0)).1 = sumP ps := rfl
      rw [hsum] at q
      have hpt : List.take 2 (pairV (ps.foldl sumB (0, 0))) = pairV (ps.foldl sumB (0, 0)) := rfl
      generalize pairV (ps.foldl sumB (0, 0)) = pv at *
      (repeat' (first | refine To.seq hxE2 ?_ | refine To.op0 hxE2 (by simp only [go_sem, eqs hxE2, reduceIte, seval, Heap.gets, Heap.sets, Heap.get, bytesA_length, bytesA_one, bytesA_plains, List.take_of_length_le, List.drop_of_length_le, Nat.add_zero, V.one, Nat.reduceLeDiff, List.all_cons, List.all_nil, ne_eq, not_false_eq_true, Nat.zero_le, s3, s6, s7, s8, hlt, q, hpv, hpt]; rfl) ?_ | refine To.nop hxE2 ?_ | (refine To.condF hxE2 ?_ ?_; focus (simp only [go_sem, eqs hxE2, reduceIte, seval, Heap.gets, Heap.sets, Heap.get, bytesA_length, bytesA_one, bytesA_plains, List.take_of_length_le, List.drop_of_length_le, Nat.add_zero, V.one, Nat.reduceLeDiff, List.all_cons, List.all_nil, ne_eq, not_false_eq_true, Nat.zero_le, s3, s6, s7, s8, hlt, q, hpv, hpt]; done)) | refine To.ret hxE2 ?_ | refine To.exit hxE2 ?_))
      try simp only [andThen, outOf, if_true]
      exact fin_k1 (i := 2) (v := .int .u32 (sumP ps : Int)) rfl (by simp only [go_sem, eqs hxE2, reduceIte, seval]) rfl (kp_app he hd)
  · refine ⟨0, _, _, [], by omega, rfl, ?_, ?_, ?_⟩
    · simp
    · simp
    · simp only [go_sem, eqs hxE2, reduceIte, seval, initS]
end
end Go.Proofs.Ytfbkeieoeagkdaa

/- Journal: heads read; rooms. -/
namespace Go.Proofs.Ytfbkeieoeagkdaa
open Go AM
set_option linter.unusedSimpArgs false
set_option linter.unusedVariables false
set_option maxRecDepth 100000

/-- What a page tells as a head, and whether it is one. -/
def liveP (p : Pg) : Bool := p.getD 4 0 == 1
def wholeP (p : Pg) : Bool := rightH (getK p 0 4) (liveP p) (getK p 5 2) (getK p 7 4) && (headP (getK p 0 4) (liveP p) (getK p 5 2) (getK p 7 4) == p)
def nextP (p : Pg) : Nat := max (getK p 0 4 + 1) (getK p 60 4 + 1)
/-- How many changes a region holds. -/
def listsN (n : Nat) : Nat := (n + 31) / 32
def roomF (size : Int) : Nat → Nat → Nat
  | 0, n => n
  | k + 1, n => if n < 512 ∧ 1 + (listsN (n + 1) : Int) + (n : Int) + 1 ≤ size then roomF size k (n + 1) else n
def roomJ (size : Int) : Nat := roomF size 512 0
theorem roomF_le (size : Int) : ∀ k n, roomF size k n ≤ n + k
  | 0, n => Nat.le_refl _
  | k + 1, n => by
    unfold roomF
    split
    · have := roomF_le size k (n + 1); omega
    · omega
theorem roomJ_le (size : Int) : roomJ size ≤ 512 := by have := roomF_le size 512 0; unfold roomJ; omega
theorem gets4 {o : List AM.Obj} {e d t : Nat} {x : AM.Obj} {cs : List V} {r : List AM.Obj} (h : cs.length = 4) : (⟨o ++ (x :: .cells .ex t 0 cs :: r), e, d⟩ : Heap).gets (o.length + 1) 0 4 = some cs := by
  have hg : (o ++ (x :: AM.Obj.cells .ex t 0 cs :: r))[o.length + 1]? = some (.cells .ex t 0 cs) := by
    rw [app_getk]; rfl
  simp only [Heap.gets, hg, Nat.zero_add, h, Nat.le_refl, if_true, List.drop_zero]
  rw [if_neg (by decide), List.take_of_length_le (by omega)]
section
variable {o : List AM.Obj} {e d : Nat}
set_option maxHeartbeats 8000000 in
theorem decode_q {p : Pg} (hp : p.length = 64) : Den FF E2 55 [.agg (bytesA p)] ⟨o, e, d⟩ = some (.val (.tuple [.agg (if wholeP p = true then headV (getK p 0 4) (liveP p) (getK p 5 2) (getK p 7 4) else headV 0 false 0 0), .bool (wholeP p)]), none) := by
  refine To.den hxE2 (f := 55) (a := af55) rfl (E2_none rfl) (Nat.le_of_ble_eq_true rfl) ?_
  have g1 : ∀ r e d, Den FF E2 71 [.agg (bytesA p), .int .i64 0, .int .i64 4] ⟨o ++ r, e, d⟩ = some (.val (.int .i64 (getK p 0 4 : Int)), none) := fun r e d => get_q hp (a := 0) (s := 4) (by omega) (by omega) (by omega)
  have g2 : ∀ r e d, Den FF E2 71 [.agg (bytesA p), .int .i64 5, .int .i64 2] ⟨o ++ r, e, d⟩ = some (.val (.int .i64 (getK p 5 2 : Int)), none) := fun r e d => get_q hp (a := 5) (s := 2) (by omega) (by omega) (by omega)
  have g3 : ∀ r e d, Den FF E2 71 [.agg (bytesA p), .int .i64 7, .int .i64 4] ⟨o ++ r, e, d⟩ = some (.val (.int .i64 (getK p 7 4 : Int)), none) := fun r e d => get_q hp (a := 7) (s := 4) (by omega) (by omega) (by omega)
  have hm := getK_lt p 7 4
  have hm2 : getK p 7 4 < 4294967296 := hm
  have wm : IntKind.u32.wrap (getK p 7 4 : Int) = (getK p 7 4 : Int) := wrap_u32 (by omega) (by omega)
  obtain ⟨c, hc⟩ : ∃ c, p[4]? = some c := ⟨p[4], List.getElem?_eq_getElem (by omega)⟩
  have hbc : (bytesA p)[4]? = some (.int .u8 (c.toNat : Int)) := by rw [bytesA_get, hc]; rfl
  have hlv : ((c.toNat : Int) == 1) = liveP p := by
    unfold liveP
    rw [List.getD_eq_getElem?_getD, hc, Bool.eq_iff_iff, beq_iff_eq, Option.getD_some, beq_iff_eq]
    constructor
    · intro h
      have e1 : (1 : UInt8).toNat = 1 := rfl
      exact UInt8.toNat_inj.1 (by omega)
    · rintro rfl; rfl
  have htk : List.take 64 (bytesA p) = bytesA p := List.take_of_length_le (by rw [bytesA_length]; omega)
  have ix : idxOf 64 (.int .i64 4) = some 4 := rfl
  have q1 : ∀ r e d, Den FF E2 72 [.agg (headV (getK p 0 4) (liveP p) (getK p 5 2) (getK p 7 4))] ⟨o ++ r, e, d⟩ = some (.val (.bool (rightH (getK p 0 4) (liveP p) (getK p 5 2) (getK p 7 4))), none) := fun r e d => right_q
  have q2 : ∀ r e d, Den FF E2 73 [.agg (headV (getK p 0 4) (liveP p) (getK p 5 2) (getK p 7 4))] ⟨o ++ r, e, d⟩ = some (.val (.agg (bytesA (headP (getK p 0 4) (liveP p) (getK p 5 2) (getK p 7 4)))), none) := fun r e d => put_q (by omega) (by omega)
  have hw : wholeP p = (rightH (getK p 0 4) (liveP p) (getK p 5 2) (getK p 7 4) && (headP (getK p 0 4) (liveP p) (getK p 5 2) (getK p 7 4) == p)) := rfl
  have hl := headP_len (getK p 0 4) (liveP p) (getK p 5 2) (getK p 7 4)
  have hk := eqB64 hl hp
  have hbl := beqs_bytes p
  generalize headP (getK p 0 4) (liveP p) (getK p 5 2) (getK p 7 4) = pH at *
  generalize rightH (getK p 0 4) (liveP p) (getK p 5 2) (getK p 7 4) = rH at *
  generalize hs : (getK p 0 4 : Int) = s at *
  generalize hcc : (getK p 5 2 : Int) = cn at *
  generalize hsm : (getK p 7 4 : Int) = sm at *
  generalize liveP p = lv at *
  simp only [headV] at q1 q2 ⊢
  have hN0 : decide (o.length < o.length + 2) = true := decide_eq_true (by omega)
  have hN1 : decide (o.length + 1 < o.length + 2) = true := decide_eq_true (by omega)
  have hdrop : ∀ a b c : AM.Obj, List.drop (o.length + 2) (o ++ [a, b, c]) = [c] := fun a b c => by rw [← List.drop_drop, List.drop_left]; rfl
  have hN3 : ∀ k, decide (o.length + 2 ≤ o.length + (2 + k)) = true := fun k => decide_eq_true (by omega)
  have hc0 : List.contains (0 :: []) 0 = true := rfl
  have hN2 : ∀ k, decide (o.length < o.length + (k + 1)) = true := fun k => decide_eq_true (by omega)
  (repeat' (first | refine To.seq hxE2 ?_ | refine To.op0 hxE2 (by simp only [go_sem, eqs hxE2, reduceIte, seval, Heap.gets, Heap.sets, Heap.get, bytesA_length, bytesA_one, bytesA_plains, List.take_of_length_le, List.drop_of_length_le, Nat.add_zero, V.one, Nat.reduceLeDiff, List.all_cons, List.all_nil, ne_eq, not_false_eq_true, Nat.zero_le, g1, g2, g3, wm, hbc, hlv, htk, hp, ix, okL, hN0, hN1, hN2, hdrop, hc0, Nat.sub_self, Nat.add_sub_cancel_left, List.contains_nil, List.contains_cons, beqs_bytes]; rfl) ?_ | refine To.op1 hxE2 (by simp only [go_sem, eqs hxE2, reduceIte, seval, Heap.gets, Heap.sets, Heap.get, bytesA_length, bytesA_one, bytesA_plains, List.take_of_length_le, List.drop_of_length_le, Nat.add_zero, V.one, Nat.reduceLeDiff, List.all_cons, List.all_nil, ne_eq, not_false_eq_true, Nat.zero_le, g1, g2, g3, wm, hbc, hlv, htk, hp, ix, okL, hN0, hN1, hN2, hdrop, hc0, Nat.sub_self, Nat.add_sub_cancel_left, List.contains_nil, List.contains_cons, beqs_bytes]; rfl) ?_ | refine To.nop hxE2 ?_ | refine To.draw0 hxE2 ?_ | refine ToD.op0 (by simp only [go_sem, eqs hxE2, reduceIte, seval, Heap.gets, Heap.sets, Heap.get, bytesA_length, bytesA_one, bytesA_plains, List.take_of_length_le, List.drop_of_length_le, Nat.add_zero, V.one, Nat.reduceLeDiff, List.all_cons, List.all_nil, ne_eq, not_false_eq_true, Nat.zero_le, g1, g2, g3, wm, hbc, hlv, htk, hp, ix, okL, hN0, hN1, hN2, hdrop, hc0, Nat.sub_self, Nat.add_sub_cancel_left, List.contains_nil, List.contains_cons, beqs_bytes]; rfl) (by simp only [put_some, put_none]; rfl) ?_ | refine ToD.op1 (by simp only [go_sem, eqs hxE2, reduceIte, seval, Heap.gets, Heap.sets, Heap.get, bytesA_length, bytesA_one, bytesA_plains, List.take_of_length_le, List.drop_of_length_le, Nat.add_zero, V.one, Nat.reduceLeDiff, List.all_cons, List.all_nil, ne_eq, not_false_eq_true, Nat.zero_le, g1, g2, g3, wm, hbc, hlv, htk, hp, ix, okL, hN0, hN1, hN2, hdrop, hc0, Nat.sub_self, Nat.add_sub_cancel_left, List.contains_nil, List.contains_cons, beqs_bytes]; rfl) (by simp only [put_some, put_none]; rfl) (by simp only [KD.app, go_sem, eqs hxE2, reduceIte, seval, Heap.gets, Heap.sets, Heap.get, bytesA_length, bytesA_one, bytesA_plains, List.take_of_length_le, List.drop_of_length_le, Nat.add_zero, V.one, Nat.reduceLeDiff, List.all_cons, List.all_nil, ne_eq, not_false_eq_true, Nat.zero_le, g1, g2, g3, wm, hbc, hlv, htk, hp, ix, okL, hN0, hN1, hN2, hdrop, hc0, Nat.sub_self, Nat.add_sub_cancel_left, List.contains_nil, List.contains_cons, beqs_bytes]; rfl) ?_ | refine ToD.nop ?_ | refine To.draw hxE2 (by decide) ?_ | fail))
  cases rH
  · rw [Bool.false_and] at hw
    rw [hw, if_neg (by decide)]
    (repeat' (first | refine To.seq hxE2 ?_ | refine To.op0 hxE2 (by simp only [go_sem, eqs hxE2, reduceIte, seval, Heap.gets, Heap.sets, Heap.get, bytesA_length, bytesA_one, bytesA_plains, List.take_of_length_le, List.drop_of_length_le, Nat.add_zero, V.one, Nat.reduceLeDiff, List.all_cons, List.all_nil, ne_eq, not_false_eq_true, Nat.zero_le, q1, z64_len]; rfl) ?_ | refine To.op1 hxE2 (by simp only [go_sem, eqs hxE2, reduceIte, seval, Heap.gets, Heap.sets, Heap.get, bytesA_length, bytesA_one, bytesA_plains, List.take_of_length_le, List.drop_of_length_le, Nat.add_zero, V.one, Nat.reduceLeDiff, List.all_cons, List.all_nil, ne_eq, not_false_eq_true, Nat.zero_le, q1, z64_len]; rfl) ?_ | refine To.nop hxE2 ?_ | (refine To.condT hxE2 ?_ ?_; focus (simp only [go_sem, eqs hxE2, reduceIte, seval, Heap.gets, Heap.sets, Heap.get, bytesA_length, bytesA_one, bytesA_plains, List.take_of_length_le, List.drop_of_length_le, Nat.add_zero, V.one, Nat.reduceLeDiff, List.all_cons, List.all_nil, ne_eq, not_false_eq_true, Nat.zero_le, q1, z64_len]; done)) | refine To.ret hxE2 ?_ | refine ToD.op0 (by simp only [go_sem, eqs hxE2, reduceIte, seval, Heap.gets, Heap.sets, Heap.get, bytesA_length, bytesA_one, bytesA_plains, List.take_of_length_le, List.drop_of_length_le, Nat.add_zero, V.one, Nat.reduceLeDiff, List.all_cons, List.all_nil, ne_eq, not_false_eq_true, Nat.zero_le, q1, z64_len]; rfl) (by simp only [put_some, put_none]; rfl) ?_ | refine ToD.nop ?_))
    try simp only [andThen, outOf]
    exact fin_kc2 (j := 2) (cs := [.int .i64 0, .bool false, .int .i64 0, .int .u32 0]) (l := o.length + 1) (v := .bool false) rfl (by simp only [go_sem, eqs hxE2, reduceIte, seval]) (by simp only [go_sem, eqs hxE2, reduceIte, seval]) (gets4 rfl) rfl rfl (kp_app (by omega) (by omega))
  · rw [Bool.true_and] at hw
    cases hb : (pH == p)
    · rw [hb] at hw hk
      rw [hw, if_neg (by decide)]
      (repeat' (first | refine To.seq hxE2 ?_ | refine To.op0 hxE2 (by simp only [go_sem, eqs hxE2, reduceIte, seval, Heap.gets, Heap.sets, Heap.get, bytesA_length, bytesA_one, bytesA_plains, List.take_of_length_le, List.drop_of_length_le, Nat.add_zero, V.one, Nat.reduceLeDiff, List.all_cons, List.all_nil, ne_eq, not_false_eq_true, Nat.zero_le, q1, q2, hk, htk, hp]; rfl) ?_ | refine To.op1 hxE2 (by simp only [go_sem, eqs hxE2, reduceIte, seval, Heap.gets, Heap.sets, Heap.get, bytesA_length, bytesA_one, bytesA_plains, List.take_of_length_le, List.drop_of_length_le, Nat.add_zero, V.one, Nat.reduceLeDiff, List.all_cons, List.all_nil, ne_eq, not_false_eq_true, Nat.zero_le, q1, q2, hk, htk, hp]; rfl) ?_ | refine To.nop hxE2 ?_ | (refine To.condT hxE2 ?_ ?_; focus (simp only [go_sem, eqs hxE2, reduceIte, seval, Heap.gets, Heap.sets, Heap.get, bytesA_length, bytesA_one, bytesA_plains, List.take_of_length_le, List.drop_of_length_le, Nat.add_zero, V.one, Nat.reduceLeDiff, List.all_cons, List.all_nil, ne_eq, not_false_eq_true, Nat.zero_le, q1, q2, hk, htk, hp]; done)) | refine To.ret hxE2 ?_ | refine ToD.op0 (by simp only [go_sem, eqs hxE2, reduceIte, seval, Heap.gets, Heap.sets, Heap.get, bytesA_length, bytesA_one, bytesA_plains, List.take_of_length_le, List.drop_of_length_le, Nat.add_zero, V.one, Nat.reduceLeDiff, List.all_cons, List.all_nil, ne_eq, not_false_eq_true, Nat.zero_le, q1, q2, hk, htk, hp]; rfl) (by simp only [put_some, put_none]; rfl) ?_ | refine ToD.nop ?_))
      try simp only [andThen, outOf]
      exact fin_kc2 (j := 2) (cs := [.int .i64 0, .bool false, .int .i64 0, .int .u32 0]) (l := o.length + 1) (v := .bool false) rfl (by simp only [go_sem, eqs hxE2, reduceIte, seval]) (by simp only [go_sem, eqs hxE2, reduceIte, seval]) (gets4 rfl) rfl rfl (kp_app (by omega) (by omega))
    · rw [hb] at hw hk
      rw [hw, if_pos rfl]
      (repeat' (first | refine To.seq hxE2 ?_ | refine To.op0 hxE2 (by simp only [go_sem, eqs hxE2, reduceIte, seval, Heap.gets, Heap.sets, Heap.get, bytesA_length, bytesA_one, bytesA_plains, List.take_of_length_le, List.drop_of_length_le, Nat.add_zero, V.one, Nat.reduceLeDiff, List.all_cons, List.all_nil, ne_eq, not_false_eq_true, Nat.zero_le, q1, q2, hk, htk, hp]; rfl) ?_ | refine To.op1 hxE2 (by simp only [go_sem, eqs hxE2, reduceIte, seval, Heap.gets, Heap.sets, Heap.get, bytesA_length, bytesA_one, bytesA_plains, List.take_of_length_le, List.drop_of_length_le, Nat.add_zero, V.one, Nat.reduceLeDiff, List.all_cons, List.all_nil, ne_eq, not_false_eq_true, Nat.zero_le, q1, q2, hk, htk, hp]; rfl) ?_ | refine To.nop hxE2 ?_ | (refine To.condF hxE2 ?_ ?_; focus (simp only [go_sem, eqs hxE2, reduceIte, seval, Heap.gets, Heap.sets, Heap.get, bytesA_length, bytesA_one, bytesA_plains, List.take_of_length_le, List.drop_of_length_le, Nat.add_zero, V.one, Nat.reduceLeDiff, List.all_cons, List.all_nil, ne_eq, not_false_eq_true, Nat.zero_le, q1, q2, hk, htk, hp]; done)) | refine To.ret hxE2 ?_ | refine To.skip hxE2 ?_ | refine ToD.op0 (by simp only [go_sem, eqs hxE2, reduceIte, seval, Heap.gets, Heap.sets, Heap.get, bytesA_length, bytesA_one, bytesA_plains, List.take_of_length_le, List.drop_of_length_le, Nat.add_zero, V.one, Nat.reduceLeDiff, List.all_cons, List.all_nil, ne_eq, not_false_eq_true, Nat.zero_le, q1, q2, hk, htk, hp]; rfl) (by simp only [put_some, put_none]; rfl) ?_ | refine ToD.nop ?_))
      try simp only [andThen, outOf]
      exact fin_kc2 (j := 2) (cs := [.int .i64 s, .bool lv, .int .i64 cn, .int .u32 sm]) (l := o.length + 1) (v := .bool true) rfl (by simp only [go_sem, eqs hxE2, reduceIte, seval]) (by simp only [go_sem, eqs hxE2, reduceIte, seval]) (gets4 rfl) rfl rfl (kp_app (by omega) (by omega))
set_option maxHeartbeats 1000000 in
theorem lists_q {n : Nat} (hn : n ≤ 1000000) : Den FF E2 70 [.int .i64 (n : Int)] ⟨o, e, d⟩ = some (.val (.int .i64 (listsN n : Int)), none) := by
  refine To.den hxE2 (f := 70) (a := af70) rfl (E2_none rfl) (Nat.le_of_ble_eq_true rfl) ?_
  have w1 : IntKind.i64.wrap ((n : Int) + 32) = (n : Int) + 32 := wrap_i64 (by omega) (by omega)
  have w2 : IntKind.i64.wrap ((n : Int) + 32 - 1) = ((n + 31 : Nat) : Int) := by rw [wrap_i64 (by omega) (by omega)]; omega
  have t1 : Int.tdiv ((n + 31 : Nat) : Int) 32 = ((listsN n : Nat) : Int) := by rw [Int.tdiv_eq_ediv_of_nonneg (by omega)]; unfold listsN; omega
  have hl : listsN n ≤ 1000000 := by unfold listsN; omega
  have w3 : IntKind.i64.wrap (listsN n : Int) = (listsN n : Int) := wrap_i64 (by omega) (by omega)
  (repeat' (first | refine To.seq hxE2 ?_ | refine To.op0 hxE2 (by simp only [go_sem, eqs hxE2, reduceIte, seval, w1, w2, t1, w3]; rfl) ?_ | refine To.nop hxE2 ?_ | refine To.ret hxE2 ?_))
  try simp only [andThen, outOf]
  exact fin_k1 (i := 2) (v := .int .i64 (listsN n : Int)) rfl (by simp only [go_sem, eqs hxE2, reduceIte, seval]) rfl (Kp.enter' _)
set_option maxHeartbeats 4000000 in
theorem room_q {size : Int} : Den FF E2 53 [.int .i64 size] ⟨o, e, d⟩ = some (.val (.int .i64 (roomJ size : Int)), none) := by
  refine To.den hxE2 (f := 53) (a := af53) rfl (E2_none rfl) (Nat.le_of_ble_eq_true rfl) ?_
  (repeat' (first | refine To.seq hxE2 ?_ | refine To.op0 hxE2 (by simp only [go_sem, eqs hxE2, reduceIte, seval]; rfl) ?_ | refine To.nop hxE2 ?_ | refine To.block hxE2 ?_))
  refine To.loop hxE2 (fun m S h' => ∃ n : Nat, n + m = 512 ∧ h' = ⟨o, o.length, o.length⟩ ∧ roomF size m n = roomJ size ∧ S 0 = .int .i64 size ∧ S 3 = .int .i64 (n : Int)) ?_ 512 _ _ ?_
  · rintro m S _ ⟨n, hm, rfl, hr, s0, s3⟩
    by_cases h512 : n < 512
    · have d1 : decide ((n : Int) < 512) = true := decide_eq_true (by omega)
      have wn : IntKind.i64.wrap ((n : Int) + 1) = ((n + 1 : Nat) : Int) := by rw [wrap_i64 (by omega) (by omega)]; omega
      have q := fun e d => lists_q (o := o) (e := e) (d := d) (n := n + 1) (by omega)
      have hl : listsN (n + 1) ≤ 1000 := by unfold listsN; omega
      obtain ⟨m', rfl⟩ : ∃ m', m = m' + 1 := ⟨m - 1, by omega⟩
      rw [roomF] at hr
      generalize listsN (n + 1) = L at *
      have w1 : IntKind.i64.wrap (1 + (L : Int)) = 1 + (L : Int) := wrap_i64 (by omega) (by omega)
      have w2 : IntKind.i64.wrap (1 + (L : Int) + (n : Int)) = 1 + (L : Int) + (n : Int) := wrap_i64 (by omega) (by omega)
      have w3 : IntKind.i64.wrap (1 + (L : Int) + (n : Int) + 1) = 1 + (L : Int) + (n : Int) + 1 := wrap_i64 (by omega) (by omega)
      by_cases hc : 1 + (L : Int) + (n : Int) + 1 ≤ size
      · rw [if_pos ⟨h512, hc⟩] at hr
        have d2 : decide (1 + (L : Int) + (n : Int) + 1 ≤ size) = true := decide_eq_true hc
        (repeat' (first | refine To.seq hxE2 ?_ | refine To.op0 hxE2 (by simp only [go_sem, eqs hxE2, reduceIte, seval, s0, s3, d1, wn, q, w1, w2, w3, d2]; rfl) ?_ | refine To.nop hxE2 ?_ | (refine To.condT hxE2 ?_ ?_; focus (simp only [go_sem, eqs hxE2, reduceIte, seval, s0, s3, d1, wn, q, w1, w2, w3, d2]; done)) | refine To.block hxE2 ?_ | refine To.skip hxE2 ?_))
        try simp only [andThen, outOf]
        refine ⟨m', by omega, n + 1, by omega, trivial, hr, ?_⟩
        simp only [go_sem, eqs hxE2, reduceIte, seval, s0]
      · rw [if_neg (fun h => hc h.2)] at hr
        have d2 : decide (1 + (L : Int) + (n : Int) + 1 ≤ size) = false := decide_eq_false hc
        rw [← hr]
        (repeat' (first | refine To.seq hxE2 ?_ | refine To.op0 hxE2 (by simp only [go_sem, eqs hxE2, reduceIte, seval, s0, s3, d1, wn, q, w1, w2, w3, d2]; rfl) ?_ | refine To.nop hxE2 ?_ | (refine To.condF hxE2 ?_ ?_; focus (simp only [go_sem, eqs hxE2, reduceIte, seval, s0, s3, d1, wn, q, w1, w2, w3, d2]; done)) | refine To.ret hxE2 ?_ | refine To.exit hxE2 ?_))
        try simp only [andThen, outOf, if_true]
        skip
        exact fin_k1 (i := 2) (v := .int .i64 (n : Int)) rfl (by simp only [go_sem, eqs hxE2, reduceIte, seval, s3]) rfl (Kp.enter' _)
    · have d1 : decide ((n : Int) < 512) = false := decide_eq_false (by omega)
      obtain rfl : m = 0 := by omega
      rw [roomF] at hr
      rw [← hr]
      (repeat' (first | refine To.seq hxE2 ?_ | refine To.op0 hxE2 (by simp only [go_sem, eqs hxE2, reduceIte, seval, s0, s3, d1]; rfl) ?_ | refine To.nop hxE2 ?_ | (refine To.condF hxE2 ?_ ?_; focus (simp only [go_sem, eqs hxE2, reduceIte, seval, s0, s3, d1]; done)) | refine To.ret hxE2 ?_ | refine To.exit hxE2 ?_))
      try simp only [andThen, outOf, if_true]
      skip
      exact fin_k1 (i := 2) (v := .int .i64 (n : Int)) rfl (by simp only [go_sem, eqs hxE2, reduceIte, seval, s3]) rfl (Kp.enter' _)
  · refine ⟨0, by omega, rfl, rfl, ?_⟩
    simp only [go_sem, eqs hxE2, reduceIte, seval, initS]
set_option maxHeartbeats 4000000 in
theorem next_q {v : V} {p : Pg} (hv : PgRow o v [p]) : Den FF E2 57 [v] ⟨o, e, d⟩ = some (.val (.int .i64 (nextP p : Int)), none) := by
  refine To.den hxE2 (f := 57) (a := af57) rfl (E2_none rfl) (Nat.le_of_ble_eq_true rfl) ?_
  have hl : lenLV v = some (.int .i64 1, none) := hv.len
  have hp := hv.p64 p List.mem_cons_self
  obtain ⟨l, ck, t, rfl, hlb⟩ := hv.at_ (by simp)
  have hpc : pgC [p] = bytesA p := by simp [pgC]
  rw [hpc] at hlb
  have g1 : ∀ r e d, Den FF E2 71 [.agg (bytesA p), .int .i64 0, .int .i64 4] ⟨o ++ r, e, d⟩ = some (.val (.int .i64 (getK p 0 4 : Int)), none) := fun r e d => get_q hp (a := 0) (s := 4) (by omega) (by omega) (by omega)
  have g2 : ∀ r e d, Den FF E2 71 [.agg (bytesA p), .int .i64 60, .int .i64 4] ⟨o ++ r, e, d⟩ = some (.val (.int .i64 (getK p 60 4 : Int)), none) := fun r e d => get_q hp (a := 60) (s := 4) (by omega) (by omega) (by omega)
  have hm1 : getK p 0 4 < 4294967296 := getK_lt p 0 4
  have hm2 : getK p 60 4 < 4294967296 := getK_lt p 60 4
  have w1 : IntKind.i64.wrap ((getK p 0 4 : Int) + 1) = ((getK p 0 4 + 1 : Nat) : Int) := by rw [wrap_i64 (by omega) (by omega)]; omega
  have w2 : IntKind.i64.wrap ((getK p 60 4 : Int) + 1) = ((getK p 60 4 + 1 : Nat) : Int) := by rw [wrap_i64 (by omega) (by omega)]; omega
  have ix : idxOf 1 (.int .i64 0) = some 0 := rfl
  have htk : List.take 64 (bytesA p) = bytesA p := List.take_of_length_le (by rw [bytesA_length]; omega)
  have gl : ∀ r, (o ++ r)[l]? = some (.cells ck t 0 (bytesA p)) := fun r => app_old hlb r
  have hbl := beqs_bytes p
  (repeat' (first | refine To.seq hxE2 ?_ | refine To.op0 hxE2 (by simp only [go_sem, eqs hxE2, reduceIte, seval, hl]; rfl) ?_ | refine To.nop hxE2 ?_ | refine To.block hxE2 ?_))
  refine To.loop hxE2 (fun m S h' => ∃ (i e' d' : Nat) (r : List AM.Obj), i + m = 1 ∧ h' = ⟨o ++ r, e', d'⟩ ∧ o.length ≤ e' ∧ o.length ≤ d' ∧ S 3 = .int .i64 ((if i = 0 then 0 else nextP p : Nat) : Int) ∧ S 6 = .slice l 0 1 64 ∧ S 7 = .int .i64 1 ∧ S 8 = .int .i64 (i : Int)) ?_ 1 _ _ ?_
  · rintro m S _ ⟨i, e', d', r, hm, rfl, he, hd, s3, s6, s7, s8⟩
    by_cases hi : i = 0
    · subst hi
      rw [if_pos rfl] at s3
      (repeat' (first | refine To.seq hxE2 ?_ | refine To.op0 hxE2 (by simp only [go_sem, eqs hxE2, reduceIte, seval, Heap.gets, Heap.sets, Heap.get, bytesA_length, bytesA_one, bytesA_plains, List.take_of_length_le, List.drop_of_length_le, Nat.add_zero, V.one, Nat.reduceLeDiff, List.all_cons, List.all_nil, ne_eq, not_false_eq_true, Nat.zero_le, s3, s6, s7, s8, gl, g1, g2, w1, w2, ix, hp, htk, beqs_bytes, z64_len, z64_drop, z64_one, z64_plains]; rfl) ?_ | refine To.op1 hxE2 (by simp only [go_sem, eqs hxE2, reduceIte, seval, Heap.gets, Heap.sets, Heap.get, bytesA_length, bytesA_one, bytesA_plains, List.take_of_length_le, List.drop_of_length_le, Nat.add_zero, V.one, Nat.reduceLeDiff, List.all_cons, List.all_nil, ne_eq, not_false_eq_true, Nat.zero_le, s3, s6, s7, s8, gl, g1, g2, w1, w2, ix, hp, htk, beqs_bytes, z64_len, z64_drop, z64_one, z64_plains]; rfl) ?_ | refine To.nop hxE2 ?_ | (refine To.condT hxE2 ?_ ?_; focus (simp only [go_sem, eqs hxE2, reduceIte, seval, Heap.gets, Heap.sets, Heap.get, bytesA_length, bytesA_one, bytesA_plains, List.take_of_length_le, List.drop_of_length_le, Nat.add_zero, V.one, Nat.reduceLeDiff, List.all_cons, List.all_nil, ne_eq, not_false_eq_true, Nat.zero_le, s3, s6, s7, s8, gl, g1, g2, w1, w2, ix, hp, htk, beqs_bytes, z64_len, z64_drop, z64_one, z64_plains]; done)) | refine To.block hxE2 ?_ | refine To.skip hxE2 ?_ | refine To.draw0 hxE2 ?_ | refine ToD.op0 (by simp only [go_sem, eqs hxE2, reduceIte, seval, Heap.gets, Heap.sets, Heap.get, bytesA_length, bytesA_one, bytesA_plains, List.take_of_length_le, List.drop_of_length_le, Nat.add_zero, V.one, Nat.reduceLeDiff, List.all_cons, List.all_nil, ne_eq, not_false_eq_true, Nat.zero_le, s3, s6, s7, s8, gl, g1, g2, w1, w2, ix, hp, htk, beqs_bytes, z64_len, z64_drop, z64_one, z64_plains]; rfl) (by simp only [put_some, put_none]; rfl) ?_ | refine ToD.nop ?_))
      try simp only [andThen, outOf]
      refine ⟨m - 1, by omega, 1, _, _, _, by omega, rfl, by omega, by omega, ?_⟩
      simp only [go_sem, eqs hxE2, reduceIte, seval, s6, s7]
      refine ⟨congrArg _ ?_, by rw [wrap_i64 (by omega) (by omega)]⟩
      unfold nextP
      split <;> split <;> omega
    · have hi1 : i = 1 := by omega
      subst hi1
      rw [if_neg (by decide)] at s3
      (repeat' (first | refine To.seq hxE2 ?_ | refine To.op0 hxE2 (by simp only [go_sem, eqs hxE2, reduceIte, seval, s3, s6, s7, s8]; rfl) ?_ | refine To.nop hxE2 ?_ | (refine To.condF hxE2 ?_ ?_; focus (simp only [go_sem, eqs hxE2, reduceIte, seval, s3, s6, s7, s8]; done)) | refine To.ret hxE2 ?_ | refine To.exit hxE2 ?_))
      try simp only [andThen, outOf, if_true]
      skip
      exact fin_k1 (i := 2) (v := .int .i64 (nextP p : Int)) rfl (by simp only [go_sem, eqs hxE2, reduceIte, seval, s3]) rfl (kp_app he hd)
  · refine ⟨0, _, _, [], by omega, by rw [List.append_nil]; rfl, ?_, ?_, ?_⟩
    · simp
    · simp
    · simp only [go_sem, eqs hxE2, reduceIte, seval, initS]
end
end Go.Proofs.Ytfbkeieoeagkdaa

/- Journal: a disk's steps in plain words; changes put home. -/
namespace Go.Proofs.Ytfbkeieoeagkdaa
open Go AM
set_option linter.unusedSimpArgs false
set_option linter.unusedVariables false
set_option maxRecDepth 100000

/-- A disk, but for whether its fuse is on. -/
structure DSt where
  down : Bool
  left : Int
  pgs : List Pg
  ca : List (Nat × Pg)
abbrev PDs (o : List AM.Obj) (dd pg lm : Nat) (on : Bool) (s : DSt) : Prop := PD o dd pg lm on s.down s.left s.pgs s.ca
def dWrite (on : Bool) (s : DSt) (i : Int) (p : Pg) : Int × DSt :=
  if hasE s.down s.pgs.length i ≠ 0 then (hasE s.down s.pgs.length i, s)
  else if burnB on s.down s.left = false then (5, ⟨burnD on s.down s.left, burnL on s.down s.left, s.pgs, s.ca⟩)
  else (0, ⟨burnD on s.down s.left, burnL on s.down s.left, s.pgs, putC i.toNat p s.ca⟩)
def dFlush (on : Bool) (s : DSt) : Int × DSt :=
  if burnB on s.down s.left = false then (5, ⟨burnD on s.down s.left, burnL on s.down s.left, s.pgs, s.ca⟩)
  else (0, ⟨burnD on s.down s.left, burnL on s.down s.left, layP s.ca s.pgs, []⟩)
def dPut (on : Bool) : DSt → List (Int × Pg) → Int × DSt
  | s, [] => dFlush on s
  | s, c :: r => if (dWrite on s c.1 c.2).1 ≠ 0 then dWrite on s c.1 c.2 else dPut on (dWrite on s c.1 c.2).2 r
theorem dWrite_len (on : Bool) (s : DSt) (i : Int) (p : Pg) : (dWrite on s i p).2.pgs.length = s.pgs.length := by
  unfold dWrite
  split
  · rfl
  · split <;> rfl
theorem dFlush_len (on : Bool) (s : DSt) : (dFlush on s).2.pgs.length = s.pgs.length := by
  unfold dFlush
  split
  · rfl
  · exact layP_len
theorem dPut_len (on : Bool) : ∀ (l : List (Int × Pg)) (s : DSt), (dPut on s l).2.pgs.length = s.pgs.length
  | [], s => dFlush_len on s
  | c :: r, s => by
    rw [dPut]
    split
    · exact dWrite_len on s _ _
    · rw [dPut_len on r, dWrite_len]

/-- Behind a tail that stays. -/
theorem Dx.split {dd pg lm : Nat} {o r o' : List AM.Obj} (h : Dx dd pg lm (o ++ r) o') (h1 : dd < o.length) (h2 : pg < o.length) (h3 : lm < o.length) : ∃ o1, o' = o1 ++ r ∧ Dx dd pg lm o o1 := by
  have hlen := h.len
  rw [List.length_append] at hlen
  refine ⟨o'.take o.length, ?_, by rw [List.length_take]; omega, fun l a b c => ?_⟩
  · apply List.ext_getElem?
    intro j
    by_cases hj : j < o.length
    · rw [List.getElem?_append_left (by rw [List.length_take]; omega), List.getElem?_take_of_lt hj]
    · have := h.get j (by omega) (by omega) (by omega)
      rw [this, List.getElem?_append_right (by omega), List.getElem?_append_right (by rw [List.length_take]; omega), List.length_take, show j - min o.length o'.length = j - o.length by omega]
  · by_cases hl : l < o.length
    · rw [List.getElem?_take_of_lt hl, h.get l a b c, List.getElem?_append_left hl]
    · rw [List.getElem?_eq_none (by rw [List.length_take]; omega), List.getElem?_eq_none (by omega)]
section
variable {o : List AM.Obj} {e d dd pg lm : Nat} {on down : Bool} {left : Int} {pgs : List Pg} {ca : List (Nat × Pg)}
theorem PD.chop {r : List AM.Obj} (P : PD (o ++ r) dd pg lm on down left pgs ca) (h1 : dd < o.length) (h2 : pg < o.length) (h3 : lm < o.length) : PD o dd pg lm on down left pgs ca := by
  have g : ∀ l, l < o.length → (o ++ r)[l]? = o[l]? := fun l hl => List.getElem?_append_left hl
  exact ⟨by rw [← g _ h1]; exact P.hd, by rw [← g _ h2]; exact P.hp, by rw [← g _ h3]; exact P.hm, P.p64, P.c64, P.nd⟩
theorem Low.trans {o1 o2 : List AM.Obj} {d d1 d2 : Nat} (h : Low dd pg lm o o1 d d1) (k : Low dd pg lm o1 o2 d1 d2) : Low dd pg lm o o2 d d2 := by
  obtain ⟨h1, h2⟩ := h
  obtain ⟨k1, k2⟩ := k
  refine ⟨Nat.le_trans k1 h1, ?_⟩
  rcases k2 with k2 | k2
  · rcases h2 with h2 | h2
    · exact .inl (k2.trans h2)
    · exact .inr (by omega)
  · exact .inr k2
theorem Low.refl {d : Nat} : Low dd pg lm o o d d := ⟨Nat.le_refl _, .inl rfl⟩
theorem Low.less {o1 : List AM.Obj} {d d1 d2 : Nat} (h : Low dd pg lm o o1 d d1) (hd : d2 ≤ d1) : Low dd pg lm o o1 d d2 := ⟨Nat.le_trans hd h.1, h.2.imp id (fun h => Nat.le_trans hd h)⟩
theorem Low.chop {r o1 : List AM.Obj} {d d1 : Nat} (h : Low dd pg lm (o ++ r) (o1 ++ r) d d1) : Low dd pg lm o o1 d d1 := ⟨h.1, h.2.imp (fun h => List.append_cancel_right h) id⟩
/-- What a call leaves: the disk's three objects alone. -/
structure Lv (dd pg lm : Nat) (o : List AM.Obj) (e d : Nat) (oh : Option Heap) (o' : List AM.Obj) (d' : Nat) : Prop where
  eq : oh.getD ⟨o, e, d⟩ = ⟨o', e, d'⟩
  dx : Dx dd pg lm o o'
  low : Low dd pg lm o o' d d'
theorem write_x (P : PD o dd pg lm on down left pgs ca) (i : Int) {p : Pg} (hp : p.length = 64) :
    ∃ oh o' d', Den FF E2 13 [.ptr dd 0, .int .i64 i, .agg (bytesA p)] ⟨o, e, d⟩ = some (.val (.int .i64 (dWrite on ⟨down, left, pgs, ca⟩ i p).1), oh) ∧ Lv dd pg lm o e d oh o' d' ∧ PDs o' dd pg lm on (dWrite on ⟨down, left, pgs, ca⟩ i p).2 := by
  unfold dWrite
  simp only
  by_cases h0 : hasE down pgs.length i = 0
  · rw [if_neg (by simpa using h0)]
    obtain ⟨_, k, rfl, hk⟩ := hasE_ok h0
    cases hB : burnB on down left
    · rw [if_pos rfl]
      obtain ⟨v, oh, q, rfl, o', d', hg, P', D, L⟩ := write_burnt' (e := e) (d := d) P hp h0 hB
      exact ⟨oh, o', d', q, ⟨hg, D, L⟩, P'⟩
    · rw [if_neg (by decide), Int.toNat_natCast]
      obtain ⟨v, oh, q, rfl, o', d', hg, P', D, L⟩ := write_ok' (e := e) (d := d) P hp hk h0 hB
      exact ⟨oh, o', d', q, ⟨hg, D, L⟩, P'⟩
  · rw [if_pos h0]
    exact ⟨none, o, d, write_no P hp h0, ⟨rfl, Dx.refl, Low.refl⟩, P⟩
theorem flush_x (P : PD o dd pg lm on down left pgs ca) :
    ∃ oh o' d', Den FF E2 16 [.ptr dd 0] ⟨o, e, d⟩ = some (.val (.int .i64 (dFlush on ⟨down, left, pgs, ca⟩).1), oh) ∧ Lv dd pg lm o e d oh o' d' ∧ PDs o' dd pg lm on (dFlush on ⟨down, left, pgs, ca⟩).2 := by
  unfold dFlush
  simp only
  cases hB : burnB on down left
  · rw [if_pos rfl]
    obtain ⟨v, oh, q, rfl, o', d', hg, P', D, L⟩ := flush_no' (e := e) (d := d) P hB
    exact ⟨oh, o', d', q, ⟨hg, D, L⟩, P'⟩
  · rw [if_neg (by decide)]
    obtain ⟨v, oh, q, rfl, o', d', hg, P', D, L⟩ := flush_ok' (e := e) (d := d) P hB
    exact ⟨oh, o', d', q, ⟨hg, D, L⟩, P'⟩

/-! Changes in a row -/
def chC (c : Int × Pg) : List V := .int .i64 c.1 :: bytesA c.2
structure ChRow (o : List AM.Obj) (v : V) (cs : List (Int × Pg)) : Prop where
  len : lenLV v = some (.int .i64 (cs.length : Int), none)
  at_ : cs ≠ [] → ∃ l ck t, v = .slice l 0 cs.length 65 ∧ o[l]? = some (.cells ck t 0 (cs.map chC).flatten) ∧ (ck = .ro ∨ t = 73)
  p64 : ∀ c ∈ cs, c.2.length = 64
theorem chC_len {c : Int × Pg} (h : c.2.length = 64) : (chC c).length = 65 := by
  simp only [chC, List.length_cons, bytesA_length]; omega
theorem ChRow.app {v : V} {cs : List (Int × Pg)} (h : ChRow o v cs) (r : List AM.Obj) : ChRow (o ++ r) v cs :=
  ⟨h.len, fun hc => by obtain ⟨l, ck, t, h1, h2, h3⟩ := h.at_ hc; exact ⟨l, ck, t, h1, app_old h2 r, h3⟩, h.p64⟩
theorem ChRow.dx {o' : List AM.Obj} {v : V} {cs : List (Int × Pg)} (h : ChRow o v cs) (P : PD o dd pg lm on down left pgs ca) (D : Dx dd pg lm o o') : ChRow o' v cs := by
  refine ⟨h.len, fun hc => ?_, h.p64⟩
  obtain ⟨l, ck, t, h1, h2, h3⟩ := h.at_ hc
  refine ⟨l, ck, t, h1, ?_, h3⟩
  rw [D.get l ?_ ?_ ?_]
  · exact h2
  · rintro rfl
    have := P.hd
    rw [h2] at this
    simp only [Option.some.injEq, AM.Obj.cells.injEq] at this
    rcases h3 with rfl | rfl
    · cases this.1
    · exact absurd this.2.1 (by decide)
  · rintro rfl
    have := P.hp
    rw [h2] at this
    simp only [Option.some.injEq, AM.Obj.cells.injEq] at this
    rcases h3 with rfl | rfl
    · cases this.1
    · exact absurd this.2.1 (by decide)
  · rintro rfl
    have := P.hm
    rw [h2] at this
    cases this
def regV (dd : Nat) (at_ size : Int) : List V := [.ptr dd 0, .int .i64 at_, .int .i64 size]
theorem z65_len : z65.length = 65 := rfl
theorem z65_drop : List.drop 65 z65 = [] := rfl
theorem z65_one : z65.all V.one = true := rfl
theorem z65_plains : V.plains z65 = true := rfl
theorem chC_plains (c : Int × Pg) : V.plains (chC c) = true := by
  simp [chC, V.plains, V.plain, bytesA_plains]
theorem chC_one (c : Int × Pg) : (chC c).all V.one = true := by
  have : chC c = .int .i64 c.1 :: bytesA c.2 := rfl
  rw [this, List.all_cons, bytesA_one]; rfl

set_option maxHeartbeats 16000000 in
theorem rput_x (P : PD o dd pg lm on down left pgs ca) {a s : Int} {v : V} {cs : List (Int × Pg)} (hc : ChRow o v cs) (hn : cs.length ≤ 1000000) :
    ∃ r oh, Den FF E2 75 [.agg (regV dd a s), v] ⟨o, e, d⟩ = some (r, oh) ∧ r = .val (.int .i64 (dPut on ⟨down, left, pgs, ca⟩ cs).1) ∧ ∃ o' d', Lv dd pg lm o e d oh o' d' ∧ PDs o' dd pg lm on (dPut on ⟨down, left, pgs, ca⟩ cs).2 := by
  refine To.denE hxE2 (f := 75) (a := af75) rfl (E2_none rfl) (Nat.le_of_ble_eq_true rfl) ?_
  have hl := hc.len
  have lD := P.ld
  have lP := P.lp
  have lM := P.ll
  have hrl : (regV dd a s).length = 3 := rfl
  have hr0 : (regV dd a s)[0]? = some (.ptr dd 0) := rfl
  have hro : (regV dd a s).all V.one = true := rfl
  generalize regV dd a s = rv at hrl hr0 hro ⊢
  have fin : ∀ (n : Int) (S : Nat → V) (o1 : List AM.Obj) (r1 : List AM.Obj) (e1 d1 : Nat) (st : DSt), S 4 = .int .i64 n → Dx dd pg lm o o1 → Low dd pg lm o o1 o.length d1 → o.length ≤ e1 → PDs o1 dd pg lm on st → (n, st) = dPut on ⟨down, left, pgs, ca⟩ cs →
      ∃ v oh, finish af75 ⟨o, e, d⟩ (some (.ret, S, ⟨o1 ++ r1, e1, d1⟩)) = some (v, oh) ∧ v = .val (.int .i64 (dPut on ⟨down, left, pgs, ca⟩ cs).1) ∧ ∃ o' d', Lv dd pg lm o e d oh o' d' ∧ PDs o' dd pg lm on (dPut on ⟨down, left, pgs, ca⟩ cs).2 := by
    intro n S o1 r1 e1 d1 st h4 D L he P1 heq
    rw [← heq]
    refine ⟨_, _, fin1 (i := 4) rfl, by rw [h4], ?_⟩
    obtain ⟨d2, q1, q2, q3, q4⟩ := leave_app2 (o := o) (o' := o1) (r := r1) (e := e) (d := d) (e' := e1) (d' := d1) (v := .int .i64 n) rfl D.len he (fun h => by
      rcases L.2 with L | L
      · exact L
      · omega)
    refine ⟨o1, d2, ⟨by rw [h4]; exact q1, D, q4, ?_⟩, P1⟩
    rcases q2 with q2 | q2
    · exact .inl q2
    · rcases L.2 with L | L
      · exact .inl L
      · exact .inr (by omega)
  (repeat' (first | refine To.seq hxE2 ?_ | refine To.op0 hxE2 (by simp only [go_sem, eqs hxE2, reduceIte, seval, Heap.gets, Heap.sets, Heap.get, bytesA_length, bytesA_one, bytesA_plains, List.take_of_length_le, List.drop_of_length_le, Nat.add_zero, V.one, Nat.reduceLeDiff, List.all_cons, List.all_nil, ne_eq, not_false_eq_true, Nat.zero_le, hl]; rfl) ?_ | refine To.op1 hxE2 (by simp only [go_sem, eqs hxE2, reduceIte, seval, Heap.gets, Heap.sets, Heap.get, bytesA_length, bytesA_one, bytesA_plains, List.take_of_length_le, List.drop_of_length_le, Nat.add_zero, V.one, Nat.reduceLeDiff, List.all_cons, List.all_nil, ne_eq, not_false_eq_true, Nat.zero_le, hl]; rfl) ?_ | refine To.nop hxE2 ?_ | refine To.block hxE2 ?_))
  refine To.loop hxE2 (fun m S h' => ∃ (i e1 d1 : Nat) (o1 r1 : List AM.Obj) (st : DSt), i + m = cs.length ∧ h' = ⟨o1 ++ (.cells .ex 100 0 rv :: r1), e1, d1⟩ ∧ Dx dd pg lm o o1 ∧ Low dd pg lm o o1 o.length d1 ∧ o.length ≤ e1 ∧ PDs o1 dd pg lm on st ∧ dPut on st (cs.drop i) = dPut on ⟨down, left, pgs, ca⟩ cs ∧ S 2 = .ptr o.length 0 ∧ S 8 = v ∧ S 9 = .int .i64 (cs.length : Int) ∧ S 10 = .int .i64 (i : Int)) ?_ cs.length _ _ ?_
  · rintro m S _ ⟨i, e1, d1, o1, r1, ⟨dn, lf, pgs1, ca1⟩, hm, rfl, D, L, he, P1, hd, s2, s8, s9, s10⟩
    have hl1 := D.len
    have gr : ∀ r, (o1 ++ (AM.Obj.cells .ex 100 0 rv :: r))[o.length]? = some (.cells .ex 100 0 rv) := fun r => by rw [← hl1]; exact app_get0 _ _ _
    by_cases hi : i < cs.length
    · have hlt : decide ((i : Int) < (cs.length : Int)) = true := decide_eq_true (by omega)
      have ix : idxOf cs.length (.int .i64 (i : Int)) = some i := idxOf_nat hi
      have wi : IntKind.i64.wrap ((i : Int) + 1) = ((i + 1 : Nat) : Int) := by rw [wrap_i64 (by omega) (by omega)]; omega
      obtain ⟨c, hx⟩ : ∃ c, cs[i]? = some c := ⟨cs[i], List.getElem?_eq_getElem hi⟩
      obtain ⟨l, ck, t, rfl, hlb, hkd⟩ := (hc.dx P D).at_ (by rintro rfl; simp at hi)
      have h65 : ∀ r ∈ cs.map chC, r.length = 65 := by
        intro r hr
        obtain ⟨y, hy, rfl⟩ := List.mem_map.1 hr
        exact chC_len (hc.p64 y hy)
      obtain ⟨a1, a2⟩ := flat_drop h65 (by rw [List.getElem?_map, hx]; rfl : (cs.map chC)[i]? = some (chC c))
      have hc64 := hc.p64 c (List.mem_of_getElem? hx)
      have hcl := chC_len hc64
      have hco := chC_one c
      have hcp := chC_plains c
      have hc0 : (chC c)[0]? = some (.int .i64 c.1) := rfl
      have hc1 : List.take 64 (List.drop 1 (chC c)) = bytesA c.2 := by
        show List.take 64 (bytesA c.2) = _
        exact List.take_of_length_le (by rw [bytesA_length]; omega)
      have gl : ∀ r, (o1 ++ r)[l]? = some (.cells ck t 0 (cs.map chC).flatten) := fun r => app_old hlb r
      have hdr : cs.drop i = c :: cs.drop (i + 1) := by
        rw [List.drop_eq_getElem_cons hi]
        rw [List.getElem?_eq_getElem hi] at hx
        cases hx; rfl
      rw [hdr, dPut] at hd
      have P2 : PDs (o1 ++ (AM.Obj.cells .ex 100 0 rv :: (r1 ++ [.cells .ex 73 0 (chC c)]))) dd pg lm on ⟨dn, lf, pgs1, ca1⟩ := P1.app _
      have gc : (o1 ++ (AM.Obj.cells .ex 100 0 rv :: (r1 ++ [AM.Obj.cells .ex 73 0 (chC c)])))[o1.length + (r1.length + 1)]? = some (.cells .ex 73 0 (chC c)) := by
        rw [show o1 ++ (AM.Obj.cells .ex 100 0 rv :: (r1 ++ [AM.Obj.cells .ex 73 0 (chC c)])) = (o1 ++ (AM.Obj.cells .ex 100 0 rv :: r1)) ++ [AM.Obj.cells .ex 73 0 (chC c)] by simp]
        rw [show o1.length + (r1.length + 1) = (o1 ++ (AM.Obj.cells .ex 100 0 rv :: r1)).length by simp]
        exact app_get0 _ _ _
      (repeat' (first | refine To.seq hxE2 ?_ | refine To.op0 hxE2 (by simp only [go_sem, eqs hxE2, reduceIte, seval, Heap.gets, Heap.sets, Heap.get, bytesA_length, bytesA_one, bytesA_plains, List.take_of_length_le, List.drop_of_length_le, Nat.add_zero, V.one, Nat.reduceLeDiff, List.all_cons, List.all_nil, ne_eq, not_false_eq_true, Nat.zero_le, s2, s8, s9, s10, hlt, ix, gl, a1, a2, hcl, hco, hcp, z65_len, z65_drop, z65_one, z65_plains]; rfl) ?_ | refine To.op1 hxE2 (by simp only [go_sem, eqs hxE2, reduceIte, seval, Heap.gets, Heap.sets, Heap.get, bytesA_length, bytesA_one, bytesA_plains, List.take_of_length_le, List.drop_of_length_le, Nat.add_zero, V.one, Nat.reduceLeDiff, List.all_cons, List.all_nil, ne_eq, not_false_eq_true, Nat.zero_le, s2, s8, s9, s10, hlt, ix, gl, a1, a2, hcl, hco, hcp, z65_len, z65_drop, z65_one, z65_plains]; rfl) ?_ | refine To.nop hxE2 ?_ | (refine To.condT hxE2 ?_ ?_; focus (simp only [go_sem, eqs hxE2, reduceIte, seval, Heap.gets, Heap.sets, Heap.get, bytesA_length, bytesA_one, bytesA_plains, List.take_of_length_le, List.drop_of_length_le, Nat.add_zero, V.one, Nat.reduceLeDiff, List.all_cons, List.all_nil, ne_eq, not_false_eq_true, Nat.zero_le, s2, s8, s9, s10, hlt, ix, gl, a1, a2, hcl, hco, hcp, z65_len, z65_drop, z65_one, z65_plains]; done)) | refine To.block hxE2 ?_ | refine To.skip hxE2 ?_))
      obtain ⟨oh, o2, d2, q, Lv2, P3⟩ := write_x (e := e1) (d := min d1 (o1.length + (r1.length + 1))) P2 c.1 hc64
      obtain ⟨o3, rfl, D3⟩ := Lv2.dx.split (by omega) (by omega) (by omega)
      have hl3 := D3.len
      have P4 := PD.chop P3 (by omega) (by omega) (by omega)
      have L4 := L.trans ((Low.refl (d := d1)).less (Nat.min_le_left _ _) |>.trans Lv2.low.chop)
      have D4 := D.trans D3
      have hg := Lv2.eq
      generalize dWrite on ⟨dn, lf, pgs1, ca1⟩ c.1 c.2 = w at *
      obtain ⟨n, st2⟩ := w
      simp only at q P4 hd
      (repeat' (first | refine To.op0 hxE2 (by simp only [go_sem, eqs hxE2, reduceIte, seval, Heap.gets, Heap.sets, Heap.get, bytesA_length, bytesA_one, bytesA_plains, List.take_of_length_le, List.drop_of_length_le, Nat.add_zero, V.one, Nat.reduceLeDiff, List.all_cons, List.all_nil, ne_eq, not_false_eq_true, Nat.zero_le, gr, gc, hr0, hc0, hc1, hcl, bytesA_length, hc64]; rfl) ?_ | fail))
      refine To.op hxE2 (by simp only [go_sem, eqs hxE2, reduceIte, seval, q]; rfl) ?_
      rw [hg]
      by_cases hz : n = 0
      · subst hz
        rw [if_neg (by simp)] at hd
        (repeat' (first | refine To.seq hxE2 ?_ | refine To.op0 hxE2 (by simp only [go_sem, eqs hxE2, reduceIte, seval, s10, wi]; rfl) ?_ | refine To.nop hxE2 ?_ | (refine To.condF hxE2 ?_ ?_; focus (simp only [go_sem, eqs hxE2, reduceIte, seval, s10, wi]; done)) | refine To.skip hxE2 ?_))
        try simp only [andThen, outOf]
        refine ⟨m - 1, by omega, i + 1, _, _, o3, _, st2, by omega, rfl, D4, L4, he, P4, hd, ?_⟩
        simp only [go_sem, eqs hxE2, reduceIte, seval, s2, s8, s9]
      · rw [if_pos (by simpa using hz)] at hd
        have hb : (n != 0) = true := by simpa using hz
        (repeat' (first | refine To.seq hxE2 ?_ | refine To.op0 hxE2 (by simp only [go_sem, eqs hxE2, reduceIte, seval, hb]; rfl) ?_ | refine To.nop hxE2 ?_ | (refine To.condT hxE2 ?_ ?_; focus (simp only [go_sem, eqs hxE2, reduceIte, seval, hb]; done)) | refine To.ret hxE2 ?_))
        exact fin n _ o3 _ _ _ st2 (by simp only [go_sem, eqs hxE2, reduceIte, seval]) D4 L4 he P4 hd
    · have hlt : decide ((i : Int) < (cs.length : Int)) = false := decide_eq_false (by omega)
      have hdr : cs.drop i = [] := List.drop_eq_nil_of_le (by omega)
      rw [hdr, dPut] at hd
      have P2 : PDs (o1 ++ (AM.Obj.cells .ex 100 0 rv :: r1)) dd pg lm on ⟨dn, lf, pgs1, ca1⟩ := P1.app _
      obtain ⟨oh, o2, d2, q, Lv2, P3⟩ := flush_x (e := e1) (d := d1) P2
      obtain ⟨o3, rfl, D3⟩ := Lv2.dx.split (by omega) (by omega) (by omega)
      have hl3 := D3.len
      have P4 := PD.chop P3 (by omega) (by omega) (by omega)
      have L4 := L.trans Lv2.low.chop
      have D4 := D.trans D3
      have hg := Lv2.eq
      generalize dFlush on ⟨dn, lf, pgs1, ca1⟩ = w at *
      obtain ⟨n, st2⟩ := w
      simp only at q P4 hd
      (repeat' (first | refine To.seq hxE2 ?_ | refine To.op0 hxE2 (by simp only [go_sem, eqs hxE2, reduceIte, seval, Heap.gets, Heap.sets, Heap.get, bytesA_length, bytesA_one, bytesA_plains, List.take_of_length_le, List.drop_of_length_le, Nat.add_zero, V.one, Nat.reduceLeDiff, List.all_cons, List.all_nil, ne_eq, not_false_eq_true, Nat.zero_le, s2, s8, s9, s10, hlt]; rfl) ?_ | refine To.nop hxE2 ?_ | (refine To.condF hxE2 ?_ ?_; focus (simp only [go_sem, eqs hxE2, reduceIte, seval, Heap.gets, Heap.sets, Heap.get, bytesA_length, bytesA_one, bytesA_plains, List.take_of_length_le, List.drop_of_length_le, Nat.add_zero, V.one, Nat.reduceLeDiff, List.all_cons, List.all_nil, ne_eq, not_false_eq_true, Nat.zero_le, s2, s8, s9, s10, hlt]; done)) | refine To.exit hxE2 ?_))
      try simp only [andThen, outOf, if_true]
      (repeat' (first | refine To.op0 hxE2 (by simp only [go_sem, eqs hxE2, reduceIte, seval, Heap.gets, Heap.sets, Heap.get, bytesA_length, bytesA_one, bytesA_plains, List.take_of_length_le, List.drop_of_length_le, Nat.add_zero, V.one, Nat.reduceLeDiff, List.all_cons, List.all_nil, ne_eq, not_false_eq_true, Nat.zero_le, s2, gr, hr0]; rfl) ?_ | fail))
      refine To.op hxE2 (by simp only [go_sem, eqs hxE2, reduceIte, seval, q]; rfl) ?_
      rw [hg]
      (repeat' (first | refine To.op0 hxE2 (by simp only [go_sem, eqs hxE2, reduceIte, seval]; rfl) ?_ | refine To.nop hxE2 ?_ | refine To.ret hxE2 ?_))
      exact fin n _ o3 _ _ _ st2 (by simp only [go_sem, eqs hxE2, reduceIte, seval]) D4 L4 he P4 hd
  · refine ⟨0, _, _, o, [], ⟨down, left, pgs, ca⟩, by omega, rfl, Dx.refl, ⟨?_, .inl rfl⟩, ?_, P, rfl, ?_⟩
    · simp
    · simp
    · simp only [go_sem, eqs hxE2, reduceIte, seval, initS]
end
end Go.Proofs.Ytfbkeieoeagkdaa

/- Journal: rows that grow; the pages that changes lie in. -/
namespace Go.Proofs.Ytfbkeieoeagkdaa
open Go AM
set_option linter.unusedSimpArgs false
set_option linter.unusedVariables false
set_option maxRecDepth 100000

/-- A row of one's own, to which one may append. -/
def GrowX (O : List AM.Obj) (base : Nat) (v : V) (t e : Nat) (rows : List (List V)) : Prop :=
  (v = .nils ∧ rows = []) ∨ ∃ m ck, v = .slice m 0 rows.length e ∧ O[m]? = some (.cells ck t 0 rows.flatten) ∧ base ≤ m ∧ (ck = .ex ∨ ck = .gr)
theorem flat_len {e : Nat} : ∀ {rows : List (List V)}, (∀ y ∈ rows, y.length = e) → rows.flatten.length = rows.length * e
  | [], _ => by simp
  | x :: r, h => by
    have ih := flat_len (rows := r) fun y hy => h y (List.mem_cons_of_mem _ hy)
    rw [List.flatten_cons, List.length_append, ih, h x List.mem_cons_self, List.length_cons, Nat.add_mul]
    omega
theorem grow1 {o r : List AM.Obj} {t e b : Nat} {v : V} {rows : List (List V)} {x : List V} (hG : GrowX (o ++ r) o.length v t e rows) (he : 0 < e) (hrows : ∀ y ∈ rows, y.length = e) (hx : x.length = e) (hroom : roomOk (rows.length + 1) b = true) (hr1 : roomOk 1 b = true) (E D : Nat) :
    ∃ v' r' D', appendA ⟨o ++ r, E, D⟩ t e b v 1 x = some (v', some ⟨o ++ r', E, D'⟩) ∧ GrowX (o ++ r') o.length v' t e (rows ++ [x]) ∧ min D o.length ≤ D' ∧ D' ≤ D ∧ r.length ≤ r'.length ∧ ∀ (l : Nat) (ck' : CK) (t' : Nat) (c' : List V), (o ++ r)[l]? = some (AM.Obj.cells ck' t' 0 c') → t' ≠ t → (o ++ r')[l]? = some (AM.Obj.cells ck' t' 0 c') := by
  rcases hG with ⟨rfl, rfl⟩ | ⟨m, ck, rfl, hm, hb, hk⟩
  · refine ⟨_, r ++ [.cells .gr t 0 x], D, ?_, .inr ⟨(o ++ r).length, .gr, rfl, ?_, by simp, .inr rfl⟩, Nat.min_le_left _ _, Nat.le_refl _, by simp, fun l ck' t' c' hl _ => by rw [← List.append_assoc]; exact app_old hl _⟩
    · rw [← List.append_assoc]
      exact app_nil (by decide) hr1
    · rw [← List.append_assoc]
      simp
  · have hfl := flat_len hrows
    have hne : ¬ (rows.length + 1) * e ≤ rows.length * e := by
      rw [Nat.add_mul]; omega
    rcases hk with rfl | rfl
    · refine ⟨.slice (o ++ r).length 0 (rows.length + 1) e, r ++ [.cells .gr t 0 (rows.flatten ++ x)], D, ?_, .inr ⟨(o ++ r).length, .gr, by simp, ?_, by simp, .inr rfl⟩, Nat.min_le_left _ _, Nat.le_refl _, by simp, fun l ck' t' c' hl _ => by rw [← List.append_assoc]; exact app_old hl _⟩
      · simp only [appendA, hm, if_true, Nat.zero_add, hfl, Nat.le_refl, if_neg (by decide : ¬ (1 : Nat) = 0), if_neg hne, true_and, hroom, and_self, List.drop_zero, Heap.new, List.append_assoc]
      · rw [← List.append_assoc]
        simp
    · have hml := get_lt hm
      rw [List.length_append] at hml
      refine ⟨.slice (o ++ r).length 0 (rows.length + 1) e, r.set (m - o.length) .dead ++ [.cells .gr t 0 (rows.flatten ++ x)], min D m, ?_, .inr ⟨(o ++ r).length, .gr, by simp, ?_, by simp, .inr rfl⟩, by omega, Nat.min_le_left _ _, by simp, fun l ck' t' c' hl ht => ?_⟩
      · rw [app_gr hm hfl (by decide) he hroom]
        rw [List.set_append_right _ _ (by omega), List.append_assoc]
      · rw [← List.append_assoc, ← List.set_append_right _ _ (by omega)]
        rw [List.getElem?_append_right (by simp)]
        simp
      · rw [← List.append_assoc, ← List.set_append_right _ _ (by omega)]
        refine app_old ?_ _
        rw [List.getElem?_set_ne]
        · exact hl
        · rintro rfl
          rw [hm] at hl
          simp only [Option.some.injEq, AM.Obj.cells.injEq] at hl
          exact ht hl.2.1.symm
theorem GrowX.app {O r : List AM.Obj} {base t e : Nat} {v : V} {rows : List (List V)} (h : GrowX O base v t e rows) : GrowX (O ++ r) base v t e rows := by
  rcases h with h | ⟨m, ck, h1, h2, h3⟩
  · exact .inl h
  · exact .inr ⟨m, ck, h1, app_old h2 r, h3⟩
theorem room_small {n b : Nat} (hn : n ≤ 1000000) (hb : b ≤ 1000) : roomOk n b = true := by
  unfold roomOk AM.ok1
  have : (2 * n + 1024) * b ≤ 2001024 * 1000 := Nat.mul_le_mul (by omega) hb
  simp only [decide_eq_true_eq]
  omega
theorem ChRow.grow {O : List AM.Obj} {base : Nat} {v : V} {cs : List (Int × Pg)} (h : GrowX O base v 73 65 (cs.map chC)) (h64 : ∀ c ∈ cs, c.2.length = 64) : ChRow O v cs := by
  rcases h with ⟨rfl, h⟩ | ⟨m, ck, rfl, h2, h3, h4⟩
  · have : cs = [] := by simpa using h
    subst this
    exact ⟨rfl, fun h => absurd rfl h, h64⟩
  · rw [List.length_map]
    exact ⟨rfl, fun _ => ⟨m, ck, _, rfl, h2, .inr rfl⟩, h64⟩
theorem PgRow.grow {O : List AM.Obj} {base : Nat} {v : V} {ps : List Pg} (h : GrowX O base v 31 64 (ps.map bytesA)) (h64 : ∀ p ∈ ps, p.length = 64) : PgRow O v ps := by
  rcases h with ⟨rfl, h⟩ | ⟨m, ck, rfl, h2, h3, h4⟩
  · have : ps = [] := by simpa using h
    subst this
    exact ⟨rfl, fun h => absurd rfl h, h64⟩
  · rw [List.length_map]
    refine ⟨rfl, fun _ => ⟨m, ck, 31, rfl, ?_⟩, h64⟩
    rw [h2]
    unfold pgC
    rw [List.flatMap_def]
/-- What a call leaves: all that was there, and more. -/
structure Gr (o : List AM.Obj) (e d : Nat) (oh : Option Heap) (rr : List AM.Obj) (e' d' : Nat) : Prop where
  eq : oh.getD ⟨o, e, d⟩ = ⟨o ++ rr, e', d'⟩
  e : min e o.length ≤ e' ∧ e' ≤ e
  d : min d o.length ≤ d' ∧ d' ≤ d
def fromF (a : Int) (i : Nat) (p : Pg) : Int × Pg := (a + (i : Int), p)
def fromL (a : Int) (ps : List Pg) : List (Int × Pg) := ps.mapIdx (fromF a)
theorem fromL_succ (a : Int) (ps : List Pg) {i : Nat} {p : Pg} (h : ps[i]? = some p) : fromL a (ps.take (i + 1)) = fromL a (ps.take i) ++ [(a + (i : Int), p)] := by
  have hi := (List.getElem?_eq_some_iff.1 h).1
  unfold fromL
  rw [List.take_add_one, h, Option.toList_some, List.mapIdx_append]
  simp [fromF, List.length_take, Nat.min_eq_left (Nat.le_of_lt hi)]
theorem fromL_64 {a : Int} {ps : List Pg} (h : ∀ p ∈ ps, p.length = 64) : ∀ c ∈ fromL a ps, c.2.length = 64 := by
  intro c hc
  unfold fromL at hc
  obtain ⟨i, hi, rfl⟩ := List.mem_mapIdx.1 hc
  exact h _ (List.getElem_mem hi)
theorem fromL_len (a : Int) (ps : List Pg) : (fromL a ps).length = ps.length := by unfold fromL; simp
theorem leave_grow {o : List AM.Obj} {e d e' d' : Nat} {rr : List AM.Obj} {v : V} (hv : v.plain = true → rr = [] ∨ o.length ≤ d') (he : o.length ≤ e') (hd : o.length ≤ d') : ∃ rr2 e2 d2, Gr o e d (leave ⟨o, e, d⟩ ⟨o ++ rr, e', d'⟩ v) rr2 e2 d2 ∧ (v.plain = false → rr2 = rr) := by
  unfold leave
  simp only
  by_cases h : o.length ≤ e' ∧ v.plain = true
  · rw [if_pos h, if_pos hd]
    exact ⟨[], e, d, ⟨by simp, ⟨Nat.min_le_left _ _, Nat.le_refl _⟩, ⟨Nat.min_le_left _ _, Nat.le_refl _⟩⟩, fun hf => by rw [h.2] at hf; cases hf⟩
  · rw [if_neg h]
    exact ⟨rr, _, _, ⟨rfl, ⟨by omega, Nat.min_le_left _ _⟩, ⟨by omega, Nat.min_le_left _ _⟩⟩, fun _ => rfl⟩
section
variable {o : List AM.Obj} {e d dd pg lm : Nat} {on down : Bool} {left : Int} {pgs : List Pg} {ca : List (Nat × Pg)}
set_option maxHeartbeats 8000000 in
theorem from_x {pv : V} {ps : List Pg} (hp : PgRow o pv ps) (hn : ps.length ≤ 1000) {a : Int} (ha : 0 ≤ a) (ha2 : a ≤ 1000000) :
    ∃ r oh, Den FF E2 79 [.int .i64 a, pv] ⟨o, e, d⟩ = some (r, oh) ∧ ∃ v rr e' d', r = .val v ∧ Gr o e d oh rr e' d' ∧ ChRow (o ++ rr) v (fromL a ps) := by
  refine To.denE hxE2 (f := 79) (a := af79) rfl (E2_none rfl) (Nat.le_of_ble_eq_true rfl) ?_
  have hl := hp.len
  (repeat' (first | refine To.seq hxE2 ?_ | refine To.op0 hxE2 (by simp only [go_sem, eqs hxE2, reduceIte, seval, Heap.gets, Heap.sets, Heap.get, bytesA_length, bytesA_one, bytesA_plains, List.take_of_length_le, List.drop_of_length_le, Nat.add_zero, V.one, Nat.reduceLeDiff, List.all_cons, List.all_nil, ne_eq, not_false_eq_true, Nat.zero_le, hl]; rfl) ?_ | refine To.nop hxE2 ?_ | refine To.block hxE2 ?_))
  refine To.loop hxE2 (fun m S h' => ∃ (i d1 : Nat) (r : List AM.Obj) (v : V), i + m = ps.length ∧ h' = ⟨o ++ r, o.length, d1⟩ ∧ o.length ≤ d1 ∧ GrowX (o ++ r) o.length v 73 65 ((fromL a (ps.take i)).map chC) ∧ S 0 = .int .i64 a ∧ S 5 = v ∧ S 8 = pv ∧ S 9 = .int .i64 (ps.length : Int) ∧ S 10 = .int .i64 (i : Int)) ?_ ps.length _ _ ?_
  · rintro m S _ ⟨i, d1, r, v, hm, rfl, hd, hG, s0, s5, s8, s9, s10⟩
    by_cases hi : i < ps.length
    · have hlt : decide ((i : Int) < (ps.length : Int)) = true := decide_eq_true (by omega)
      have ix : idxOf ps.length (.int .i64 (i : Int)) = some i := idxOf_nat hi
      have wi : IntKind.i64.wrap ((i : Int) + 1) = ((i + 1 : Nat) : Int) := by rw [wrap_i64 (by omega) (by omega)]; omega
      have wa : IntKind.i64.wrap (a + (i : Int)) = a + (i : Int) := wrap_i64 (by omega) (by omega)
      obtain ⟨l, ck, t, rfl, hlb⟩ := hp.at_ (by rintro rfl; simp at hi)
      have hg : ps[i]? = some ps[i] := List.getElem?_eq_getElem hi
      have hat := pgC_at hp.p64 hg
      have hkk : (i + 1) * 64 ≤ ps.length * 64 := Nat.mul_le_mul_right 64 hi
      have hle : i * 64 + 64 ≤ (pgC ps).length := by rw [pgC_len hp.p64]; omega
      have h64 := hp.p64 _ (List.getElem_mem hi)
      have hsu := fromL_succ a ps hg
      generalize ps[i] = p at *
      have gl : ∀ r, (o ++ r)[l]? = some (.cells ck t 0 (pgC ps)) := fun r => app_old hlb r
      have htk : List.take 64 (bytesA p) = bytesA p := List.take_of_length_le (by rw [bytesA_length]; omega)
      have hdr : List.drop 64 (bytesA p) = [] := List.drop_eq_nil_of_le (by rw [bytesA_length]; omega)
      have hzd : List.drop 1 z65 = z64 := rfl
      have hz1 : z65 = .int .i64 0 :: z64 := rfl
      (repeat' (first | refine To.seq hxE2 ?_ | refine To.op0 hxE2 (by simp only [go_sem, eqs hxE2, reduceIte, seval, Heap.gets, Heap.sets, Heap.get, bytesA_length, bytesA_one, bytesA_plains, List.take_of_length_le, List.drop_of_length_le, Nat.add_zero, V.one, Nat.reduceLeDiff, List.all_cons, List.all_nil, ne_eq, not_false_eq_true, Nat.zero_le, s0, s5, s8, s9, s10, hlt, ix, wa, gl, hat, hle, h64, htk, hdr, z64_len, z64_drop, z64_one, z64_plains, z65_len, z65_drop, hzd, List.append_nil]; rfl) ?_ | refine To.op1 hxE2 (by simp only [go_sem, eqs hxE2, reduceIte, seval, Heap.gets, Heap.sets, Heap.get, bytesA_length, bytesA_one, bytesA_plains, List.take_of_length_le, List.drop_of_length_le, Nat.add_zero, V.one, Nat.reduceLeDiff, List.all_cons, List.all_nil, ne_eq, not_false_eq_true, Nat.zero_le, s0, s5, s8, s9, s10, hlt, ix, wa, gl, hat, hle, h64, htk, hdr, z64_len, z64_drop, z64_one, z64_plains, z65_len, z65_drop, hzd, List.append_nil]; rfl) ?_ | refine To.nop hxE2 ?_ | (refine To.condT hxE2 ?_ ?_; focus (simp only [go_sem, eqs hxE2, reduceIte, seval, Heap.gets, Heap.sets, Heap.get, bytesA_length, bytesA_one, bytesA_plains, List.take_of_length_le, List.drop_of_length_le, Nat.add_zero, V.one, Nat.reduceLeDiff, List.all_cons, List.all_nil, ne_eq, not_false_eq_true, Nat.zero_le, s0, s5, s8, s9, s10, hlt, ix, wa, gl, hat, hle, h64, htk, hdr, z64_len, z64_drop, z64_one, z64_plains, z65_len, z65_drop, hzd, List.append_nil]; done)) | refine To.block hxE2 ?_ | refine To.skip hxE2 ?_))
      have gb : ∀ x y : AM.Obj, (o ++ (r ++ [x, y]))[o.length + (r.length + 1)]? = some y := fun x y => by
        rw [app_getk, app_getk]; rfl
      have htk65 : List.take 65 (V.int .i64 (a + (i : Int)) :: bytesA p) = V.int .i64 (a + (i : Int)) :: bytesA p := List.take_of_length_le (by rw [List.length_cons, bytesA_length]; omega)
      have hrows : ∀ y ∈ (fromL a (ps.take i)).map chC, y.length = 65 := fun y hy => by
        obtain ⟨c, hc, rfl⟩ := List.mem_map.1 hy
        exact chC_len (fromL_64 (fun q hq => hp.p64 q (List.mem_of_mem_take hq)) c hc)
      have hln : ((fromL a (ps.take i)).map chC).length ≤ 1000 := by rw [List.length_map, fromL_len, List.length_take]; omega
      obtain ⟨v', r', D', hA, hG', hD1, hD2, _⟩ := grow1 (o := o) (r := r ++ [.cells .ex 31 0 (bytesA p), .cells .ex 73 0 (V.int .i64 (a + (i : Int)) :: bytesA p)]) (b := 72) (by rw [← List.append_assoc]; exact hG.app) (by decide) hrows (x := V.int .i64 (a + (i : Int)) :: bytesA p) (by rw [List.length_cons, bytesA_length]; omega) (room_small (by omega) (by decide)) (room_small (by decide) (by decide)) o.length (min d1 (o.length + r.length))
      (repeat' (first | refine To.op0 hxE2 (by simp only [go_sem, eqs hxE2, reduceIte, seval, Heap.gets, Heap.sets, Heap.get, bytesA_length, bytesA_one, bytesA_plains, List.take_of_length_le, List.drop_of_length_le, Nat.add_zero, V.one, Nat.reduceLeDiff, List.all_cons, List.all_nil, ne_eq, not_false_eq_true, Nat.zero_le, gb, htk65, h64, hA, s10, wi]; rfl) ?_ | refine To.op1 hxE2 (by simp only [go_sem, eqs hxE2, reduceIte, seval, Heap.gets, Heap.sets, Heap.get, bytesA_length, bytesA_one, bytesA_plains, List.take_of_length_le, List.drop_of_length_le, Nat.add_zero, V.one, Nat.reduceLeDiff, List.all_cons, List.all_nil, ne_eq, not_false_eq_true, Nat.zero_le, gb, htk65, h64, hA, s10, wi]; rfl) ?_ | refine To.nop hxE2 ?_))
      try simp only [andThen, outOf]
      refine ⟨m - 1, by omega, i + 1, D', r', v', by omega, rfl, by omega, ?_, ?_⟩
      · rw [hsu, List.map_append]; exact hG'
      · simp only [go_sem, eqs hxE2, reduceIte, seval, s0, s8, s9]
    · have hlt : decide ((i : Int) < (ps.length : Int)) = false := decide_eq_false (by omega)
      have hie : ps.take i = ps := List.take_of_length_le (by omega)
      rw [hie] at hG
      (repeat' (first | refine To.seq hxE2 ?_ | refine To.op0 hxE2 (by simp only [go_sem, eqs hxE2, reduceIte, seval, Heap.gets, Heap.sets, Heap.get, bytesA_length, bytesA_one, bytesA_plains, List.take_of_length_le, List.drop_of_length_le, Nat.add_zero, V.one, Nat.reduceLeDiff, List.all_cons, List.all_nil, ne_eq, not_false_eq_true, Nat.zero_le, s5, s8, s9, s10, hlt]; rfl) ?_ | refine To.nop hxE2 ?_ | (refine To.condF hxE2 ?_ ?_; focus (simp only [go_sem, eqs hxE2, reduceIte, seval, Heap.gets, Heap.sets, Heap.get, bytesA_length, bytesA_one, bytesA_plains, List.take_of_length_le, List.drop_of_length_le, Nat.add_zero, V.one, Nat.reduceLeDiff, List.all_cons, List.all_nil, ne_eq, not_false_eq_true, Nat.zero_le, s5, s8, s9, s10, hlt]; done)) | refine To.ret hxE2 ?_ | refine To.exit hxE2 ?_))
      try simp only [andThen, outOf, if_true]
      skip
      have hfl := fromL_64 (a := a) hp.p64
      have h5 : ∀ S' : Nat → V, S' 4 = v → ∃ r' oh, finish af79 ⟨o, e, d⟩ (some (.ret, S', ⟨o ++ r, o.length, d1⟩)) = some (r', oh) ∧ ∃ v rr e' d', r' = .val v ∧ Gr o e d oh rr e' d' ∧ ChRow (o ++ rr) v (fromL a ps) := by
        intro S' h4
        refine ⟨_, _, fin1 (i := 4) rfl, ?_⟩
        rw [h4]
        obtain ⟨rr, e2, d2, hgr, hrr⟩ := leave_grow (o := o) (e := e) (d := d) (e' := o.length) (d' := d1) (rr := r) (v := v) (fun _ => .inr hd) (Nat.le_refl _) hd
        refine ⟨v, rr, e2, d2, rfl, hgr, ?_⟩
        rcases hG with ⟨rfl, h0⟩ | ⟨m, ck, rfl, h2, h3⟩
        · have h0 : fromL a ps = [] := by simpa using h0
          rw [h0]
          exact ⟨rfl, fun h => absurd rfl h, by simp⟩
        · rw [hrr rfl]
          exact ChRow.grow (base := o.length) (.inr ⟨m, ck, rfl, h2, h3⟩) hfl
      exact h5 _ (by simp only [go_sem, eqs hxE2, reduceIte, seval, s5])
  · refine ⟨0, _, [], .nils, by omega, by rw [List.append_nil]; rfl, ?_, .inl ⟨rfl, rfl⟩, ?_⟩
    · simp
    · simp only [go_sem, eqs hxE2, reduceIte, seval, initS]
end
end Go.Proofs.Ytfbkeieoeagkdaa

