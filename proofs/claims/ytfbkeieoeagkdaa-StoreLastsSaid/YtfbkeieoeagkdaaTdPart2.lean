/- Own texts, joined: TdQ, TdR, TdT, TdV, TdW, TdX, TdK, TdYh, TdZ, TdJna, TdJnb, TdJnc, TdJnd, TdJne, TdJnf, TdJng, TdJnh, TdJni, TdJnj. -/
import Derived.Test.YtfbkeieoeagkdaaTdPart1
/- Disk: calls. -/
namespace Go.Proofs.Ytfbkeieoeagkdaa
open Go AM
set_option linter.unusedSimpArgs false
set_option linter.unusedVariables false
set_option maxRecDepth 100000

theorem leave_same2 {o o' : List AM.Obj} {e d d' : Nat} {v : V} (hv : v.plain = true) (hl : o'.length = o.length) (hd : o.length ≤ d' → o' = o) : ∃ d'', (leave ⟨o, e, d⟩ ⟨o', o.length, d'⟩ v).getD ⟨o, e, d⟩ = ⟨o', e, d''⟩ ∧ min d d' ≤ d'' ∧ (o' = o ∨ d'' ≤ d') := by
  unfold leave
  simp only
  rw [if_pos ⟨Nat.le_refl _, hv⟩]
  split
  · rename_i hc
    exact ⟨d, by rw [hd hc]; rfl, Nat.min_le_left _ _, .inl (hd hc)⟩
  · exact ⟨min d d', by rw [List.take_of_length_le (by omega)]; rfl, Nat.le_refl _, .inr (Nat.min_le_right _ _)⟩

set_option maxHeartbeats 4000000 in
theorem burn_q2 {o : List AM.Obj} {e d dd t : Nat} {on down : Bool} {left : Int} {r : List V} (h : o[dd]? = some (.cells .ex t 0 (.bool on :: .bool down :: .int .i64 left :: r))) :
    ∃ v oh, Den FF E2 49 [.ptr dd 0] ⟨o, e, d⟩ = some (v, oh) ∧ v = .val (.bool (burnB on down left)) ∧ ∃ d', oh.getD ⟨o, e, d⟩ = ⟨o.set dd (.cells .ex t 0 (burnC on down left ++ r)), e, d'⟩ ∧ min d dd ≤ d' ∧ (o.set dd (.cells .ex t 0 (burnC on down left ++ r)) = o ∨ d' ≤ dd) := by
  have hl := get_lt h
  have hs : ∀ x, (o.set dd x)[dd]? = some x := fun x => List.getElem?_set_self hl
  have hid : o.set dd (.cells .ex t 0 (.bool on :: .bool down :: .int .i64 left :: r)) = o := by
    apply List.ext_getElem?
    intro i
    by_cases hi : dd = i
    · subst hi; rw [hs, h]
    · rw [List.getElem?_set_ne hi]
  refine To.denE hxE2 (f := 49) (a := af49) rfl (E2_none rfl) (Nat.le_of_ble_eq_true rfl) ?_
  have l2 : ∀ n, (2 : Nat) < n + 1 + 1 + 1 := fun n => by omega
  have l1 : ∀ n, (1 : Nat) < n + 1 + 1 + 1 := fun n => by omega
  have m2 : ∀ n, (2 : Nat) + 1 ≤ n + 1 + 1 + 1 := fun n => by omega
  have m1 : ∀ n, (1 : Nat) + 1 ≤ n + 1 + 1 + 1 := fun n => by omega
  cases down
  case true =>
    (repeat' (first | refine To.seq hxE2 ?_ | refine To.op0 hxE2 (by simp only [go_sem, reduceIte, seval, Heap.get, h]; rfl) ?_ | refine To.nop hxE2 ?_ | (refine To.condT hxE2 ?_ ?_; focus (simp only [go_sem, reduceIte, seval]; done)) | refine To.ret hxE2 ?_))
    refine ⟨_, _, fin1 (i := 2) rfl, by simp only [get_fput, reduceIte, Nat.reduceEqDiff]; simp [burnB], ?_⟩
    simp only [burnC, if_true, List.cons_append, List.nil_append, hid]
    obtain ⟨d2, q1, q2, q3⟩ := leave_same2 (e := e) (d := d) (d' := o.length) (v := .bool false) rfl rfl (fun _ => rfl)
    exact ⟨d2, by simp only [get_fput, reduceIte, Nat.reduceEqDiff]; exact q1, by omega, .inl trivial⟩
  cases on
  case false =>
    (repeat' (first | refine To.seq hxE2 ?_ | refine To.op0 hxE2 (by simp only [go_sem, reduceIte, seval, Heap.get, Nat.add_zero, h]; rfl) ?_ | refine To.nop hxE2 ?_ | (refine To.condT hxE2 ?_ ?_; focus (simp only [go_sem, reduceIte, seval]; done)) | (refine To.condF hxE2 ?_ ?_; focus (simp only [go_sem, reduceIte, seval]; done)) | refine To.ret hxE2 ?_ | refine To.skip hxE2 ?_))
    refine ⟨_, _, fin1 (i := 2) rfl, by simp only [get_fput, reduceIte, Nat.reduceEqDiff]; simp [burnB], ?_⟩
    simp only [burnC, Bool.false_eq_true, if_false, List.cons_append, List.nil_append, hid]
    obtain ⟨d2, q1, q2, q3⟩ := leave_same2 (e := e) (d := d) (d' := o.length) (v := .bool true) rfl rfl (fun _ => rfl)
    exact ⟨d2, by simp only [get_fput, reduceIte, Nat.reduceEqDiff]; exact q1, by omega, .inl trivial⟩
  (repeat' (first | refine To.seq hxE2 ?_ | refine To.op0 hxE2 (by simp only [go_sem, reduceIte, seval, Heap.sets, Heap.get, Nat.add_zero, V.one, List.all_cons, List.all_nil, ne_eq, not_false_eq_true, Nat.zero_le, h, hs, List.set_set, m1, m2]; rfl) ?_ | refine To.op1 hxE2 (by simp only [go_sem, reduceIte, seval, Heap.sets, V.one, List.all_cons, List.all_nil, ne_eq, not_false_eq_true, Nat.zero_le, h, hs, List.set_set, m1, m2]; rfl) ?_ | refine To.nop hxE2 ?_ | (refine To.condF hxE2 ?_ ?_; focus (simp only [go_sem, reduceIte, seval]; done)) | refine To.ret hxE2 ?_ | refine To.skip hxE2 ?_))
  refine ⟨_, _, fin1 (i := 2) rfl, by simp only [get_fput, reduceIte, Nat.reduceEqDiff]; simp [burnB], ?_⟩
  simp only [burnC, Bool.false_eq_true, if_false, if_true, List.cons_append, List.nil_append]
  obtain ⟨d2, q1, q2, q3⟩ := leave_same2 (o := o) (o' := o.set dd (.cells .ex t 0 (.bool true :: .bool (decide (IntKind.i64.wrap (left - 1) < 0)) :: .int .i64 (IntKind.i64.wrap (left - 1)) :: r))) (e := e) (d := d) (d' := min (min o.length dd) dd) (v := .bool (!decide (IntKind.i64.wrap (left - 1) < 0))) rfl (by simp) (fun hc => by omega)
  exact ⟨d2, by simp only [get_fput, reduceIte, Nat.reduceEqDiff]; exact q1, by omega, q3.imp id (fun h => by omega)⟩

theorem z64_len : z64.length = 64 := rfl
theorem z64_drop : List.drop 64 z64 = [] := rfl
theorem z64_one : z64.all V.one = true := rfl
theorem z64_plains : V.plains z64 = true := rfl

def burnD (on down : Bool) (left : Int) : Bool := if down = true then down else if on = true then decide (IntKind.i64.wrap (left - 1) < 0) else down
def burnL (on down : Bool) (left : Int) : Int := if down = true then left else if on = true then IntKind.i64.wrap (left - 1) else left
theorem burnC_eq (on down : Bool) (left : Int) : burnC on down left = [.bool on, .bool (burnD on down left), .int .i64 (burnL on down left)] := by
  unfold burnC burnD burnL
  cases down <;> cases on <;> rfl

section
variable {o : List AM.Obj} {e d dd pg lm : Nat} {on down : Bool} {left : Int} {pgs : List Pg} {ca : List (Nat × Pg)}
theorem PD.lp (P : PD o dd pg lm on down left pgs ca) : pg < o.length := get_lt P.hp
theorem PD.ld (P : PD o dd pg lm on down left pgs ca) : dd < o.length := get_lt P.hd
theorem PD.ll (P : PD o dd pg lm on down left pgs ca) : lm < o.length := get_lt P.hm

theorem fin_kc {a : AF} {h : Heap} {S : Nat → V} {h' : Heap} {j l n : Nat} {cs : List V} (hr : a.res = [.c j (some n)]) (hS : S j = .ptr l 0) (hg : h'.gets l 0 n = some cs) (hp : V.plains cs = true) (k : Kp h h') : finish a h (some (.ret, S, h')) = some (.val (.agg cs), none) := by
  have h1 : resAll S h' a.res = some [.agg cs] := by
    rw [hr]; unfold resAll resOne; simp only [get_slots, hS, hg, Option.map_some, resAll]
  exact fin_k (vs := [.agg cs]) h1 rfl hp k
theorem fin_kc2 {a : AF} {h : Heap} {S : Nat → V} {h' : Heap} {j i l n : Nat} {cs : List V} {v : V} (hr : a.res = [.c j (some n), .t i]) (hS : S j = .ptr l 0) (hi : S i = v) (hg : h'.gets l 0 n = some cs) (hp : V.plains cs = true) (hv : v.plain = true) (k : Kp h h') : finish a h (some (.ret, S, h')) = some (.val (.tuple [.agg cs, v]), none) := by
  have h1 : resAll S h' a.res = some [.agg cs, v] := by
    rw [hr]; unfold resAll resOne; simp only [get_slots, hS, hg, hi, Option.map_some, resAll, resOne]
  exact fin_k (vs := [.agg cs, v]) h1 rfl (by simp [V.plain, V.plains, hp, hv]) k
theorem kp_app {o r : List AM.Obj} {e d e' d' : Nat} (he : o.length ≤ e') (hd : o.length ≤ d') : Kp ⟨o, e, d⟩ ⟨o ++ r, e', d'⟩ := Kp.app (Kp.enter' ⟨o, e, d⟩) r he hd
theorem gets_app {o : List AM.Obj} {e d t : Nat} {cs : List V} (h : cs.length = 64) : (⟨o ++ [.cells .ex t 0 cs], e, d⟩ : Heap).gets o.length 0 64 = some cs := by
  simp only [Heap.gets, app_get0, Nat.zero_add, h, Nat.le_refl, if_true, List.drop_zero]
  rw [if_neg (by decide), List.take_of_length_le (by omega)]

theorem PD.app (P : PD o dd pg lm on down left pgs ca) (r : List AM.Obj) : PD (o ++ r) dd pg lm on down left pgs ca := ⟨app_old P.hd r, app_old P.hp r, app_old P.hm r, P.p64, P.c64, P.nd⟩
theorem gets_app2 {o : List AM.Obj} {e d t : Nat} {cs : List V} {r : List AM.Obj} (h : cs.length = 64) : (⟨o ++ (.cells .ex t 0 cs :: r), e, d⟩ : Heap).gets o.length 0 64 = some cs := by
  simp only [Heap.gets, app_get0, Nat.zero_add, h, Nat.le_refl, if_true, List.drop_zero]
  rw [if_neg (by decide), List.take_of_length_le (by omega)]

set_option maxHeartbeats 4000000 in
theorem lasts_q (P : PD o dd pg lm on down left pgs ca) (i : Int) : Den FF E2 14 [.ptr dd 0, .int .i64 i] ⟨o, e, d⟩ = some (.val (.agg (bytesA (lastP pgs i))), none) := by
  refine To.den hxE2 (f := 14) (a := af14) rfl (E2_none rfl) (Nat.le_of_ble_eq_true rfl) ?_
  have gd : ∀ r, (o ++ r)[dd]? = some (.cells .ex 92 0 [.bool on, .bool down, .int .i64 left, .slice pg 0 pgs.length 64, .map lm]) := fun r => app_old P.hd r
  have gp : ∀ r, (o ++ r)[pg]? = some (.cells .ex 31 0 (pgC pgs)) := fun r => app_old P.hp r
  unfold lastP
  by_cases h1 : i < 0
  · have d1 : decide (i < 0) = true := decide_eq_true h1
    rw [if_pos h1]
    (repeat' (first | refine To.seq hxE2 ?_ | refine To.op0 hxE2 (by simp only [go_sem, reduceIte, seval, Heap.sets, ne_eq, not_false_eq_true, Nat.zero_le, d1, z64_len, z64_drop, z64_one, z64_plains]; rfl) ?_ | refine To.op1 hxE2 (by simp only [go_sem, reduceIte, seval, Heap.sets, ne_eq, not_false_eq_true, Nat.zero_le, z64_len, z64_drop, z64_one, z64_plains]; rfl) ?_ | refine To.nop hxE2 ?_ | (refine To.condT hxE2 ?_ ?_; focus (simp only [go_sem, reduceIte, seval]; done)) | refine To.ret hxE2 ?_))
    try simp only [andThen]
    exact fin_kc (cs := z64) (l := o.length) rfl (by simp only [go_sem, reduceIte, seval]) (gets_app rfl) rfl (kp_app (by omega) (by omega))
  have d1 : decide (i < 0) = false := decide_eq_false h1
  rw [if_neg h1]
  obtain ⟨k, rfl⟩ := Int.eq_ofNat_of_zero_le (Int.not_lt.1 h1)
  by_cases h2 : pgs.length ≤ k
  · have d2 : decide ((pgs.length : Int) ≤ (k : Int)) = true := decide_eq_true (by omega)
    (repeat' (first | refine To.seq hxE2 ?_ | refine To.op0 hxE2 (by simp only [go_sem, reduceIte, seval, Heap.sets, Heap.get, ne_eq, not_false_eq_true, Nat.zero_le, gd, d1, d2, z64_len, z64_drop, z64_one, z64_plains]; rfl) ?_ | refine To.op1 hxE2 (by simp only [go_sem, reduceIte, seval, Heap.sets, ne_eq, not_false_eq_true, Nat.zero_le, z64_len, z64_drop, z64_one, z64_plains]; rfl) ?_ | refine To.nop hxE2 ?_ | (refine To.condT hxE2 ?_ ?_; focus (simp only [go_sem, reduceIte, seval]; done)) | refine To.ret hxE2 ?_))
    try simp only [andThen]
    have e1 : pgs.getD (Int.toNat (k : Int)) (zs 64) = zs 64 := by rw [Int.toNat_natCast, List.getD_eq_getElem?_getD, List.getElem?_eq_none h2]; rfl
    rw [e1]
    exact fin_kc (cs := z64) (l := o.length) rfl (by simp only [go_sem, reduceIte, seval]) (gets_app rfl) rfl (kp_app (by omega) (by omega))
  have d2 : decide ((pgs.length : Int) ≤ (k : Int)) = false := decide_eq_false (by omega)
  have hk : k < pgs.length := by omega
  have hg : pgs[k]? = some pgs[k] := List.getElem?_eq_getElem hk
  have e1 : pgs.getD (Int.toNat (k : Int)) (zs 64) = pgs[k] := by rw [Int.toNat_natCast, List.getD_eq_getElem?_getD, hg]; rfl
  rw [e1]
  have hat := pgC_at P.p64 hg
  have hkk : (k + 1) * 64 ≤ pgs.length * 64 := Nat.mul_le_mul_right 64 hk
  have hle : k * 64 + 64 ≤ (pgC pgs).length := by rw [pgC_len P.p64]; omega
  have ix : idxOf pgs.length (.int .i64 (k : Int)) = some k := idxOf_nat hk
  have h64 := P.p64 _ (List.getElem_mem hk)
  generalize pgs[k] = p at hat h64 ⊢
  (repeat' (first | refine To.seq hxE2 ?_ | refine To.op0 hxE2 (by simp only [go_sem, reduceIte, seval, Heap.gets, Heap.sets, Heap.get, bytesA_length, bytesA_one, bytesA_plains, ne_eq, not_false_eq_true, Nat.zero_le, gd, gp, d1, d2, ix, hle, hat, h64, z64_len, z64_drop]; rfl) ?_ | refine To.op1 hxE2 (by simp only [go_sem, reduceIte, seval, Heap.sets, bytesA_length, bytesA_one, bytesA_plains, ne_eq, not_false_eq_true, Nat.zero_le, h64, z64_len, z64_drop]; rfl) ?_ | refine To.nop hxE2 ?_ | (refine To.condF hxE2 ?_ ?_; focus (simp only [go_sem, reduceIte, seval]; done)) | refine To.ret hxE2 ?_ | refine To.skip hxE2 ?_))
  try simp only [andThen, outOf]
  exact fin_kc (cs := bytesA p) (l := o.length) rfl (by simp only [go_sem, reduceIte, seval]) (gets_app (by rw [bytesA_length]; exact h64)) (bytesA_plains _) (kp_app (by omega) (by omega))

def readP (down : Bool) (pgs : List Pg) (ca : List (Nat × Pg)) (i : Int) : Pg := if hasE down pgs.length i = 0 then (findC i.toNat ca).getD (pgs.getD i.toNat (zs 64)) else zs 64

theorem hasE_ok {i : Int} {n : Nat} (h : hasE down n i = 0) : down = false ∧ ∃ k : Nat, i = (k : Int) ∧ k < n := by
  unfold hasE at h
  split at h
  · cases h
  · rename_i hd
    split at h
    · cases h
    · rename_i hi
      obtain ⟨k, rfl⟩ := Int.eq_ofNat_of_zero_le (a := i) (by omega)
      exact ⟨by simpa using hd, k, rfl, by omega⟩
set_option maxHeartbeats 4000000 in
theorem read_q (P : PD o dd pg lm on down left pgs ca) (i : Int) : Den FF E2 17 [.ptr dd 0, .int .i64 i] ⟨o, e, d⟩ = some (.val (.tuple [.agg (bytesA (readP down pgs ca i)), .int .i64 (hasE down pgs.length i)]), none) := by
  refine To.den hxE2 (f := 17) (a := af17) rfl (E2_none rfl) (Nat.le_of_ble_eq_true rfl) ?_
  have q := has_q (e := o.length) (d := o.length) (P.app [.cells .ex 31 0 z64]) i
  have gd : ∀ r, (o ++ r)[dd]? = some (.cells .ex 92 0 [.bool on, .bool down, .int .i64 left, .slice pg 0 pgs.length 64, .map lm]) := fun r => app_old P.hd r
  have gp : ∀ r, (o ++ r)[pg]? = some (.cells .ex 31 0 (pgC pgs)) := fun r => app_old P.hp r
  have gm : ∀ r, (o ++ r)[lm]? = some (.map (ca.map ent)) := fun r => app_old P.hm r
  unfold readP
  by_cases h0 : hasE down pgs.length i = 0
  · rw [if_pos h0]
    rw [h0] at q ⊢
    obtain ⟨_, k, rfl, hk⟩ := hasE_ok h0
    rw [Int.toNat_natCast]
    have hkey : V.key .i (.int .i64 (k : Int)) = true := rfl
    have hmf := mapFind_ent k ca P.nd
    cases hf : findC k ca with
    | some p =>
      rw [hf] at hmf
      have hp64 : p.length = 64 := by
        unfold findC at hf
        obtain ⟨x, hx, rfl⟩ := Option.map_eq_some_iff.1 hf
        exact (P.c64 x (List.mem_of_find?_eq_some hx)).1
      have htk : List.take 64 (bytesA p) = bytesA p := List.take_of_length_le (by rw [bytesA_length]; omega)
      have hdr : List.drop 64 (bytesA p) = [] := List.drop_eq_nil_of_le (by rw [bytesA_length]; omega)
      (repeat' (first | refine To.seq hxE2 ?_ | refine To.op0 hxE2 (by simp only [go_sem, reduceIte, seval, Heap.gets, Heap.sets, Heap.get, bytesA_length, bytesA_one, bytesA_plains, List.take_of_length_le, ne_eq, not_false_eq_true, Nat.zero_le, q, gd, gm, hkey, hmf, hp64, z64_len, z64_drop, bne_self_eq_false, Option.isSome_some]; rfl) ?_ | refine To.op1 hxE2 (by simp only [go_sem, reduceIte, seval, Heap.sets, bytesA_length, bytesA_one, bytesA_plains, ne_eq, not_false_eq_true, Nat.zero_le, hp64, z64_len, z64_drop]; rfl) ?_ | refine To.nop hxE2 ?_ | (refine To.condT hxE2 ?_ ?_; focus (simp only [go_sem, reduceIte, seval]; done)) | (refine To.condF hxE2 ?_ ?_; focus (simp only [go_sem, reduceIte, seval]; done)) | refine To.ret hxE2 ?_ | refine To.skip hxE2 ?_))
      try simp only [andThen]
      exact fin_kc2 (cs := bytesA p) (l := o.length) rfl (by simp only [go_sem, reduceIte, seval]) (by simp only [go_sem, reduceIte, seval]) (gets_app2 (by rw [bytesA_length]; exact hp64)) (bytesA_plains _) rfl (kp_app (by omega) (by omega))
    | none =>
      rw [hf] at hmf
      have hg : pgs[k]? = some pgs[k] := List.getElem?_eq_getElem hk
      have e1 : pgs.getD k (zs 64) = pgs[k] := by rw [List.getD_eq_getElem?_getD, hg]; rfl
      rw [Option.getD_none, e1]
      have hat := pgC_at P.p64 hg
      have hkk : (k + 1) * 64 ≤ pgs.length * 64 := Nat.mul_le_mul_right 64 hk
      have hle : k * 64 + 64 ≤ (pgC pgs).length := by rw [pgC_len P.p64]; omega
      have ix : idxOf pgs.length (.int .i64 (k : Int)) = some k := idxOf_nat hk
      have h64 := P.p64 _ (List.getElem_mem hk)
      generalize pgs[k] = p at hat h64 ⊢
      (repeat' (first | refine To.seq hxE2 ?_ | refine To.op0 hxE2 (by simp only [go_sem, reduceIte, seval, Heap.gets, Heap.sets, Heap.get, bytesA_length, bytesA_one, bytesA_plains, ne_eq, not_false_eq_true, Nat.zero_le, q, gd, gp, gm, hkey, hmf, ix, hle, hat, h64, z64_len, z64_drop, z64_one, z64_plains, bne_self_eq_false, Option.isSome_none, Option.getD_none]; rfl) ?_ | refine To.op1 hxE2 (by simp only [go_sem, reduceIte, seval, Heap.sets, bytesA_length, bytesA_one, bytesA_plains, ne_eq, not_false_eq_true, Nat.zero_le, h64, z64_len, z64_drop, z64_one, z64_plains]; rfl) ?_ | refine To.nop hxE2 ?_ | (refine To.condF hxE2 ?_ ?_; focus (simp only [go_sem, reduceIte, seval]; done)) | refine To.ret hxE2 ?_ | refine To.skip hxE2 ?_))
      try simp only [andThen, outOf]
      exact fin_kc2 (cs := bytesA p) (l := o.length) rfl (by simp only [go_sem, reduceIte, seval]) (by simp only [go_sem, reduceIte, seval]) (gets_app2 (by rw [bytesA_length]; exact h64)) (bytesA_plains _) rfl (kp_app (by omega) (by omega))
  · rw [if_neg h0]
    have hb : (hasE down pgs.length i != 0) = true := by simpa using h0
    generalize hasE down pgs.length i = er at q hb ⊢
    (repeat' (first | refine To.seq hxE2 ?_ | refine To.op0 hxE2 (by simp only [go_sem, reduceIte, seval, Heap.sets, ne_eq, not_false_eq_true, Nat.zero_le, q, hb, z64_len, z64_drop, z64_one, z64_plains]; rfl) ?_ | refine To.op1 hxE2 (by simp only [go_sem, reduceIte, seval, Heap.sets, ne_eq, not_false_eq_true, Nat.zero_le, z64_len, z64_drop, z64_one, z64_plains]; rfl) ?_ | refine To.nop hxE2 ?_ | (refine To.condT hxE2 ?_ ?_; focus (simp only [go_sem, reduceIte, seval]; done)) | refine To.ret hxE2 ?_))
    try simp only [andThen]
    exact fin_kc2 (cs := z64) (l := o.length) rfl (by simp only [go_sem, reduceIte, seval]) (by simp only [go_sem, reduceIte, seval]) (gets_app2 rfl) rfl rfl (kp_app (by omega) (by omega))
end
end Go.Proofs.Ytfbkeieoeagkdaa

/- Disk: calls that turn it. -/
namespace Go.Proofs.Ytfbkeieoeagkdaa
open Go AM
set_option linter.unusedSimpArgs false
set_option linter.unusedVariables false
set_option maxRecDepth 100000

/-- All but the disk's own three objects stays. -/
structure Dx (dd pg lm : Nat) (o o' : List AM.Obj) : Prop where
  len : o'.length = o.length
  get : ∀ l, l ≠ dd → l ≠ pg → l ≠ lm → o'[l]? = o[l]?
theorem Dx.refl {dd pg lm : Nat} {o : List AM.Obj} : Dx dd pg lm o o := ⟨rfl, fun _ _ _ _ => rfl⟩
theorem Dx.trans {dd pg lm : Nat} {o o' o'' : List AM.Obj} (h : Dx dd pg lm o o') (k : Dx dd pg lm o' o'') : Dx dd pg lm o o'' := ⟨k.len.trans h.len, fun l a b c => (k.get l a b c).trans (h.get l a b c)⟩
section
variable {o : List AM.Obj} {e d dd pg lm : Nat} {on down : Bool} {left : Int} {pgs : List Pg} {ca : List (Nat × Pg)}
theorem PD.ne1 (P : PD o dd pg lm on down left pgs ca) : dd ≠ lm := by rintro rfl; have := P.hd; rw [P.hm] at this; cases this
theorem PD.ne2 (P : PD o dd pg lm on down left pgs ca) : pg ≠ lm := by rintro rfl; have := P.hp; rw [P.hm] at this; cases this
theorem PD.ne3 (P : PD o dd pg lm on down left pgs ca) : dd ≠ pg := by
  rintro rfl
  have := P.hd
  rw [P.hp] at this
  simp only [Option.some.injEq] at this
  injection this with _ h
  exact absurd h (by decide)

/-- The fuse turned. -/
theorem PD.fuse (P : PD o dd pg lm on down left pgs ca) (on' down' : Bool) (left' : Int) : PD (o.set dd (.cells .ex 92 0 [.bool on', .bool down', .int .i64 left', .slice pg 0 pgs.length 64, .map lm])) dd pg lm on' down' left' pgs ca :=
  ⟨List.getElem?_set_self P.ld, by rw [List.getElem?_set_ne P.ne3]; exact P.hp, by rw [List.getElem?_set_ne P.ne1]; exact P.hm, P.p64, P.c64, P.nd⟩
theorem dx_dd (x : AM.Obj) : Dx dd pg lm o (o.set dd x) := ⟨by simp, fun l a _ _ => List.getElem?_set_ne (Ne.symm a)⟩
theorem dx_lm (x : AM.Obj) : Dx dd pg lm o (o.set lm x) := ⟨by simp, fun l _ _ c => List.getElem?_set_ne (Ne.symm c)⟩
theorem dx_pg (x : AM.Obj) : Dx dd pg lm o (o.set pg x) := ⟨by simp, fun l _ b _ => List.getElem?_set_ne (Ne.symm b)⟩

theorem set_app (o r : List AM.Obj) {l : Nat} (x : AM.Obj) (h : l < o.length) : (o ++ r).set l x = o.set l x ++ r := List.set_append_left _ _ h

theorem leave_app2 {o o' r : List AM.Obj} {e d e' d' : Nat} {v : V} (hv : v.plain = true) (hl : o'.length = o.length) (he : o.length ≤ e') (hd : o.length ≤ d' → o' = o) : ∃ d'', (leave ⟨o, e, d⟩ ⟨o' ++ r, e', d'⟩ v).getD ⟨o, e, d⟩ = ⟨o', e, d''⟩ ∧ (o' = o ∨ d'' ≤ d') ∧ min d d' ≤ d'' ∧ d'' ≤ d := by
  unfold leave
  simp only
  rw [if_pos ⟨he, hv⟩]
  split
  · rename_i hc
    exact ⟨d, by rw [hd hc]; rfl, .inl (hd hc), Nat.min_le_left _ _, Nat.le_refl _⟩
  · exact ⟨_, by rw [← hl, List.take_left]; rfl, .inr (Nat.min_le_right _ _), Nat.le_refl _, Nat.min_le_left _ _⟩
/-- What has turned lies low. -/
def Low (dd pg lm : Nat) (o o' : List AM.Obj) (d d' : Nat) : Prop := d' ≤ d ∧ (o' = o ∨ d' ≤ max dd (max pg lm))

set_option maxHeartbeats 4000000 in
theorem write_no (P : PD o dd pg lm on down left pgs ca) {i : Int} {p : Pg} (hp : p.length = 64) (h0 : hasE down pgs.length i ≠ 0) : Den FF E2 13 [.ptr dd 0, .int .i64 i, .agg (bytesA p)] ⟨o, e, d⟩ = some (.val (.int .i64 (hasE down pgs.length i)), none) := by
  refine To.den hxE2 (f := 13) (a := af13) rfl (E2_none rfl) (Nat.le_of_ble_eq_true rfl) ?_
  have q := has_q (e := o.length) (d := o.length) (P.app [.cells .ex 31 0 (bytesA p)]) i
  have hb : (hasE down pgs.length i != 0) = true := by simpa using h0
  generalize hasE down pgs.length i = er at q hb ⊢
  (repeat' (first | refine To.seq hxE2 ?_ | refine To.op0 hxE2 (by simp only [go_sem, reduceIte, seval, q, hb]; rfl) ?_ | refine To.op1 hxE2 (by simp only [go_sem, seval]; rfl) ?_ | refine To.nop hxE2 ?_ | (refine To.condT hxE2 ?_ ?_; focus (simp only [go_sem, reduceIte, seval]; done)) | refine To.ret hxE2 ?_))
  try simp only [andThen]
  exact fin_k1 (i := 6) (v := .int .i64 er) rfl (by simp only [go_sem, reduceIte, seval]) rfl (kp_app (by omega) (by omega))

set_option maxHeartbeats 4000000 in
theorem write_burnt' (P : PD o dd pg lm on down left pgs ca) {i : Int} {p : Pg} (hp : p.length = 64) (h0 : hasE down pgs.length i = 0) (hB : burnB on down left = false) :
    ∃ v oh, Den FF E2 13 [.ptr dd 0, .int .i64 i, .agg (bytesA p)] ⟨o, e, d⟩ = some (v, oh) ∧ v = .val (.int .i64 5) ∧ ∃ o' d', oh.getD ⟨o, e, d⟩ = ⟨o', e, d'⟩ ∧ PD o' dd pg lm on (burnD on down left) (burnL on down left) pgs ca ∧ Dx dd pg lm o o' ∧ Low dd pg lm o o' d d' := by
  refine To.denE hxE2 (f := 13) (a := af13) rfl (E2_none rfl) (Nat.le_of_ble_eq_true rfl) ?_
  have q := has_q (e := o.length) (d := o.length) (P.app [.cells .ex 31 0 (bytesA p)]) i
  rw [h0] at q
  obtain ⟨vb, ohb, qb, rfl, db, hgb, hdb, hdu⟩ := burn_q2 (e := o.length) (d := o.length) (P.app [.cells .ex 31 0 (bytesA p)]).hd
  rw [hB] at qb
  rw [burnC_eq] at hgb hdu
  simp only [List.cons_append, List.nil_append] at hgb hdu
  rw [set_app _ _ _ P.ld] at hgb hdu
  have P2 := P.fuse on (burnD on down left) (burnL on down left)
  have dx := dx_dd (dd := dd) (pg := pg) (lm := lm) (o := o) (.cells .ex 92 0 [.bool on, .bool (burnD on down left), .int .i64 (burnL on down left), .slice pg 0 pgs.length 64, .map lm])
  have hld := P.ld
  generalize hO : o.set dd (.cells .ex 92 0 [.bool on, .bool (burnD on down left), .int .i64 (burnL on down left), .slice pg 0 pgs.length 64, .map lm]) = o1 at hgb P2 dx hdu
  (repeat' (first | refine To.seq hxE2 ?_ | refine To.op0 hxE2 (by simp only [go_sem, reduceIte, seval, Nat.add_zero, q, bne_self_eq_false]; rfl) ?_ | refine To.op1 hxE2 (by simp only [go_sem, reduceIte, seval]; rfl) ?_ | refine To.nop hxE2 ?_ | (refine To.condF hxE2 ?_ ?_; focus (simp only [go_sem, reduceIte, seval]; done)) | refine To.skip hxE2 ?_))
  refine To.op hxE2 (by simp only [go_sem, reduceIte, seval, qb]; rfl) ?_
  rw [hgb]
  (repeat' (first | refine To.seq hxE2 ?_ | refine To.op0 hxE2 (by simp only [go_sem, reduceIte, seval]; rfl) ?_ | refine To.nop hxE2 ?_ | (refine To.condT hxE2 ?_ ?_; focus (simp only [go_sem, reduceIte, seval]; done)) | refine To.ret hxE2 ?_))
  refine ⟨_, _, fin1 (i := 6) rfl, by simp only [go_sem, reduceIte, seval], ?_⟩
  obtain ⟨d2, hlv, hlow, _, hld2⟩ := leave_app2 (o := o) (o' := o1) (r := [.cells .ex 31 0 (bytesA p)]) (e := e) (d := d) (e' := o.length) (d' := db) (v := .int .i64 5) rfl dx.len (Nat.le_refl _) (fun h => by
    rcases hdu with hdu | hdu
    · exact List.append_cancel_right hdu
    · omega)
  refine ⟨o1, d2, by simp only [get_fput, reduceIte, Nat.reduceEqDiff]; exact hlv, P2, dx, ?_⟩
  refine ⟨hld2, ?_⟩
  rcases hlow with h | h
  · exact .inl h
  · rcases hdu with hdu | hdu
    · exact .inl (List.append_cancel_right hdu)
    · exact .inr (by omega)
set_option maxHeartbeats 8000000 in
theorem write_ok' (P : PD o dd pg lm on down left pgs ca) {k : Nat} {p : Pg} (hp : p.length = 64) (hk : k < pgs.length) (h0 : hasE down pgs.length (k : Int) = 0) (hB : burnB on down left = true) :
    ∃ v oh, Den FF E2 13 [.ptr dd 0, .int .i64 (k : Int), .agg (bytesA p)] ⟨o, e, d⟩ = some (v, oh) ∧ v = .val (.int .i64 0) ∧ ∃ o' d', oh.getD ⟨o, e, d⟩ = ⟨o', e, d'⟩ ∧ PD o' dd pg lm on (burnD on down left) (burnL on down left) pgs (putC k p ca) ∧ Dx dd pg lm o o' ∧ Low dd pg lm o o' d d' := by
  refine To.denE hxE2 (f := 13) (a := af13) rfl (E2_none rfl) (Nat.le_of_ble_eq_true rfl) ?_
  have q := has_q (e := o.length) (d := o.length) (P.app [.cells .ex 31 0 (bytesA p)]) (k : Int)
  rw [h0] at q
  obtain ⟨vb, ohb, qb, rfl, db, hgb, hdb, hdu⟩ := burn_q2 (e := o.length) (d := o.length) (P.app [.cells .ex 31 0 (bytesA p)]).hd
  rw [hB] at qb
  rw [burnC_eq] at hgb hdu
  simp only [List.cons_append, List.nil_append] at hgb hdu
  rw [set_app _ _ _ P.ld] at hgb hdu
  have P2 := P.fuse on (burnD on down left) (burnL on down left)
  have dx := dx_dd (dd := dd) (pg := pg) (lm := lm) (o := o) (.cells .ex 92 0 [.bool on, .bool (burnD on down left), .int .i64 (burnL on down left), .slice pg 0 pgs.length 64, .map lm])
  have hll := P.ll
  generalize hO : o.set dd (.cells .ex 92 0 [.bool on, .bool (burnD on down left), .int .i64 (burnL on down left), .slice pg 0 pgs.length 64, .map lm]) = o1 at hgb P2 dx hdu
  have gd : ∀ r, (o1 ++ r)[dd]? = some (.cells .ex 92 0 [.bool on, .bool (burnD on down left), .int .i64 (burnL on down left), .slice pg 0 pgs.length 64, .map lm]) := fun r => app_old P2.hd r
  have gm : ∀ r, (o1 ++ r)[lm]? = some (.map (ca.map ent)) := fun r => app_old P2.hm r
  have gb : (o1 ++ [AM.Obj.cells .ex 31 0 (bytesA p)])[o.length]? = some (.cells .ex 31 0 (bytesA p)) := by rw [← dx.len]; exact app_get0 _ _ _
  have hkey : V.key .i (.int .i64 (k : Int)) = true := rfl
  have hmp := mapPut_ent k p ca P.nd
  have htk : List.take 64 (bytesA p) = bytesA p := List.take_of_length_le (by rw [bytesA_length]; omega)
  have hst : ∀ x, (o1 ++ [AM.Obj.cells .ex 31 0 (bytesA p)]).set lm x = o1.set lm x ++ [AM.Obj.cells .ex 31 0 (bytesA p)] := fun x => set_app _ _ _ (by rw [dx.len]; exact hll)
  (repeat' (first | refine To.seq hxE2 ?_ | refine To.op0 hxE2 (by simp only [go_sem, reduceIte, seval, Nat.add_zero, q, bne_self_eq_false]; rfl) ?_ | refine To.op1 hxE2 (by simp only [go_sem, reduceIte, seval]; rfl) ?_ | refine To.nop hxE2 ?_ | (refine To.condF hxE2 ?_ ?_; focus (simp only [go_sem, reduceIte, seval]; done)) | refine To.skip hxE2 ?_))
  refine To.op hxE2 (by simp only [go_sem, reduceIte, seval, qb]; rfl) ?_
  rw [hgb]
  (repeat' (first | refine To.seq hxE2 ?_ | refine To.op0 hxE2 (by simp only [go_sem, reduceIte, seval]; rfl) ?_ | refine To.nop hxE2 ?_ | (refine To.condF hxE2 ?_ ?_; focus (simp only [go_sem, reduceIte, seval]; done)) | refine To.ret hxE2 ?_ | refine To.skip hxE2 ?_ | refine To.draw0 hxE2 ?_ | refine ToD.op0 (by simp only [go_sem, reduceIte, seval, Heap.gets, Heap.get, bytesA_length, bytesA_plains, List.take_of_length_le, Nat.add_zero, List.all_nil, gd, gm, gb, hkey, hmp, hp, hst, Heap.setMap]; rfl) (by simp only [put_some]; rfl) ?_ | refine ToD.op1 (by simp only [go_sem, reduceIte, seval, bytesA_plains, List.all_nil, gm, hkey, hmp, hst, Heap.setMap]; rfl) (by simp only [put_none]; rfl) (by simp only [KD.app, go_sem, seval]; rfl) ?_ | refine ToD.nop ?_))
  refine ⟨_, _, fin1 (i := 6) rfl, by simp only [go_sem, reduceIte, seval], ?_⟩
  obtain ⟨d2, hlv, hlow, _, hld2⟩ := leave_app2 (o := o) (o' := o1.set lm (.map ((putC k p ca).map ent))) (r := [.cells .ex 31 0 (bytesA p)]) (e := e) (d := d) (e' := o.length) (d' := min db lm) (v := .int .i64 0) rfl (by simp [dx.len]) (Nat.le_refl _) (fun h => by omega)
  refine ⟨o1.set lm (.map ((putC k p ca).map ent)), d2, by simp only [get_fput, reduceIte, Nat.reduceEqDiff]; exact hlv, ?_, dx.trans (dx_lm _), hld2, hlow.imp id (fun h => by omega)⟩
  refine ⟨by rw [List.getElem?_set_ne (Ne.symm P.ne1)]; exact P2.hd, by rw [List.getElem?_set_ne (Ne.symm P.ne2)]; exact P2.hp, List.getElem?_set_self P2.ll, P.p64, fun x hx => ?_, putC_nodup P.nd⟩
  rcases putC_mem hx with rfl | hx
  · exact ⟨hp, hk⟩
  · exact P.c64 x hx
theorem layP_len : (layP ca pgs).length = pgs.length := by simp [layP]
theorem layP_get {i : Nat} (hi : i < pgs.length) : (layP ca pgs)[i]? = some ((findC i ca).getD (pgs.getD i [])) := by
  unfold layP
  rw [List.getElem?_map, List.getElem?_range hi]; rfl
theorem layP_64 (P : PD o dd pg lm on down left pgs ca) : ∀ p ∈ layP ca pgs, p.length = 64 := by
  intro p hp
  obtain ⟨i, hi, rfl⟩ := List.mem_map.1 hp
  have hi := List.mem_range.1 hi
  cases hf : findC i ca with
  | some q =>
    obtain ⟨x, hx, rfl⟩ := Option.map_eq_some_iff.1 hf
    exact (P.c64 x (List.mem_of_find?_eq_some hx)).1
  | none =>
    rw [Option.getD_none, List.getD_eq_getElem?_getD, List.getElem?_eq_getElem hi]
    exact P.p64 _ (List.getElem_mem hi)

theorem flush_no' (P : PD o dd pg lm on down left pgs ca) (hB : burnB on down left = false) :
    ∃ v oh, Den FF E2 16 [.ptr dd 0] ⟨o, e, d⟩ = some (v, oh) ∧ v = .val (.int .i64 5) ∧ ∃ o' d', oh.getD ⟨o, e, d⟩ = ⟨o', e, d'⟩ ∧ PD o' dd pg lm on (burnD on down left) (burnL on down left) pgs ca ∧ Dx dd pg lm o o' ∧ Low dd pg lm o o' d d' := by
  refine ⟨_, _, den_hand rfl rfl (by unfold flushG; simp only [P.hd, hB, if_true]; rfl), rfl, ?_⟩
  rw [burnC_eq]
  exact ⟨_, _, rfl, P.fuse _ _ _, dx_dd _, Nat.min_le_left _ _, .inr (by show min d dd ≤ _; omega)⟩
theorem flush_ok' (P : PD o dd pg lm on down left pgs ca) (hB : burnB on down left = true) :
    ∃ v oh, Den FF E2 16 [.ptr dd 0] ⟨o, e, d⟩ = some (v, oh) ∧ v = .val (.int .i64 0) ∧ ∃ o' d', oh.getD ⟨o, e, d⟩ = ⟨o', e, d'⟩ ∧ PD o' dd pg lm on (burnD on down left) (burnL on down left) (layP ca pgs) [] ∧ Dx dd pg lm o o' ∧ Low dd pg lm o o' d d' := by
  have hes : (ca.map ent).all (pageEnt pgs.length) = true := by
    rw [List.all_eq_true]
    intro x hx
    obtain ⟨y, hy, rfl⟩ := List.mem_map.1 hx
    exact pageEnt_ent (P.c64 y hy).1 (P.c64 y hy).2
  have hck : CK.ex ≠ CK.ro := by decide
  refine ⟨_, _, den_hand rfl rfl (by unfold flushG; simp only [P.hd, P.hp, P.hm, hB, Bool.true_eq_false, if_false]; rw [if_pos ⟨hck, P.ne3, pgC_len P.p64, hes, apart_ent P.nd⟩]), rfl, ?_⟩
  rw [burnC_eq, lay_eq P.p64]
  refine ⟨_, _, rfl, ⟨?_, ?_, ?_, layP_64 P, by simp, by simp⟩, ((dx_dd _).trans (dx_pg _)).trans (dx_lm _), Nat.min_le_left _ _, .inr (by show min d (min dd (min pg lm)) ≤ _; omega)⟩
  · rw [List.getElem?_set_ne (Ne.symm P.ne1), List.getElem?_set_ne (Ne.symm P.ne3), List.getElem?_set_self P.ld, layP_len]; rfl
  · rw [List.getElem?_set_ne (Ne.symm P.ne2), List.getElem?_set_self (by simpa using P.lp)]
  · rw [List.getElem?_set_self (by simpa using P.ll)]; rfl
end
end Go.Proofs.Ytfbkeieoeagkdaa

/- Disk: a new disk; arguments. -/
namespace Go.Proofs.Ytfbkeieoeagkdaa
open Go AM
set_option linter.unusedSimpArgs false
set_option linter.unusedVariables false
set_option maxRecDepth 100000

theorem reps_pages : ∀ N : Nat, reps z64 N = pgC (List.replicate N (zs 64))
  | 0 => rfl
  | N + 1 => by
    rw [List.replicate_succ]
    unfold pgC
    rw [List.flatMap_cons]
    have := reps_pages N
    unfold pgC at this
    rw [← this]; rfl

set_option maxHeartbeats 2000000 in
theorem newD_q {o : List AM.Obj} {e d N : Nat} (h1 : 1 ≤ N) (h2 : N ≤ 512) : ∃ v oh, Den FF E2 12 [.int .i64 (N : Int)] ⟨o, e, d⟩ = some (v, oh) ∧ v = .val (.tuple [.ptr (o.length + 2) 0, .int .i64 0]) ∧
    ∃ rr e' d', rr.length = 3 ∧ oh.getD ⟨o, e, d⟩ = ⟨o ++ rr, e', d'⟩ ∧ PD (o ++ rr) (o.length + 2) o.length (o.length + 1) false false 0 (List.replicate N (zs 64)) [] := by
  refine To.denE hxE2 (f := 12) (a := af12) rfl (E2_none rfl) (Nat.le_of_ble_eq_true rfl) ?_
  have d1 : decide ((N : Int) < 1) = false := decide_eq_false (by omega)
  have d2 : decide ((512 : Int) < (N : Int)) = false := decide_eq_false (by omega)
  have c1 : (0 : Int) ≤ (N : Int) := by omega
  have c2 : (N : Int) * ((64 : Nat) : Int) ≤ (AM.ok1 : Int) := by unfold AM.ok1; omega
  have c3 : (N : Int) ≤ (AM.ok1 : Int) := by unfold AM.ok1; omega
  have c2' : (N : Int) * 64 ≤ (AM.ok1 : Int) := c2
  (repeat' (first | refine To.seq hxE2 ?_ | refine To.op0 hxE2 (by simp only [go_sem, reduceIte, seval, List.drop_of_length_le, Nat.reduceLeDiff, d1, d2, c1, c2', c3, Int.le_refl, Int.toNat_natCast]; rfl) ?_ | refine To.op1 hxE2 (by simp only [go_sem, reduceIte, seval, c1, c2', c3, Int.le_refl, Int.toNat_natCast]; rfl) ?_ | refine To.nop hxE2 ?_ | (refine To.condF hxE2 ?_ ?_; focus (simp only [go_sem, reduceIte, seval]; done)) | refine To.ret hxE2 ?_ | refine To.skip hxE2 ?_))
  try simp only [andThen, outOf]
  refine ⟨_, _, fin2 (i := 2) (j := 3) rfl, by simp only [go_sem, reduceIte, seval], ?_⟩
  have hlv : ∀ h' : Heap, ∀ x y : V, V.plain x = false → (leave ⟨o, e, d⟩ h' (.tuple [x, y])) = some ⟨h'.o, min e h'.e, min d h'.d⟩ := fun h' x y hx => leave_some (by simp [V.plain, V.plains, hx])
  rw [hlv _ _ _ (by simp only [get_fput, reduceIte, Nat.reduceEqDiff]; rfl)]
  refine ⟨[.cells .ex 31 0 (pgC (List.replicate N (zs 64))), .map [], .cells .ex 92 0 [.bool false, .bool false, .int .i64 0, .slice o.length 0 N 64, .map (o.length + 1)]], min e o.length, min d o.length, rfl, ?_, ?_⟩
  · rw [← reps_pages]; rfl
  · refine ⟨?_, ?_, ?_, ?_, by simp, by simp⟩
    · rw [List.length_replicate]; exact app_getk _ _ 2
    · exact app_get0 _ _ _
    · exact app_getk _ _ 1
    · intro p hp
      rw [List.eq_of_mem_replicate hp]; rfl

/-- A slice of bytes, of pages, as an argument. -/
structure BArg (o : List AM.Obj) (v : V) (b : List UInt8) : Prop where
  len : lenLV v = some (.int .i64 (b.length : Int), none)
  at_ : b ≠ [] → ∃ l t, v = .slice l 0 b.length 1 ∧ o[l]? = some (.cells .ro t 0 (bytesA b))
structure PArg (o : List AM.Obj) (v : V) (ps : List Pg) : Prop where
  len : lenLV v = some (.int .i64 (ps.length : Int), none)
  at_ : ps ≠ [] → ∃ l t, v = .slice l 0 ps.length 64 ∧ o[l]? = some (.cells .ro t 0 (pgC ps))
  p64 : ∀ p ∈ ps, p.length = 64
theorem has_u8 {o : List AM.Obj} : ∀ {xs : List (List V)}, (∀ x ∈ xs, Ty.has o (.int .u8) x) → ∃ b : List UInt8, List.flatten xs = bytesA b ∧ b.length = xs.length
  | [], _ => ⟨[], rfl, rfl⟩
  | x :: xs, h => by
    obtain ⟨b, h1, h2⟩ := has_u8 (xs := xs) fun y hy => h y (List.mem_cons_of_mem _ hy)
    obtain ⟨n, rfl, hn1, hn2⟩ := h x List.mem_cons_self
    obtain ⟨c, rfl⟩ := u8_byte hn1 hn2
    exact ⟨c :: b, by rw [List.flatten_cons, h1]; rfl, by simp [h2]⟩
theorem barg_of {o : List AM.Obj} {v : V} (h : Ty.arg o (.slice (.int .u8)) v) : ∃ b, BArg o v b ∧ b.length ≤ maxLen := by
  rcases arg_slice h with rfl | ⟨a, rfl⟩ | ⟨l, n, rfl, hn, u, xs, h1, h2, h3⟩
  · exact ⟨[], ⟨rfl, fun h => absurd rfl h⟩, Nat.zero_le _⟩
  · exact ⟨[], ⟨rfl, fun h => absurd rfl h⟩, Nat.zero_le _⟩
  · obtain ⟨b, hb, hbl⟩ := has_u8 h3
    rw [hb] at h1
    subst h2
    rw [← hbl] at hn ⊢
    exact ⟨b, ⟨rfl, fun _ => ⟨l, u, rfl, h1⟩⟩, hn⟩
end Go.Proofs.Ytfbkeieoeagkdaa

/- Disk: Fuse and Crash as facts. -/
namespace Go.Proofs.Ytfbkeieoeagkdaa
open Go AM
set_option linter.unusedSimpArgs false
set_option linter.unusedVariables false
set_option maxRecDepth 100000

def tear (c : Nat) (p q : Pg) : Pg := p.take c ++ q.drop c
def hasK (ca : List (Nat × Pg)) (i : Nat) : Bool := (findC i ca).isSome
def keysN (n : Nat) (ca : List (Nat × Pg)) : List Nat := (List.range n).filter (hasK ca)
/-- What a crash leaves of the pages: from the k-th key on. -/
def crashN (ca : List (Nat × Pg)) (ch : List UInt8) : Nat → List Nat → List Pg → List Pg
  | _, [], pgs => pgs
  | k, i :: r, pgs => crashN ca ch (k + 1) r (match ch[k]? with
    | some c => pgs.set i (tear (c.toNat % 65) ((findC i ca).getD (zs 64)) (pgs.getD i (zs 64)))
    | none => pgs)

theorem hasK_iff {i : Nat} : ∀ {ca : List (Nat × Pg)}, hasK ca i = true ↔ i ∈ ca.map (·.1)
  | [] => by simp [hasK, findC]
  | e :: r => by
    have ih := hasK_iff (i := i) (ca := r)
    unfold hasK findC at ih ⊢
    rw [List.find?_cons]
    by_cases h : e.1 = i
    · subst h; simp
    · have h1 : (e.1 == i) = false := by simpa using h
      simp only [h1, List.map_cons, List.mem_cons]
      rw [ih]
      constructor
      · exact .inr
      · rintro (rfl | h2)
        · exact absurd rfl h
        · exact h2
theorem keysN_mem {n i : Nat} {ca : List (Nat × Pg)} : i ∈ keysN n ca ↔ i < n ∧ i ∈ ca.map (·.1) := by
  unfold keysN
  rw [List.mem_filter, List.mem_range, hasK_iff]

theorem isort_keys {n : Nat} {ca : List (Nat × Pg)} (hnd : (ca.map (·.1)).Nodup) (hlt : ∀ e ∈ ca, e.1 < n) : isort (ca.map fun e => (e.1 : Int)) = (keysN n ca).map fun i : Nat => (i : Int) := by
  have hp : (keysN n ca).Perm (ca.map (·.1)) := by
    refine (List.perm_ext_iff_of_nodup (List.nodup_range.filter _) hnd).2 fun i => ?_
    show i ∈ keysN n ca ↔ _
    rw [keysN_mem]
    constructor
    · exact fun h => h.2
    · intro h
      obtain ⟨e, he, rfl⟩ := List.mem_map.1 h
      exact ⟨hlt e he, h⟩
  have hq : (isort (ca.map fun e => (e.1 : Int))).Perm ((keysN n ca).map fun i : Nat => (i : Int)) := by
    refine (isort_perm _).trans ?_
    have h2 := (hp.map fun i : Nat => (i : Int)).symm
    rw [List.map_map] at h2
    exact h2
  refine List.Perm.eq_of_pairwise (le := fun a b => a ≤ b) (fun a b _ _ h1 h2 => Int.le_antisymm h1 h2) (isort_sorted _) ?_ hq
  refine List.pairwise_map.2 ?_
  have : (List.range n).Pairwise (· ≤ ·) := List.pairwise_lt_range.imp fun h => Nat.le_of_lt h
  exact (this.filter _).imp fun h => by omega

theorem keysOf_ent : ∀ {ca : List (Nat × Pg)}, (∀ e ∈ ca, e.1 < 1000000) → keysOf (ca.map ent) = some (ca.map fun e => (e.1 : Int))
  | [], h => rfl
  | e :: r, h => by
    have ih := keysOf_ent fun x hx => h x (List.mem_cons_of_mem _ hx)
    have := h e List.mem_cons_self
    rw [List.map_cons]
    unfold ent keysOf
    rw [if_pos (by omega)]
    unfold ent at ih
    rw [ih]; rfl

theorem tear_len {c : Nat} {p q : Pg} (hp : p.length = 64) (hq : q.length = 64) (hc : c ≤ 64) : (tear c p q).length = 64 := by
  unfold tear
  rw [List.length_append, List.length_take, List.length_drop]; omega
theorem tk64 {A B : List V} {k : Nat} (h : A.length = 64) : (A ++ B).take (64 + k) = A ++ B.take k := by
  rw [List.take_append, h, List.take_of_length_le (by omega), Nat.add_sub_cancel_left]
theorem dr64 {A B : List V} {k : Nat} (h : A.length = 64) : (A ++ B).drop (64 + k) = B.drop k := by
  rw [← List.drop_drop, List.drop_left' h]
theorem pgC_set : ∀ {pgs : List Pg} {i : Nat} {q x : Pg}, (∀ p ∈ pgs, p.length = 64) → pgs[i]? = some q → x.length = 64 → pgC (pgs.set i x) = (pgC pgs).take (i * 64) ++ bytesA x ++ (pgC pgs).drop (i * 64 + 64)
  | [], i, q, x, h, hi, hx => by simp at hi
  | p :: r, 0, q, x, h, hi, hx => by
    have hp := h p List.mem_cons_self
    unfold pgC
    rw [List.set_cons_zero, List.flatMap_cons, List.flatMap_cons, Nat.zero_mul, List.take_zero, List.nil_append, Nat.zero_add, List.drop_left' (by rw [bytesA_length, hp])]
  | p :: r, i + 1, q, x, h, hi, hx => by
    have hp := h p List.mem_cons_self
    have ih := pgC_set (fun y hy => h y (List.mem_cons_of_mem _ hy)) (by simpa using hi : r[i]? = some q) hx
    unfold pgC at ih ⊢
    rw [List.set_cons_succ, List.flatMap_cons, List.flatMap_cons, ih]
    have e1 : (i + 1) * 64 = 64 + i * 64 := by omega
    have e2 : 64 + i * 64 + 64 = 64 + (i * 64 + 64) := by omega
    rw [e1, e2, tk64 (by rw [bytesA_length, hp]), dr64 (by rw [bytesA_length, hp]), List.append_assoc, List.append_assoc, List.append_assoc]
/-- A beginning of a page laid over one. -/
theorem pgC_tear {pgs : List Pg} {i c : Nat} {p q : Pg} (h : ∀ p ∈ pgs, p.length = 64) (hi : pgs[i]? = some q) (hp : p.length = 64) (hc : c ≤ 64) : splice (pgC pgs) (i * 64) ((bytesA p).take c) = pgC (pgs.set i (tear c p q)) := by
  have hq := h q (List.mem_of_getElem? hi)
  rw [pgC_set h hi (tear_len hp hq hc)]
  have hat := pgC_at h hi
  have hlen := pgC_len h
  have hil : i < pgs.length := (List.getElem?_eq_some_iff.1 hi).1
  have hkk : (i + 1) * 64 ≤ pgs.length * 64 := Nat.mul_le_mul_right 64 hil
  unfold splice tear
  rw [bytesA_append, ← bytesA_take, ← bytesA_drop, ← hat]
  have l1 : ((bytesA p).take c).length = c := by rw [List.length_take, bytesA_length]; omega
  rw [l1, List.drop_take, List.drop_drop, List.append_assoc, List.append_assoc, List.append_assoc]
  congr 2
  have e1 : List.drop (i * 64 + c) (pgC pgs) = List.take (64 - c) (List.drop (i * 64 + c) (pgC pgs)) ++ List.drop (64 - c) (List.drop (i * 64 + c) (pgC pgs)) := (List.take_append_drop _ _).symm
  rw [e1, List.drop_drop, List.take_append_of_le_length (by rw [List.length_take, List.length_drop]; omega), List.take_of_length_le (l := List.take _ _) (by rw [List.length_take]; omega)]
  congr 2; omega

section
variable {o : List AM.Obj} {e d dd pg lm : Nat} {on down : Bool} {left : Int} {pgs : List Pg} {ca : List (Nat × Pg)}
set_option maxHeartbeats 2000000 in
theorem fuse_q (P : PD o dd pg lm on down left pgs ca) (n : Int) : ∃ v oh, Den FF E2 18 [.ptr dd 0, .int .i64 n] ⟨o, e, d⟩ = some (v, oh) ∧ v = .val (.tuple []) ∧ ∃ o' d', oh.getD ⟨o, e, d⟩ = ⟨o', e, d'⟩ ∧ PD o' dd pg lm (decide (0 ≤ n)) down (if 0 > n then 0 else n) pgs ca ∧ Dx dd pg lm o o' := by
  refine To.denE hxE2 (f := 18) (a := af18) rfl (E2_none rfl) (Nat.le_of_ble_eq_true rfl) ?_
  have hs : ∀ x, (o.set dd x)[dd]? = some x := fun x => List.getElem?_set_self P.ld
  have hld := P.ld
  (repeat' (first | refine To.seq hxE2 ?_ | refine To.op0 hxE2 (by simp only [go_sem, reduceIte, seval, Heap.sets, Nat.add_zero, V.one, Nat.reduceLeDiff, List.all_cons, List.all_nil, ne_eq, not_false_eq_true, Nat.zero_le, P.hd, hs, List.set_set]; rfl) ?_ | refine To.op1 hxE2 (by simp only [go_sem, reduceIte, seval, Heap.sets, V.one, Nat.reduceLeDiff, List.all_cons, List.all_nil, ne_eq, not_false_eq_true, Nat.zero_le, P.hd, hs, List.set_set]; rfl) ?_ | refine To.nop hxE2 ?_ | (refine To.condT hxE2 ?_ ?_; focus (simp only [go_sem, reduceIte, seval]; done))))
  try simp only [andThen, outOf]
  refine ⟨_, _, fin0n rfl, rfl, ?_⟩
  obtain ⟨d2, hlv, _⟩ := leave_same2 (o := o) (o' := o.set dd (.cells .ex 92 0 [.bool (decide (0 ≤ n)), .bool down, .int .i64 (if 0 > n then 0 else n), .slice pg 0 pgs.length 64, .map lm])) (e := e) (d := d) (d' := min (min o.length dd) dd) (v := .tuple []) rfl (by simp) (fun h => by omega)
  exact ⟨_, d2, hlv, P.fuse _ _ _, dx_dd _⟩
end
end Go.Proofs.Ytfbkeieoeagkdaa

/- Disk: Crash as a fact. -/
namespace Go.Proofs.Ytfbkeieoeagkdaa
open Go AM
set_option linter.unusedSimpArgs false
set_option linter.unusedVariables false
set_option maxRecDepth 100000
section
variable {o : List AM.Obj} {e d dd pg lm : Nat} {on down : Bool} {left : Int} {pgs : List Pg} {ca : List (Nat × Pg)}

theorem keys_q : Den FF E2 51 [.map lm] ⟨o, o.length, o.length⟩ = some (.val (.fn 69 [] [.ptr o.length 0]), some ⟨o ++ [.cells .ex 29 0 [.map lm]], o.length, o.length⟩) := by
  refine To.den hxE2 (f := 51) (a := af51) rfl (E2_none rfl) (Nat.le_of_ble_eq_true rfl) ?_
  (repeat' (first | refine To.seq hxE2 ?_ | refine To.op0 hxE2 (by simp only [go_sem, reduceIte, seval]; rfl) ?_ | refine To.op1 hxE2 (by simp only [go_sem, seval]; rfl) ?_ | refine To.nop hxE2 ?_ | refine To.ret hxE2 ?_))
  try simp only [andThen, outOf]
  rw [fin1 (i := 2) rfl, leave_some (by simp only [go_sem, reduceIte, seval])]
  simp only [go_sem, reduceIte, seval]

theorem PD.small (P : PD o dd pg lm on down left pgs ca) (h : pgs.length ≤ 1000000) : ∀ e ∈ ca, e.1 < 1000000 := fun e he => by have := (P.c64 e he).2; omega
theorem PD.calen (P : PD o dd pg lm on down left pgs ca) : ca.length = (keysN pgs.length ca).length := by
  have h := isort_keys P.nd fun e he => (P.c64 e he).2
  have h1 := (isort_perm (ca.map fun e => (e.1 : Int))).length_eq
  rw [h] at h1
  simpa using h1.symm
theorem sorted_nil (P : PD o dd pg lm on down left pgs []) {b t : Nat} {r : List AM.Obj} {e d : Nat} (hb : (o ++ r)[b]? = some (.cells .ex t 0 [.map lm])) :
    Den FF E2 50 [.fn 69 [] [.ptr b 0]] ⟨o ++ r, e, d⟩ = some (.val .nils, none) := by
  refine den_hand rfl rfl (sortedH_of ?_)
  have hm : (o ++ r)[lm]? = some (.map []) := app_old P.hm r
  unfold sortedG
  simp only [hb, hm, keysOf]
  rw [if_pos ⟨rfl, Nat.zero_le _⟩, if_pos trivial]
theorem sorted_some (P : PD o dd pg lm on down left pgs ca) (hs : pgs.length ≤ 1000000) (hc : ca ≠ []) {b t : Nat} {r : List AM.Obj} {e d : Nat} (hb : (o ++ r)[b]? = some (.cells .ex t 0 [.map lm])) :
    Den FF E2 50 [.fn 69 [] [.ptr b 0]] ⟨o ++ r, e, d⟩ = some (.val (.slice (o ++ r).length 0 (keysN pgs.length ca).length 1), some ⟨(o ++ r) ++ [.cells .gr 3 0 ((keysN pgs.length ca).map fun i : Nat => V.int .i64 (i : Int))], e, d⟩) := by
  refine den_hand rfl rfl (sortedH_of ?_)
  have hm : (o ++ r)[lm]? = some (.map (ca.map ent)) := app_old P.hm r
  have hlen : ca.length ≤ 1000000 := by
    rw [P.calen]
    exact Nat.le_trans (List.length_filter_le _ _) (by rw [List.length_range]; exact hs)
  have hne : ¬ (ca.map fun e => (e.1 : Int)) = [] := by simpa using hc
  unfold sortedG
  simp only [hb, hm, keysOf_ent (P.small hs)]
  rw [if_pos ⟨apart_ent P.nd, by rw [List.length_map]; exact hlen⟩, if_neg hne, isort_keys P.nd fun e he => (P.c64 e he).2, List.map_map, List.length_map, P.calen]
  rfl

theorem PD.take (P : PD o dd pg lm on down left pgs ca) {n : Nat} (h1 : dd < n) (h2 : pg < n) (h3 : lm < n) : PD (o.take n) dd pg lm on down left pgs ca :=
  ⟨by rw [List.getElem?_take_of_lt h1]; exact P.hd, by rw [List.getElem?_take_of_lt h2]; exact P.hp, by rw [List.getElem?_take_of_lt h3]; exact P.hm, P.p64, P.c64, P.nd⟩
/-- A page is torn. -/
theorem PD.tearP (P : PD o dd pg lm on down left pgs ca) {i : Nat} {x q : Pg} (hi : pgs[i]? = some q) (hx : x.length = 64) : PD (o.set pg (.cells .ex 31 0 (pgC (pgs.set i x)))) dd pg lm on down left (pgs.set i x) ca :=
  ⟨by rw [List.getElem?_set_ne (Ne.symm P.ne3), List.length_set]; exact P.hd, List.getElem?_set_self P.lp, by rw [List.getElem?_set_ne P.ne2]; exact P.hm, fun p hp => by
    rcases List.mem_or_eq_of_mem_set hp with h | rfl
    · exact P.p64 p h
    · exact hx, fun e he => by rw [List.length_set]; exact P.c64 e he, P.nd⟩

set_option maxHeartbeats 16000000 in
theorem crash_q (P : PD o dd pg lm on down left pgs ca) (hs : pgs.length ≤ 1000000) {v : V} {b : List UInt8} (hB : BArg o v b) (hbm : b.length ≤ 1000000) :
    ∃ r oh, Den FF E2 20 [.ptr dd 0, v] ⟨o, e, d⟩ = some (r, oh) ∧ r = .val (.tuple []) ∧ ∃ o' d', oh.getD ⟨o, e, d⟩ = ⟨o', e, d'⟩ ∧ PD o' dd pg lm false false 0 (crashN ca b 0 (keysN pgs.length ca) pgs) [] ∧ Dx dd pg lm o o' := by
  refine To.denE hxE2 (f := 20) (a := af20) rfl (E2_none rfl) (Nat.le_of_ble_eq_true rfl) ?_
  have hK : (keysN pgs.length ca).length ≤ 1000000 := Nat.le_trans (List.length_filter_le _ _) (by rw [List.length_range]; exact hs)
  have hKm : ∀ i ∈ keysN pgs.length ca, i ∈ ca.map (·.1) := fun i hi => (keysN_mem.1 hi).2
  have hc0 : ca = [] → keysN pgs.length ca = [] := fun h => List.eq_nil_of_length_eq_zero (by rw [← P.calen, h]; rfl)
  have hld := P.ld
  have hlp := P.lp
  have hll := P.ll
  have qk := keys_q (o := o) (lm := lm)
  have qs : ∃ kv kr, Den FF E2 50 [.fn 69 [] [.ptr o.length 0]] ⟨o ++ [.cells .ex 29 0 [.map lm]], o.length, o.length⟩ = some (.val kv, kr) ∧ (∃ r, kr.getD ⟨o ++ [.cells .ex 29 0 [.map lm]], o.length, o.length⟩ = ⟨o ++ r, o.length, o.length⟩ ∧
      (keysN pgs.length ca ≠ [] → kv = .slice (o.length + 1) 0 (keysN pgs.length ca).length 1 ∧ (o ++ r)[o.length + 1]? = some (.cells .gr 3 0 ((keysN pgs.length ca).map fun i : Nat => V.int .i64 (i : Int))))) ∧ lenLV kv = some (.int .i64 ((keysN pgs.length ca).length : Int), none) := by
    by_cases hc : ca = []
    · subst hc
      refine ⟨_, _, sorted_nil P (app_get0 _ _ _), ⟨_, rfl, fun h => absurd (hc0 rfl) h⟩, ?_⟩
      rw [hc0 rfl]; rfl
    · refine ⟨_, _, sorted_some P hs hc (app_get0 _ _ _), ⟨_, by rw [List.append_assoc]; rfl, fun _ => ⟨by simp, ?_⟩⟩, rfl⟩
      exact app_getk _ _ 1
  obtain ⟨kv, kr, qs, ⟨r, hr, hkv⟩, hkl⟩ := qs
  have Pr := P.app r
  (repeat' (first | refine To.seq hxE2 ?_ | refine To.op0 hxE2 (by simp only [go_sem, reduceIte, seval, Heap.get, P.hd, qk]; rfl) ?_ | refine To.op1 hxE2 (by simp only [go_sem, reduceIte, seval, qk]; rfl) ?_ | refine To.nop hxE2 ?_ | (refine To.condF hxE2 ?_ ?_; focus (simp only [go_sem, reduceIte, seval]; done)) | refine To.skip hxE2 ?_))
  refine To.op hxE2 (by simp only [go_sem, reduceIte, seval, qs]; rfl) ?_
  rw [hr]
  (repeat' (first | refine To.op0 hxE2 (by simp only [go_sem, reduceIte, seval, hkl]; rfl) ?_ | refine To.nop hxE2 ?_ | refine To.block hxE2 ?_))
  generalize hKe : keysN pgs.length ca = K at *
  have hold : ∀ l, l < o.length → (o ++ r)[l]? = o[l]? := fun l hl => List.getElem?_append_left hl
  have hro : o.length ≤ (o ++ r).length := by simp
  generalize o ++ r = oo at *
  refine To.loop hxE2 (fun m S h' => ∃ (j : Nat) (oo : List AM.Obj) (d' : Nat) (pg' : List Pg), j + m = K.length ∧ h' = ⟨oo, o.length, d'⟩ ∧ PD oo dd pg lm on down left pg' ca ∧ o.length ≤ oo.length ∧ (∀ l, l < o.length → l ≠ dd → l ≠ pg → l ≠ lm → oo[l]? = o[l]?) ∧
    (K ≠ [] → oo[o.length + 1]? = some (.cells .gr 3 0 (K.map fun i : Nat => V.int .i64 (i : Int)))) ∧ crashN ca b j (K.drop j) pg' = crashN ca b 0 K pgs ∧ S 0 = .ptr dd 0 ∧ S 1 = v ∧ S 14 = kv ∧ S 15 = .int .i64 (K.length : Int) ∧ S 16 = .int .i64 (j : Int)) ?_ K.length _ _ ?_
  · rintro m S _ ⟨j, oo, d', pg', hm, rfl, P', hle', hold', hrow, hcr, s0, s1, s14, s15, s16⟩
    by_cases hj : j < K.length
    · have hlt : decide ((j : Int) < (K.length : Int)) = true := decide_eq_true (by omega)
      have hK0 : K ≠ [] := by rintro rfl; simp at hj
      obtain ⟨rfl, _⟩ := hkv hK0
      have hrow := hrow hK0
      have hKj : K[j]? = some K[j] := List.getElem?_eq_getElem hj
      have hdrop : K.drop j = K[j] :: K.drop (j + 1) := List.drop_eq_getElem_cons hj
      have hmem := hKm _ (List.getElem_mem hj)
      generalize K[j] = i at hKj hdrop hmem
      obtain ⟨en, hen, rfl⟩ := List.mem_map.1 hmem
      have hil := (P'.c64 en hen).2
      have hfi : ∃ p, findC en.1 ca = some p ∧ p.length = 64 := by
        have h1 := (hasK_iff (i := en.1) (ca := ca)).2 hmem
        unfold hasK at h1
        cases hf : findC en.1 ca with
        | none => rw [hf] at h1; cases h1
        | some p =>
          refine ⟨p, rfl, ?_⟩
          unfold findC at hf
          obtain ⟨x, hx, rfl⟩ := Option.map_eq_some_iff.1 hf
          exact (P'.c64 x (List.mem_of_find?_eq_some hx)).1
      obtain ⟨p, hfp, hp64⟩ := hfi
      generalize en.1 = i at *
      have ix : idxOf K.length (.int .i64 (j : Int)) = some j := idxOf_nat hj
      have hkj : (K.map fun i : Nat => V.int .i64 (i : Int))[j]? = some (.int .i64 (i : Int)) := by rw [List.getElem?_map, hKj]; rfl
      have wj : IntKind.i64.wrap ((j : Int) + 1) = ((j + 1 : Nat) : Int) := by rw [wrap_i64 (by omega) (by omega)]; omega
      have hbl := hB.len
      rw [hdrop] at hcr
      (repeat' (first | refine To.seq hxE2 ?_ | refine To.op0 hxE2 (by simp only [go_sem, reduceIte, seval, Heap.get, s1, s14, s15, s16, hlt, ix, hrow, hkj, hbl]; rfl) ?_ | refine To.nop hxE2 ?_ | (refine To.condT hxE2 ?_ ?_; focus (simp only [go_sem, reduceIte, seval]; done)) | refine To.block hxE2 ?_ | refine To.skip hxE2 ?_))
      simp only [andThen]
      by_cases hjb : j < b.length
      · have d24 : decide ((j : Int) < (b.length : Int)) = true := decide_eq_true (by omega)
        obtain ⟨x, hx⟩ : ∃ x, b[j]? = some x := ⟨b[j], List.getElem?_eq_getElem hjb⟩
        have hb0 : b ≠ [] := by rintro rfl; simp at hjb
        obtain ⟨lb, tb, rfl, hlb⟩ := hB.at_ hb0
        have hlb' : oo[lb]? = some (.cells .ro tb 0 (bytesA b)) := by
          rw [hold' lb (get_lt hlb) (by rintro rfl; rw [P.hd] at hlb; cases hlb) (by rintro rfl; rw [P.hp] at hlb; cases hlb) (by rintro rfl; rw [P.hm] at hlb; cases hlb)]
          exact hlb
        have hq : pg'[i]? = some pg'[i] := List.getElem?_eq_getElem hil
        have hq64 := P'.p64 _ (List.getElem_mem hil)
        have hqd : pg'.getD i (zs 64) = pg'[i] := by rw [List.getD_eq_getElem?_getD, hq]; rfl
        generalize pg'[i] = q at hq hq64 hqd
        have hc65 : x.toNat % 65 < 65 := Nat.mod_lt _ (by decide)
        have hcr' : crashN ca b (j + 1) (K.drop (j + 1)) (pg'.set i (tear (x.toNat % 65) p q)) = crashN ca b 0 K pgs := by
          rw [← hcr, crashN, hx, hfp, hqd]; rfl
        have hxl : x.toNat < 256 := x.toNat_lt
        have w1 : IntKind.i64.wrap (x.toNat : Int) = (x.toNat : Int) := wrap_i64 (by omega) (by omega)
        have m1 : Int.tmod (x.toNat : Int) 65 = ((x.toNat % 65 : Nat) : Int) := by rw [Int.tmod_eq_emod_of_nonneg (by omega)]; omega
        generalize x.toNat % 65 = c at *
        have ixb : idxOf b.length (.int .i64 (j : Int)) = some j := idxOf_nat hjb
        have ixp : idxOf pg'.length (.int .i64 (i : Int)) = some i := idxOf_nat hil
        have hbx : (bytesA b)[j]? = some (.int .u8 (x.toNat : Int)) := by rw [bytesA_get, hx]; rfl
        have hpl := pgC_len P'.p64
        have hkk : (i + 1) * 64 ≤ pg'.length * 64 := Nat.mul_le_mul_right 64 hil
        have hle2 : i * 64 + 64 ≤ (pgC pg').length := by omega
        have hle3 : i * 64 + c ≤ (pgC pg').length := by omega
        have hl1 : (List.take c (bytesA p)).length = c := by rw [List.length_take, bytesA_length]; omega
        have ho1 : (List.take c (bytesA p)).all V.one = true := by rw [bytesA_take]; exact bytesA_one _
        have hp1 : V.plains (List.take c (bytesA p)) = true := by rw [bytesA_take]; exact bytesA_plains _
        have hmin : min 64 c = c := Nat.min_eq_right (by omega)
        have hbd : boundsA 64 64 none (some (.int .i64 (c : Int))) = some (0, c) := by
          simp only [boundsA, hiB, loB]
          rw [if_pos (by omega)]
          simp
        have hbd2 : boundsA 64 64 none none = some (0, 64) := rfl
        have hsp : List.take (i * 64) (pgC pg') ++ (List.take c (bytesA p) ++ List.drop (i * 64 + c) (pgC pg')) = pgC (pg'.set i (tear c p q)) := by
          have := pgC_tear P'.p64 hq hp64 (by omega : c ≤ 64)
          unfold splice at this
          rw [hl1, List.append_assoc] at this
          exact this
        have gd : ∀ r, (oo ++ r)[dd]? = some (.cells .ex 92 0 [.bool on, .bool down, .int .i64 left, .slice pg 0 pg'.length 64, .map lm]) := fun r => app_old P'.hd r
        have gp : ∀ r, (oo ++ r)[pg]? = some (.cells .ex 31 0 (pgC pg')) := fun r => app_old P'.hp r
        have gb : ∀ r, (oo ++ r)[lb]? = some (.cells .ro tb 0 (bytesA b)) := fun r => app_old hlb' r
        have hst : ∀ r x, (oo ++ r).set pg x = oo.set pg x ++ r := fun r x => set_app _ _ _ P'.lp
        have hkey : V.key .i (.int .i64 (i : Int)) = true := rfl
        have hmf := mapFind_ent i ca P'.nd
        rw [hfp, Option.map_some] at hmf
        have hgets : ∀ e d, (⟨oo ++ [.cells .ex 31 0 (bytesA p)], e, d⟩ : Heap).gets oo.length 0 c = some (List.take c (bytesA p)) := fun e d => by
          simp only [Heap.gets, app_get0]
          split
          · rename_i h; rw [h]; rfl
          · rw [if_pos (by rw [bytesA_length]; omega), List.drop_zero]
        have hdr : List.drop 64 z64 = [] := rfl
        have htl : K ≠ [] := hK0
        have hx64 : (tear c p q).length = 64 := tear_len hp64 hq64 (by omega)
        by_cases hone : i * 64 = 0 ∧ (pgC pg').length = 64
        · have hT : (i * 64 = 0 ∧ (pgC pg').length = 64) = True := eq_true hone
          have hsp0 : List.take c (bytesA p) ++ List.drop c (pgC pg') = pgC (pg'.set i (tear c p q)) := by
            rw [hone.1, List.take_zero, List.nil_append, Nat.zero_add] at hsp
            exact hsp
          have hlec : c ≤ (pgC pg').length := by omega
          (repeat' (first | refine To.seq hxE2 ?_ | refine To.op0 hxE2 (by simp only [go_sem, reduceIte, seval, Heap.sets, Heap.get, bytesA_length, bytesA_one, bytesA_plains, ne_eq, not_false_eq_true, Nat.zero_le, s0, s16, d24, P'.hd, P'.hm, hkey, hmf, hdr, hp64, z64_len, wj]; rfl) ?_ | refine To.op1 hxE2 (by simp only [go_sem, reduceIte, seval, Heap.sets, bytesA_length, bytesA_one, bytesA_plains, ne_eq, not_false_eq_true, Nat.zero_le, hdr, hp64, z64_len]; rfl) ?_ | refine To.nop hxE2 ?_ | (refine To.condT hxE2 ?_ ?_; focus (simp only [go_sem, reduceIte, seval, d24]; done)) | refine To.draw0 hxE2 ?_ | refine ToD.op0 (by simp only [go_sem, reduceIte, seval, Heap.sets, Heap.get, bytesA_length, Nat.add_zero, List.all_nil, ne_eq, not_false_eq_true, Nat.zero_le, s0, s1, gd, gp, gb, ixb, ixp, hbx, w1, m1, hT, hsp0, hlec, hbd, hbd2, hgets, hmin, hl1, ho1, hp1, hst, hp64]; rfl) (by simp only [put_some]; rfl) ?_ | refine ToD.op1 (by simp only [go_sem, reduceIte, seval, Heap.sets, List.all_nil, ne_eq, not_false_eq_true, Nat.zero_le, gp, hsp0, hlec, hgets, hmin, hl1, ho1, hp1, hst]; rfl) (by simp only [put_some]; rfl) (by simp only [KD.app, go_sem, seval]; rfl) ?_ | refine ToD.nop ?_))
          simp only [andThen]
          refine ⟨m - 1, by omega, j + 1, _, _, pg'.set i (tear c p q), by omega, rfl, (P'.tearP hq hx64).app _, by simp; omega, fun l hl a b' c' => ?_, fun _ => ?_, hcr', ?_⟩
          · rw [List.getElem?_append_left (by simp; omega), List.getElem?_set_ne (Ne.symm b')]; exact hold' l hl a b' c'
          · exact app_old (by rw [List.getElem?_set_ne (by omega)]; exact hrow) _
          · simp only [go_sem, reduceIte, seval, s0, s1, s14, s15]
        · have hf : (i * 64 = 0 ∧ (pgC pg').length = 64) = False := eq_false hone
          (repeat' (first | refine To.seq hxE2 ?_ | refine To.op0 hxE2 (by simp only [go_sem, reduceIte, seval, Heap.sets, Heap.get, bytesA_length, bytesA_one, bytesA_plains, ne_eq, not_false_eq_true, Nat.zero_le, s0, s16, d24, P'.hd, P'.hm, hkey, hmf, hdr, hp64, z64_len, wj]; rfl) ?_ | refine To.op1 hxE2 (by simp only [go_sem, reduceIte, seval, Heap.sets, bytesA_length, bytesA_one, bytesA_plains, ne_eq, not_false_eq_true, Nat.zero_le, hdr, hp64, z64_len]; rfl) ?_ | refine To.nop hxE2 ?_ | (refine To.condT hxE2 ?_ ?_; focus (simp only [go_sem, reduceIte, seval, d24]; done)) | refine To.draw0 hxE2 ?_ | refine ToD.op0 (by simp only [go_sem, reduceIte, seval, Heap.sets, Heap.get, bytesA_length, Nat.add_zero, List.all_nil, ne_eq, not_false_eq_true, Nat.zero_le, s0, s1, gd, gp, gb, ixb, ixp, hbx, w1, m1, hf, hle2, hbd, hbd2, hgets, hmin, hl1, ho1, hp1, hle3, hsp, hst, hp64]; rfl) (by simp only [put_some]; rfl) ?_ | refine ToD.op1 (by simp only [go_sem, reduceIte, seval, Heap.sets, List.all_nil, ne_eq, not_false_eq_true, Nat.zero_le, gp, hgets, hmin, hl1, ho1, hp1, hle3, hsp, hst]; rfl) (by simp only [put_some]; rfl) (by simp only [KD.app, go_sem, seval]; rfl) ?_ | refine ToD.nop ?_))
          simp only [andThen]
          refine ⟨m - 1, by omega, j + 1, _, _, pg'.set i (tear c p q), by omega, rfl, (P'.tearP hq hx64).app _, by simp; omega, fun l hl a b' c' => ?_, fun _ => ?_, hcr', ?_⟩
          · rw [List.getElem?_append_left (by simp; omega), List.getElem?_set_ne (Ne.symm b')]; exact hold' l hl a b' c'
          · exact app_old (by rw [List.getElem?_set_ne (by omega)]; exact hrow) _
          · simp only [go_sem, reduceIte, seval, s0, s1, s14, s15]
      · have d24 : decide ((j : Int) < (b.length : Int)) = false := decide_eq_false (by omega)
        have hbn : b[j]? = none := List.getElem?_eq_none (by omega)
        (repeat' (first | refine To.op0 hxE2 (by simp only [go_sem, reduceIte, seval, s16, d24, wj]; rfl) ?_ | refine To.nop hxE2 ?_ | (refine To.condF hxE2 ?_ ?_; focus (simp only [go_sem, reduceIte, seval, d24]; done)) | refine To.skip hxE2 ?_))
        simp only [andThen]
        refine ⟨m - 1, by omega, j + 1, oo, d', pg', by omega, rfl, P', hle', hold', fun _ => hrow, ?_, ?_⟩
        · rw [← hcr, crashN, hbn]
        · simp only [go_sem, reduceIte, seval, s0, s1, s14, s15]
    · have hlt : decide ((j : Int) < (K.length : Int)) = false := decide_eq_false (by omega)
      have hjK : K.drop j = [] := List.drop_eq_nil_of_le (by omega)
      rw [hjK, crashN] at hcr
      subst hcr
      have hd2 : (oo.set lm (.map []))[dd]? = some (.cells .ex 92 0 [.bool on, .bool down, .int .i64 left, .slice pg 0 (crashN ca b 0 K pgs).length 64, .map lm]) := by rw [List.getElem?_set_ne (Ne.symm P'.ne1)]; exact P'.hd
      (repeat' (first | refine To.seq hxE2 ?_ | refine To.op0 hxE2 (by simp only [go_sem, reduceIte, seval, Heap.sets, Heap.get, Nat.add_zero, V.one, Nat.reduceLeDiff, List.all_cons, List.all_nil, ne_eq, not_false_eq_true, Nat.zero_le, s0, s15, s16, hlt, P'.hd, P'.hm, hd2, Heap.setMap]; rfl) ?_ | refine To.op1 hxE2 (by simp only [go_sem, reduceIte, seval, Heap.sets, V.one, Nat.reduceLeDiff, List.all_cons, List.all_nil, ne_eq, not_false_eq_true, Nat.zero_le, P'.hm, hd2, Heap.setMap]; rfl) ?_ | refine To.nop hxE2 ?_ | (refine To.condF hxE2 ?_ ?_; focus (simp only [go_sem, reduceIte, seval]; done)) | refine To.exit hxE2 ?_))
      try simp only [andThen, outOf]
      refine ⟨_, _, fin0n rfl, rfl, ?_⟩
      have PX : PD ((oo.set lm (.map [])).set dd (.cells .ex 92 0 [.bool false, .bool false, .int .i64 0, .slice pg 0 (crashN ca b 0 K pgs).length 64, .map lm])) dd pg lm false false 0 (crashN ca b 0 K pgs) [] := by
        have Pm : PD (oo.set lm (.map [])) dd pg lm on down left (crashN ca b 0 K pgs) [] := ⟨hd2, by rw [List.getElem?_set_ne (Ne.symm P'.ne2)]; exact P'.hp, List.getElem?_set_self P'.ll, P'.p64, by simp, by simp⟩
        exact Pm.fuse _ _ _
      refine ⟨_, min d (min (min d' lm) dd), ?_, PX.take hld hlp hll, ?_⟩
      · unfold leave
        simp only
        rw [if_pos ⟨Nat.le_refl _, rfl⟩, if_neg (by omega)]
        rfl
      · refine ⟨by rw [List.length_take, List.length_set, List.length_set]; omega, fun l a b' c' => ?_⟩
        by_cases hl : l < o.length
        · rw [List.getElem?_take_of_lt hl, List.getElem?_set_ne (Ne.symm a), List.getElem?_set_ne (Ne.symm c')]
          exact hold' l hl a b' c'
        · rw [List.getElem?_eq_none (by rw [List.length_take]; omega), List.getElem?_eq_none (by omega)]
  · refine ⟨0, oo, _, pgs, by omega, rfl, Pr, hro, fun l hl _ _ _ => hold l hl, fun h => (hkv h).2, rfl, ?_⟩
    simp only [go_sem, reduceIte, seval, initS]
end
end Go.Proofs.Ytfbkeieoeagkdaa

/- Disk: scripts, as they come in. -/
namespace Go.Proofs.Ytfbkeieoeagkdaa
open Go AM
set_option linter.unusedSimpArgs false
set_option linter.unusedVariables false
set_option maxRecDepth 100000

structure Op3 where
  K : Int
  N : Int
  p : Pg
  L : V
  b : List UInt8
def Op3.cs (x : Op3) : List V := .int .i64 x.K :: .int .i64 x.N :: (bytesA x.p ++ [x.L])
structure Op3.fits (o : List AM.Obj) (x : Op3) : Prop where
  p64 : x.p.length = 64
  arg : BArg o x.L x.b
  max : x.b.length ≤ maxLen
  one : x.L.one = true
  nmax : x.N < 2 ^ 63
structure OArg (o : List AM.Obj) (v : V) (xs : List Op3) : Prop where
  len : lenLV v = some (.int .i64 (xs.length : Int), none)
  at_ : xs ≠ [] → ∃ l t, v = .slice l 0 xs.length 67 ∧ o[l]? = some (.cells .ro t 0 (xs.map Op3.cs).flatten)
  fits : ∀ x ∈ xs, x.fits o
  max : xs.length ≤ maxLen
abbrev Op3Ty : Ty := .struct [.int .i64, .int .i64, .arr 64 (.int .u8), .slice (.int .u8)]
theorem op3_of {o : List AM.Obj} {x : List V} (h : Ty.has o Op3Ty x) : ∃ y : Op3, x = y.cs ∧ y.fits o := by
  obtain ⟨c0, x0, rfl, ⟨K, rfl, _⟩, c1, x1, rfl, ⟨N, rfl, _, hN⟩, c2, x2, rfl, hp, c3, x3, rfl, hL, rfl⟩ := h
  obtain ⟨p, rfl, hp64⟩ := has_bytes hp
  have hN : N < 2 ^ 63 := by
    have e : IntKind.i64.max = 9223372036854775807 := rfl
    omega
  rcases hL with h | ⟨a, h⟩ | ⟨l, n, h, hn, u, xs, h1, h2, h3⟩
  · subst h
    exact ⟨⟨K, N, p, .nils, []⟩, by simp [Op3.cs], hp64, ⟨rfl, fun h => absurd rfl h⟩, Nat.zero_le _, rfl, hN⟩
  · subst h
    exact ⟨⟨K, N, p, .zsl a, []⟩, by simp [Op3.cs], hp64, ⟨rfl, fun h => absurd rfl h⟩, Nat.zero_le _, rfl, hN⟩
  · subst h
    obtain ⟨b, hb, hbl⟩ := has_u8 h3
    rw [hb] at h1
    subst h2
    rw [← hbl] at hn ⊢
    exact ⟨⟨K, N, p, .slice l 0 b.length 1, b⟩, by simp [Op3.cs, Ty.size], hp64, ⟨rfl, fun _ => ⟨l, u, rfl, h1⟩⟩, hn, rfl, hN⟩
theorem ops3_of {o : List AM.Obj} : ∀ {xs : List (List V)}, (∀ x ∈ xs, Ty.has o Op3Ty x) → ∃ l : List Op3, xs = l.map Op3.cs ∧ ∀ y ∈ l, y.fits o
  | [], _ => ⟨[], rfl, by simp⟩
  | a :: r, h => by
    obtain ⟨l, hl, hf⟩ := ops3_of (xs := r) fun x hx => h x (List.mem_cons_of_mem _ hx)
    obtain ⟨y, rfl, hy⟩ := op3_of (h a List.mem_cons_self)
    refine ⟨y :: l, by rw [hl]; rfl, fun z hz => ?_⟩
    rcases List.mem_cons.1 hz with rfl | hz
    · exact hy
    · exact hf z hz
theorem oarg_of {o : List AM.Obj} {v : V} (h : Ty.arg o (.slice Op3Ty) v) : ∃ xs, OArg o v xs := by
  rcases arg_slice h with rfl | ⟨a, rfl⟩ | ⟨l, n, rfl, hn, u, xs, q1, q2, q3⟩
  · exact ⟨[], rfl, fun h => absurd rfl h, by simp, Nat.zero_le _⟩
  · exact ⟨[], rfl, fun h => absurd rfl h, by simp, Nat.zero_le _⟩
  · obtain ⟨k, rfl, k1⟩ := ops3_of q3
    rw [List.length_map] at q2
    subst q2
    exact ⟨k, rfl, fun _ => ⟨l, u, rfl, q1⟩, k1, hn⟩
theorem op3_len {x : Op3} (h : x.p.length = 64) : x.cs.length = 67 := by
  simp only [Op3.cs, List.length_cons, List.length_append, List.length_nil, bytesA_length]
  omega
theorem BArg.of {o o' : List AM.Obj} {v : V} {b : List UInt8} (h : BArg o v b) (hk : ∀ l, l < o.length → o'[l]? = o[l]?) : BArg o' v b :=
  ⟨h.len, fun hb => by obtain ⟨l, t, hv, hl⟩ := h.at_ hb; exact ⟨l, t, hv, (hk l (get_lt hl)).trans hl⟩⟩
end Go.Proofs.Ytfbkeieoeagkdaa

/- Disk: what a crash leaves, page by page. -/
namespace Go.Proofs.Ytfbkeieoeagkdaa
open Go AM
set_option linter.unusedSimpArgs false
set_option linter.unusedVariables false

/-- The pages that a crash has turned. -/
def tornL (R pgs : List Pg) (n : Nat) : List Nat := (List.range n).filter fun j => R[j]? != pgs[j]?
end Go.Proofs.Ytfbkeieoeagkdaa

/- Disk: helps for the laws over scripts. -/
namespace Go.Proofs.Ytfbkeieoeagkdaa
open Go AM
set_option linter.unusedSimpArgs false
set_option linter.unusedVariables false
set_option maxRecDepth 100000
section
variable {o : List AM.Obj} {e d dd pg lm : Nat} {on down : Bool} {left : Int} {pgs : List Pg} {ca : List (Nat × Pg)}
end
theorem op3_one {x : Op3} (h : x.L.one = true) : x.cs.all V.one = true := by
  have e : x.cs = .int .i64 x.K :: .int .i64 x.N :: (bytesA x.p ++ [x.L]) := rfl
  rw [e, List.all_cons, List.all_cons, List.all_append, bytesA_one, List.all_cons, h]
  rfl
theorem gen_ed {c : AC} {S : Nat → V} {o : List AM.Obj} {e d : Nat} {Q : Ex → (Nat → V) → Heap → Prop} (h : ∀ e1 d1, To FF E2 c S ⟨o, e1, d1⟩ Q) : To FF E2 c S ⟨o, e, d⟩ Q := h e d
/-- A page laid into an array of pages. -/
theorem splice_pg {pgs : List Pg} {i : Nat} {p : Pg} (h : ∀ p ∈ pgs, p.length = 64) (hi : i < pgs.length) (hp : p.length = 64) : List.take (i * 64) (pgC pgs) ++ (bytesA p ++ List.drop (i * 64 + 64) (pgC pgs)) = pgC (pgs.set i p) := by
  rw [pgC_set h (List.getElem?_eq_getElem hi) hp, List.append_assoc]
theorem readP_64 {o : List AM.Obj} {dd pg lm : Nat} {on down : Bool} {left : Int} {pgs : List Pg} {ca : List (Nat × Pg)} (P : PD o dd pg lm on down left pgs ca) (i : Nat) (hi : i < pgs.length) : (readP down pgs ca (i : Int)).length = 64 := by
  unfold readP
  split
  · rw [Int.toNat_natCast]
    cases hf : findC i ca with
    | some q =>
      obtain ⟨x, hx, rfl⟩ := Option.map_eq_some_iff.1 hf
      exact (P.c64 x (List.mem_of_find?_eq_some hx)).1
    | none =>
      rw [Option.getD_none, List.getD_eq_getElem?_getD, List.getElem?_eq_getElem hi]
      exact P.p64 _ (List.getElem_mem hi)
  · rfl
theorem eqKs_bytes : ∀ (a b : List UInt8), a.length = b.length → eqKs (List.replicate a.length .i) (bytesA a) (bytesA b) = some (a == b)
  | [], [], _ => rfl
  | x :: a, y :: b, h => by
    have ih := eqKs_bytes a b (by simpa using h)
    have e1 : bytesA (x :: a) = .int .u8 (x.toNat : Int) :: bytesA a := rfl
    have e2 : bytesA (y :: b) = .int .u8 (y.toNat : Int) :: bytesA b := rfl
    rw [e1, e2, List.length_cons, List.replicate_succ]
    simp only [eqKs, eqK, if_true, ih]
    congr 1
    rw [Bool.eq_iff_iff, Bool.and_eq_true, beq_iff_eq, beq_iff_eq, beq_iff_eq, List.cons.injEq, Int.ofNat_inj, UInt8.toNat_inj]
theorem eqB64 {a b : Pg} (ha : a.length = 64) (hb : b.length = 64) : eqKs (kdsOf [(64, .i)]) (bytesA a) (bytesA b) = some (a == b) := by
  have : kdsOf [(64, Kd.i)] = List.replicate 64 .i := rfl
  rw [this, ← ha]
  exact eqKs_bytes a b (by omega)
theorem opz_drop : List.drop 67 opz = [] := rfl
theorem opz_len : opz.length = 67 := rfl

end Go.Proofs.Ytfbkeieoeagkdaa

/- Helps for more than one chain. -/
namespace Go.Proofs.Ytfbkeieoeagkdaa
open Go AM
set_option linter.unusedSimpArgs false
set_option linter.unusedVariables false
set_option maxRecDepth 100000

theorem ty_ne {o : List AM.Obj} {a b : Nat} {t u : Nat} {c c' : List V} (h1 : o[a]? = some (.cells .ex t 0 c)) (h2 : o[b]? = some (.cells .ex u 0 c')) (hne : t ≠ u) : a ≠ b := by
  rintro rfl
  rw [h1] at h2
  simp only [Option.some.injEq] at h2
  injection h2 with _ h
  exact hne h
theorem set_same {α : Type} {l : List α} {i : Nat} {x : α} (h : l[i]? = some x) : l.set i x = l := by
  apply List.ext_getElem?
  intro j
  by_cases hj : i = j
  · subst hj; rw [List.getElem?_set_self (List.getElem?_eq_some_iff.1 h).1, h]
  · rw [List.getElem?_set_ne hj]
theorem bytesA_set (p : Pg) (b : Nat) (x : UInt8) : bytesA (p.set b x) = (bytesA p).set b (.int .u8 (x.toNat : Int)) := by unfold bytesA; rw [List.map_set]
theorem ne_map {o : List AM.Obj} {a b : Nat} {t : Nat} {c : List V} {es : List (V × V)} (h1 : o[a]? = some (.cells .ex t 0 c)) (h2 : o[b]? = some (.map es)) : a ≠ b := by
  rintro rfl
  rw [h1] at h2
  cases h2
theorem findC_putC {k i : Nat} {p : Pg} : ∀ {ca : List (Nat × Pg)}, findC i (putC k p ca) = if i = k then some p else findC i ca
  | [] => by
    unfold putC findC
    by_cases h : i = k
    · subst h; simp
    · have h1 : (k == i) = false := by simpa using Ne.symm h
      simp [h1, h]
  | e :: r => by
    have ih := findC_putC (k := k) (i := i) (p := p) (ca := r)
    unfold putC
    by_cases hk : k = e.1
    · rw [if_pos hk]
      by_cases h : i = k
      · subst h; simp [findC]
      · have h1 : (k == i) = false := by simpa using Ne.symm h
        have h2 : (e.1 == i) = false := by rw [← hk]; exact h1
        rw [if_neg h]
        simp [findC, h1, h2]
    · rw [if_neg hk]
      unfold findC at ih ⊢
      rw [List.find?_cons, List.find?_cons]
      by_cases h : e.1 = i
      · have h1 : (e.1 == i) = true := by simpa using h
        have h2 : i ≠ k := by rintro rfl; exact hk h.symm
        simp [h1, h2]
      · have h1 : (e.1 == i) = false := by simpa using h
        simp only [h1]
        exact ih
theorem BArg.keep {o o' : List AM.Obj} {v : V} {b : List UInt8} (h : BArg o v b) (hk : ∀ (l t : Nat) (c : List V), o[l]? = some (AM.Obj.cells .ro t 0 c) → o'[l]? = some (AM.Obj.cells .ro t 0 c)) : BArg o' v b :=
  ⟨h.len, fun hb => by obtain ⟨l, t, hv, hl⟩ := h.at_ hb; exact ⟨l, t, hv, hk _ _ _ hl⟩⟩
theorem beqs_bytes : ∀ p : List UInt8, V.beqs (bytesA p) (bytesA p) = true
  | [] => rfl
  | b :: r => by
    have e : bytesA (b :: r) = .int .u8 (b.toNat : Int) :: bytesA r := rfl
    rw [e]
    simp [V.beqs, V.beq, beqs_bytes r]
section
variable {F : Nat → Option AF} {ext : ExtF}
theorem ToD.quiet {N : Nat} {x : DO} {l : List DO} {S : Nat → V} {h : Heap} {v : V} {Q : (Nat → V) → Heap → Prop} (hw : wantedA S x.o.g = true) (hp : x.pl = none) (he : stepA (Den F ext) x.o.op S h = some (.val v, none)) (hk : ToD F ext N 0 l (putO S x.o.d v) h Q) : ToD F ext N 0 (x :: l) S h Q := by
  refine ToD.op (k := .q) ?_ hk
  simp only [outD, hw, if_true, hp, he, true_or]
theorem ToD.callD {N : Nat} {x : DO} {l : List DO} {S : Nat → V} {h h' : Heap} {v : V} {oh : Option Heap} {Q : (Nat → V) → Heap → Prop} (hw : wantedA S x.o.g = true) (hp : x.pl = none) (hc : x.o.op.cls = 2) (he : stepA (Den F ext) x.o.op S h = some (.val v, oh)) (hh : oh.getD h = h') (hr : x.rc.all (lookA (Den F ext) S h') = true) (hk : ToD F ext N 0 l (putO S x.o.d v) h' Q) : ToD F ext N 0 (x :: l) S h Q := by
  cases oh with
  | none =>
    simp only [Option.getD_none] at hh
    subst hh
    exact ToD.quiet hw hp he hk
  | some h2 =>
    simp only [Option.getD_some] at hh
    subst hh
    refine ToD.op (k := .c h2) ?_ hk
    simp only [outD, hw, if_true, hp, he, hc, hr, true_or, and_self]
end
end Go.Proofs.Ytfbkeieoeagkdaa

/- Journal: numbers in pages. -/
namespace Go.Proofs.Ytfbkeieoeagkdaa
open Go AM
set_option linter.unusedSimpArgs false
set_option linter.unusedVariables false
set_option maxRecDepth 100000

/-- The byte of a number at a place, from the right. -/
def byteI (n : Int) (i : Nat) : UInt8 := UInt8.ofNat (n / 2 ^ (8 * i) % 256).toNat
/-- A page with the last bytes of a number laid in. -/
def setK (p : Pg) (at_ sz : Nat) (n : Int) : Nat → Pg
  | 0 => p
  | i + 1 => (setK p at_ sz n i).set (at_ + sz - 1 - i) (byteI n i)
/-- The first bytes as a number. -/
def getK (p : Pg) (at_ : Nat) : Nat → Nat
  | 0 => 0
  | i + 1 => getK p at_ i * 256 + (p.getD (at_ + i) 0).toNat
theorem setK_len (p : Pg) (at_ sz : Nat) (n : Int) : ∀ i, (setK p at_ sz n i).length = p.length
  | 0 => rfl
  | i + 1 => by rw [setK, List.length_set, setK_len p at_ sz n i]
theorem getK_lt (p : Pg) (at_ : Nat) : ∀ i, getK p at_ i < 256 ^ i
  | 0 => by simp [getK]
  | i + 1 => by
    have ih := getK_lt p at_ i
    have := (p.getD (at_ + i) 0).toNat_lt
    rw [getK, Nat.pow_succ]
    omega
theorem byteI_nat (n : Int) (i : Nat) : ((byteI n i).toNat : Int) = n / 2 ^ (8 * i) % 256 := by
  unfold byteI
  generalize n / 2 ^ (8 * i) = x
  have h0 := Int.emod_nonneg x (by decide : (256 : Int) ≠ 0)
  have h1 := Int.emod_lt_of_pos x (by decide : (0 : Int) < 256)
  rw [UInt8.toNat_ofNat']
  omega
theorem byteI_wrap (n : Int) (i : Nat) : IntKind.u8.wrap (n.fdiv (2 ^ (8 * i))) = ((byteI n i).toNat : Int) := by
  have h1 : n.fdiv (2 ^ (8 * i)) = n / 2 ^ (8 * i) := Int.fdiv_eq_ediv_of_nonneg _ (Int.le_of_lt (Int.pow_pos (by omega)))
  rw [h1, wrap_u8_mod, byteI_nat]
theorem bytesA_at {p : Pg} {k : Nat} (x : UInt8) (h : k < p.length) : List.take k (bytesA p) ++ V.int .u8 (x.toNat : Int) :: List.drop (k + 1) (bytesA p) = bytesA (p.set k x) := by
  rw [bytesA_set, List.set_eq_take_append_cons_drop, if_pos (by rw [bytesA_length]; exact h)]
theorem gets_app3 {o : List AM.Obj} {e d t : Nat} {x : AM.Obj} {cs : List V} {r : List AM.Obj} (h : cs.length = 64) : (⟨o ++ (x :: .cells .ex t 0 cs :: r), e, d⟩ : Heap).gets (o.length + 1) 0 64 = some cs := by
  have hg : (o ++ (x :: AM.Obj.cells .ex t 0 cs :: r))[o.length + 1]? = some (.cells .ex t 0 cs) := by
    rw [app_getk]; rfl
  simp only [Heap.gets, hg, Nat.zero_add, h, Nat.le_refl, if_true, List.drop_zero]
  rw [if_neg (by decide), List.take_of_length_le (by omega)]
theorem or_add64 {a c : Nat} (hc : c < 256) (h : a * 256 + c < 9223372036854775808) : bits .or .i64 ((a * 256 : Nat) : Int) (c : Int) = ((a * 256 + c : Nat) : Int) := by
  have e : a * 256 ||| c = a * 256 + c := by
    have h1 : c < 2 ^ 8 := hc
    have := Nat.shiftLeft_add_eq_or_of_lt h1 a
    rw [Nat.shiftLeft_eq] at this
    exact this.symm
  unfold bits
  have ha : (BitVec.ofInt IntKind.i64.bits ((a * 256 : Nat) : Int)).toNat = a * 256 := by
    simp only [IntKind.bits, BitVec.ofInt_natCast, BitVec.toNat_ofNat]
    omega
  have hcc : (BitVec.ofInt IntKind.i64.bits (c : Int)).toNat = c := by
    simp only [IntKind.bits, BitVec.ofInt_natCast, BitVec.toNat_ofNat]
    omega
  simp only [BitVec.toNat_or, ha, hcc, e]
  exact wrap_i64 (by omega) (by omega)
section
variable {o : List AM.Obj} {e d : Nat}
set_option maxHeartbeats 1000000 in
theorem inside_q {a s : Nat} (h1 : a + s ≤ 64) : Den FF E2 103 [.int .i64 (a : Int), .int .i64 (s : Int)] ⟨o, e, d⟩ = some (.val (.bool true), none) := by
  refine To.den hxE2 (f := 103) (a := af103) rfl (E2_none rfl) (Nat.le_of_ble_eq_true rfl) ?_
  have c0 : decide ((0 : Int) ≤ (a : Int)) = true := decide_eq_true (by omega)
  have c1 : decide ((0 : Int) ≤ (s : Int)) = true := decide_eq_true (by omega)
  have c2 : decide ((s : Int) ≤ 64) = true := decide_eq_true (by omega)
  have w : IntKind.i64.wrap (64 - (s : Int)) = 64 - (s : Int) := wrap_i64 (by omega) (by omega)
  have c3 : decide ((a : Int) ≤ 64 - (s : Int)) = true := decide_eq_true (by omega)
  (repeat' (first | refine To.seq hxE2 ?_ | refine To.op0 hxE2 (by simp only [go_sem, reduceIte, seval, c0, c1, c2, w, c3]; rfl) ?_ | refine To.nop hxE2 ?_ | refine To.ret hxE2 ?_))
  try simp only [andThen, outOf]
  exact fin_k1 (i := 4) (v := .bool true) rfl (by simp only [go_sem, reduceIte, seval]) rfl (Kp.enter' _)
set_option maxHeartbeats 1000000 in
theorem number_q {a s : Nat} (h0 : 1 ≤ s) (h4 : s ≤ 4) (h1 : a + s ≤ 64) : Den FF E2 86 [.int .i64 (a : Int), .int .i64 (s : Int)] ⟨o, e, d⟩ = some (.val (.bool true), none) := by
  refine To.den hxE2 (f := 86) (a := af86) rfl (E2_none rfl) (Nat.le_of_ble_eq_true rfl) ?_
  have c1 : decide ((1 : Int) ≤ (s : Int)) = true := decide_eq_true (by omega)
  have c2 : decide ((s : Int) ≤ 4) = true := decide_eq_true (by omega)
  have q := inside_q (o := o) (e := o.length) (d := o.length) h1
  (repeat' (first | refine To.seq hxE2 ?_ | refine To.op0 hxE2 (by simp only [go_sem, reduceIte, seval, c1, c2, q]; rfl) ?_ | refine To.nop hxE2 ?_ | refine To.ret hxE2 ?_))
  try simp only [andThen, outOf]
  exact fin_k1 (i := 4) (v := .bool true) rfl (by simp only [go_sem, reduceIte, seval]) rfl (Kp.enter' _)
set_option maxHeartbeats 4000000 in
theorem set_q {p : Pg} (hp : p.length = 64) {a s : Nat} (h0 : 1 ≤ s) (h4 : s ≤ 4) (h1 : a + s ≤ 64) (n : Int) : Den FF E2 87 [.agg (bytesA p), .int .i64 (a : Int), .int .i64 (s : Int), .int .i64 n] ⟨o, e, d⟩ = some (.val (.agg (bytesA (setK p a s n s))), none) := by
  refine To.den hxE2 (f := 87) (a := af87) rfl (E2_none rfl) (Nat.le_of_ble_eq_true rfl) ?_
  have q : ∀ r e d, Den FF E2 86 [.int .i64 (a : Int), .int .i64 (s : Int)] ⟨o ++ r, e, d⟩ = some (.val (.bool true), none) := fun r e d => number_q h0 h4 h1
  (repeat' (first | refine To.seq hxE2 ?_ | refine To.op0 hxE2 (by simp only [go_sem, reduceIte, seval, q]; rfl) ?_ | refine To.op1 hxE2 (by simp only [go_sem, seval]; rfl) ?_ | refine To.nop hxE2 ?_ | (refine To.condF hxE2 ?_ ?_; focus (simp only [go_sem, reduceIte, seval]; done)) | refine To.block hxE2 ?_ | refine To.skip hxE2 ?_))
  refine To.loop hxE2 (fun m S h' => ∃ (i e' d' : Nat), i + m = s ∧ h' = ⟨o ++ [.cells .ex 31 0 (bytesA (setK p a s n i)), .cells .ex 31 0 z64], e', d'⟩ ∧ o.length ≤ e' ∧ o.length ≤ d' ∧ S 1 = .int .i64 (a : Int) ∧ S 2 = .int .i64 (s : Int) ∧ S 3 = .int .i64 n ∧ S 4 = .ptr o.length 0 ∧ S 8 = .ptr (o.length + 1) 0 ∧ S 15 = .int .i64 (s : Int) ∧ S 16 = .int .i64 (i : Int)) ?_ s _ _ ?_
  · rintro m S _ ⟨i, e', d', hm, rfl, he, hd, s1, s2, s3, s4, s8, s15, s16⟩
    have hl := setK_len p a s n i
    by_cases hi : i < s
    · have hlt : decide ((i : Int) < (s : Int)) = true := decide_eq_true (by omega)
      have w1 : IntKind.i64.wrap ((a : Int) + (s : Int)) = (a : Int) + (s : Int) := wrap_i64 (by omega) (by omega)
      have w2 : IntKind.i64.wrap ((a : Int) + (s : Int) - 1) = (a : Int) + (s : Int) - 1 := wrap_i64 (by omega) (by omega)
      have w3 : IntKind.i64.wrap ((a : Int) + (s : Int) - 1 - (i : Int)) = ((a + s - 1 - i : Nat) : Int) := by rw [wrap_i64 (by omega) (by omega)]; omega
      have w4 : IntKind.i64.wrap (8 * (i : Int)) = ((8 * i : Nat) : Int) := by rw [wrap_i64 (by omega) (by omega)]; omega
      have wi : IntKind.i64.wrap ((i : Int) + 1) = ((i + 1 : Nat) : Int) := by rw [wrap_i64 (by omega) (by omega)]; omega
      have hsh : shiftA .shr .i64 n ((8 * i : Nat) : Int) = some (.int .i64 (n.fdiv (2 ^ (8 * i)))) := by
        unfold shiftA
        rw [if_neg (by omega)]
        simp only [Int.toNat_natCast]
        rw [Nat.min_eq_left (by simp only [IntKind.bits]; omega)]
      have wb := byteI_wrap n i
      have ix : idxOf 64 (.int .i64 ((a + s - 1 - i : Nat) : Int)) = some (a + s - 1 - i) := idxOf_nat (by omega)
      have hk : a + s - 1 - i < (bytesA (setK p a s n i)).length := by rw [bytesA_length]; omega
      have hk2 : a + s - 1 - i + 1 ≤ (bytesA (setK p a s n i)).length := hk
      have hs := bytesA_at (p := setK p a s n i) (byteI n i) (by omega : a + s - 1 - i < (setK p a s n i).length)
      have hg0 : ∀ x y, (o ++ [x, y])[o.length]? = some x := fun x y => app_get0 _ _ _
      have hs0 : ∀ x y z : AM.Obj, (o ++ [x, y]).set o.length z = o ++ [z, y] := fun x y z => app_set0 _ _ _ _
      generalize hB : bytesA (setK p a s n i) = B at *
      (repeat' (first | refine To.seq hxE2 ?_ | refine To.op0 hxE2 (by simp only [go_sem, reduceIte, seval, Heap.sets, V.one, List.all_cons, List.all_nil, ne_eq, not_false_eq_true, Nat.zero_le, s1, s2, s3, s4, s15, s16, hlt, w1, w2, w3, w4, wi, hsh, wb, ix, hk2, hs, hg0, hs0]; rfl) ?_ | refine To.op1 hxE2 (by simp only [go_sem, reduceIte, seval, Heap.sets, V.one, List.all_cons, List.all_nil, ne_eq, not_false_eq_true, Nat.zero_le, hk2, hs, hg0, hs0]; rfl) ?_ | refine To.nop hxE2 ?_ | (refine To.condT hxE2 ?_ ?_; focus (simp only [go_sem, reduceIte, seval]; done)) | refine To.block hxE2 ?_ | refine To.skip hxE2 ?_))
      try simp only [andThen]
      refine ⟨m - 1, by omega, i + 1, _, _, by omega, rfl, by omega, by omega, ?_⟩
      simp only [go_sem, reduceIte, seval, s1, s2, s3, s4, s8, s15]
    · have hlt : decide ((i : Int) < (s : Int)) = false := decide_eq_false (by omega)
      have hie : i = s := by omega
      subst hie
      have htk : List.take 64 (bytesA (setK p a i n i)) = bytesA (setK p a i n i) := List.take_of_length_le (by rw [bytesA_length]; omega)
      have hl2 : (setK p a i n i).length = 64 := by omega
      have hg0 : ∀ x y, (o ++ [x, y])[o.length]? = some x := fun x y => app_get0 _ _ _
      have hg1 : ∀ x y, (o ++ [x, y])[o.length + 1]? = some y := fun x y => app_getk _ _ 1
      have hs1 : ∀ x y z : AM.Obj, (o ++ [x, y]).set (o.length + 1) z = o ++ [x, z] := fun x y z => app_setk _ _ 1 _
      (repeat' (first | refine To.seq hxE2 ?_ | refine To.op0 hxE2 (by simp only [go_sem, reduceIte, seval, Heap.gets, Heap.sets, bytesA_length, bytesA_one, bytesA_plains, List.take_of_length_le, ne_eq, not_false_eq_true, Nat.zero_le, s4, s8, s15, s16, hlt, hl2, hg0, hg1, hs1, z64_len, z64_drop]; rfl) ?_ | refine To.op1 hxE2 (by simp only [go_sem, reduceIte, seval, Heap.sets, bytesA_length, bytesA_one, bytesA_plains, ne_eq, not_false_eq_true, Nat.zero_le, s8, hl2, hg1, hs1, z64_len, z64_drop]; rfl) ?_ | refine To.nop hxE2 ?_ | (refine To.condF hxE2 ?_ ?_; focus (simp only [go_sem, reduceIte, seval]; done)) | refine To.ret hxE2 ?_ | refine To.exit hxE2 ?_))
      try simp only [andThen, outOf]
      exact fin_kc (j := 8) (l := o.length + 1) (n := 64) rfl (by simp only [go_sem, reduceIte, seval, s8]) (gets_app3 (by rw [bytesA_length]; exact hl2)) (bytesA_plains _) (kp_app (by omega) (by omega))
  · refine ⟨0, _, _, by omega, rfl, ?_, ?_, ?_⟩
    · simp
    · simp
    · simp only [go_sem, reduceIte, seval, initS]
set_option maxHeartbeats 4000000 in
theorem get_q {p : Pg} (hp : p.length = 64) {a s : Nat} (h0 : 1 ≤ s) (h4 : s ≤ 4) (h1 : a + s ≤ 64) : Den FF E2 71 [.agg (bytesA p), .int .i64 (a : Int), .int .i64 (s : Int)] ⟨o, e, d⟩ = some (.val (.int .i64 (getK p a s : Int)), none) := by
  refine To.den hxE2 (f := 71) (a := af71) rfl (E2_none rfl) (Nat.le_of_ble_eq_true rfl) ?_
  have q : ∀ r e d, Den FF E2 86 [.int .i64 (a : Int), .int .i64 (s : Int)] ⟨o ++ r, e, d⟩ = some (.val (.bool true), none) := fun r e d => number_q h0 h4 h1
  have w1 : IntKind.i64.wrap ((a : Int) + (s : Int)) = ((a + s : Nat) : Int) := by rw [wrap_i64 (by omega) (by omega)]; omega
  have hbd : boundsA 64 64 (some (.int .i64 (a : Int))) (some (.int .i64 ((a + s : Nat) : Int))) = some (a, a + s) := by
    simp only [boundsA, hiB, loB]
    rw [if_pos (by omega)]
    simp only [Int.toNat_natCast]
    rw [if_pos (by omega)]
  have hg0 : ∀ x, (o ++ [x])[o.length]? = some x := fun x => app_get0 _ _ _
  have ha64 : a < 64 := by omega
  (repeat' (first | refine To.seq hxE2 ?_ | refine To.op0 hxE2 (by simp only [go_sem, reduceIte, seval, q]; rfl) ?_ | refine To.op1 hxE2 (by simp only [go_sem, reduceIte, seval]; rfl) ?_ | refine To.nop hxE2 ?_ | (refine To.condF hxE2 ?_ ?_; focus (simp only [go_sem, reduceIte, seval]; done)) | refine To.skip hxE2 ?_))
  refine To.mono (Q := fun ex S' h' => ex = .norm ∧ h' = ⟨o ++ [.cells .ex 31 0 (bytesA p)], o.length, o.length⟩ ∧ S' 7 = .int .i64 0 ∧ S' 18 = .slice o.length a s 1 ∧ S' 19 = .int .i64 (s : Int) ∧ S' 20 = .int .i64 0) ?_ ?_
  · by_cases h0a : a = 0
    · subst h0a
      have w0 : IntKind.i64.wrap (0 + (s : Int)) = (s : Int) := by rw [wrap_i64 (by omega) (by omega)]; omega
      have e1 : boundsA 64 64 (some (.int .i64 0)) (some (.int .i64 (s : Int))) = some (0, s) := by
        rw [Nat.zero_add] at hbd
        exact hbd
      (repeat' (first | refine To.op0 hxE2 (by simp only [go_sem, reduceIte, seval, bytesA_length, w0, e1, hg0, hp]; rfl) ?_ | refine To.nop hxE2 ?_))
      refine ⟨rfl, rfl, ?_⟩
      simp only [go_sem, reduceIte, seval]
    · have e1 : a + s - a = s := by omega
      (repeat' (first | refine To.op0 hxE2 (by simp only [go_sem, reduceIte, seval, bytesA_length, w1, hbd, hg0, hp, h0a, ha64, e1]; rfl) ?_ | refine To.nop hxE2 ?_))
      refine ⟨rfl, rfl, ?_⟩
      simp only [go_sem, reduceIte, seval]
  rintro ex S2 h2 ⟨rfl, rfl, s7, s18, s19, s20⟩
  simp only [andThen]
  (repeat' (first | refine To.block hxE2 ?_))
  refine To.loop hxE2 (fun m S h' => ∃ i : Nat, i + m = s ∧ h' = ⟨o ++ [.cells .ex 31 0 (bytesA p)], o.length, o.length⟩ ∧ S 7 = .int .i64 (getK p a i : Int) ∧ S 18 = .slice o.length a s 1 ∧ S 19 = .int .i64 (s : Int) ∧ S 20 = .int .i64 (i : Int)) ?_ s _ _ ⟨0, by omega, rfl, s7, s18, s19, s20⟩
  rintro m S _ ⟨i, hm, rfl, s7, s18, s19, s20⟩
  by_cases hi : i < s
  · have hlt : decide ((i : Int) < (s : Int)) = true := decide_eq_true (by omega)
    have ix : idxOf s (.int .i64 (i : Int)) = some i := idxOf_nat hi
    have wi : IntKind.i64.wrap ((i : Int) + 1) = ((i + 1 : Nat) : Int) := by rw [wrap_i64 (by omega) (by omega)]; omega
    obtain ⟨x, hx⟩ : ∃ x, p[a + i]? = some x := ⟨p[a + i], List.getElem?_eq_getElem (by omega)⟩
    have hbx : (bytesA p)[a + i]? = some (.int .u8 (x.toNat : Int)) := by rw [bytesA_get, hx]; rfl
    have hxl := x.toNat_lt
    have hgl := getK_lt p a i
    have hp3 : 256 ^ i ≤ 256 ^ 3 := Nat.pow_le_pow_right (by decide) (by omega)
    have hgl2 : getK p a i < 16777216 := by omega
    have hstep : getK p a (i + 1) = getK p a i * 256 + x.toNat := by rw [getK, List.getD_eq_getElem?_getD, hx]; rfl
    have w8 : IntKind.i64.wrap (x.toNat : Int) = (x.toNat : Int) := wrap_i64 (by omega) (by omega)
    have hsh : shiftA .shl .i64 (getK p a i : Int) 8 = some (.int .i64 ((getK p a i * 256 : Nat) : Int)) := by
      unfold shiftA
      rw [if_neg (by omega)]
      simp only
      have e8 : (min (8 : Int).toNat IntKind.i64.bits) = 8 := rfl
      rw [e8, wrap_i64 (by omega) (by omega)]
      congr 2
    have hor : bits .or .i64 ((getK p a i * 256 : Nat) : Int) (x.toNat : Int) = ((getK p a i * 256 + x.toNat : Nat) : Int) := or_add64 (by omega) (by omega)
    (repeat' (first | refine To.seq hxE2 ?_ | refine To.op0 hxE2 (by simp only [go_sem, reduceIte, seval, Heap.get, s7, s18, s19, s20, hlt, ix, wi, hg0, hbx, w8, hsh, hor]; rfl) ?_ | refine To.nop hxE2 ?_ | (refine To.condT hxE2 ?_ ?_; focus (simp only [go_sem, reduceIte, seval]; done)) | refine To.block hxE2 ?_ | refine To.skip hxE2 ?_))
    try simp only [andThen]
    refine ⟨m - 1, by omega, i + 1, by omega, trivial, ?_⟩
    rw [hstep]
    simp only [go_sem, reduceIte, seval, s18, s19]
  · have hlt : decide ((i : Int) < (s : Int)) = false := decide_eq_false (by omega)
    have hie : i = s := by omega
    subst hie
    (repeat' (first | refine To.seq hxE2 ?_ | refine To.op0 hxE2 (by simp only [go_sem, reduceIte, seval, s7, s19, s20, hlt]; rfl) ?_ | refine To.nop hxE2 ?_ | (refine To.condF hxE2 ?_ ?_; focus (simp only [go_sem, reduceIte, seval]; done)) | refine To.ret hxE2 ?_ | refine To.exit hxE2 ?_))
    try simp only [andThen, outOf]
    exact fin_k1 (i := 6) (v := .int .i64 (getK p a i : Int)) rfl (by simp only [go_sem, reduceIte, seval]) rfl (kp_app (by omega) (by omega))
end
end Go.Proofs.Ytfbkeieoeagkdaa

/- Journal: heads. -/
namespace Go.Proofs.Ytfbkeieoeagkdaa
open Go AM
set_option linter.unusedSimpArgs false
set_option linter.unusedVariables false
set_option maxRecDepth 100000

def headP (s : Int) (lv : Bool) (c sm : Int) : Pg := setK (setK (setK (setK (setK (zs 64) 0 4 s 4) 4 1 (if lv = true then 1 else 0) 1) 5 2 c 2) 7 4 sm 4) 60 4 s 4
def headV (s : Int) (lv : Bool) (c sm : Int) : List V := [.int .i64 s, .bool lv, .int .i64 c, .int .u32 sm]
def rightH (s : Int) (lv : Bool) (c sm : Int) : Bool := decide (0 ≤ s ∧ s ≤ 4294967295) && (if lv = true then decide (1 ≤ c ∧ c ≤ 512) else decide (c = 0 ∧ sm = 0))
theorem headP_len (s : Int) (lv : Bool) (c sm : Int) : (headP s lv c sm).length = 64 := by
  unfold headP
  simp only [setK_len]; rfl
section
variable {o : List AM.Obj} {e d : Nat}
set_option maxHeartbeats 4000000 in
theorem put_q {s : Int} {lv : Bool} {c sm : Int} (h0 : 0 ≤ sm) (h1 : sm < 2 ^ 32) : Den FF E2 73 [.agg (headV s lv c sm)] ⟨o, e, d⟩ = some (.val (.agg (bytesA (headP s lv c sm))), none) := by
  refine To.den hxE2 (f := 73) (a := af73) rfl (E2_none rfl) (Nat.le_of_ble_eq_true rfl) ?_
  have l0 : (zs 64).length = 64 := rfl
  have q1 : ∀ r e d, Den FF E2 87 [.agg z64, .int .i64 0, .int .i64 4, .int .i64 s] ⟨o ++ r, e, d⟩ = some (.val (.agg (bytesA (setK (zs 64) 0 4 s 4))), none) := fun r e d => set_q (p := zs 64) l0 (a := 0) (s := 4) (by omega) (by omega) (by omega) s
  have l1 : (setK (zs 64) 0 4 s 4).length = 64 := by rw [setK_len, l0]
  have hh : headP s lv c sm = setK (setK (setK (setK (setK (zs 64) 0 4 s 4) 4 1 (if lv = true then 1 else 0) 1) 5 2 c 2) 7 4 sm 4) 60 4 s 4 := rfl
  rw [hh]
  generalize setK (zs 64) 0 4 s 4 = p1 at *
  have q2 : ∀ r e d, Den FF E2 87 [.agg (bytesA p1), .int .i64 4, .int .i64 1, .int .i64 (if lv = true then 1 else 0)] ⟨o ++ r, e, d⟩ = some (.val (.agg (bytesA (setK p1 4 1 (if lv = true then 1 else 0) 1))), none) := fun r e d => set_q l1 (a := 4) (s := 1) (by omega) (by omega) (by omega) _
  have l2 : (setK p1 4 1 (if lv = true then 1 else 0) 1).length = 64 := by rw [setK_len, l1]
  generalize setK p1 4 1 (if lv = true then 1 else 0) 1 = p2 at *
  have q3 : ∀ r e d, Den FF E2 87 [.agg (bytesA p2), .int .i64 5, .int .i64 2, .int .i64 c] ⟨o ++ r, e, d⟩ = some (.val (.agg (bytesA (setK p2 5 2 c 2))), none) := fun r e d => set_q l2 (a := 5) (s := 2) (by omega) (by omega) (by omega) _
  have l3 : (setK p2 5 2 c 2).length = 64 := by rw [setK_len, l2]
  generalize setK p2 5 2 c 2 = p3 at *
  have q4 : ∀ r e d, Den FF E2 87 [.agg (bytesA p3), .int .i64 7, .int .i64 4, .int .i64 sm] ⟨o ++ r, e, d⟩ = some (.val (.agg (bytesA (setK p3 7 4 sm 4))), none) := fun r e d => set_q l3 (a := 7) (s := 4) (by omega) (by omega) (by omega) _
  have l4 : (setK p3 7 4 sm 4).length = 64 := by rw [setK_len, l3]
  generalize setK p3 7 4 sm 4 = p4 at *
  have q5 : ∀ r e d, Den FF E2 87 [.agg (bytesA p4), .int .i64 60, .int .i64 4, .int .i64 s] ⟨o ++ r, e, d⟩ = some (.val (.agg (bytesA (setK p4 60 4 s 4))), none) := fun r e d => set_q l4 (a := 60) (s := 4) (by omega) (by omega) (by omega) _
  have l5 : (setK p4 60 4 s 4).length = 64 := by rw [setK_len, l4]
  generalize setK p4 60 4 s 4 = p5 at *
  have tk : ∀ p : Pg, p.length = 64 → List.take 64 (bytesA p) = bytesA p := fun p h => List.take_of_length_le (by rw [bytesA_length]; omega)
  have dr : ∀ p : Pg, p.length = 64 → List.drop 64 (bytesA p) = [] := fun p h => List.drop_eq_nil_of_le (by rw [bytesA_length]; omega)
  have wm : IntKind.i64.wrap sm = sm := wrap_i64 (by omega) (by omega)
  cases lv
  · simp only [Bool.false_eq_true, if_false] at q2
    (repeat' (first | refine To.seq hxE2 ?_ | refine To.op0 hxE2 (by simp only [go_sem, reduceIte, seval, Heap.gets, Heap.sets, Heap.get, bytesA_length, bytesA_one, bytesA_plains, List.take_of_length_le, List.drop_of_length_le, Nat.add_zero, ne_eq, not_false_eq_true, Nat.zero_le, headV, q1, q2, q3, q4, q5, l1, l2, l3, l4, l5, wm, z64_len, z64_drop]; rfl) ?_ | refine To.op1 hxE2 (by simp only [go_sem, reduceIte, seval, Heap.sets, bytesA_length, bytesA_one, bytesA_plains, List.drop_of_length_le, ne_eq, not_false_eq_true, Nat.zero_le, headV, l1, l2, l3, l4, l5, z64_len, z64_drop]; rfl) ?_ | refine To.nop hxE2 ?_ | (refine To.condF hxE2 ?_ ?_; focus (simp only [go_sem, reduceIte, seval]; done)) | refine To.ret hxE2 ?_ | refine To.skip hxE2 ?_))
    try simp only [andThen, outOf]
    exact fin_kc (j := 2) (l := o.length + 1) (n := 64) rfl (by simp only [go_sem, reduceIte, seval]) (gets_app3 (by rw [bytesA_length]; exact l5)) (bytesA_plains _) (kp_app (by omega) (by omega))
  · simp only [if_true] at q2
    (repeat' (first | refine To.seq hxE2 ?_ | refine To.op0 hxE2 (by simp only [go_sem, reduceIte, seval, Heap.gets, Heap.sets, Heap.get, bytesA_length, bytesA_one, bytesA_plains, List.take_of_length_le, List.drop_of_length_le, Nat.add_zero, ne_eq, not_false_eq_true, Nat.zero_le, headV, q1, q2, q3, q4, q5, l1, l2, l3, l4, l5, wm, z64_len, z64_drop]; rfl) ?_ | refine To.op1 hxE2 (by simp only [go_sem, reduceIte, seval, Heap.sets, bytesA_length, bytesA_one, bytesA_plains, List.drop_of_length_le, ne_eq, not_false_eq_true, Nat.zero_le, headV, l1, l2, l3, l4, l5, z64_len, z64_drop]; rfl) ?_ | refine To.nop hxE2 ?_ | (refine To.condT hxE2 ?_ ?_; focus (simp only [go_sem, reduceIte, seval]; done)) | refine To.ret hxE2 ?_))
    try simp only [andThen, outOf]
    exact fin_kc (j := 2) (l := o.length + 1) (n := 64) rfl (by simp only [go_sem, reduceIte, seval]) (gets_app3 (by rw [bytesA_length]; exact l5)) (bytesA_plains _) (kp_app (by omega) (by omega))
set_option maxHeartbeats 4000000 in
theorem right_q {s : Int} {lv : Bool} {c sm : Int} : Den FF E2 72 [.agg (headV s lv c sm)] ⟨o, e, d⟩ = some (.val (.bool (rightH s lv c sm)), none) := by
  refine To.den hxE2 (f := 72) (a := af72) rfl (E2_none rfl) (Nat.le_of_ble_eq_true rfl) ?_
  unfold rightH
  by_cases h1 : s < 0
  · have d1 : decide (s < 0) = true := decide_eq_true h1
    have e1 : decide (0 ≤ s ∧ s ≤ 4294967295) = false := decide_eq_false (by omega)
    rw [e1, Bool.false_and]
    (repeat' (first | refine To.seq hxE2 ?_ | refine To.op0 hxE2 (by simp only [go_sem, reduceIte, seval, Heap.get, Nat.add_zero, headV, d1]; rfl) ?_ | refine To.op1 hxE2 (by simp only [go_sem, seval, headV]; rfl) ?_ | refine To.nop hxE2 ?_ | (refine To.condT hxE2 ?_ ?_; focus (simp only [go_sem, reduceIte, seval]; done)) | refine To.ret hxE2 ?_))
    try simp only [andThen]
    exact fin_k1 (i := 2) (v := .bool false) rfl (by simp only [go_sem, reduceIte, seval]) rfl (kp_app (by omega) (by omega))
  have d1 : decide (s < 0) = false := decide_eq_false h1
  by_cases h2 : 4294967295 < s
  · have d2 : decide (4294967295 < s) = true := decide_eq_true h2
    have e1 : decide (0 ≤ s ∧ s ≤ 4294967295) = false := decide_eq_false (by omega)
    rw [e1, Bool.false_and]
    (repeat' (first | refine To.seq hxE2 ?_ | refine To.op0 hxE2 (by simp only [go_sem, reduceIte, seval, Heap.get, Nat.add_zero, headV, d1, d2]; rfl) ?_ | refine To.op1 hxE2 (by simp only [go_sem, seval, headV]; rfl) ?_ | refine To.nop hxE2 ?_ | (refine To.condT hxE2 ?_ ?_; focus (simp only [go_sem, reduceIte, seval]; done)) | refine To.ret hxE2 ?_))
    try simp only [andThen]
    exact fin_k1 (i := 2) (v := .bool false) rfl (by simp only [go_sem, reduceIte, seval]) rfl (kp_app (by omega) (by omega))
  have d2 : decide (4294967295 < s) = false := decide_eq_false h2
  have e1 : decide (0 ≤ s ∧ s ≤ 4294967295) = true := decide_eq_true (by omega)
  rw [e1, Bool.true_and]
  cases lv
  · rw [if_neg (by decide)]
    by_cases h3 : c = 0
    · subst h3
      have e2 : decide ((0 : Int) = 0 ∧ sm = 0) = (sm == 0) := by rw [Bool.eq_iff_iff]; simp
      rw [e2]
      (repeat' (first | refine To.seq hxE2 ?_ | refine To.op0 hxE2 (by simp only [go_sem, reduceIte, seval, Heap.get, Nat.add_zero, headV, d1, d2]; rfl) ?_ | refine To.op1 hxE2 (by simp only [go_sem, seval, headV]; rfl) ?_ | refine To.nop hxE2 ?_ | (refine To.condF hxE2 ?_ ?_; focus (simp only [go_sem, reduceIte, seval]; done)) | refine To.ret hxE2 ?_ | refine To.skip hxE2 ?_))
      try simp only [andThen, outOf]
      exact fin_k1 (i := 2) (v := .bool (sm == 0)) rfl (by simp only [go_sem, reduceIte, seval]) rfl (kp_app (by omega) (by omega))
    · have b3 : (c == 0) = false := by simpa using h3
      have e2 : decide (c = 0 ∧ sm = 0) = false := decide_eq_false (by simp [h3])
      rw [e2]
      (repeat' (first | refine To.seq hxE2 ?_ | refine To.op0 hxE2 (by simp only [go_sem, reduceIte, seval, Heap.get, Nat.add_zero, headV, d1, d2, b3]; rfl) ?_ | refine To.op1 hxE2 (by simp only [go_sem, seval, headV]; rfl) ?_ | refine To.nop hxE2 ?_ | (refine To.condF hxE2 ?_ ?_; focus (simp only [go_sem, reduceIte, seval]; done)) | refine To.ret hxE2 ?_ | refine To.skip hxE2 ?_))
      try simp only [andThen, outOf]
      exact fin_k1 (i := 2) (v := .bool false) rfl (by simp only [go_sem, reduceIte, seval]) rfl (kp_app (by omega) (by omega))
  · rw [if_pos rfl]
    by_cases h3 : 1 ≤ c
    · have d3 : decide (1 ≤ c) = true := decide_eq_true h3
      have e2 : decide (1 ≤ c ∧ c ≤ 512) = decide (c ≤ 512) := by simp [h3]
      rw [e2]
      (repeat' (first | refine To.seq hxE2 ?_ | refine To.op0 hxE2 (by simp only [go_sem, reduceIte, seval, Heap.get, Nat.add_zero, headV, d1, d2, d3]; rfl) ?_ | refine To.op1 hxE2 (by simp only [go_sem, seval, headV]; rfl) ?_ | refine To.nop hxE2 ?_ | (refine To.condT hxE2 ?_ ?_; focus (simp only [go_sem, reduceIte, seval]; done)) | (refine To.condF hxE2 ?_ ?_; focus (simp only [go_sem, reduceIte, seval]; done)) | refine To.ret hxE2 ?_ | refine To.skip hxE2 ?_))
      try simp only [andThen]
      exact fin_k1 (i := 2) (v := .bool (decide (c ≤ 512))) rfl (by simp only [go_sem, reduceIte, seval]) rfl (kp_app (by omega) (by omega))
    · have d3 : decide (1 ≤ c) = false := decide_eq_false h3
      have e2 : decide (1 ≤ c ∧ c ≤ 512) = false := decide_eq_false (by omega)
      rw [e2]
      (repeat' (first | refine To.seq hxE2 ?_ | refine To.op0 hxE2 (by simp only [go_sem, reduceIte, seval, Heap.get, Nat.add_zero, headV, d1, d2, d3]; rfl) ?_ | refine To.op1 hxE2 (by simp only [go_sem, seval, headV]; rfl) ?_ | refine To.nop hxE2 ?_ | (refine To.condT hxE2 ?_ ?_; focus (simp only [go_sem, reduceIte, seval]; done)) | (refine To.condF hxE2 ?_ ?_; focus (simp only [go_sem, reduceIte, seval]; done)) | refine To.ret hxE2 ?_ | refine To.skip hxE2 ?_))
      try simp only [andThen]
      exact fin_k1 (i := 2) (v := .bool false) rfl (by simp only [go_sem, reduceIte, seval]) rfl (kp_app (by omega) (by omega))
set_option maxHeartbeats 4000000 in
theorem encode_q {s : Int} {lv : Bool} {c sm : Int} (h0 : 0 ≤ sm) (h1 : sm < 2 ^ 32) : Den FF E2 76 [.agg (headV s lv c sm)] ⟨o, e, d⟩ = some (.val (.tuple [.agg (if rightH s lv c sm = true then bytesA (headP s lv c sm) else z64), .int .i64 (if rightH s lv c sm = true then 0 else 22)]), none) := by
  refine To.den hxE2 (f := 76) (a := af76) rfl (E2_none rfl) (Nat.le_of_ble_eq_true rfl) ?_
  have q1 : ∀ r e d, Den FF E2 72 [.agg (headV s lv c sm)] ⟨o ++ r, e, d⟩ = some (.val (.bool (rightH s lv c sm)), none) := fun r e d => right_q
  have q2 : ∀ r e d, Den FF E2 73 [.agg (headV s lv c sm)] ⟨o ++ r, e, d⟩ = some (.val (.agg (bytesA (headP s lv c sm))), none) := fun r e d => put_q h0 h1
  have hl := headP_len s lv c sm
  have htk : List.take 64 (bytesA (headP s lv c sm)) = bytesA (headP s lv c sm) := List.take_of_length_le (by rw [bytesA_length]; omega)
  have hv : (headV s lv c sm).length = 4 := rfl
  have ho : (headV s lv c sm).all V.one = true := rfl
  have hpl : V.plains (headV s lv c sm) = true := rfl
  have ht4 : List.take 4 (headV s lv c sm) = headV s lv c sm := rfl
  generalize headV s lv c sm = hV at *
  generalize headP s lv c sm = pP at *
  cases hr : rightH s lv c sm
  · rw [hr] at q1
    (repeat' (first | refine To.seq hxE2 ?_ | refine To.op0 hxE2 (by simp only [go_sem, reduceIte, seval, Heap.gets, Heap.sets, List.take_of_length_le, ne_eq, not_false_eq_true, Nat.zero_le, q1, hv, z64_len, z64_drop, z64_one, z64_plains]; rfl) ?_ | refine To.op1 hxE2 (by simp only [go_sem, reduceIte, seval, Heap.sets, ne_eq, not_false_eq_true, Nat.zero_le, z64_len, z64_drop, z64_one, z64_plains]; rfl) ?_ | refine To.nop hxE2 ?_ | (refine To.condT hxE2 ?_ ?_; focus (simp only [go_sem, reduceIte, seval]; done)) | refine To.ret hxE2 ?_))
    try simp only [andThen]
    exact fin_kc2 (j := 2) (cs := z64) (l := o.length + 1) (v := .int .i64 22) rfl (by simp only [go_sem, reduceIte, seval]) (by simp only [go_sem, reduceIte, seval]) (gets_app3 rfl) rfl rfl (kp_app (by omega) (by omega))
  · rw [hr] at q1
    (repeat' (first | refine To.seq hxE2 ?_ | refine To.op0 hxE2 (by simp only [go_sem, reduceIte, seval, Heap.gets, Heap.sets, bytesA_length, bytesA_one, bytesA_plains, List.take_of_length_le, ne_eq, not_false_eq_true, Nat.zero_le, q1, q2, hv, hl, z64_len, z64_drop]; rfl) ?_ | refine To.op1 hxE2 (by simp only [go_sem, reduceIte, seval, Heap.sets, bytesA_length, bytesA_one, bytesA_plains, ne_eq, not_false_eq_true, Nat.zero_le, hl, z64_len, z64_drop]; rfl) ?_ | refine To.nop hxE2 ?_ | (refine To.condF hxE2 ?_ ?_; focus (simp only [go_sem, reduceIte, seval]; done)) | refine To.ret hxE2 ?_ | refine To.skip hxE2 ?_))
    try simp only []
    exact fin_kc2 (j := 2) (cs := bytesA pP) (l := o.length + 1) (v := .int .i64 0) rfl (by simp only [go_sem, reduceIte, seval]) (by simp only [go_sem, reduceIte, seval]) (gets_app3 (by rw [bytesA_length]; exact hl)) (bytesA_plains _) rfl (kp_app (by omega) (by omega))
end
end Go.Proofs.Ytfbkeieoeagkdaa

/- Journal: sums of pages. -/
namespace Go.Proofs.Ytfbkeieoeagkdaa
open Go AM
set_option linter.unusedSimpArgs false
set_option linter.unusedVariables false
set_option maxRecDepth 100000

/-- A byte added to a sum's two numbers. -/
def sum1 (x : Nat × Nat) (c : UInt8) : Nat × Nat := ((x.1 + c.toNat) % 65535, (x.2 + (x.1 + c.toNat) % 65535) % 65535)
def sumB (x : Nat × Nat) (p : Pg) : Nat × Nat := p.foldl sum1 x
def sumP (ps : List Pg) : Nat := (ps.foldl sumB (0, 0)).2 * 65536 + (ps.foldl sumB (0, 0)).1
def lowS (x : Nat × Nat) : Prop := x.1 < 65535 ∧ x.2 < 65535
theorem sum1_low (x : Nat × Nat) (c : UInt8) : lowS (sum1 x c) := ⟨Nat.mod_lt _ (by decide), Nat.mod_lt _ (by decide)⟩
theorem sumB_low : ∀ (p : Pg) {x : Nat × Nat}, lowS x → lowS (sumB x p)
  | [], x, h => h
  | c :: r, x, h => sumB_low r (sum1_low x c)
theorem sums_low : ∀ (ps : List Pg) {x : Nat × Nat}, lowS x → lowS (ps.foldl sumB x)
  | [], x, h => h
  | p :: r, x, h => sums_low r (sumB_low p h)
theorem sumP_lt (ps : List Pg) : sumP ps < 2 ^ 32 := by
  obtain ⟨h1, h2⟩ := sums_low ps (x := (0, 0)) ⟨by decide, by decide⟩
  unfold sumP
  omega
theorem wrap_u32 {n : Int} (h0 : 0 ≤ n) (h1 : n < 4294967296) : IntKind.u32.wrap n = n := by
  simp only [IntKind.wrap, IntKind.bits, IntKind.signed]
  simp
  omega
theorem or_add32 {a c : Nat} (hc : c < 65536) (h : a * 65536 + c < 4294967296) : bits .or .u32 ((a * 65536 : Nat) : Int) (c : Int) = ((a * 65536 + c : Nat) : Int) := by
  have e : a * 65536 ||| c = a * 65536 + c := by
    have h1 : c < 2 ^ 16 := hc
    have := Nat.shiftLeft_add_eq_or_of_lt h1 a
    rw [Nat.shiftLeft_eq] at this
    exact this.symm
  unfold bits
  have ha : (BitVec.ofInt IntKind.u32.bits ((a * 65536 : Nat) : Int)).toNat = a * 65536 := by
    simp only [IntKind.bits, BitVec.ofInt_natCast, BitVec.toNat_ofNat]
    omega
  have hcc : (BitVec.ofInt IntKind.u32.bits (c : Int)).toNat = c := by
    simp only [IntKind.bits, BitVec.ofInt_natCast, BitVec.toNat_ofNat]
    omega
  simp only [BitVec.toNat_or, ha, hcc, e]
  exact wrap_u32 (by omega) (by omega)
def pairV (x : Nat × Nat) : List V := [.int .u32 (x.1 : Int), .int .u32 (x.2 : Int)]
/-- Pages in a row. -/
structure PgRow (o : List AM.Obj) (v : V) (ps : List Pg) : Prop where
  len : lenLV v = some (.int .i64 (ps.length : Int), none)
  at_ : ps ≠ [] → ∃ l ck t, v = .slice l 0 ps.length 64 ∧ o[l]? = some (.cells ck t 0 (pgC ps))
  p64 : ∀ p ∈ ps, p.length = 64
section
variable {o : List AM.Obj} {e d : Nat}
set_option maxHeartbeats 8000000 in
theorem add_q {pl bl t t2 : Nat} {ck : CK} {x : Nat × Nat} {pg : Pg} (hx : lowS x) (h64 : pg.length = 64) (hp : o[pl]? = some (.cells .ex t 0 (pairV x))) (hb : o[bl]? = some (.cells ck t2 0 (bytesA pg))) (hne : pl ≠ bl) :
    ∃ v oh, Den FF E2 89 [.ptr pl 0, .slice bl 0 64 1] ⟨o, e, d⟩ = some (v, oh) ∧ v = .val (.tuple []) ∧ ∃ d', oh.getD ⟨o, e, d⟩ = ⟨o.set pl (.cells .ex t 0 (pairV (sumB x pg))), e, d'⟩ ∧ min d pl ≤ d' := by
  refine To.denE hxE2 (f := 89) (a := af89) rfl (E2_none rfl) (Nat.le_of_ble_eq_true rfl) ?_
  have lpl := get_lt hp
  have hsx : ∀ y, (o.set pl y)[pl]? = some y := fun y => List.getElem?_set_self lpl
  have hsb : ∀ y, (o.set pl y)[bl]? = some (.cells ck t2 0 (bytesA pg)) := fun y => by rw [List.getElem?_set_ne hne]; exact hb
  have hid : o.set pl (.cells .ex t 0 (pairV x)) = o := set_same hp
  (repeat' (first | refine To.seq hxE2 ?_ | refine To.op0 hxE2 (by simp only [go_sem, reduceIte, seval]; rfl) ?_ | refine To.nop hxE2 ?_ | refine To.block hxE2 ?_))
  refine To.loop hxE2 (fun m S h' => ∃ (i d' : Nat), i + m = 64 ∧ h' = ⟨o.set pl (.cells .ex t 0 (pairV (sumB x (pg.take i)))), o.length, d'⟩ ∧ (i = 0 ∨ d' ≤ pl) ∧ pl ≤ d' ∧ S 0 = .ptr pl 0 ∧ S 6 = .slice bl 0 64 1 ∧ S 7 = .int .i64 64 ∧ S 8 = .int .i64 (i : Int)) ?_ 64 _ _ ?_
  · rintro m S _ ⟨i, d', hm, rfl, hd1, hd2, s0, s6, s7, s8⟩
    by_cases hi : i < 64
    · have hlt : decide ((i : Int) < 64) = true := decide_eq_true (by omega)
      have ix : idxOf 64 (.int .i64 (i : Int)) = some i := idxOf_nat hi
      have wi : IntKind.i64.wrap ((i : Int) + 1) = ((i + 1 : Nat) : Int) := by rw [wrap_i64 (by omega) (by omega)]; omega
      obtain ⟨c, hc⟩ : ∃ c, pg[i]? = some c := ⟨pg[i], List.getElem?_eq_getElem (by omega)⟩
      have hbc : (bytesA pg)[i]? = some (.int .u8 (c.toNat : Int)) := by rw [bytesA_get, hc]; rfl
      have hcl := c.toNat_lt
      have hst : sumB x (pg.take (i + 1)) = sum1 (sumB x (pg.take i)) c := by
        unfold sumB
        rw [List.take_add_one, hc, Option.toList_some, List.foldl_append]; rfl
      obtain ⟨h1, h2⟩ := sumB_low (pg.take i) hx
      generalize hy : sumB x (pg.take i) = y at *
      have wc : IntKind.u32.wrap (c.toNat : Int) = (c.toNat : Int) := wrap_u32 (by omega) (by omega)
      have w1 : IntKind.u32.wrap ((y.1 : Int) + (c.toNat : Int)) = ((y.1 + c.toNat : Nat) : Int) := by rw [wrap_u32 (by omega) (by omega)]; omega
      have m1 : Int.tmod ((y.1 + c.toNat : Nat) : Int) 65535 = (((y.1 + c.toNat) % 65535 : Nat) : Int) := by rw [Int.tmod_eq_emod_of_nonneg (by omega)]; omega
      have hm1 : (y.1 + c.toNat) % 65535 < 65535 := Nat.mod_lt _ (by decide)
      have hs1 : sum1 y c = ((y.1 + c.toNat) % 65535, (y.2 + (y.1 + c.toNat) % 65535) % 65535) := rfl
      rw [hs1] at hst
      generalize (y.1 + c.toNat) % 65535 = a1 at *
      have w2 : IntKind.u32.wrap ((y.2 : Int) + (a1 : Int)) = ((y.2 + a1 : Nat) : Int) := by rw [wrap_u32 (by omega) (by omega)]; omega
      have m2 : Int.tmod ((y.2 + a1 : Nat) : Int) 65535 = (((y.2 + a1) % 65535 : Nat) : Int) := by rw [Int.tmod_eq_emod_of_nonneg (by omega)]; omega
      (repeat' (first | refine To.seq hxE2 ?_ | refine To.op0 hxE2 (by simp only [go_sem, reduceIte, seval, Heap.sets, Heap.get, Nat.add_zero, V.one, Nat.reduceLeDiff, List.all_cons, List.all_nil, ne_eq, not_false_eq_true, Nat.zero_le, pairV, s0, s6, s7, s8, hlt, ix, wi, hsx, hsb, hbc, wc, w1, m1, List.set_set]; rfl) ?_ | refine To.op1 hxE2 (by simp only [go_sem, reduceIte, seval, Heap.sets, V.one, Nat.reduceLeDiff, List.all_cons, List.all_nil, ne_eq, not_false_eq_true, Nat.zero_le, pairV, hsx, List.set_set]; rfl) ?_ | refine To.nop hxE2 ?_ | (refine To.condT hxE2 ?_ ?_; focus (simp only [go_sem, reduceIte, seval]; done)) | refine To.block hxE2 ?_ | refine To.skip hxE2 ?_ | refine To.draw0 hxE2 ?_ | refine ToD.op0 (by simp only [go_sem, reduceIte, seval, Heap.sets, Heap.get, List.drop_of_length_le, Nat.add_zero, V.one, List.all_cons, List.all_nil, ne_eq, not_false_eq_true, Nat.zero_le, s0, hsx, w2, m2, List.set_set]; rfl) (by simp only [put_some]; rfl) ?_ | refine ToD.op1 (by simp only [go_sem, reduceIte, seval, Heap.sets, List.drop_of_length_le, V.one, List.all_cons, List.all_nil, ne_eq, not_false_eq_true, Nat.zero_le, hsx, List.set_set]; rfl) (by simp only [put_none]; rfl) (by simp only [KD.app, go_sem, seval]; rfl) ?_ | refine ToD.nop ?_))
      try simp only [andThen]
      refine ⟨m - 1, by omega, i + 1, _, by omega, by rw [hst]; rfl, .inr (by omega), by omega, ?_⟩
      simp only [go_sem, reduceIte, seval, s0, s6, s7]
    · have hlt : decide ((i : Int) < 64) = false := decide_eq_false (by omega)
      have hie : pg.take i = pg := List.take_of_length_le (by omega)
      rw [hie]
      (repeat' (first | refine To.seq hxE2 ?_ | refine To.op0 hxE2 (by simp only [go_sem, reduceIte, seval, s7, s8, hlt]; rfl) ?_ | refine To.nop hxE2 ?_ | (refine To.condF hxE2 ?_ ?_; focus (simp only [go_sem, reduceIte, seval]; done)) | refine To.exit hxE2 ?_))
      try simp only [andThen, outOf, if_true]
      refine ⟨_, _, fin0n rfl, rfl, ?_⟩
      obtain ⟨d2, q1, q2, q3⟩ := leave_same2 (o := o) (o' := o.set pl (.cells .ex t 0 (pairV (sumB x pg)))) (e := e) (d := d) (d' := d') (v := .tuple []) rfl (by simp) (fun h => by omega)
      exact ⟨d2, q1, by omega⟩
  · refine ⟨0, o.length, by omega, ?_, .inl rfl, by omega, ?_⟩
    · rw [List.take_zero]
      show _ = (⟨o.set pl (.cells .ex t 0 (pairV x)), o.length, o.length⟩ : Heap)
      rw [hid]; rfl
    · simp only [go_sem, reduceIte, seval, initS]
set_option maxHeartbeats 1000000 in
theorem psum_q {x : Nat × Nat} (hx : lowS x) : Den FF E2 90 [.agg (pairV x)] ⟨o, e, d⟩ = some (.val (.int .u32 ((x.2 * 65536 + x.1 : Nat) : Int)), none) := by
  refine To.den hxE2 (f := 90) (a := af90) rfl (E2_none rfl) (Nat.le_of_ble_eq_true rfl) ?_
  obtain ⟨h1, h2⟩ := hx
  have hsh : shiftA .shl .u32 (x.2 : Int) 16 = some (.int .u32 ((x.2 * 65536 : Nat) : Int)) := by
    unfold shiftA
    rw [if_neg (by omega)]
    simp only
    have e8 : (min (16 : Int).toNat IntKind.u32.bits) = 16 := rfl
    rw [e8, wrap_u32 (by omega) (by omega)]
    congr 2
  have hor := or_add32 (a := x.2) (c := x.1) (by omega) (by omega)
  (repeat' (first | refine To.seq hxE2 ?_ | refine To.op0 hxE2 (by simp only [go_sem, reduceIte, seval, Heap.get, Nat.add_zero, pairV, hsh, hor]; rfl) ?_ | refine To.op1 hxE2 (by simp only [go_sem, seval, pairV]; rfl) ?_ | refine To.nop hxE2 ?_ | refine To.ret hxE2 ?_))
  try simp only [andThen, outOf]
  exact fin_k1 (i := 2) (v := .int .u32 ((x.2 * 65536 + x.1 : Nat) : Int)) rfl (by simp only [go_sem, reduceIte, seval]) rfl (kp_app (by omega) (by omega))
set_option maxHeartbeats 8000000 in
theorem sumPages_q {v : V} {ps : List Pg} (hv : PgRow o v ps) (hn : ps.length ≤ 1000000) : Den FF E2 81 [v] ⟨o, e, d⟩ = some (.val (.int .u32 (sumP ps : Int)), none) := by
  refine To.den hxE2 (f := 81) (a := af81) rfl (E2_none rfl) (Nat.le_of_ble_eq_true rfl) ?_
  have hl := hv.len
  (repeat' (first | refine To.seq hxE2 ?_ | refine To.op0 hxE2 (by simp only [go_sem, reduceIte, seval, hl]; rfl) ?_ | refine To.op1 hxE2 (by simp only [go_sem, seval]; rfl) ?_ | refine To.nop hxE2 ?_ | refine To.block hxE2 ?_))
  refine To.loop hxE2 (fun m S h' => ∃ (i e' d' : Nat) (r : List AM.Obj), i + m = ps.length ∧ h' = ⟨o ++ (.cells .ex 141 0 (pairV ((ps.take i).foldl sumB (0, 0))) :: r), e', d'⟩ ∧ o.length ≤ e' ∧ o.length ≤ d' ∧ S 3 = .ptr o.length 0 ∧ S 6 = v ∧ S 7 = .int .i64 (ps.length : Int) ∧ S 8 = .int .i64 (i : Int)) ?_ ps.length _ _ ?_
  · rintro m S _ ⟨i, e', d', r, hm, rfl, he, hd, s3, s6, s7, s8⟩
    obtain ⟨hy1, hy2⟩ := sums_low (ps.take i) (x := (0, 0)) ⟨by decide, by decide⟩
    by_cases hi : i < ps.length
    · have hlt : decide ((i : Int) < (ps.length : Int)) = true := decide_eq_true (by omega)
      have ix : idxOf ps.length (.int .i64 (i : Int)) = some i := idxOf_nat hi
      have wi : IntKind.i64.wrap ((i : Int) + 1) = ((i + 1 : Nat) : Int) := by rw [wrap_i64 (by omega) (by omega)]; omega
      obtain ⟨l, ck, t, rfl, hlb⟩ := hv.at_ (by rintro rfl; simp at hi)
      have hg : ps[i]? = some ps[i] := List.getElem?_eq_getElem hi
      have hat := pgC_at hv.p64 hg
      have hkk : (i + 1) * 64 ≤ ps.length * 64 := Nat.mul_le_mul_right 64 hi
      have hle : i * 64 + 64 ≤ (pgC ps).length := by rw [pgC_len hv.p64]; omega
      have h64 := hv.p64 _ (List.getElem_mem hi)
      have hst : (ps.take (i + 1)).foldl sumB (0, 0) = sumB ((ps.take i).foldl sumB (0, 0)) ps[i] := by
        rw [List.take_add_one, hg, Option.toList_some, List.foldl_append]; rfl
      generalize ps[i] = p at *
      generalize hy : (ps.take i).foldl sumB (0, 0) = y at *
      have gl : ∀ r, (o ++ r)[l]? = some (.cells ck t 0 (pgC ps)) := fun r => app_old hlb r
      have htk : List.take 64 (bytesA p) = bytesA p := List.take_of_length_le (by rw [bytesA_length]; omega)
      have hbd2 : boundsA 64 64 none none = some (0, 64) := rfl
      have hgb : ((o ++ (AM.Obj.cells .ex 141 0 (pairV y) :: r)) ++ [AM.Obj.cells .ex 31 0 (bytesA p)])[(o ++ (AM.Obj.cells .ex 141 0 (pairV y) :: r)).length]? = some (.cells .ex 31 0 (bytesA p)) := app_get0 _ _ _
      have hgp : ((o ++ (AM.Obj.cells .ex 141 0 (pairV y) :: r)) ++ [AM.Obj.cells .ex 31 0 (bytesA p)])[o.length]? = some (.cells .ex 141 0 (pairV y)) := app_old (app_get0 _ _ _) _
      obtain ⟨v0, oh, q, rfl, d2, hg2, hd2⟩ := add_q (e := e') (d := min d' (o.length + (r.length + 1))) ⟨hy1, hy2⟩ h64 hgp hgb (by simp)
      have hset : ((o ++ (AM.Obj.cells .ex 141 0 (pairV y) :: r)) ++ [AM.Obj.cells .ex 31 0 (bytesA p)]).set o.length (.cells .ex 141 0 (pairV (sumB y p))) = o ++ (.cells .ex 141 0 (pairV (sumB y p)) :: (r ++ [.cells .ex 31 0 (bytesA p)])) := by
        rw [List.append_assoc]
        exact app_set0 _ _ _ _
      rw [hset] at hg2
      simp only [List.append_assoc, List.cons_append, List.length_append, List.length_cons] at q hg2
      (repeat' (first | refine To.seq hxE2 ?_ | refine To.op0 hxE2 (by simp only [go_sem, reduceIte, seval, Heap.gets, Heap.sets, bytesA_length, bytesA_one, bytesA_plains, ne_eq, not_false_eq_true, Nat.zero_le, s3, s6, s7, s8, hlt, ix, gl, hat, hle, h64, hbd2, z64_len, z64_drop]; rfl) ?_ | refine To.op1 hxE2 (by simp only [go_sem, reduceIte, seval, Heap.sets, bytesA_length, bytesA_one, bytesA_plains, ne_eq, not_false_eq_true, Nat.zero_le, s3, h64, z64_len, z64_drop]; rfl) ?_ | refine To.nop hxE2 ?_ | (refine To.condT hxE2 ?_ ?_; focus (simp only [go_sem, reduceIte, seval]; done)) | refine To.block hxE2 ?_ | refine To.skip hxE2 ?_))
      refine To.op hxE2 (by simp only [go_sem, reduceIte, seval, s3, q]; rfl) ?_
      rw [hg2]
      (repeat' (first | refine To.op0 hxE2 (by simp only [go_sem, reduceIte, seval, s8, wi]; rfl) ?_ | refine To.nop hxE2 ?_))
      try simp only [andThen]
      refine ⟨m - 1, by omega, i + 1, _, _, _, by omega, by rw [hst], he, by omega, ?_⟩
      simp only [go_sem, reduceIte, seval, s3, s6, s7]
    · have hlt : decide ((i : Int) < (ps.length : Int)) = false := decide_eq_false (by omega)
      have hie : ps.take i = ps := List.take_of_length_le (by omega)
      rw [hie] at hy1 hy2 ⊢
      have q := fun r e d => psum_q (o := o ++ r) (e := e) (d := d) (x := ps.foldl sumB (0, 0)) ⟨hy1, hy2⟩
      have hpv : (pairV (ps.foldl sumB (0, 0))).length = 2 := rfl
      have hsum : (ps.foldl sumB (0, 0)).2 * 65536 + (ps.foldl sumB (0, 0)).1 = sumP ps := rfl
      rw [hsum] at q
      have hpt : List.take 2 (pairV (ps.foldl sumB (0, 0))) = pairV (ps.foldl sumB (0, 0)) := rfl
      generalize pairV (ps.foldl sumB (0, 0)) = pv at *
      (repeat' (first | refine To.seq hxE2 ?_ | refine To.op0 hxE2 (by simp only [go_sem, reduceIte, seval, Heap.gets, List.take_of_length_le, s3, s7, s8, hlt, q, hpv]; rfl) ?_ | refine To.nop hxE2 ?_ | (refine To.condF hxE2 ?_ ?_; focus (simp only [go_sem, reduceIte, seval]; done)) | refine To.ret hxE2 ?_ | refine To.exit hxE2 ?_))
      try simp only [andThen, outOf, if_true]
      exact fin_k1 (i := 2) (v := .int .u32 (sumP ps : Int)) rfl (by simp only [go_sem, reduceIte, seval]) rfl (kp_app he hd)
  · refine ⟨0, _, _, [], by omega, rfl, ?_, ?_, ?_⟩
    · simp
    · simp
    · simp only [go_sem, reduceIte, seval]
end
end Go.Proofs.Ytfbkeieoeagkdaa

/- Journal: heads read; rooms. -/
namespace Go.Proofs.Ytfbkeieoeagkdaa
open Go AM
set_option linter.unusedSimpArgs false
set_option linter.unusedVariables false
set_option maxRecDepth 100000

/-- What a page tells as a head, and whether it is one. -/
def liveP (p : Pg) : Bool := p.getD 4 0 == 1
def wholeP (p : Pg) : Bool := rightH (getK p 0 4) (liveP p) (getK p 5 2) (getK p 7 4) && (headP (getK p 0 4) (liveP p) (getK p 5 2) (getK p 7 4) == p)
def nextP (p : Pg) : Nat := max (getK p 0 4 + 1) (getK p 60 4 + 1)
/-- How many changes a region holds. -/
def listsN (n : Nat) : Nat := (n + 31) / 32
def roomF (size : Int) : Nat → Nat → Nat
  | 0, n => n
  | k + 1, n => if n < 512 ∧ 1 + (listsN (n + 1) : Int) + (n : Int) + 1 ≤ size then roomF size k (n + 1) else n
def roomJ (size : Int) : Nat := roomF size 512 0
theorem roomF_le (size : Int) : ∀ k n, roomF size k n ≤ n + k
  | 0, n => Nat.le_refl _
  | k + 1, n => by
    unfold roomF
    split
    · have := roomF_le size k (n + 1); omega
    · omega
theorem roomJ_le (size : Int) : roomJ size ≤ 512 := by have := roomF_le size 512 0; unfold roomJ; omega
theorem gets4 {o : List AM.Obj} {e d t : Nat} {x : AM.Obj} {cs : List V} {r : List AM.Obj} (h : cs.length = 4) : (⟨o ++ (x :: .cells .ex t 0 cs :: r), e, d⟩ : Heap).gets (o.length + 1) 0 4 = some cs := by
  have hg : (o ++ (x :: AM.Obj.cells .ex t 0 cs :: r))[o.length + 1]? = some (.cells .ex t 0 cs) := by
    rw [app_getk]; rfl
  simp only [Heap.gets, hg, Nat.zero_add, h, Nat.le_refl, if_true, List.drop_zero]
  rw [if_neg (by decide), List.take_of_length_le (by omega)]
section
variable {o : List AM.Obj} {e d : Nat}
set_option maxHeartbeats 8000000 in
theorem decode_q {p : Pg} (hp : p.length = 64) : Den FF E2 55 [.agg (bytesA p)] ⟨o, e, d⟩ = some (.val (.tuple [.agg (if wholeP p = true then headV (getK p 0 4) (liveP p) (getK p 5 2) (getK p 7 4) else headV 0 false 0 0), .bool (wholeP p)]), none) := by
  refine To.den hxE2 (f := 55) (a := af55) rfl (E2_none rfl) (Nat.le_of_ble_eq_true rfl) ?_
  have g1 : ∀ r e d, Den FF E2 71 [.agg (bytesA p), .int .i64 0, .int .i64 4] ⟨o ++ r, e, d⟩ = some (.val (.int .i64 (getK p 0 4 : Int)), none) := fun r e d => get_q hp (a := 0) (s := 4) (by omega) (by omega) (by omega)
  have g2 : ∀ r e d, Den FF E2 71 [.agg (bytesA p), .int .i64 5, .int .i64 2] ⟨o ++ r, e, d⟩ = some (.val (.int .i64 (getK p 5 2 : Int)), none) := fun r e d => get_q hp (a := 5) (s := 2) (by omega) (by omega) (by omega)
  have g3 : ∀ r e d, Den FF E2 71 [.agg (bytesA p), .int .i64 7, .int .i64 4] ⟨o ++ r, e, d⟩ = some (.val (.int .i64 (getK p 7 4 : Int)), none) := fun r e d => get_q hp (a := 7) (s := 4) (by omega) (by omega) (by omega)
  have hm := getK_lt p 7 4
  have hm2 : getK p 7 4 < 4294967296 := hm
  have wm : IntKind.u32.wrap (getK p 7 4 : Int) = (getK p 7 4 : Int) := wrap_u32 (by omega) (by omega)
  obtain ⟨c, hc⟩ : ∃ c, p[4]? = some c := ⟨p[4], List.getElem?_eq_getElem (by omega)⟩
  have hbc : (bytesA p)[4]? = some (.int .u8 (c.toNat : Int)) := by rw [bytesA_get, hc]; rfl
  have hlv : ((c.toNat : Int) == 1) = liveP p := by
    unfold liveP
    rw [List.getD_eq_getElem?_getD, hc, Bool.eq_iff_iff, beq_iff_eq, Option.getD_some, beq_iff_eq]
    constructor
    · intro h
      have e1 : (1 : UInt8).toNat = 1 := rfl
      exact UInt8.toNat_inj.1 (by omega)
    · rintro rfl; rfl
  have htk : List.take 64 (bytesA p) = bytesA p := List.take_of_length_le (by rw [bytesA_length]; omega)
  have ix : idxOf 64 (.int .i64 4) = some 4 := rfl
  have q1 : ∀ r e d, Den FF E2 72 [.agg (headV (getK p 0 4) (liveP p) (getK p 5 2) (getK p 7 4))] ⟨o ++ r, e, d⟩ = some (.val (.bool (rightH (getK p 0 4) (liveP p) (getK p 5 2) (getK p 7 4))), none) := fun r e d => right_q
  have q2 : ∀ r e d, Den FF E2 73 [.agg (headV (getK p 0 4) (liveP p) (getK p 5 2) (getK p 7 4))] ⟨o ++ r, e, d⟩ = some (.val (.agg (bytesA (headP (getK p 0 4) (liveP p) (getK p 5 2) (getK p 7 4)))), none) := fun r e d => put_q (by omega) (by omega)
  have hw : wholeP p = (rightH (getK p 0 4) (liveP p) (getK p 5 2) (getK p 7 4) && (headP (getK p 0 4) (liveP p) (getK p 5 2) (getK p 7 4) == p)) := rfl
  have hl := headP_len (getK p 0 4) (liveP p) (getK p 5 2) (getK p 7 4)
  have hk := eqB64 hl hp
  have hbl := beqs_bytes p
  generalize headP (getK p 0 4) (liveP p) (getK p 5 2) (getK p 7 4) = pH at *
  generalize rightH (getK p 0 4) (liveP p) (getK p 5 2) (getK p 7 4) = rH at *
  generalize hs : (getK p 0 4 : Int) = s at *
  generalize hcc : (getK p 5 2 : Int) = cn at *
  generalize hsm : (getK p 7 4 : Int) = sm at *
  generalize liveP p = lv at *
  simp only [headV] at q1 q2 ⊢
  have hN0 : decide (o.length < o.length + 2) = true := decide_eq_true (by omega)
  have hN1 : decide (o.length + 1 < o.length + 2) = true := decide_eq_true (by omega)
  have hdrop : ∀ a b c : AM.Obj, List.drop (o.length + 2) (o ++ [a, b, c]) = [c] := fun a b c => by rw [← List.drop_drop, List.drop_left]; rfl
  have hN3 : ∀ k, decide (o.length + 2 ≤ o.length + (2 + k)) = true := fun k => decide_eq_true (by omega)
  have hc0 : List.contains (0 :: []) 0 = true := rfl
  have hN2 : ∀ k, decide (o.length < o.length + (k + 1)) = true := fun k => decide_eq_true (by omega)
  (repeat' (first | refine To.seq hxE2 ?_ | refine To.op0 hxE2 (by simp only [go_sem, seval]; rfl) ?_ | refine To.op1 hxE2 (by simp only [go_sem, seval]; rfl) ?_ | refine To.nop hxE2 ?_ | refine To.draw0 hxE2 ?_ | refine ToD.op0 (by simp only [go_sem, reduceIte, seval, Heap.gets, Heap.sets, Heap.get, bytesA_length, List.take_of_length_le, List.drop_of_length_le, Nat.add_zero, V.one, Nat.reduceLeDiff, List.all_cons, List.all_nil, ne_eq, not_false_eq_true, Nat.zero_le, g1, g2, g3, wm, hbc, hlv, hp, ix, okL, hN0, hdrop, List.contains_nil]; rfl) (by simp only [put_some]; rfl) ?_ | refine ToD.op1 (by simp only [go_sem, reduceIte, seval, Heap.sets, List.drop_of_length_le, Nat.add_zero, V.one, List.all_cons, List.all_nil, ne_eq, not_false_eq_true, Nat.zero_le, hdrop]; rfl) (by simp only [put_some, put_none]; rfl) (by simp only [KD.app, go_sem, seval]; rfl) ?_ | refine ToD.nop ?_ | refine To.draw hxE2 (by decide) ?_ | fail))
  cases rH
  · rw [Bool.false_and] at hw
    rw [hw, if_neg (by decide)]
    (repeat' (first | refine To.seq hxE2 ?_ | refine To.op0 hxE2 (by simp only [go_sem, reduceIte, seval, Heap.sets, List.drop_of_length_le, V.one, List.all_cons, List.all_nil, ne_eq, not_false_eq_true, Nat.zero_le]; rfl) ?_ | refine To.op1 hxE2 (by simp only [go_sem, reduceIte, seval, Heap.sets, List.drop_of_length_le, V.one, List.all_cons, List.all_nil, ne_eq, not_false_eq_true, Nat.zero_le]; rfl) ?_ | refine To.nop hxE2 ?_ | (refine To.condT hxE2 ?_ ?_; focus (simp only [go_sem, reduceIte, seval]; done)) | refine To.ret hxE2 ?_ | refine ToD.op0 (by simp only [go_sem, reduceIte, seval, q1]; rfl) (by simp only [put_some]; rfl) ?_ | refine ToD.nop ?_))
    try simp only [andThen]
    exact fin_kc2 (j := 2) (cs := [.int .i64 0, .bool false, .int .i64 0, .int .u32 0]) (l := o.length + 1) (v := .bool false) rfl (by simp only [go_sem, reduceIte, seval]) (by simp only [go_sem, reduceIte, seval]) (gets4 rfl) rfl rfl (kp_app (by omega) (by omega))
  · rw [Bool.true_and] at hw
    cases hb : (pH == p)
    · rw [hb] at hw hk
      rw [hw, if_neg (by decide)]
      (repeat' (first | refine To.seq hxE2 ?_ | refine To.op0 hxE2 (by simp only [go_sem, reduceIte, seval, Heap.sets, List.drop_of_length_le, V.one, List.all_cons, List.all_nil, ne_eq, not_false_eq_true, Nat.zero_le]; rfl) ?_ | refine To.op1 hxE2 (by simp only [go_sem, reduceIte, seval, Heap.sets, List.drop_of_length_le, V.one, List.all_cons, List.all_nil, ne_eq, not_false_eq_true, Nat.zero_le]; rfl) ?_ | refine To.nop hxE2 ?_ | (refine To.condT hxE2 ?_ ?_; focus (simp only [go_sem, reduceIte, seval]; done)) | refine To.ret hxE2 ?_ | refine ToD.op0 (by simp only [go_sem, reduceIte, seval, Heap.gets, bytesA_length, List.take_of_length_le, q1, q2, hk, hp]; rfl) (by simp only [put_some]; rfl) ?_ | refine ToD.nop ?_))
      try simp only [andThen]
      exact fin_kc2 (j := 2) (cs := [.int .i64 0, .bool false, .int .i64 0, .int .u32 0]) (l := o.length + 1) (v := .bool false) rfl (by simp only [go_sem, reduceIte, seval]) (by simp only [go_sem, reduceIte, seval]) (gets4 rfl) rfl rfl (kp_app (by omega) (by omega))
    · rw [hb] at hw hk
      rw [hw, if_pos rfl]
      (repeat' (first | refine To.seq hxE2 ?_ | refine To.op0 hxE2 (by simp only [go_sem, reduceIte, seval, Heap.gets, Heap.sets, List.take_of_length_le, List.drop_of_length_le, V.one, List.all_cons, List.all_nil, ne_eq, not_false_eq_true, Nat.zero_le]; rfl) ?_ | refine To.op1 hxE2 (by simp only [go_sem, reduceIte, seval, Heap.sets, List.drop_of_length_le, V.one, List.all_cons, List.all_nil, ne_eq, not_false_eq_true, Nat.zero_le]; rfl) ?_ | refine To.nop hxE2 ?_ | (refine To.condF hxE2 ?_ ?_; focus (simp only [go_sem, reduceIte, seval]; done)) | refine To.ret hxE2 ?_ | refine To.skip hxE2 ?_ | refine ToD.op0 (by simp only [go_sem, reduceIte, seval, Heap.gets, bytesA_length, List.take_of_length_le, q1, q2, hk, hp]; rfl) (by simp only [put_some]; rfl) ?_ | refine ToD.nop ?_))
      try simp only [andThen, outOf]
      exact fin_kc2 (j := 2) (cs := [.int .i64 s, .bool lv, .int .i64 cn, .int .u32 sm]) (l := o.length + 1) (v := .bool true) rfl (by simp only [go_sem, reduceIte, seval]) (by simp only [go_sem, reduceIte, seval]) (gets4 rfl) rfl rfl (kp_app (by omega) (by omega))
set_option maxHeartbeats 1000000 in
theorem lists_q {n : Nat} (hn : n ≤ 1000000) : Den FF E2 70 [.int .i64 (n : Int)] ⟨o, e, d⟩ = some (.val (.int .i64 (listsN n : Int)), none) := by
  refine To.den hxE2 (f := 70) (a := af70) rfl (E2_none rfl) (Nat.le_of_ble_eq_true rfl) ?_
  have w1 : IntKind.i64.wrap ((n : Int) + 32) = (n : Int) + 32 := wrap_i64 (by omega) (by omega)
  have w2 : IntKind.i64.wrap ((n : Int) + 32 - 1) = ((n + 31 : Nat) : Int) := by rw [wrap_i64 (by omega) (by omega)]; omega
  have t1 : Int.tdiv ((n + 31 : Nat) : Int) 32 = ((listsN n : Nat) : Int) := by rw [Int.tdiv_eq_ediv_of_nonneg (by omega)]; unfold listsN; omega
  have hl : listsN n ≤ 1000000 := by unfold listsN; omega
  have w3 : IntKind.i64.wrap (listsN n : Int) = (listsN n : Int) := wrap_i64 (by omega) (by omega)
  (repeat' (first | refine To.seq hxE2 ?_ | refine To.op0 hxE2 (by simp only [go_sem, reduceIte, seval, w1, w2, t1, w3]; rfl) ?_ | refine To.nop hxE2 ?_ | refine To.ret hxE2 ?_))
  try simp only [andThen, outOf]
  exact fin_k1 (i := 2) (v := .int .i64 (listsN n : Int)) rfl (by simp only [go_sem, reduceIte, seval]) rfl (Kp.enter' _)
set_option maxHeartbeats 4000000 in
theorem room_q {size : Int} : Den FF E2 53 [.int .i64 size] ⟨o, e, d⟩ = some (.val (.int .i64 (roomJ size : Int)), none) := by
  refine To.den hxE2 (f := 53) (a := af53) rfl (E2_none rfl) (Nat.le_of_ble_eq_true rfl) ?_
  (repeat' (first | refine To.seq hxE2 ?_ | refine To.op0 hxE2 (by simp only [go_sem, seval]; rfl) ?_ | refine To.nop hxE2 ?_ | refine To.block hxE2 ?_))
  refine To.loop hxE2 (fun m S h' => ∃ n : Nat, n + m = 512 ∧ h' = ⟨o, o.length, o.length⟩ ∧ roomF size m n = roomJ size ∧ S 0 = .int .i64 size ∧ S 3 = .int .i64 (n : Int)) ?_ 512 _ _ ?_
  · rintro m S _ ⟨n, hm, rfl, hr, s0, s3⟩
    by_cases h512 : n < 512
    · have d1 : decide ((n : Int) < 512) = true := decide_eq_true (by omega)
      have wn : IntKind.i64.wrap ((n : Int) + 1) = ((n + 1 : Nat) : Int) := by rw [wrap_i64 (by omega) (by omega)]; omega
      have q := fun e d => lists_q (o := o) (e := e) (d := d) (n := n + 1) (by omega)
      have hl : listsN (n + 1) ≤ 1000 := by unfold listsN; omega
      obtain ⟨m', rfl⟩ : ∃ m', m = m' + 1 := ⟨m - 1, by omega⟩
      rw [roomF] at hr
      generalize listsN (n + 1) = L at *
      have w1 : IntKind.i64.wrap (1 + (L : Int)) = 1 + (L : Int) := wrap_i64 (by omega) (by omega)
      have w2 : IntKind.i64.wrap (1 + (L : Int) + (n : Int)) = 1 + (L : Int) + (n : Int) := wrap_i64 (by omega) (by omega)
      have w3 : IntKind.i64.wrap (1 + (L : Int) + (n : Int) + 1) = 1 + (L : Int) + (n : Int) + 1 := wrap_i64 (by omega) (by omega)
      by_cases hc : 1 + (L : Int) + (n : Int) + 1 ≤ size
      · rw [if_pos ⟨h512, hc⟩] at hr
        have d2 : decide (1 + (L : Int) + (n : Int) + 1 ≤ size) = true := decide_eq_true hc
        (repeat' (first | refine To.seq hxE2 ?_ | refine To.op0 hxE2 (by simp only [go_sem, reduceIte, seval, s0, s3, d1, wn, q, w1, w2, w3, d2]; rfl) ?_ | refine To.nop hxE2 ?_ | (refine To.condT hxE2 ?_ ?_; focus (simp only [go_sem, reduceIte, seval]; done)) | refine To.block hxE2 ?_ | refine To.skip hxE2 ?_))
        try simp only [andThen, outOf]
        refine ⟨m', by omega, n + 1, by omega, trivial, hr, ?_⟩
        simp only [go_sem, reduceIte, seval, s0]
      · rw [if_neg (fun h => hc h.2)] at hr
        have d2 : decide (1 + (L : Int) + (n : Int) + 1 ≤ size) = false := decide_eq_false hc
        rw [← hr]
        (repeat' (first | refine To.seq hxE2 ?_ | refine To.op0 hxE2 (by simp only [go_sem, reduceIte, seval, s0, s3, d1, wn, q, w1, w2, w3, d2]; rfl) ?_ | refine To.nop hxE2 ?_ | (refine To.condF hxE2 ?_ ?_; focus (simp only [go_sem, reduceIte, seval]; done)) | refine To.ret hxE2 ?_ | refine To.exit hxE2 ?_))
        try simp only [andThen, outOf, if_true]
        skip
        exact fin_k1 (i := 2) (v := .int .i64 (n : Int)) rfl (by simp only [go_sem, reduceIte, seval]) rfl (Kp.enter' _)
    · have d1 : decide ((n : Int) < 512) = false := decide_eq_false (by omega)
      obtain rfl : m = 0 := by omega
      rw [roomF] at hr
      rw [← hr]
      (repeat' (first | refine To.seq hxE2 ?_ | refine To.op0 hxE2 (by simp only [go_sem, reduceIte, seval, s3, d1]; rfl) ?_ | refine To.nop hxE2 ?_ | (refine To.condF hxE2 ?_ ?_; focus (simp only [go_sem, reduceIte, seval]; done)) | refine To.ret hxE2 ?_ | refine To.exit hxE2 ?_))
      try simp only [andThen, outOf, if_true]
      skip
      exact fin_k1 (i := 2) (v := .int .i64 (n : Int)) rfl (by simp only [go_sem, reduceIte, seval]) rfl (Kp.enter' _)
  · refine ⟨0, by omega, rfl, rfl, ?_⟩
    simp only [go_sem, reduceIte, seval, initS]
set_option maxHeartbeats 4000000 in
theorem next_q {v : V} {p : Pg} (hv : PgRow o v [p]) : Den FF E2 57 [v] ⟨o, e, d⟩ = some (.val (.int .i64 (nextP p : Int)), none) := by
  refine To.den hxE2 (f := 57) (a := af57) rfl (E2_none rfl) (Nat.le_of_ble_eq_true rfl) ?_
  have hl : lenLV v = some (.int .i64 1, none) := hv.len
  have hp := hv.p64 p List.mem_cons_self
  obtain ⟨l, ck, t, rfl, hlb⟩ := hv.at_ (by simp)
  have hpc : pgC [p] = bytesA p := by simp [pgC]
  rw [hpc] at hlb
  have g1 : ∀ r e d, Den FF E2 71 [.agg (bytesA p), .int .i64 0, .int .i64 4] ⟨o ++ r, e, d⟩ = some (.val (.int .i64 (getK p 0 4 : Int)), none) := fun r e d => get_q hp (a := 0) (s := 4) (by omega) (by omega) (by omega)
  have g2 : ∀ r e d, Den FF E2 71 [.agg (bytesA p), .int .i64 60, .int .i64 4] ⟨o ++ r, e, d⟩ = some (.val (.int .i64 (getK p 60 4 : Int)), none) := fun r e d => get_q hp (a := 60) (s := 4) (by omega) (by omega) (by omega)
  have hm1 : getK p 0 4 < 4294967296 := getK_lt p 0 4
  have hm2 : getK p 60 4 < 4294967296 := getK_lt p 60 4
  have w1 : IntKind.i64.wrap ((getK p 0 4 : Int) + 1) = ((getK p 0 4 + 1 : Nat) : Int) := by rw [wrap_i64 (by omega) (by omega)]; omega
  have w2 : IntKind.i64.wrap ((getK p 60 4 : Int) + 1) = ((getK p 60 4 + 1 : Nat) : Int) := by rw [wrap_i64 (by omega) (by omega)]; omega
  have ix : idxOf 1 (.int .i64 0) = some 0 := rfl
  have htk : List.take 64 (bytesA p) = bytesA p := List.take_of_length_le (by rw [bytesA_length]; omega)
  have gl : ∀ r, (o ++ r)[l]? = some (.cells ck t 0 (bytesA p)) := fun r => app_old hlb r
  have hbl := beqs_bytes p
  (repeat' (first | refine To.seq hxE2 ?_ | refine To.op0 hxE2 (by simp only [go_sem, reduceIte, seval]; rfl) ?_ | refine To.nop hxE2 ?_ | refine To.block hxE2 ?_))
  refine To.loop hxE2 (fun m S h' => ∃ (i e' d' : Nat) (r : List AM.Obj), i + m = 1 ∧ h' = ⟨o ++ r, e', d'⟩ ∧ o.length ≤ e' ∧ o.length ≤ d' ∧ S 3 = .int .i64 ((if i = 0 then 0 else nextP p : Nat) : Int) ∧ S 6 = .slice l 0 1 64 ∧ S 7 = .int .i64 1 ∧ S 8 = .int .i64 (i : Int)) ?_ 1 _ _ ?_
  · rintro m S _ ⟨i, e', d', r, hm, rfl, he, hd, s3, s6, s7, s8⟩
    by_cases hi : i = 0
    · subst hi
      rw [if_pos rfl] at s3
      (repeat' (first | refine To.seq hxE2 ?_ | refine To.op0 hxE2 (by simp only [go_sem, reduceIte, seval, Heap.gets, Heap.sets, bytesA_length, bytesA_one, bytesA_plains, List.take_of_length_le, ne_eq, not_false_eq_true, Nat.zero_le, s6, s7, s8, gl, ix, hp, z64_len, z64_drop]; rfl) ?_ | refine To.op1 hxE2 (by simp only [go_sem, reduceIte, seval, Heap.sets, bytesA_length, bytesA_one, bytesA_plains, ne_eq, not_false_eq_true, Nat.zero_le, hp, z64_len, z64_drop]; rfl) ?_ | refine To.nop hxE2 ?_ | (refine To.condT hxE2 ?_ ?_; focus (simp only [go_sem, reduceIte, seval]; done)) | refine To.block hxE2 ?_ | refine To.skip hxE2 ?_ | refine To.draw0 hxE2 ?_ | refine ToD.op0 (by simp only [go_sem, reduceIte, seval, Heap.gets, bytesA_length, List.take_of_length_le, s3, g1, g2, w1, w2, hp]; rfl) (by simp only [put_some]; rfl) ?_ | refine ToD.nop ?_))
      try simp only [andThen]
      refine ⟨m - 1, by omega, 1, _, _, _, by omega, rfl, by omega, by omega, ?_⟩
      simp only [go_sem, reduceIte, seval, s6, s7]
      refine ⟨congrArg _ ?_, by rw [wrap_i64 (by omega) (by omega)]⟩
      unfold nextP
      split <;> split <;> omega
    · have hi1 : i = 1 := by omega
      subst hi1
      rw [if_neg (by decide)] at s3
      (repeat' (first | refine To.seq hxE2 ?_ | refine To.op0 hxE2 (by simp only [go_sem, reduceIte, seval, s3, s7, s8]; rfl) ?_ | refine To.nop hxE2 ?_ | (refine To.condF hxE2 ?_ ?_; focus (simp only [go_sem, reduceIte, seval]; done)) | refine To.ret hxE2 ?_ | refine To.exit hxE2 ?_))
      try simp only [andThen, outOf, if_true]
      skip
      exact fin_k1 (i := 2) (v := .int .i64 (nextP p : Int)) rfl (by simp only [go_sem, reduceIte, seval]) rfl (kp_app he hd)
  · refine ⟨0, _, _, [], by omega, by rw [List.append_nil]; rfl, ?_, ?_, ?_⟩
    · simp
    · simp
    · simp only [go_sem, reduceIte, seval]
end
end Go.Proofs.Ytfbkeieoeagkdaa

/- Journal: a disk's steps in plain words; changes put home. -/
namespace Go.Proofs.Ytfbkeieoeagkdaa
open Go AM
set_option linter.unusedSimpArgs false
set_option linter.unusedVariables false
set_option maxRecDepth 100000

/-- A disk, but for whether its fuse is on. -/
structure DSt where
  down : Bool
  left : Int
  pgs : List Pg
  ca : List (Nat × Pg)
abbrev PDs (o : List AM.Obj) (dd pg lm : Nat) (on : Bool) (s : DSt) : Prop := PD o dd pg lm on s.down s.left s.pgs s.ca
def dWrite (on : Bool) (s : DSt) (i : Int) (p : Pg) : Int × DSt :=
  if hasE s.down s.pgs.length i ≠ 0 then (hasE s.down s.pgs.length i, s)
  else if burnB on s.down s.left = false then (5, ⟨burnD on s.down s.left, burnL on s.down s.left, s.pgs, s.ca⟩)
  else (0, ⟨burnD on s.down s.left, burnL on s.down s.left, s.pgs, putC i.toNat p s.ca⟩)
def dFlush (on : Bool) (s : DSt) : Int × DSt :=
  if burnB on s.down s.left = false then (5, ⟨burnD on s.down s.left, burnL on s.down s.left, s.pgs, s.ca⟩)
  else (0, ⟨burnD on s.down s.left, burnL on s.down s.left, layP s.ca s.pgs, []⟩)
def dPut (on : Bool) : DSt → List (Int × Pg) → Int × DSt
  | s, [] => dFlush on s
  | s, c :: r => if (dWrite on s c.1 c.2).1 ≠ 0 then dWrite on s c.1 c.2 else dPut on (dWrite on s c.1 c.2).2 r
theorem dWrite_len (on : Bool) (s : DSt) (i : Int) (p : Pg) : (dWrite on s i p).2.pgs.length = s.pgs.length := by
  unfold dWrite
  split
  · rfl
  · split <;> rfl
theorem dFlush_len (on : Bool) (s : DSt) : (dFlush on s).2.pgs.length = s.pgs.length := by
  unfold dFlush
  split
  · rfl
  · exact layP_len
theorem dPut_len (on : Bool) : ∀ (l : List (Int × Pg)) (s : DSt), (dPut on s l).2.pgs.length = s.pgs.length
  | [], s => dFlush_len on s
  | c :: r, s => by
    rw [dPut]
    split
    · exact dWrite_len on s _ _
    · rw [dPut_len on r, dWrite_len]

/-- Behind a tail that stays. -/
theorem Dx.split {dd pg lm : Nat} {o r o' : List AM.Obj} (h : Dx dd pg lm (o ++ r) o') (h1 : dd < o.length) (h2 : pg < o.length) (h3 : lm < o.length) : ∃ o1, o' = o1 ++ r ∧ Dx dd pg lm o o1 := by
  have hlen := h.len
  rw [List.length_append] at hlen
  refine ⟨o'.take o.length, ?_, by rw [List.length_take]; omega, fun l a b c => ?_⟩
  · apply List.ext_getElem?
    intro j
    by_cases hj : j < o.length
    · rw [List.getElem?_append_left (by rw [List.length_take]; omega), List.getElem?_take_of_lt hj]
    · have := h.get j (by omega) (by omega) (by omega)
      rw [this, List.getElem?_append_right (by omega), List.getElem?_append_right (by rw [List.length_take]; omega), List.length_take, show j - min o.length o'.length = j - o.length by omega]
  · by_cases hl : l < o.length
    · rw [List.getElem?_take_of_lt hl, h.get l a b c, List.getElem?_append_left hl]
    · rw [List.getElem?_eq_none (by rw [List.length_take]; omega), List.getElem?_eq_none (by omega)]
section
variable {o : List AM.Obj} {e d dd pg lm : Nat} {on down : Bool} {left : Int} {pgs : List Pg} {ca : List (Nat × Pg)}
theorem PD.chop {r : List AM.Obj} (P : PD (o ++ r) dd pg lm on down left pgs ca) (h1 : dd < o.length) (h2 : pg < o.length) (h3 : lm < o.length) : PD o dd pg lm on down left pgs ca := by
  have g : ∀ l, l < o.length → (o ++ r)[l]? = o[l]? := fun l hl => List.getElem?_append_left hl
  exact ⟨by rw [← g _ h1]; exact P.hd, by rw [← g _ h2]; exact P.hp, by rw [← g _ h3]; exact P.hm, P.p64, P.c64, P.nd⟩
theorem Low.trans {o1 o2 : List AM.Obj} {d d1 d2 : Nat} (h : Low dd pg lm o o1 d d1) (k : Low dd pg lm o1 o2 d1 d2) : Low dd pg lm o o2 d d2 := by
  obtain ⟨h1, h2⟩ := h
  obtain ⟨k1, k2⟩ := k
  refine ⟨Nat.le_trans k1 h1, ?_⟩
  rcases k2 with k2 | k2
  · rcases h2 with h2 | h2
    · exact .inl (k2.trans h2)
    · exact .inr (by omega)
  · exact .inr k2
theorem Low.refl {d : Nat} : Low dd pg lm o o d d := ⟨Nat.le_refl _, .inl rfl⟩
theorem Low.less {o1 : List AM.Obj} {d d1 d2 : Nat} (h : Low dd pg lm o o1 d d1) (hd : d2 ≤ d1) : Low dd pg lm o o1 d d2 := ⟨Nat.le_trans hd h.1, h.2.imp id (fun h => Nat.le_trans hd h)⟩
theorem Low.chop {r o1 : List AM.Obj} {d d1 : Nat} (h : Low dd pg lm (o ++ r) (o1 ++ r) d d1) : Low dd pg lm o o1 d d1 := ⟨h.1, h.2.imp (fun h => List.append_cancel_right h) id⟩
/-- What a call leaves: the disk's three objects alone. -/
structure Lv (dd pg lm : Nat) (o : List AM.Obj) (e d : Nat) (oh : Option Heap) (o' : List AM.Obj) (d' : Nat) : Prop where
  eq : oh.getD ⟨o, e, d⟩ = ⟨o', e, d'⟩
  dx : Dx dd pg lm o o'
  low : Low dd pg lm o o' d d'
theorem write_x (P : PD o dd pg lm on down left pgs ca) (i : Int) {p : Pg} (hp : p.length = 64) :
    ∃ oh o' d', Den FF E2 13 [.ptr dd 0, .int .i64 i, .agg (bytesA p)] ⟨o, e, d⟩ = some (.val (.int .i64 (dWrite on ⟨down, left, pgs, ca⟩ i p).1), oh) ∧ Lv dd pg lm o e d oh o' d' ∧ PDs o' dd pg lm on (dWrite on ⟨down, left, pgs, ca⟩ i p).2 := by
  unfold dWrite
  simp only
  by_cases h0 : hasE down pgs.length i = 0
  · rw [if_neg (by simpa using h0)]
    obtain ⟨_, k, rfl, hk⟩ := hasE_ok h0
    cases hB : burnB on down left
    · rw [if_pos rfl]
      obtain ⟨v, oh, q, rfl, o', d', hg, P', D, L⟩ := write_burnt' (e := e) (d := d) P hp h0 hB
      exact ⟨oh, o', d', q, ⟨hg, D, L⟩, P'⟩
    · rw [if_neg (by decide), Int.toNat_natCast]
      obtain ⟨v, oh, q, rfl, o', d', hg, P', D, L⟩ := write_ok' (e := e) (d := d) P hp hk h0 hB
      exact ⟨oh, o', d', q, ⟨hg, D, L⟩, P'⟩
  · rw [if_pos h0]
    exact ⟨none, o, d, write_no P hp h0, ⟨rfl, Dx.refl, Low.refl⟩, P⟩
theorem flush_x (P : PD o dd pg lm on down left pgs ca) :
    ∃ oh o' d', Den FF E2 16 [.ptr dd 0] ⟨o, e, d⟩ = some (.val (.int .i64 (dFlush on ⟨down, left, pgs, ca⟩).1), oh) ∧ Lv dd pg lm o e d oh o' d' ∧ PDs o' dd pg lm on (dFlush on ⟨down, left, pgs, ca⟩).2 := by
  unfold dFlush
  simp only
  cases hB : burnB on down left
  · rw [if_pos rfl]
    obtain ⟨v, oh, q, rfl, o', d', hg, P', D, L⟩ := flush_no' (e := e) (d := d) P hB
    exact ⟨oh, o', d', q, ⟨hg, D, L⟩, P'⟩
  · rw [if_neg (by decide)]
    obtain ⟨v, oh, q, rfl, o', d', hg, P', D, L⟩ := flush_ok' (e := e) (d := d) P hB
    exact ⟨oh, o', d', q, ⟨hg, D, L⟩, P'⟩

/-! Changes in a row -/
def chC (c : Int × Pg) : List V := .int .i64 c.1 :: bytesA c.2
structure ChRow (o : List AM.Obj) (v : V) (cs : List (Int × Pg)) : Prop where
  len : lenLV v = some (.int .i64 (cs.length : Int), none)
  at_ : cs ≠ [] → ∃ l ck t, v = .slice l 0 cs.length 65 ∧ o[l]? = some (.cells ck t 0 (cs.map chC).flatten) ∧ (ck = .ro ∨ t = 73)
  p64 : ∀ c ∈ cs, c.2.length = 64
theorem chC_len {c : Int × Pg} (h : c.2.length = 64) : (chC c).length = 65 := by
  simp only [chC, List.length_cons, bytesA_length]; omega
theorem ChRow.app {v : V} {cs : List (Int × Pg)} (h : ChRow o v cs) (r : List AM.Obj) : ChRow (o ++ r) v cs :=
  ⟨h.len, fun hc => by obtain ⟨l, ck, t, h1, h2, h3⟩ := h.at_ hc; exact ⟨l, ck, t, h1, app_old h2 r, h3⟩, h.p64⟩
theorem ChRow.dx {o' : List AM.Obj} {v : V} {cs : List (Int × Pg)} (h : ChRow o v cs) (P : PD o dd pg lm on down left pgs ca) (D : Dx dd pg lm o o') : ChRow o' v cs := by
  refine ⟨h.len, fun hc => ?_, h.p64⟩
  obtain ⟨l, ck, t, h1, h2, h3⟩ := h.at_ hc
  refine ⟨l, ck, t, h1, ?_, h3⟩
  rw [D.get l ?_ ?_ ?_]
  · exact h2
  · rintro rfl
    have := P.hd
    rw [h2] at this
    simp only [Option.some.injEq, AM.Obj.cells.injEq] at this
    rcases h3 with rfl | rfl
    · cases this.1
    · exact absurd this.2.1 (by decide)
  · rintro rfl
    have := P.hp
    rw [h2] at this
    simp only [Option.some.injEq, AM.Obj.cells.injEq] at this
    rcases h3 with rfl | rfl
    · cases this.1
    · exact absurd this.2.1 (by decide)
  · rintro rfl
    have := P.hm
    rw [h2] at this
    cases this
def regV (dd : Nat) (at_ size : Int) : List V := [.ptr dd 0, .int .i64 at_, .int .i64 size]
theorem z65_len : z65.length = 65 := rfl
theorem z65_drop : List.drop 65 z65 = [] := rfl
theorem chC_plains (c : Int × Pg) : V.plains (chC c) = true := by
  simp [chC, V.plains, V.plain, bytesA_plains]
theorem chC_one (c : Int × Pg) : (chC c).all V.one = true := by
  have : chC c = .int .i64 c.1 :: bytesA c.2 := rfl
  rw [this, List.all_cons, bytesA_one]; rfl

set_option maxHeartbeats 16000000 in
theorem rput_x (P : PD o dd pg lm on down left pgs ca) {a s : Int} {v : V} {cs : List (Int × Pg)} (hc : ChRow o v cs) (hn : cs.length ≤ 1000000) :
    ∃ r oh, Den FF E2 75 [.agg (regV dd a s), v] ⟨o, e, d⟩ = some (r, oh) ∧ r = .val (.int .i64 (dPut on ⟨down, left, pgs, ca⟩ cs).1) ∧ ∃ o' d', Lv dd pg lm o e d oh o' d' ∧ PDs o' dd pg lm on (dPut on ⟨down, left, pgs, ca⟩ cs).2 := by
  refine To.denE hxE2 (f := 75) (a := af75) rfl (E2_none rfl) (Nat.le_of_ble_eq_true rfl) ?_
  have hl := hc.len
  have lD := P.ld
  have lP := P.lp
  have lM := P.ll
  have hrl : (regV dd a s).length = 3 := rfl
  have hr0 : (regV dd a s)[0]? = some (.ptr dd 0) := rfl
  have hro : (regV dd a s).all V.one = true := rfl
  generalize regV dd a s = rv at hrl hr0 hro ⊢
  have fin : ∀ (n : Int) (S : Nat → V) (o1 : List AM.Obj) (r1 : List AM.Obj) (e1 d1 : Nat) (st : DSt), S 4 = .int .i64 n → Dx dd pg lm o o1 → Low dd pg lm o o1 o.length d1 → o.length ≤ e1 → PDs o1 dd pg lm on st → (n, st) = dPut on ⟨down, left, pgs, ca⟩ cs →
      ∃ v oh, finish af75 ⟨o, e, d⟩ (some (.ret, S, ⟨o1 ++ r1, e1, d1⟩)) = some (v, oh) ∧ v = .val (.int .i64 (dPut on ⟨down, left, pgs, ca⟩ cs).1) ∧ ∃ o' d', Lv dd pg lm o e d oh o' d' ∧ PDs o' dd pg lm on (dPut on ⟨down, left, pgs, ca⟩ cs).2 := by
    intro n S o1 r1 e1 d1 st h4 D L he P1 heq
    rw [← heq]
    refine ⟨_, _, fin1 (i := 4) rfl, by rw [h4], ?_⟩
    obtain ⟨d2, q1, q2, q3, q4⟩ := leave_app2 (o := o) (o' := o1) (r := r1) (e := e) (d := d) (e' := e1) (d' := d1) (v := .int .i64 n) rfl D.len he (fun h => by
      rcases L.2 with L | L
      · exact L
      · omega)
    refine ⟨o1, d2, ⟨by rw [h4]; exact q1, D, q4, ?_⟩, P1⟩
    rcases q2 with q2 | q2
    · exact .inl q2
    · rcases L.2 with L | L
      · exact .inl L
      · exact .inr (by omega)
  (repeat' (first | refine To.seq hxE2 ?_ | refine To.op0 hxE2 (by simp only [go_sem, reduceIte, seval, hl]; rfl) ?_ | refine To.op1 hxE2 (by simp only [go_sem, seval]; rfl) ?_ | refine To.nop hxE2 ?_ | refine To.block hxE2 ?_))
  refine To.loop hxE2 (fun m S h' => ∃ (i e1 d1 : Nat) (o1 r1 : List AM.Obj) (st : DSt), i + m = cs.length ∧ h' = ⟨o1 ++ (.cells .ex 100 0 rv :: r1), e1, d1⟩ ∧ Dx dd pg lm o o1 ∧ Low dd pg lm o o1 o.length d1 ∧ o.length ≤ e1 ∧ PDs o1 dd pg lm on st ∧ dPut on st (cs.drop i) = dPut on ⟨down, left, pgs, ca⟩ cs ∧ S 2 = .ptr o.length 0 ∧ S 8 = v ∧ S 9 = .int .i64 (cs.length : Int) ∧ S 10 = .int .i64 (i : Int)) ?_ cs.length _ _ ?_
  · rintro m S _ ⟨i, e1, d1, o1, r1, ⟨dn, lf, pgs1, ca1⟩, hm, rfl, D, L, he, P1, hd, s2, s8, s9, s10⟩
    have hl1 := D.len
    have gr : ∀ r, (o1 ++ (AM.Obj.cells .ex 100 0 rv :: r))[o.length]? = some (.cells .ex 100 0 rv) := fun r => by rw [← hl1]; exact app_get0 _ _ _
    by_cases hi : i < cs.length
    · have hlt : decide ((i : Int) < (cs.length : Int)) = true := decide_eq_true (by omega)
      have ix : idxOf cs.length (.int .i64 (i : Int)) = some i := idxOf_nat hi
      have wi : IntKind.i64.wrap ((i : Int) + 1) = ((i + 1 : Nat) : Int) := by rw [wrap_i64 (by omega) (by omega)]; omega
      obtain ⟨c, hx⟩ : ∃ c, cs[i]? = some c := ⟨cs[i], List.getElem?_eq_getElem hi⟩
      obtain ⟨l, ck, t, rfl, hlb, hkd⟩ := (hc.dx P D).at_ (by rintro rfl; simp at hi)
      have h65 : ∀ r ∈ cs.map chC, r.length = 65 := by
        intro r hr
        obtain ⟨y, hy, rfl⟩ := List.mem_map.1 hr
        exact chC_len (hc.p64 y hy)
      obtain ⟨a1, a2⟩ := flat_drop h65 (by rw [List.getElem?_map, hx]; rfl : (cs.map chC)[i]? = some (chC c))
      have hc64 := hc.p64 c (List.mem_of_getElem? hx)
      have hcl := chC_len hc64
      have hco := chC_one c
      have hcp := chC_plains c
      have hc0 : (chC c)[0]? = some (.int .i64 c.1) := rfl
      have hc1 : List.take 64 (List.drop 1 (chC c)) = bytesA c.2 := by
        show List.take 64 (bytesA c.2) = _
        exact List.take_of_length_le (by rw [bytesA_length]; omega)
      have gl : ∀ r, (o1 ++ r)[l]? = some (.cells ck t 0 (cs.map chC).flatten) := fun r => app_old hlb r
      have hdr : cs.drop i = c :: cs.drop (i + 1) := by
        rw [List.drop_eq_getElem_cons hi]
        rw [List.getElem?_eq_getElem hi] at hx
        cases hx; rfl
      rw [hdr, dPut] at hd
      have P2 : PDs (o1 ++ (AM.Obj.cells .ex 100 0 rv :: (r1 ++ [.cells .ex 73 0 (chC c)]))) dd pg lm on ⟨dn, lf, pgs1, ca1⟩ := P1.app _
      have gc : (o1 ++ (AM.Obj.cells .ex 100 0 rv :: (r1 ++ [AM.Obj.cells .ex 73 0 (chC c)])))[o1.length + (r1.length + 1)]? = some (.cells .ex 73 0 (chC c)) := by
        rw [show o1 ++ (AM.Obj.cells .ex 100 0 rv :: (r1 ++ [AM.Obj.cells .ex 73 0 (chC c)])) = (o1 ++ (AM.Obj.cells .ex 100 0 rv :: r1)) ++ [AM.Obj.cells .ex 73 0 (chC c)] by simp]
        rw [show o1.length + (r1.length + 1) = (o1 ++ (AM.Obj.cells .ex 100 0 rv :: r1)).length by simp]
        exact app_get0 _ _ _
      (repeat' (first | refine To.seq hxE2 ?_ | refine To.op0 hxE2 (by simp only [go_sem, reduceIte, seval, Heap.gets, Heap.sets, Heap.get, Nat.add_zero, ne_eq, not_false_eq_true, Nat.zero_le, s2, s8, s9, s10, hlt, ix, gl, a1, a2, hcl, hco, hcp, z65_len, z65_drop]; rfl) ?_ | refine To.op1 hxE2 (by simp only [go_sem, reduceIte, seval, Heap.sets, Heap.get, ne_eq, not_false_eq_true, Nat.zero_le, hcl, hco, hcp, z65_len, z65_drop]; rfl) ?_ | refine To.nop hxE2 ?_ | (refine To.condT hxE2 ?_ ?_; focus (simp only [go_sem, reduceIte, seval]; done)) | refine To.block hxE2 ?_ | refine To.skip hxE2 ?_))
      obtain ⟨oh, o2, d2, q, Lv2, P3⟩ := write_x (e := e1) (d := min d1 (o1.length + (r1.length + 1))) P2 c.1 hc64
      obtain ⟨o3, rfl, D3⟩ := Lv2.dx.split (by omega) (by omega) (by omega)
      have hl3 := D3.len
      have P4 := PD.chop P3 (by omega) (by omega) (by omega)
      have L4 := L.trans ((Low.refl (d := d1)).less (Nat.min_le_left _ _) |>.trans Lv2.low.chop)
      have D4 := D.trans D3
      have hg := Lv2.eq
      generalize dWrite on ⟨dn, lf, pgs1, ca1⟩ c.1 c.2 = w at *
      obtain ⟨n, st2⟩ := w
      simp only at q P4 hd
      (repeat' (first | refine To.op0 hxE2 (by simp only [go_sem, reduceIte, seval, Heap.gets, Heap.get, Nat.add_zero, gr, gc, hr0, hc0, hc1, hcl]; rfl) ?_ | fail))
      refine To.op hxE2 (by simp only [go_sem, reduceIte, seval, q]; rfl) ?_
      rw [hg]
      by_cases hz : n = 0
      · subst hz
        rw [if_neg (by simp)] at hd
        (repeat' (first | refine To.seq hxE2 ?_ | refine To.op0 hxE2 (by simp only [go_sem, reduceIte, seval, s10, wi]; rfl) ?_ | refine To.nop hxE2 ?_ | (refine To.condF hxE2 ?_ ?_; focus (simp only [go_sem, reduceIte, seval]; done)) | refine To.skip hxE2 ?_))
        try simp only [andThen]
        refine ⟨m - 1, by omega, i + 1, _, _, o3, _, st2, by omega, rfl, D4, L4, he, P4, hd, ?_⟩
        simp only [go_sem, reduceIte, seval, s2, s8, s9]
      · rw [if_pos (by simpa using hz)] at hd
        have hb : (n != 0) = true := by simpa using hz
        (repeat' (first | refine To.seq hxE2 ?_ | refine To.op0 hxE2 (by simp only [go_sem, reduceIte, seval, hb]; rfl) ?_ | refine To.nop hxE2 ?_ | (refine To.condT hxE2 ?_ ?_; focus (simp only [go_sem, reduceIte, seval]; done)) | refine To.ret hxE2 ?_))
        exact fin n _ o3 _ _ _ st2 (by simp only [go_sem, reduceIte, seval]) D4 L4 he P4 hd
    · have hlt : decide ((i : Int) < (cs.length : Int)) = false := decide_eq_false (by omega)
      have hdr : cs.drop i = [] := List.drop_eq_nil_of_le (by omega)
      rw [hdr, dPut] at hd
      have P2 : PDs (o1 ++ (AM.Obj.cells .ex 100 0 rv :: r1)) dd pg lm on ⟨dn, lf, pgs1, ca1⟩ := P1.app _
      obtain ⟨oh, o2, d2, q, Lv2, P3⟩ := flush_x (e := e1) (d := d1) P2
      obtain ⟨o3, rfl, D3⟩ := Lv2.dx.split (by omega) (by omega) (by omega)
      have hl3 := D3.len
      have P4 := PD.chop P3 (by omega) (by omega) (by omega)
      have L4 := L.trans Lv2.low.chop
      have D4 := D.trans D3
      have hg := Lv2.eq
      generalize dFlush on ⟨dn, lf, pgs1, ca1⟩ = w at *
      obtain ⟨n, st2⟩ := w
      simp only at q P4 hd
      (repeat' (first | refine To.seq hxE2 ?_ | refine To.op0 hxE2 (by simp only [go_sem, reduceIte, seval, Heap.get, Nat.add_zero, s2, s9, s10, hlt]; rfl) ?_ | refine To.nop hxE2 ?_ | (refine To.condF hxE2 ?_ ?_; focus (simp only [go_sem, reduceIte, seval]; done)) | refine To.exit hxE2 ?_))
      try simp only [andThen, outOf, if_true]
      (repeat' (first | refine To.op0 hxE2 (by simp only [go_sem, reduceIte, seval, Heap.get, gr, hr0]; rfl) ?_ | fail))
      refine To.op hxE2 (by simp only [go_sem, reduceIte, seval, q]; rfl) ?_
      rw [hg]
      (repeat' (first | refine To.op0 hxE2 (by simp only [go_sem, reduceIte, seval]; rfl) ?_ | refine To.nop hxE2 ?_ | refine To.ret hxE2 ?_))
      exact fin n _ o3 _ _ _ st2 (by simp only [go_sem, reduceIte, seval]) D4 L4 he P4 hd
  · refine ⟨0, _, _, o, [], ⟨down, left, pgs, ca⟩, by omega, rfl, Dx.refl, ⟨?_, .inl rfl⟩, ?_, P, rfl, ?_⟩
    · simp
    · simp
    · simp only [go_sem, reduceIte, seval]
end
end Go.Proofs.Ytfbkeieoeagkdaa

/- Journal: rows that grow; the pages that changes lie in. -/
namespace Go.Proofs.Ytfbkeieoeagkdaa
open Go AM
set_option linter.unusedSimpArgs false
set_option linter.unusedVariables false
set_option maxRecDepth 100000

/-- A row of one's own, to which one may append. -/
def GrowX (O : List AM.Obj) (base : Nat) (v : V) (t e : Nat) (rows : List (List V)) : Prop :=
  (v = .nils ∧ rows = []) ∨ ∃ m ck, v = .slice m 0 rows.length e ∧ O[m]? = some (.cells ck t 0 rows.flatten) ∧ base ≤ m ∧ (ck = .ex ∨ ck = .gr)
theorem flat_len {e : Nat} : ∀ {rows : List (List V)}, (∀ y ∈ rows, y.length = e) → rows.flatten.length = rows.length * e
  | [], _ => by simp
  | x :: r, h => by
    have ih := flat_len (rows := r) fun y hy => h y (List.mem_cons_of_mem _ hy)
    rw [List.flatten_cons, List.length_append, ih, h x List.mem_cons_self, List.length_cons, Nat.add_mul]
    omega
theorem grow1 {o r : List AM.Obj} {t e b : Nat} {v : V} {rows : List (List V)} {x : List V} (hG : GrowX (o ++ r) o.length v t e rows) (he : 0 < e) (hrows : ∀ y ∈ rows, y.length = e) (hx : x.length = e) (hroom : roomOk (rows.length + 1) b = true) (hr1 : roomOk 1 b = true) (E D : Nat) :
    ∃ v' r' D', appendA ⟨o ++ r, E, D⟩ t e b v 1 x = some (v', some ⟨o ++ r', E, D'⟩) ∧ GrowX (o ++ r') o.length v' t e (rows ++ [x]) ∧ min D o.length ≤ D' ∧ D' ≤ D ∧ r.length ≤ r'.length ∧ ∀ (l : Nat) (ck' : CK) (t' : Nat) (c' : List V), (o ++ r)[l]? = some (AM.Obj.cells ck' t' 0 c') → t' ≠ t → (o ++ r')[l]? = some (AM.Obj.cells ck' t' 0 c') := by
  rcases hG with ⟨rfl, rfl⟩ | ⟨m, ck, rfl, hm, hb, hk⟩
  · refine ⟨_, r ++ [.cells .gr t 0 x], D, ?_, .inr ⟨(o ++ r).length, .gr, rfl, ?_, by simp, .inr rfl⟩, Nat.min_le_left _ _, Nat.le_refl _, by simp, fun l ck' t' c' hl _ => by rw [← List.append_assoc]; exact app_old hl _⟩
    · rw [← List.append_assoc]
      exact app_nil (by decide) hr1
    · rw [← List.append_assoc]
      simp
  · have hfl := flat_len hrows
    have hne : ¬ (rows.length + 1) * e ≤ rows.length * e := by
      rw [Nat.add_mul]; omega
    rcases hk with rfl | rfl
    · refine ⟨.slice (o ++ r).length 0 (rows.length + 1) e, r ++ [.cells .gr t 0 (rows.flatten ++ x)], D, ?_, .inr ⟨(o ++ r).length, .gr, by simp, ?_, by simp, .inr rfl⟩, Nat.min_le_left _ _, Nat.le_refl _, by simp, fun l ck' t' c' hl _ => by rw [← List.append_assoc]; exact app_old hl _⟩
      · simp only [appendA, hm, if_true, Nat.zero_add, hfl, Nat.le_refl, if_neg (by decide : ¬ (1 : Nat) = 0), if_neg hne, hroom, and_self, List.drop_zero, Heap.new, List.append_assoc]
      · rw [← List.append_assoc]
        simp
    · have hml := get_lt hm
      rw [List.length_append] at hml
      refine ⟨.slice (o ++ r).length 0 (rows.length + 1) e, r.set (m - o.length) .dead ++ [.cells .gr t 0 (rows.flatten ++ x)], min D m, ?_, .inr ⟨(o ++ r).length, .gr, by simp, ?_, by simp, .inr rfl⟩, by omega, Nat.min_le_left _ _, by simp, fun l ck' t' c' hl ht => ?_⟩
      · rw [app_gr hm hfl (by decide) he hroom]
        rw [List.set_append_right _ _ (by omega), List.append_assoc]
      · rw [← List.append_assoc, ← List.set_append_right _ _ (by omega)]
        rw [List.getElem?_append_right (by simp)]
        simp
      · rw [← List.append_assoc, ← List.set_append_right _ _ (by omega)]
        refine app_old ?_ _
        rw [List.getElem?_set_ne]
        · exact hl
        · rintro rfl
          rw [hm] at hl
          simp only [Option.some.injEq, AM.Obj.cells.injEq] at hl
          exact ht hl.2.1.symm
theorem GrowX.app {O r : List AM.Obj} {base t e : Nat} {v : V} {rows : List (List V)} (h : GrowX O base v t e rows) : GrowX (O ++ r) base v t e rows := by
  rcases h with h | ⟨m, ck, h1, h2, h3⟩
  · exact .inl h
  · exact .inr ⟨m, ck, h1, app_old h2 r, h3⟩
theorem room_small {n b : Nat} (hn : n ≤ 1000000) (hb : b ≤ 1000) : roomOk n b = true := by
  unfold roomOk AM.ok1
  have : (2 * n + 1024) * b ≤ 2001024 * 1000 := Nat.mul_le_mul (by omega) hb
  simp only [decide_eq_true_eq]
  omega
theorem ChRow.grow {O : List AM.Obj} {base : Nat} {v : V} {cs : List (Int × Pg)} (h : GrowX O base v 73 65 (cs.map chC)) (h64 : ∀ c ∈ cs, c.2.length = 64) : ChRow O v cs := by
  rcases h with ⟨rfl, h⟩ | ⟨m, ck, rfl, h2, h3, h4⟩
  · have : cs = [] := by simpa using h
    subst this
    exact ⟨rfl, fun h => absurd rfl h, h64⟩
  · rw [List.length_map]
    exact ⟨rfl, fun _ => ⟨m, ck, _, rfl, h2, .inr rfl⟩, h64⟩
theorem PgRow.grow {O : List AM.Obj} {base : Nat} {v : V} {ps : List Pg} (h : GrowX O base v 31 64 (ps.map bytesA)) (h64 : ∀ p ∈ ps, p.length = 64) : PgRow O v ps := by
  rcases h with ⟨rfl, h⟩ | ⟨m, ck, rfl, h2, h3, h4⟩
  · have : ps = [] := by simpa using h
    subst this
    exact ⟨rfl, fun h => absurd rfl h, h64⟩
  · rw [List.length_map]
    refine ⟨rfl, fun _ => ⟨m, ck, 31, rfl, ?_⟩, h64⟩
    rw [h2]
    unfold pgC
    rw [List.flatMap_def]
/-- What a call leaves: all that was there, and more. -/
structure Gr (o : List AM.Obj) (e d : Nat) (oh : Option Heap) (rr : List AM.Obj) (e' d' : Nat) : Prop where
  eq : oh.getD ⟨o, e, d⟩ = ⟨o ++ rr, e', d'⟩
  e : min e o.length ≤ e' ∧ e' ≤ e
  d : min d o.length ≤ d' ∧ d' ≤ d
def fromF (a : Int) (i : Nat) (p : Pg) : Int × Pg := (a + (i : Int), p)
def fromL (a : Int) (ps : List Pg) : List (Int × Pg) := ps.mapIdx (fromF a)
theorem fromL_succ (a : Int) (ps : List Pg) {i : Nat} {p : Pg} (h : ps[i]? = some p) : fromL a (ps.take (i + 1)) = fromL a (ps.take i) ++ [(a + (i : Int), p)] := by
  have hi := (List.getElem?_eq_some_iff.1 h).1
  unfold fromL
  rw [List.take_add_one, h, Option.toList_some, List.mapIdx_append]
  simp [fromF, List.length_take, Nat.min_eq_left (Nat.le_of_lt hi)]
theorem fromL_64 {a : Int} {ps : List Pg} (h : ∀ p ∈ ps, p.length = 64) : ∀ c ∈ fromL a ps, c.2.length = 64 := by
  intro c hc
  unfold fromL at hc
  obtain ⟨i, hi, rfl⟩ := List.mem_mapIdx.1 hc
  exact h _ (List.getElem_mem hi)
theorem fromL_len (a : Int) (ps : List Pg) : (fromL a ps).length = ps.length := by unfold fromL; simp
theorem leave_grow {o : List AM.Obj} {e d e' d' : Nat} {rr : List AM.Obj} {v : V} (hv : v.plain = true → rr = [] ∨ o.length ≤ d') (he : o.length ≤ e') (hd : o.length ≤ d') : ∃ rr2 e2 d2, Gr o e d (leave ⟨o, e, d⟩ ⟨o ++ rr, e', d'⟩ v) rr2 e2 d2 ∧ (v.plain = false → rr2 = rr) := by
  unfold leave
  simp only
  by_cases h : o.length ≤ e' ∧ v.plain = true
  · rw [if_pos h, if_pos hd]
    exact ⟨[], e, d, ⟨by simp, ⟨Nat.min_le_left _ _, Nat.le_refl _⟩, ⟨Nat.min_le_left _ _, Nat.le_refl _⟩⟩, fun hf => by rw [h.2] at hf; cases hf⟩
  · rw [if_neg h]
    exact ⟨rr, _, _, ⟨rfl, ⟨by omega, Nat.min_le_left _ _⟩, ⟨by omega, Nat.min_le_left _ _⟩⟩, fun _ => rfl⟩
section
variable {o : List AM.Obj} {e d dd pg lm : Nat} {on down : Bool} {left : Int} {pgs : List Pg} {ca : List (Nat × Pg)}
set_option maxHeartbeats 8000000 in
theorem from_x {pv : V} {ps : List Pg} (hp : PgRow o pv ps) (hn : ps.length ≤ 1000) {a : Int} (ha : 0 ≤ a) (ha2 : a ≤ 1000000) :
    ∃ r oh, Den FF E2 79 [.int .i64 a, pv] ⟨o, e, d⟩ = some (r, oh) ∧ ∃ v rr e' d', r = .val v ∧ Gr o e d oh rr e' d' ∧ ChRow (o ++ rr) v (fromL a ps) := by
  refine To.denE hxE2 (f := 79) (a := af79) rfl (E2_none rfl) (Nat.le_of_ble_eq_true rfl) ?_
  have hl := hp.len
  (repeat' (first | refine To.seq hxE2 ?_ | refine To.op0 hxE2 (by simp only [go_sem, reduceIte, seval, hl]; rfl) ?_ | refine To.nop hxE2 ?_ | refine To.block hxE2 ?_))
  refine To.loop hxE2 (fun m S h' => ∃ (i d1 : Nat) (r : List AM.Obj) (v : V), i + m = ps.length ∧ h' = ⟨o ++ r, o.length, d1⟩ ∧ o.length ≤ d1 ∧ GrowX (o ++ r) o.length v 73 65 ((fromL a (ps.take i)).map chC) ∧ S 0 = .int .i64 a ∧ S 5 = v ∧ S 8 = pv ∧ S 9 = .int .i64 (ps.length : Int) ∧ S 10 = .int .i64 (i : Int)) ?_ ps.length _ _ ?_
  · rintro m S _ ⟨i, d1, r, v, hm, rfl, hd, hG, s0, s5, s8, s9, s10⟩
    by_cases hi : i < ps.length
    · have hlt : decide ((i : Int) < (ps.length : Int)) = true := decide_eq_true (by omega)
      have ix : idxOf ps.length (.int .i64 (i : Int)) = some i := idxOf_nat hi
      have wi : IntKind.i64.wrap ((i : Int) + 1) = ((i + 1 : Nat) : Int) := by rw [wrap_i64 (by omega) (by omega)]; omega
      have wa : IntKind.i64.wrap (a + (i : Int)) = a + (i : Int) := wrap_i64 (by omega) (by omega)
      obtain ⟨l, ck, t, rfl, hlb⟩ := hp.at_ (by rintro rfl; simp at hi)
      have hg : ps[i]? = some ps[i] := List.getElem?_eq_getElem hi
      have hat := pgC_at hp.p64 hg
      have hkk : (i + 1) * 64 ≤ ps.length * 64 := Nat.mul_le_mul_right 64 hi
      have hle : i * 64 + 64 ≤ (pgC ps).length := by rw [pgC_len hp.p64]; omega
      have h64 := hp.p64 _ (List.getElem_mem hi)
      have hsu := fromL_succ a ps hg
      generalize ps[i] = p at *
      have gl : ∀ r, (o ++ r)[l]? = some (.cells ck t 0 (pgC ps)) := fun r => app_old hlb r
      have htk : List.take 64 (bytesA p) = bytesA p := List.take_of_length_le (by rw [bytesA_length]; omega)
      have hdr : List.drop 64 (bytesA p) = [] := List.drop_eq_nil_of_le (by rw [bytesA_length]; omega)
      have hzd : List.drop 1 z65 = z64 := rfl
      have hz1 : z65 = .int .i64 0 :: z64 := rfl
      (repeat' (first | refine To.seq hxE2 ?_ | refine To.op0 hxE2 (by simp only [go_sem, reduceIte, seval, Heap.gets, Heap.sets, bytesA_length, bytesA_one, bytesA_plains, List.take_of_length_le, V.one, Nat.reduceLeDiff, List.all_cons, ne_eq, not_false_eq_true, Nat.zero_le, s0, s5, s8, s9, s10, hlt, ix, wa, gl, hat, hle, h64, z64_len, z64_drop, z65_len, z65_drop, hzd, List.append_nil]; rfl) ?_ | refine To.op1 hxE2 (by simp only [go_sem, reduceIte, seval, Heap.gets, Heap.sets, bytesA_length, bytesA_one, bytesA_plains, List.take_of_length_le, V.one, List.all_cons, ne_eq, not_false_eq_true, Nat.zero_le, h64, z64_len, z64_drop, z65_len, z65_drop, List.append_nil]; rfl) ?_ | refine To.nop hxE2 ?_ | (refine To.condT hxE2 ?_ ?_; focus (simp only [go_sem, reduceIte, seval]; done)) | refine To.block hxE2 ?_ | refine To.skip hxE2 ?_))
      have gb : ∀ x y : AM.Obj, (o ++ (r ++ [x, y]))[o.length + (r.length + 1)]? = some y := fun x y => by
        rw [app_getk, app_getk]; rfl
      have htk65 : List.take 65 (V.int .i64 (a + (i : Int)) :: bytesA p) = V.int .i64 (a + (i : Int)) :: bytesA p := List.take_of_length_le (by rw [List.length_cons, bytesA_length]; omega)
      have hrows : ∀ y ∈ (fromL a (ps.take i)).map chC, y.length = 65 := fun y hy => by
        obtain ⟨c, hc, rfl⟩ := List.mem_map.1 hy
        exact chC_len (fromL_64 (fun q hq => hp.p64 q (List.mem_of_mem_take hq)) c hc)
      have hln : ((fromL a (ps.take i)).map chC).length ≤ 1000 := by rw [List.length_map, fromL_len, List.length_take]; omega
      obtain ⟨v', r', D', hA, hG', hD1, hD2, _⟩ := grow1 (o := o) (r := r ++ [.cells .ex 31 0 (bytesA p), .cells .ex 73 0 (V.int .i64 (a + (i : Int)) :: bytesA p)]) (b := 72) (by rw [← List.append_assoc]; exact hG.app) (by decide) hrows (x := V.int .i64 (a + (i : Int)) :: bytesA p) (by rw [List.length_cons, bytesA_length]; omega) (room_small (by omega) (by decide)) (room_small (by decide) (by decide)) o.length (min d1 (o.length + r.length))
      (repeat' (first | refine To.op0 hxE2 (by simp only [go_sem, reduceIte, seval, Heap.gets, bytesA_length, bytesA_one, List.take_of_length_le, V.one, List.all_cons, gb, h64, hA, s10, wi]; rfl) ?_ | refine To.op1 hxE2 (by simp only [go_sem, reduceIte, seval, Heap.gets, bytesA_length, bytesA_one, List.take_of_length_le, V.one, List.all_cons, gb, h64, hA]; rfl) ?_ | refine To.nop hxE2 ?_))
      try simp only [andThen]
      refine ⟨m - 1, by omega, i + 1, D', r', v', by omega, rfl, by omega, ?_, ?_⟩
      · rw [hsu, List.map_append]; exact hG'
      · simp only [go_sem, reduceIte, seval, s0, s8, s9]
    · have hlt : decide ((i : Int) < (ps.length : Int)) = false := decide_eq_false (by omega)
      have hie : ps.take i = ps := List.take_of_length_le (by omega)
      rw [hie] at hG
      (repeat' (first | refine To.seq hxE2 ?_ | refine To.op0 hxE2 (by simp only [go_sem, reduceIte, seval, s5, s9, s10, hlt]; rfl) ?_ | refine To.nop hxE2 ?_ | (refine To.condF hxE2 ?_ ?_; focus (simp only [go_sem, reduceIte, seval]; done)) | refine To.ret hxE2 ?_ | refine To.exit hxE2 ?_))
      try simp only [andThen, outOf, if_true]
      skip
      have hfl := fromL_64 (a := a) hp.p64
      have h5 : ∀ S' : Nat → V, S' 4 = v → ∃ r' oh, finish af79 ⟨o, e, d⟩ (some (.ret, S', ⟨o ++ r, o.length, d1⟩)) = some (r', oh) ∧ ∃ v rr e' d', r' = .val v ∧ Gr o e d oh rr e' d' ∧ ChRow (o ++ rr) v (fromL a ps) := by
        intro S' h4
        refine ⟨_, _, fin1 (i := 4) rfl, ?_⟩
        rw [h4]
        obtain ⟨rr, e2, d2, hgr, hrr⟩ := leave_grow (o := o) (e := e) (d := d) (e' := o.length) (d' := d1) (rr := r) (v := v) (fun _ => .inr hd) (Nat.le_refl _) hd
        refine ⟨v, rr, e2, d2, rfl, hgr, ?_⟩
        rcases hG with ⟨rfl, h0⟩ | ⟨m, ck, rfl, h2, h3⟩
        · have h0 : fromL a ps = [] := by simpa using h0
          rw [h0]
          exact ⟨rfl, fun h => absurd rfl h, by simp⟩
        · rw [hrr rfl]
          exact ChRow.grow (base := o.length) (.inr ⟨m, ck, rfl, h2, h3⟩) hfl
      exact h5 _ (by simp only [go_sem, reduceIte, seval])
  · refine ⟨0, _, [], .nils, by omega, by rw [List.append_nil]; rfl, ?_, .inl ⟨rfl, rfl⟩, ?_⟩
    · simp
    · simp only [go_sem, reduceIte, seval, initS]
end
end Go.Proofs.Ytfbkeieoeagkdaa

/- Journal: numbers, laid, may. -/
namespace Go.Proofs.Ytfbkeieoeagkdaa
open Go AM
set_option linter.unusedSimpArgs false
set_option linter.unusedVariables false
set_option maxRecDepth 100000

def numsI (cs : List (Int × Pg)) : Nat → List Pg
  | 0 => List.replicate (listsN cs.length) (zs 64)
  | i + 1 => (numsI cs i).set (i / 32) (setK ((numsI cs i).getD (i / 32) []) (i % 32 * 2) 2 (cs.getD i (0, [])).1 2)
def numsL (cs : List (Int × Pg)) : List Pg := numsI cs cs.length
def laidL (cs : List (Int × Pg)) : List Pg := numsL cs ++ cs.map (·.2)
theorem numsI_len (cs : List (Int × Pg)) : ∀ i, (numsI cs i).length = listsN cs.length
  | 0 => List.length_replicate
  | i + 1 => by rw [numsI, List.length_set, numsI_len cs i]
theorem numsI_64 (cs : List (Int × Pg)) : ∀ i, i ≤ cs.length → ∀ p ∈ numsI cs i, p.length = 64
  | 0, _, p, hp => by rw [numsI] at hp; rw [List.eq_of_mem_replicate hp]; rfl
  | i + 1, hi, p, hp => by
    rw [numsI] at hp
    have ih := numsI_64 cs i (by omega)
    rcases List.mem_or_eq_of_mem_set hp with h | rfl
    · exact ih p h
    · rw [setK_len, List.getD_eq_getElem?_getD, List.getElem?_eq_getElem (by rw [numsI_len]; unfold listsN; omega)]
      exact ih _ (List.getElem_mem _)
theorem laidL_64 {cs : List (Int × Pg)} (h : ∀ c ∈ cs, c.2.length = 64) : ∀ p ∈ laidL cs, p.length = 64 := by
  intro p hp
  rcases List.mem_append.1 hp with hp | hp
  · exact numsI_64 cs _ (Nat.le_refl _) p hp
  · obtain ⟨c, hc, rfl⟩ := List.mem_map.1 hp
    exact h c hc
theorem laidL_len (cs : List (Int × Pg)) : (laidL cs).length = listsN cs.length + cs.length := by
  unfold laidL numsL
  rw [List.length_append, numsI_len, List.length_map]
def mayB (np at_ size : Nat) (i : Int) : Bool := decide (0 ≤ i) && decide (i < (np : Int)) && (decide (i < (at_ : Int)) || decide ((at_ : Int) + (size : Int) ≤ i))
section
variable {o : List AM.Obj} {e d dd pg lm : Nat} {on down : Bool} {left : Int} {pgs : List Pg} {ca : List (Nat × Pg)}
set_option maxHeartbeats 4000000 in
theorem may_q (P : PD o dd pg lm on down left pgs ca) {a s : Nat} (ha : a ≤ 1000000) (hs : s ≤ 1000000) (i : Int) : Den FF E2 77 [.agg (regV dd a s), .int .i64 i] ⟨o, e, d⟩ = some (.val (.bool (mayB pgs.length a s i)), none) := by
  refine To.den hxE2 (f := 77) (a := af77) rfl (E2_none rfl) (Nat.le_of_ble_eq_true rfl) ?_
  have q := fun r e d => pages_q (e := e) (d := d) (P.app r)
  have w : IntKind.i64.wrap ((a : Int) + (s : Int)) = (a : Int) + (s : Int) := wrap_i64 (by omega) (by omega)
  unfold mayB
  cases c0 : decide (0 ≤ i)
  · (repeat' (first | refine To.seq hxE2 ?_ | refine To.op0 hxE2 (by simp only [go_sem, reduceIte, seval, regV, c0]; rfl) ?_ | refine To.op1 hxE2 (by simp only [go_sem, seval, regV]; rfl) ?_ | refine To.nop hxE2 ?_ | refine To.ret hxE2 ?_))
    try simp only [andThen, outOf]
    exact fin_k1 (i := 4) (v := .bool false) rfl (by simp only [go_sem, reduceIte, seval]) rfl (kp_app (by omega) (by omega))
  cases c1 : decide (i < (pgs.length : Int))
  · (repeat' (first | refine To.seq hxE2 ?_ | refine To.op0 hxE2 (by simp only [go_sem, reduceIte, seval, Heap.get, Nat.add_zero, regV, c0, c1, q]; rfl) ?_ | refine To.op1 hxE2 (by simp only [go_sem, seval, regV]; rfl) ?_ | refine To.nop hxE2 ?_ | refine To.ret hxE2 ?_))
    try simp only [andThen, outOf]
    exact fin_k1 (i := 4) (v := .bool false) rfl (by simp only [go_sem, reduceIte, seval]) rfl (kp_app (by omega) (by omega))
  cases c2 : decide (i < (a : Int))
  · (repeat' (first | refine To.seq hxE2 ?_ | refine To.op0 hxE2 (by simp only [go_sem, reduceIte, seval, Heap.get, Nat.add_zero, regV, c0, c1, c2, q, w]; rfl) ?_ | refine To.op1 hxE2 (by simp only [go_sem, seval, regV]; rfl) ?_ | refine To.nop hxE2 ?_ | refine To.ret hxE2 ?_))
    try simp only [andThen, outOf]
    exact fin_k1 (i := 4) (v := .bool (decide ((a : Int) + (s : Int) ≤ i))) rfl (by simp only [go_sem, reduceIte, seval]) rfl (kp_app (by omega) (by omega))
  · (repeat' (first | refine To.seq hxE2 ?_ | refine To.op0 hxE2 (by simp only [go_sem, reduceIte, seval, Heap.get, Nat.add_zero, regV, c0, c1, c2, q]; rfl) ?_ | refine To.op1 hxE2 (by simp only [go_sem, seval, regV]; rfl) ?_ | refine To.nop hxE2 ?_ | refine To.ret hxE2 ?_))
    try simp only [andThen, outOf]
    exact fin_k1 (i := 4) (v := .bool true) rfl (by simp only [go_sem, reduceIte, seval]) rfl (kp_app (by omega) (by omega))
set_option maxHeartbeats 16000000 in
theorem numbers_x {v : V} {cs : List (Int × Pg)} (hc : ChRow o v cs) (hn : cs.length ≤ 500) :
    ∃ r oh, Den FF E2 88 [v] ⟨o, e, d⟩ = some (r, oh) ∧ ∃ pv rr e' d', r = .val pv ∧ pv.plain = false ∧ Gr o e d oh rr e' d' ∧ GrowX (o ++ rr) o.length pv 31 64 ((numsL cs).map bytesA) := by
  refine To.denE hxE2 (f := 88) (a := af88) rfl (E2_none rfl) (Nat.le_of_ble_eq_true rfl) ?_
  have hl := hc.len
  have ql := fun e d => lists_q (o := o) (e := e) (d := d) (n := cs.length) (by omega)
  have hL : listsN cs.length ≤ 100 := by unfold listsN; omega
  have c1 : (0 : Int) ≤ (listsN cs.length : Int) := by omega
  have c2 : (listsN cs.length : Int) * 64 ≤ (AM.ok1 : Int) := by unfold AM.ok1; omega
  have c2' : (listsN cs.length : Int) * ((64 : Nat) : Int) ≤ (AM.ok1 : Int) := c2
  have c3 : (listsN cs.length : Int) ≤ (AM.ok1 : Int) := by unfold AM.ok1; omega
  (repeat' (first | refine To.seq hxE2 ?_ | refine To.op0 hxE2 (by simp only [go_sem, reduceIte, seval, hl, ql, c1, c2, c3, Int.le_refl, Int.toNat_natCast, and_self, reps_pages]; rfl) ?_ | refine To.op1 hxE2 (by simp only [go_sem, reduceIte, seval, c1, c2, c3, Int.le_refl, Int.toNat_natCast, and_self, reps_pages]; rfl) ?_ | refine To.nop hxE2 ?_ | refine To.block hxE2 ?_))
  refine To.loop hxE2 (fun m S h' => ∃ (i d1 : Nat) (r : List AM.Obj), i + m = cs.length ∧ h' = ⟨o ++ (.cells .ex 31 0 (pgC (numsI cs i)) :: r), o.length, d1⟩ ∧ o.length ≤ d1 ∧ S 3 = .slice o.length 0 (listsN cs.length) 64 ∧ S 11 = v ∧ S 12 = .int .i64 (cs.length : Int) ∧ S 13 = .int .i64 (i : Int)) ?_ cs.length _ _ ?_
  · rintro m S _ ⟨i, d1, r, hm, rfl, hd, s3, s11, s12, s13⟩
    by_cases hi : i < cs.length
    · have hlt : decide ((i : Int) < (cs.length : Int)) = true := decide_eq_true (by omega)
      have ix : idxOf cs.length (.int .i64 (i : Int)) = some i := idxOf_nat hi
      have wi : IntKind.i64.wrap ((i : Int) + 1) = ((i + 1 : Nat) : Int) := by rw [wrap_i64 (by omega) (by omega)]; omega
      obtain ⟨c, hx⟩ : ∃ c, cs[i]? = some c := ⟨cs[i], List.getElem?_eq_getElem hi⟩
      obtain ⟨l, ck, t, rfl, hlb, hkd⟩ := hc.at_ (by rintro rfl; simp at hi)
      have h65 : ∀ r ∈ cs.map chC, r.length = 65 := by
        intro r hr
        obtain ⟨y, hy, rfl⟩ := List.mem_map.1 hr
        exact chC_len (hc.p64 y hy)
      obtain ⟨a1, a2⟩ := flat_drop h65 (by rw [List.getElem?_map, hx]; rfl : (cs.map chC)[i]? = some (chC c))
      have hc64 := hc.p64 c (List.mem_of_getElem? hx)
      have hcl := chC_len hc64
      have hco := chC_one c
      have hcp := chC_plains c
      have hc0 : (chC c)[0]? = some (.int .i64 c.1) := rfl
      have gl : ∀ r, (o ++ r)[l]? = some (.cells ck t 0 (cs.map chC).flatten) := fun r => app_old hlb r
      have t1 : Int.tdiv (i : Int) 32 = ((i / 32 : Nat) : Int) := by rw [Int.tdiv_eq_ediv_of_nonneg (by omega)]; omega
      have w1 : IntKind.i64.wrap ((i / 32 : Nat) : Int) = ((i / 32 : Nat) : Int) := wrap_i64 (by omega) (by omega)
      have t2 : Int.tmod (i : Int) 32 = ((i % 32 : Nat) : Int) := by rw [Int.tmod_eq_emod_of_nonneg (by omega)]; omega
      have w2 : IntKind.i64.wrap (((i % 32 : Nat) : Int) * 2) = ((i % 32 * 2 : Nat) : Int) := by rw [wrap_i64 (by omega) (by omega)]; omega
      have hk : i / 32 < listsN cs.length := by unfold listsN; omega
      have ix2 : idxOf (listsN cs.length) (.int .i64 ((i / 32 : Nat) : Int)) = some (i / 32) := idxOf_nat hk
      have hN := numsI_len cs i
      have h64 := numsI_64 cs i (by omega)
      have hst : numsI cs (i + 1) = (numsI cs i).set (i / 32) (setK ((numsI cs i).getD (i / 32) []) (i % 32 * 2) 2 c.1 2) := by
        rw [numsI, List.getD_eq_getElem?_getD (l := cs), hx]; rfl
      generalize numsI cs i = N at *
      generalize hkk : i / 32 = k at *
      have hg : N[k]? = some (N[k]'(by omega)) := List.getElem?_eq_getElem (by omega)
      have hgd : N.getD k [] = N[k]'(by omega) := by rw [List.getD_eq_getElem?_getD, hg]; rfl
      rw [hgd] at hst
      have hp64 := h64 _ (List.getElem_mem (by omega : k < N.length))
      have hat := pgC_at h64 hg
      have hk1 : (k + 1) * 64 ≤ N.length * 64 := Nat.mul_le_mul_right 64 (by omega)
      have hle : k * 64 + 64 ≤ (pgC N).length := by rw [pgC_len h64]; omega
      generalize hp : N[k]'(by omega) = p at *
      have qs : ∀ r e d, Den FF E2 87 [.agg (bytesA p), .int .i64 ((i % 32 * 2 : Nat) : Int), .int .i64 2, .int .i64 c.1] ⟨o ++ r, e, d⟩ = some (.val (.agg (bytesA (setK p (i % 32 * 2) 2 c.1 2))), none) := fun r e d => set_q (o := o ++ r) (e := e) (d := d) hp64 (a := i % 32 * 2) (s := 2) (by omega) (by omega) (by omega) c.1
      have hs64 : (setK p (i % 32 * 2) 2 c.1 2).length = 64 := by rw [setK_len, hp64]
      have e2 : List.take (k * 64) (pgC N) ++ (bytesA (setK p (i % 32 * 2) 2 c.1 2) ++ List.drop (k * 64 + 64) (pgC N)) = pgC (N.set k (setK p (i % 32 * 2) 2 c.1 2)) := by
        rw [pgC_set h64 hg hs64, List.append_assoc]
      rw [← hst] at e2
      generalize setK p (i % 32 * 2) 2 c.1 2 = p2 at *
      have htk : List.take 64 (bytesA p2) = bytesA p2 := List.take_of_length_le (by rw [bytesA_length]; omega)
      have gb : ∀ x y : AM.Obj, (o ++ (x :: (r ++ [y])))[o.length + (r.length + 1)]? = some y := fun x y => by
        rw [app_getk, List.getElem?_cons_succ]; simp
      have ga : ∀ (x : AM.Obj) r', (o ++ (x :: r'))[o.length]? = some x := fun x r' => app_get0 _ _ _
      have hst0 : ∀ (x y : AM.Obj) r', (o ++ (x :: r')).set o.length y = o ++ (y :: r') := fun x y r' => app_set0 _ _ _ _
      generalize i % 32 * 2 = i2 at *
      (repeat' (first | refine To.seq hxE2 ?_ | refine To.op0 hxE2 (by simp only [go_sem, reduceIte, seval, Heap.gets, Heap.sets, ne_eq, not_false_eq_true, Nat.zero_le, s3, s11, s12, s13, hlt, ix, wi, gl, a1, a2, hcl, hco, hcp, t1, w1, ix2, gb, z65_len, z65_drop]; rfl) ?_ | refine To.op1 hxE2 (by simp only [go_sem, reduceIte, seval, Heap.sets, ne_eq, not_false_eq_true, Nat.zero_le, hcl, hco, hcp, gb, z65_len, z65_drop]; rfl) ?_ | refine To.nop hxE2 ?_ | (refine To.condT hxE2 ?_ ?_; focus (simp only [go_sem, reduceIte, seval]; done)) | refine To.block hxE2 ?_ | refine To.skip hxE2 ?_ | refine To.draw0 hxE2 ?_ | refine ToD.op0 (by simp only [go_sem, reduceIte, seval, Heap.gets, Heap.sets, Heap.get, bytesA_length, bytesA_one, bytesA_plains, List.drop_of_length_le, Nat.add_zero, List.all_nil, ne_eq, not_false_eq_true, Nat.zero_le, hc0, t2, w2, ga, gb, hst0, hat, hle, hs64, qs, e2]; rfl) (by simp only [put_some]; rfl) ?_ | refine ToD.op1 (by simp only [go_sem, reduceIte, seval, Heap.sets, bytesA_length, bytesA_one, bytesA_plains, List.drop_of_length_le, List.all_nil, ne_eq, not_false_eq_true, Nat.zero_le, ga, hst0, hle, hs64, e2]; rfl) (by simp only [put_none]; rfl) (by simp only [KD.app, go_sem, seval]; rfl) ?_ | refine ToD.nop ?_))
      try simp only [andThen]
      refine ⟨m - 1, by omega, i + 1, _, _, by omega, rfl, ?_, ?_⟩
      · omega
      · simp only [go_sem, reduceIte, seval, s3, s11, s12]
    · have hlt : decide ((i : Int) < (cs.length : Int)) = false := decide_eq_false (by omega)
      obtain rfl : i = cs.length := by omega
      (repeat' (first | refine To.seq hxE2 ?_ | refine To.op0 hxE2 (by simp only [go_sem, reduceIte, seval, s3, s12, s13, hlt]; rfl) ?_ | refine To.nop hxE2 ?_ | (refine To.condF hxE2 ?_ ?_; focus (simp only [go_sem, reduceIte, seval]; done)) | refine To.ret hxE2 ?_ | refine To.exit hxE2 ?_))
      try simp only [andThen, outOf, if_true]
      skip
      refine ⟨_, _, fin1 (i := 2) rfl, ?_⟩
      have h2 : ∀ S' : Nat → V, S' 2 = .slice o.length 0 (listsN cs.length) 64 → ∃ pv rr e' d', Out.val (S' 2) = .val pv ∧ pv.plain = false ∧ Gr o e d (leave ⟨o, e, d⟩ ⟨o ++ (.cells .ex 31 0 (pgC (numsI cs cs.length)) :: r), o.length, d1⟩ (S' 2)) rr e' d' ∧ GrowX (o ++ rr) o.length pv 31 64 ((numsL cs).map bytesA) := by
        intro S' h2
        rw [h2]
        obtain ⟨rr, e2, d2, hgr, hrr⟩ := leave_grow (o := o) (e := e) (d := d) (e' := o.length) (d' := d1) (rr := .cells .ex 31 0 (pgC (numsI cs cs.length)) :: r) (v := .slice o.length 0 (listsN cs.length) 64) (fun h => by cases h) (Nat.le_refl _) hd
        refine ⟨_, rr, e2, d2, rfl, rfl, hgr, ?_⟩
        rw [hrr rfl]
        refine .inr ⟨o.length, .ex, ?_, ?_, Nat.le_refl _, .inl rfl⟩
        · rw [List.length_map]; unfold numsL; rw [numsI_len]
        · rw [app_get0]
          unfold numsL pgC
          rw [List.flatMap_def]
      exact h2 _ (by simp only [go_sem, reduceIte, seval])
  · refine ⟨0, o.length, [], by omega, rfl, Nat.le_refl _, ?_⟩
    simp only [go_sem, reduceIte, seval]
set_option maxHeartbeats 16000000 in
theorem laid_x {v : V} {cs : List (Int × Pg)} (hc : ChRow o v cs) (hn : cs.length ≤ 500) :
    ∃ r oh, Den FF E2 78 [v] ⟨o, e, d⟩ = some (r, oh) ∧ ∃ pv rr e' d', r = .val pv ∧ pv.plain = false ∧ Gr o e d oh rr e' d' ∧ GrowX (o ++ rr) o.length pv 31 64 ((laidL cs).map bytesA) := by
  refine To.denE hxE2 (f := 78) (a := af78) rfl (E2_none rfl) (Nat.le_of_ble_eq_true rfl) ?_
  have hl := hc.len
  obtain ⟨r0, oh0, q0, pv0, rr0, e0, d0, rfl, hpl0, G0, hG0⟩ := numbers_x (e := o.length) (d := o.length) hc hn
  have hL : listsN cs.length ≤ 100 := by unfold listsN; omega
  (repeat' (first | refine To.seq hxE2 ?_ | refine To.op0 hxE2 (by simp only [go_sem, reduceIte, seval]; rfl) ?_ | refine To.nop hxE2 ?_))
  refine To.op hxE2 (by simp only [go_sem, reduceIte, seval, q0]; rfl) ?_
  rw [show oh0.getD (AM.enter ⟨o, e, d⟩) = ⟨o ++ rr0, e0, d0⟩ from G0.eq]
  have he0 : e0 = o.length := by have := G0.e; omega
  have hd0 : d0 = o.length := by have := G0.d; omega
  subst he0 hd0
  (repeat' (first | refine To.seq hxE2 ?_ | refine To.op0 hxE2 (by simp only [go_sem, reduceIte, seval, hl]; rfl) ?_ | refine To.nop hxE2 ?_ | refine To.block hxE2 ?_))
  refine To.loop hxE2 (fun m S h' => ∃ (i d1 : Nat) (r : List AM.Obj) (pv : V), i + m = cs.length ∧ h' = ⟨o ++ r, o.length, d1⟩ ∧ o.length ≤ d1 ∧ pv.plain = false ∧ GrowX (o ++ r) o.length pv 31 64 ((numsL cs ++ (cs.take i).map (·.2)).map bytesA) ∧ S 3 = pv ∧ S 8 = v ∧ S 9 = .int .i64 (cs.length : Int) ∧ S 10 = .int .i64 (i : Int)) ?_ cs.length _ _ ?_
  · rintro m S _ ⟨i, d1, r, pv, hm, rfl, hd, hpl, hG, s3, s8, s9, s10⟩
    by_cases hi : i < cs.length
    · have hlt : decide ((i : Int) < (cs.length : Int)) = true := decide_eq_true (by omega)
      have ix : idxOf cs.length (.int .i64 (i : Int)) = some i := idxOf_nat hi
      have wi : IntKind.i64.wrap ((i : Int) + 1) = ((i + 1 : Nat) : Int) := by rw [wrap_i64 (by omega) (by omega)]; omega
      obtain ⟨c, hx⟩ : ∃ c, cs[i]? = some c := ⟨cs[i], List.getElem?_eq_getElem hi⟩
      obtain ⟨l, ck, t, rfl, hlb, hkd⟩ := hc.at_ (by rintro rfl; simp at hi)
      have h65 : ∀ r ∈ cs.map chC, r.length = 65 := by
        intro r hr
        obtain ⟨y, hy, rfl⟩ := List.mem_map.1 hr
        exact chC_len (hc.p64 y hy)
      obtain ⟨a1, a2⟩ := flat_drop h65 (by rw [List.getElem?_map, hx]; rfl : (cs.map chC)[i]? = some (chC c))
      have hc64 := hc.p64 c (List.mem_of_getElem? hx)
      have hcl := chC_len hc64
      have hco := chC_one c
      have hcp := chC_plains c
      have hc1 : List.take 64 (List.drop 1 (chC c)) = bytesA c.2 := by
        show List.take 64 (bytesA c.2) = _
        exact List.take_of_length_le (by rw [bytesA_length]; omega)
      have gl : ∀ r, (o ++ r)[l]? = some (.cells ck t 0 (cs.map chC).flatten) := fun r => app_old hlb r
      have htk : List.take 64 (bytesA c.2) = bytesA c.2 := List.take_of_length_le (by rw [bytesA_length]; omega)
      have hdr : List.drop 64 (bytesA c.2) = [] := List.drop_eq_nil_of_le (by rw [bytesA_length]; omega)
      have gb : ∀ x : AM.Obj, (o ++ (r ++ [x]))[o.length + r.length]? = some x := fun x => by
        rw [app_getk]; simp
      have gb2 : ∀ x y : AM.Obj, (o ++ (r ++ [x, y]))[o.length + (r.length + 1)]? = some y := fun x y => by
        rw [app_getk, app_getk]; rfl
      have hrows : ∀ y ∈ (numsL cs ++ (cs.take i).map (·.2)).map bytesA, y.length = 64 := fun y hy => by
        obtain ⟨q, hq, rfl⟩ := List.mem_map.1 hy
        rw [bytesA_length]
        rcases List.mem_append.1 hq with hq | hq
        · exact numsI_64 cs _ (Nat.le_refl _) q hq
        · obtain ⟨c', hc', rfl⟩ := List.mem_map.1 hq
          exact hc.p64 c' (List.mem_of_mem_take hc')
      have hln : ((numsL cs ++ (cs.take i).map (·.2)).map bytesA).length ≤ 1000 := by
        rw [List.length_map, List.length_append, List.length_map, List.length_take]
        unfold numsL
        rw [numsI_len]; omega
      obtain ⟨v', r', D', hA, hG', hD1, hD2, _⟩ := grow1 (o := o) (r := r ++ [.cells .ex 73 0 (chC c), .cells .ex 31 0 (bytesA c.2)]) (b := 64) (by rw [← List.append_assoc]; exact hG.app) (by decide) hrows (x := bytesA c.2) (by rw [bytesA_length]; exact hc64) (room_small (by omega) (by decide)) (room_small (by decide) (by decide)) o.length (min d1 (o.length + r.length))
      have hpl' : v'.plain = false := by
        rcases hG' with ⟨rfl, h⟩ | ⟨_, _, rfl, _⟩
        · simp at h
        · rfl
      (repeat' (first | refine To.seq hxE2 ?_ | refine To.op0 hxE2 (by simp only [go_sem, reduceIte, seval, Heap.gets, Heap.sets, bytesA_length, bytesA_one, List.take_of_length_le, ne_eq, not_false_eq_true, Nat.zero_le, s3, s8, s9, s10, hlt, ix, wi, gl, a1, a2, hcl, hco, hcp, hc1, hc64, gb, gb2, hA, z64_len, z64_drop, z65_len, z65_drop, List.append_nil]; rfl) ?_ | refine To.op1 hxE2 (by simp only [go_sem, reduceIte, seval, Heap.gets, Heap.sets, bytesA_length, bytesA_one, List.take_of_length_le, ne_eq, not_false_eq_true, Nat.zero_le, hcl, hco, hcp, hc64, gb, gb2, hA, z64_len, z64_drop, z65_len, z65_drop, List.append_nil]; rfl) ?_ | refine To.nop hxE2 ?_ | (refine To.condT hxE2 ?_ ?_; focus (simp only [go_sem, reduceIte, seval]; done)) | refine To.block hxE2 ?_ | refine To.skip hxE2 ?_))
      try simp only [andThen]
      refine ⟨m - 1, by omega, i + 1, D', r', v', by omega, rfl, by omega, hpl', ?_, ?_⟩
      · rw [List.take_add_one, hx, Option.toList_some]
        simp only [List.map_append, List.map_cons, List.map_nil, List.append_assoc] at hG' ⊢
        exact hG'
      · simp only [go_sem, reduceIte, seval, s8, s9]
    · have hlt : decide ((i : Int) < (cs.length : Int)) = false := decide_eq_false (by omega)
      have hie : cs.take i = cs := List.take_of_length_le (by omega)
      rw [hie] at hG
      (repeat' (first | refine To.seq hxE2 ?_ | refine To.op0 hxE2 (by simp only [go_sem, reduceIte, seval, s3, s9, s10, hlt]; rfl) ?_ | refine To.nop hxE2 ?_ | (refine To.condF hxE2 ?_ ?_; focus (simp only [go_sem, reduceIte, seval]; done)) | refine To.ret hxE2 ?_ | refine To.exit hxE2 ?_))
      try simp only [andThen, outOf, if_true]
      skip
      have h5 : ∀ S' : Nat → V, S' 2 = pv → ∃ r' oh, finish af78 ⟨o, e, d⟩ (some (.ret, S', ⟨o ++ r, o.length, d1⟩)) = some (r', oh) ∧ ∃ pv rr e' d', r' = .val pv ∧ pv.plain = false ∧ Gr o e d oh rr e' d' ∧ GrowX (o ++ rr) o.length pv 31 64 ((laidL cs).map bytesA) := by
        intro S' h4
        refine ⟨_, _, fin1 (i := 2) rfl, ?_⟩
        rw [h4]
        obtain ⟨rr, e2, d2, hgr, hrr⟩ := leave_grow (o := o) (e := e) (d := d) (e' := o.length) (d' := d1) (rr := r) (v := pv) (fun _ => .inr hd) (Nat.le_refl _) hd
        refine ⟨pv, rr, e2, d2, rfl, hpl, hgr, ?_⟩
        rw [hrr hpl]
        exact hG
      exact h5 _ (by simp only [go_sem, reduceIte, seval])
  · refine ⟨0, o.length, rr0, pv0, by omega, rfl, Nat.le_refl _, hpl0, ?_, ?_⟩
    · rw [List.take_zero, List.map_nil, List.append_nil]; exact hG0
    · simp only [go_sem, reduceIte, seval]
end
end Go.Proofs.Ytfbkeieoeagkdaa

/- Journal: marks; changes made. -/
namespace Go.Proofs.Ytfbkeieoeagkdaa
open Go AM
set_option linter.unusedSimpArgs false
set_option linter.unusedVariables false
set_option maxRecDepth 100000

def dMark (on : Bool) (st : DSt) (a : Int) (sq : Int) (lv : Bool) (c sm : Int) : Int × DSt :=
  if rightH sq lv c sm = true then dPut on st [(a, headP sq lv c sm)] else (5, st)
theorem dMark_len (on : Bool) (st : DSt) (a sq : Int) (lv : Bool) (c sm : Int) : (dMark on st a sq lv c sm).2.pgs.length = st.pgs.length := by
  unfold dMark
  split
  · exact dPut_len on _ st
  · rfl
section
variable {o : List AM.Obj} {e d dd pg lm : Nat} {on down : Bool} {left : Int} {pgs : List Pg} {ca : List (Nat × Pg)}
theorem fin_lv {a : AF} {i : Nat} (hr : a.res = [.t i]) {n : Int} {S : Nat → V} (hS : S i = .int .i64 n) {o1 r1 : List AM.Obj} {e1 d1 : Nat} (D : Dx dd pg lm o o1) (L : Low dd pg lm o o1 o.length d1) (he : o.length ≤ e1) (h1 : dd < o.length) (h2 : pg < o.length) (h3 : lm < o.length) :
    ∃ v oh, finish a ⟨o, e, d⟩ (some (.ret, S, ⟨o1 ++ r1, e1, d1⟩)) = some (v, oh) ∧ v = .val (.int .i64 n) ∧ ∃ d', Lv dd pg lm o e d oh o1 d' := by
  refine ⟨_, _, fin1 (i := i) hr, by rw [hS], ?_⟩
  obtain ⟨d2, q1, q2, q3, q4⟩ := leave_app2 (o := o) (o' := o1) (r := r1) (e := e) (d := d) (e' := e1) (d' := d1) (v := .int .i64 n) rfl D.len he (fun h => by
    rcases L.2 with L | L
    · exact L
    · omega)
  refine ⟨d2, ⟨by rw [hS]; exact q1, D, q4, ?_⟩⟩
  rcases q2 with q2 | q2
  · exact .inl q2
  · rcases L.2 with L | L
    · exact .inl L
    · exact .inr (by omega)
theorem fin_lv2 {a : AF} {i : Nat} (hr : a.res = [.t i]) {n : Int} {S : Nat → V} (hS : S i = .int .i64 n) {o1 r1 : List AM.Obj} {e1 d1 : Nat} (D : Dx dd pg lm o o1) (L : Low dd pg lm o o1 o.length d1) (he : o.length ≤ e1) (h1 : dd < o.length) (h2 : pg < o.length) (h3 : lm < o.length) {st : DSt} (P1 : PDs o1 dd pg lm on st) {w : Int × DSt} (hw : w = (n, st)) :
    ∃ v oh, finish a ⟨o, e, d⟩ (some (.ret, S, ⟨o1 ++ r1, e1, d1⟩)) = some (v, oh) ∧ v = .val (.int .i64 w.1) ∧ ∃ o' d', Lv dd pg lm o e d oh o' d' ∧ PDs o' dd pg lm on w.2 := by
  subst hw
  obtain ⟨v, oh, hf, rfl, d', hL⟩ := fin_lv (e := e) (d := d) (r1 := r1) hr hS D L he h1 h2 h3
  exact ⟨_, oh, hf, rfl, o1, d', hL, P1⟩
set_option maxHeartbeats 16000000 in
theorem mark_x (P : PD o dd pg lm on down left pgs ca) {a s : Int} {sq : Int} {lv : Bool} {c sm : Int} (h0 : 0 ≤ sm) (h1 : sm < 2 ^ 32) :
    ∃ r oh, Den FF E2 58 [.agg (regV dd a s), .agg (headV sq lv c sm)] ⟨o, e, d⟩ = some (r, oh) ∧ r = .val (.int .i64 (dMark on ⟨down, left, pgs, ca⟩ a sq lv c sm).1) ∧ ∃ o' d', Lv dd pg lm o e d oh o' d' ∧ PDs o' dd pg lm on (dMark on ⟨down, left, pgs, ca⟩ a sq lv c sm).2 := by
  refine To.denE hxE2 (f := 58) (a := af58) rfl (E2_none rfl) (Nat.le_of_ble_eq_true rfl) ?_
  have lD := P.ld
  have lP := P.lp
  have lM := P.ll
  have q1 := fun r e d => encode_q (o := o ++ r) (e := e) (d := d) (s := sq) (lv := lv) (c := c) h0 h1
  have hl := headP_len sq lv c sm
  have hv : (headV sq lv c sm).length = 4 := rfl
  have ho : (headV sq lv c sm).all V.one = true := rfl
  have ht4 : List.take 4 (headV sq lv c sm) = headV sq lv c sm := rfl
  unfold dMark
  generalize headV sq lv c sm = hV at *
  have hrv : regV dd a s = [.ptr dd 0, .int .i64 a, .int .i64 s] := rfl
  have hrl : (regV dd a s).length = 3 := rfl
  have hr1 : (regV dd a s)[1]? = some (.int .i64 a) := rfl
  have hro : (regV dd a s).all V.one = true := rfl
  have ht3 : List.take 3 (regV dd a s) = regV dd a s := rfl
  cases hr : rightH sq lv c sm
  · rw [hr] at q1
    simp only [Bool.false_eq_true, if_false] at q1 ⊢
    generalize regV dd a s = rv at *
    (repeat' (first | refine To.seq hxE2 ?_ | refine To.op0 hxE2 (by simp only [go_sem, reduceIte, seval, Heap.gets, Heap.sets, List.take_of_length_le, ne_eq, not_false_eq_true, Nat.zero_le, q1, hv, z64_len, z64_drop, z64_one, z64_plains]; rfl) ?_ | refine To.op1 hxE2 (by simp only [go_sem, reduceIte, seval, Heap.sets, ne_eq, not_false_eq_true, Nat.zero_le, z64_len, z64_drop, z64_one, z64_plains]; rfl) ?_ | refine To.nop hxE2 ?_ | (refine To.condT hxE2 ?_ ?_; focus (simp only [go_sem, reduceIte, seval]; done)) | refine To.ret hxE2 ?_))
    exact fin_lv2 (i := 4) rfl (n := 5) (by simp only [go_sem, reduceIte, seval]) Dx.refl (Low.refl.less (by omega)) (by omega) lD lP lM P rfl
  · rw [hr] at q1
    simp only [if_true] at q1 ⊢
    have htk : List.take 64 (bytesA (headP sq lv c sm)) = bytesA (headP sq lv c sm) := List.take_of_length_le (by rw [bytesA_length]; omega)
    have hdr : List.drop 64 (bytesA (headP sq lv c sm)) = [] := List.drop_eq_nil_of_le (by rw [bytesA_length]; omega)
    generalize headP sq lv c sm = pH at *
    have hzd : List.drop 1 z65 = z64 := rfl
    generalize hrvv : regV dd a s = rv at *
    (repeat' (first | refine To.seq hxE2 ?_ | refine To.op0 hxE2 (by simp only [go_sem, reduceIte, seval, Heap.gets, Heap.sets, Heap.get, bytesA_length, bytesA_one, bytesA_plains, List.take_of_length_le, Nat.reduceLeDiff, ne_eq, not_false_eq_true, Nat.zero_le, q1, hv, hrl, hr1, hl, hzd, z64_len, z64_drop, z65_len, z65_drop, List.append_nil]; rfl) ?_ | refine To.op1 hxE2 (by simp only [go_sem, reduceIte, seval, Heap.sets, bytesA_length, bytesA_one, bytesA_plains, ne_eq, not_false_eq_true, Nat.zero_le, hl, z64_len, z64_drop, z65_len, z65_drop, List.append_nil]; rfl) ?_ | refine To.nop hxE2 ?_ | (refine To.condF hxE2 ?_ ?_; focus (simp only [go_sem, reduceIte, seval]; done)) | refine To.skip hxE2 ?_))
    have hrow : ChRow (o ++ [.cells .ex 100 0 rv, .cells .ex 103 0 hV, .cells .ex 31 0 (bytesA pH), .cells .ex 73 0 (V.int .i64 a :: bytesA pH)]) (.slice (o.length + 3) 0 1 65) [(a, pH)] := by
      refine ⟨rfl, fun _ => ⟨o.length + 3, .ex, 73, rfl, ?_, .inr rfl⟩, fun c hc => ?_⟩
      · rw [app_getk]
        simp [chC]
      · rw [List.mem_singleton.1 hc]; exact hl
    obtain ⟨r2, oh2, q2, rfl, o2, d2, L2, P2⟩ := rput_x (e := o.length) (d := min o.length (o.length + 2)) (a := a) (s := s) (P.app [.cells .ex 100 0 rv, .cells .ex 103 0 hV, .cells .ex 31 0 (bytesA pH), .cells .ex 73 0 (V.int .i64 a :: bytesA pH)]) hrow (by simp)
    rw [hrvv] at q2
    obtain ⟨o3, rfl, D3⟩ := L2.dx.split lD lP lM
    have hl3 := D3.len
    have P3 := PD.chop P2 (by omega) (by omega) (by omega)
    have L3 := (Low.refl (o := o) (d := o.length)).less (Nat.min_le_left o.length (o.length + 2)) |>.trans L2.low.chop
    have hg2 := L2.eq
    generalize dPut on ⟨down, left, pgs, ca⟩ [(a, pH)] = w at *
    obtain ⟨n, st⟩ := w
    simp only at q2 P3
    refine To.op hxE2 (by simp only [go_sem, reduceIte, seval, q2]; rfl) ?_
    rw [hg2]
    (repeat' (first | refine To.op0 hxE2 (by simp only [go_sem, reduceIte, seval]; rfl) ?_ | refine To.nop hxE2 ?_ | refine To.ret hxE2 ?_))
    exact fin_lv2 (i := 4) rfl (by simp only [go_sem, reduceIte, seval]) D3 L3 (Nat.le_refl _) lD lP lM P3 rfl
end
/-- A journal in memory. -/
structure PJ (o : List AM.Obj) (jl dd pg lm : Nat) (a s : Nat) (seq : Int) (over : Bool) (on : Bool) (st : DSt) : Prop where
  hj : o[jl]? = some (.cells .ex 109 0 [.ptr dd 0, .int .i64 (a : Int), .int .i64 (s : Int), .int .i64 seq, .bool over])
  P : PDs o dd pg lm on st
/-- All but the journal's and the disk's objects stays. -/
structure Jx (jl dd pg lm : Nat) (o o' : List AM.Obj) : Prop where
  len : o'.length = o.length
  get : ∀ l, l ≠ jl → l ≠ dd → l ≠ pg → l ≠ lm → o'[l]? = o[l]?
def LowJ (jl dd pg lm : Nat) (o o' : List AM.Obj) (d d' : Nat) : Prop := d' ≤ d ∧ (o' = o ∨ d' ≤ max jl (max dd (max pg lm)))
structure LvJ (jl dd pg lm : Nat) (o : List AM.Obj) (e d : Nat) (oh : Option Heap) (o' : List AM.Obj) (d' : Nat) : Prop where
  eq : oh.getD ⟨o, e, d⟩ = ⟨o', e, d'⟩
  dx : Jx jl dd pg lm o o'
  low : LowJ jl dd pg lm o o' d d'
section
variable {o o1 o2 : List AM.Obj} {e d d1 d2 jl dd pg lm a s : Nat} {on over : Bool} {seq : Int} {st : DSt}
theorem Jx.refl : Jx jl dd pg lm o o := ⟨rfl, fun _ _ _ _ _ => rfl⟩
theorem Jx.trans (h : Jx jl dd pg lm o o1) (k : Jx jl dd pg lm o1 o2) : Jx jl dd pg lm o o2 := ⟨k.len.trans h.len, fun l x a b c => (k.get l x a b c).trans (h.get l x a b c)⟩
theorem Dx.j (h : Dx dd pg lm o o1) : Jx jl dd pg lm o o1 := ⟨h.len, fun l _ a b c => h.get l a b c⟩
theorem jx_jl (x : AM.Obj) : Jx jl dd pg lm o (o.set jl x) := ⟨by simp, fun l a _ _ _ => List.getElem?_set_ne (Ne.symm a)⟩
theorem LowJ.refl : LowJ jl dd pg lm o o d d := ⟨Nat.le_refl _, .inl rfl⟩
theorem LowJ.trans {d d1 d2 : Nat} (h : LowJ jl dd pg lm o o1 d d1) (k : LowJ jl dd pg lm o1 o2 d1 d2) : LowJ jl dd pg lm o o2 d d2 := by
  obtain ⟨h1, h2⟩ := h
  obtain ⟨k1, k2⟩ := k
  refine ⟨Nat.le_trans k1 h1, ?_⟩
  rcases k2 with k2 | k2
  · rcases h2 with h2 | h2
    · exact .inl (k2.trans h2)
    · exact .inr (by omega)
  · exact .inr k2
theorem LowJ.less (h : LowJ jl dd pg lm o o1 d d1) (hd : d2 ≤ d1) : LowJ jl dd pg lm o o1 d d2 := ⟨Nat.le_trans hd h.1, h.2.imp id (fun h => Nat.le_trans hd h)⟩
theorem LowJ.chop {r o1 : List AM.Obj} (h : LowJ jl dd pg lm (o ++ r) (o1 ++ r) d d1) : LowJ jl dd pg lm o o1 d d1 := ⟨h.1, h.2.imp (fun h => List.append_cancel_right h) id⟩
theorem Low.j (h : Low dd pg lm o o1 d d1) : LowJ jl dd pg lm o o1 d d1 := ⟨h.1, h.2.imp id (fun h => by omega)⟩
theorem Jx.split {r o' : List AM.Obj} (h : Jx jl dd pg lm (o ++ r) o') (h0 : jl < o.length) (h1 : dd < o.length) (h2 : pg < o.length) (h3 : lm < o.length) : ∃ o1, o' = o1 ++ r ∧ Jx jl dd pg lm o o1 := by
  have hlen := h.len
  rw [List.length_append] at hlen
  refine ⟨o'.take o.length, ?_, by rw [List.length_take]; omega, fun l x a b c => ?_⟩
  · apply List.ext_getElem?
    intro j
    by_cases hj : j < o.length
    · rw [List.getElem?_append_left (by rw [List.length_take]; omega), List.getElem?_take_of_lt hj]
    · have := h.get j (by omega) (by omega) (by omega) (by omega)
      rw [this, List.getElem?_append_right (by omega), List.getElem?_append_right (by rw [List.length_take]; omega), List.length_take, show j - min o.length o'.length = j - o.length by omega]
  · by_cases hl : l < o.length
    · rw [List.getElem?_take_of_lt hl, h.get l x a b c, List.getElem?_append_left hl]
    · rw [List.getElem?_eq_none (by rw [List.length_take]; omega), List.getElem?_eq_none (by omega)]
theorem PJ.lj (J : PJ o jl dd pg lm a s seq over on st) : jl < o.length := get_lt J.hj
theorem PJ.n1 (J : PJ o jl dd pg lm a s seq over on st) : jl ≠ dd := ty_ne J.hj J.P.hd (by decide)
theorem PJ.n2 (J : PJ o jl dd pg lm a s seq over on st) : jl ≠ pg := ty_ne J.hj J.P.hp (by decide)
theorem PJ.n3 (J : PJ o jl dd pg lm a s seq over on st) : jl ≠ lm := ne_map J.hj J.P.hm
theorem PJ.app (J : PJ o jl dd pg lm a s seq over on st) (r : List AM.Obj) : PJ (o ++ r) jl dd pg lm a s seq over on st := ⟨app_old J.hj r, J.P.app r⟩
theorem PJ.chop {r : List AM.Obj} (J : PJ (o ++ r) jl dd pg lm a s seq over on st) (h0 : jl < o.length) (h1 : dd < o.length) (h2 : pg < o.length) (h3 : lm < o.length) : PJ o jl dd pg lm a s seq over on st :=
  ⟨by rw [← List.getElem?_append_left h0 (l₂ := r)]; exact J.hj, PD.chop J.P h1 h2 h3⟩
/-- The disk's objects turned. -/
theorem PJ.dx {st' : DSt} (J : PJ o jl dd pg lm a s seq over on st) (D : Dx dd pg lm o o1) (P1 : PDs o1 dd pg lm on st') : PJ o1 jl dd pg lm a s seq over on st' :=
  ⟨by rw [D.get _ J.n1 J.n2 J.n3]; exact J.hj, P1⟩
/-- The journal's own object turned. -/
theorem PJ.set (J : PJ o jl dd pg lm a s seq over on st) (seq' : Int) (over' : Bool) : PJ (o.set jl (.cells .ex 109 0 [.ptr dd 0, .int .i64 (a : Int), .int .i64 (s : Int), .int .i64 seq', .bool over'])) jl dd pg lm a s seq' over' on st :=
  ⟨List.getElem?_set_self J.lj, ⟨by rw [List.getElem?_set_ne J.n1]; exact J.P.hd, by rw [List.getElem?_set_ne J.n2]; exact J.P.hp, by rw [List.getElem?_set_ne J.n3]; exact J.P.hm, J.P.p64, J.P.c64, J.P.nd⟩⟩
theorem fin_lvj {a' : AF} {i : Nat} (hr : a'.res = [.t i]) {n : Int} {S : Nat → V} (hS : S i = .int .i64 n) {o1 r1 : List AM.Obj} {e1 d1 : Nat} (D : Jx jl dd pg lm o o1) (L : LowJ jl dd pg lm o o1 o.length d1) (he : o.length ≤ e1) (h0 : jl < o.length) (h1 : dd < o.length) (h2 : pg < o.length) (h3 : lm < o.length) {R : Int → List AM.Obj → Prop} (hR : R n o1) :
    ∃ v oh, finish a' ⟨o, e, d⟩ (some (.ret, S, ⟨o1 ++ r1, e1, d1⟩)) = some (v, oh) ∧ ∃ n o' d', v = .val (.int .i64 n) ∧ LvJ jl dd pg lm o e d oh o' d' ∧ R n o' := by
  refine ⟨_, _, fin1 (i := i) hr, n, o1, ?_⟩
  obtain ⟨d2, q1, q2, q3, q4⟩ := leave_app2 (o := o) (o' := o1) (r := r1) (e := e) (d := d) (e' := e1) (d' := d1) (v := .int .i64 n) rfl D.len he (fun h => by
    rcases L.2 with L | L
    · exact L
    · omega)
  refine ⟨d2, by rw [hS], ⟨by rw [hS]; exact q1, D, q4, ?_⟩, hR⟩
  rcases q2 with q2 | q2
  · exact .inl q2
  · rcases L.2 with L | L
    · exact .inl L
    · exact .inr (by omega)
set_option maxHeartbeats 16000000 in
theorem turn_x (J : PJ o jl dd pg lm a s seq over on st) {sq0 : Int} {lv : Bool} {c sm : Int} (h0 : 0 ≤ sm) (h1 : sm < 2 ^ 32) (hs0 : 0 ≤ seq) (hs1 : seq < 2 ^ 60) :
    ∃ r oh, Den FF E2 80 [.ptr jl 0, .agg (headV sq0 lv c sm)] ⟨o, e, d⟩ = some (r, oh) ∧ ∃ n o' d', r = .val (.int .i64 n) ∧ LvJ jl dd pg lm o e d oh o' d' ∧ (n = (dMark on st a seq lv c sm).1 ∧ PJ o' jl dd pg lm a s (seq + 1) over on (dMark on st a seq lv c sm).2) := by
  refine To.denE hxE2 (f := 80) (a := af80) rfl (E2_none rfl) (Nat.le_of_ble_eq_true rfl) ?_
  have lJ := J.lj
  have lD := J.P.ld
  have lP := J.P.lp
  have lM := J.P.ll
  have J1 := J.set (seq + 1) over
  have dx1 := jx_jl (jl := jl) (dd := dd) (pg := pg) (lm := lm) (o := o) (.cells .ex 109 0 [.ptr dd 0, .int .i64 (a : Int), .int .i64 (s : Int), .int .i64 (seq + 1), .bool over])
  generalize hO : o.set jl (.cells .ex 109 0 [.ptr dd 0, .int .i64 (a : Int), .int .i64 (s : Int), .int .i64 (seq + 1), .bool over]) = o1 at J1 dx1
  have hl1 := dx1.len
  have wq : IntKind.i64.wrap (seq + 1) = seq + 1 := wrap_i64 (by omega) (by omega)
  have gj : ∀ r, (o ++ r)[jl]? = some (.cells .ex 109 0 [.ptr dd 0, .int .i64 (a : Int), .int .i64 (s : Int), .int .i64 seq, .bool over]) := fun r => app_old J.hj r
  have gj1 : ∀ r, (o1 ++ r)[jl]? = some (.cells .ex 109 0 [.ptr dd 0, .int .i64 (a : Int), .int .i64 (s : Int), .int .i64 (seq + 1), .bool over]) := fun r => app_old J1.hj r
  have hst : ∀ r, (o ++ r).set jl (.cells .ex 109 0 [.ptr dd 0, .int .i64 (a : Int), .int .i64 (s : Int), .int .i64 (seq + 1), .bool over]) = o1 ++ r := fun r => by rw [← hO]; exact List.set_append_left _ _ lJ
  have gb : ∀ x : AM.Obj, (o1 ++ [x])[o.length]? = some x := fun x => by rw [← hl1]; exact app_get0 _ _ _
  obtain ⟨r2, oh2, q2, rfl, o2, d2, L2, P2⟩ := mark_x (e := o.length) (d := min o.length jl) (a := a) (s := s) (sq := seq) (lv := lv) (c := c) (J1.P.app [.cells .ex 103 0 (headV seq lv c sm)]) h0 h1
  have hhv : headV seq lv c sm = [.int .i64 seq, .bool lv, .int .i64 c, .int .u32 sm] := rfl
  have hrv : regV dd a s = [.ptr dd 0, .int .i64 (a : Int), .int .i64 (s : Int)] := rfl
  rw [hhv, hrv] at q2
  obtain ⟨o3, rfl, D3⟩ := L2.dx.split (by omega) (by omega) (by omega)
  have hl3 := D3.len
  have P3 := PD.chop P2 (by omega) (by omega) (by omega)
  have LJ : LowJ jl dd pg lm o o1 o.length (min o.length jl) := ⟨Nat.min_le_left _ _, .inr (by omega)⟩
  have L3 := LJ.trans L2.low.chop.j
  have hg2 := L2.eq
  rw [hhv] at hg2
  generalize dMark on st a seq lv c sm = w at *
  obtain ⟨n, st2⟩ := w
  simp only at q2 P3
  (repeat' (first | refine To.seq hxE2 ?_ | refine To.op0 hxE2 (by simp only [go_sem, reduceIte, seval, Heap.sets, Heap.get, Nat.add_zero, V.one, Nat.reduceLeDiff, List.all_cons, List.all_nil, ne_eq, not_false_eq_true, Nat.zero_le, headV, gj, hst, wq]; rfl) ?_ | refine To.op1 hxE2 (by simp only [go_sem, reduceIte, seval, Heap.sets, V.one, Nat.reduceLeDiff, List.all_cons, List.all_nil, ne_eq, not_false_eq_true, Nat.zero_le, headV, gj, hst]; rfl) ?_ | refine To.nop hxE2 ?_ | refine To.draw0 hxE2 ?_ | refine ToD.op0 (by simp only [go_sem, reduceIte, seval, Heap.gets, List.take_of_length_le, Nat.add_zero, Nat.reduceLeDiff, List.all_nil, gj1, gb]; rfl) (by simp only [put_some]; rfl) ?_ | fail))
  refine ToD.callD rfl rfl rfl (by simp only [go_sem, reduceIte, seval]; exact q2) hg2 rfl ?_
  (repeat' (first | refine To.ret hxE2 ?_ | refine ToD.op0 (by simp only [go_sem, reduceIte, seval]; rfl) (by simp only [put_some]; rfl) ?_ | refine ToD.nop ?_))
  skip
  exact fin_lvj (R := fun m o' => m = n ∧ PJ o' jl dd pg lm a s (seq + 1) over on st2) (i := 4) rfl (by simp only [go_sem, reduceIte, seval]) (dx1.trans D3.j) L3 (Nat.le_refl _) lJ lD lP lM ⟨rfl, J1.dx D3 P3⟩
end
end Go.Proofs.Ytfbkeieoeagkdaa

/- Journal: a Commit's steps. -/
namespace Go.Proofs.Ytfbkeieoeagkdaa
open Go AM
set_option linter.unusedSimpArgs false
set_option linter.unusedVariables false
set_option maxRecDepth 100000

def dMake (on : Bool) (st : DSt) (a : Nat) (seq : Int) (cs : List (Int × Pg)) : Int × Int × DSt :=
  if (dPut on st (fromL ((a : Int) + 1) (laidL cs))).1 ≠ 0 then ((dPut on st (fromL ((a : Int) + 1) (laidL cs))).1, seq, (dPut on st (fromL ((a : Int) + 1) (laidL cs))).2) else
  if (dMark on (dPut on st (fromL ((a : Int) + 1) (laidL cs))).2 a seq true cs.length (sumP (laidL cs))).1 ≠ 0 then ((dMark on (dPut on st (fromL ((a : Int) + 1) (laidL cs))).2 a seq true cs.length (sumP (laidL cs))).1, seq + 1, (dMark on (dPut on st (fromL ((a : Int) + 1) (laidL cs))).2 a seq true cs.length (sumP (laidL cs))).2) else
  if (dPut on (dMark on (dPut on st (fromL ((a : Int) + 1) (laidL cs))).2 a seq true cs.length (sumP (laidL cs))).2 cs).1 ≠ 0 then ((dPut on (dMark on (dPut on st (fromL ((a : Int) + 1) (laidL cs))).2 a seq true cs.length (sumP (laidL cs))).2 cs).1, seq + 1, (dPut on (dMark on (dPut on st (fromL ((a : Int) + 1) (laidL cs))).2 a seq true cs.length (sumP (laidL cs))).2 cs).2) else
  ((dMark on (dPut on (dMark on (dPut on st (fromL ((a : Int) + 1) (laidL cs))).2 a seq true cs.length (sumP (laidL cs))).2 cs).2 a (seq + 1) false 0 0).1, seq + 2, (dMark on (dPut on (dMark on (dPut on st (fromL ((a : Int) + 1) (laidL cs))).2 a seq true cs.length (sumP (laidL cs))).2 cs).2 a (seq + 1) false 0 0).2)
section
variable {o o1 o2 : List AM.Obj} {e d d1 d2 jl dd pg lm a s : Nat} {on over : Bool} {seq : Int} {st : DSt}
theorem ChRow.jx {v : V} {cs : List (Int × Pg)} (h : ChRow o v cs) (J : PJ o jl dd pg lm a s seq over on st) (D : Jx jl dd pg lm o o1) : ChRow o1 v cs := by
  refine ⟨h.len, fun hc => ?_, h.p64⟩
  obtain ⟨l, ck, t, h1, h2, h3⟩ := h.at_ hc
  refine ⟨l, ck, t, h1, ?_, h3⟩
  rw [D.get l ?_ ?_ ?_ ?_]
  · exact h2
  · rintro rfl
    have := J.hj
    rw [h2] at this
    simp only [Option.some.injEq, AM.Obj.cells.injEq] at this
    rcases h3 with rfl | rfl
    · cases this.1
    · exact absurd this.2.1 (by decide)
  · rintro rfl
    have := J.P.hd
    rw [h2] at this
    simp only [Option.some.injEq, AM.Obj.cells.injEq] at this
    rcases h3 with rfl | rfl
    · cases this.1
    · exact absurd this.2.1 (by decide)
  · rintro rfl
    have := J.P.hp
    rw [h2] at this
    simp only [Option.some.injEq, AM.Obj.cells.injEq] at this
    rcases h3 with rfl | rfl
    · cases this.1
    · exact absurd this.2.1 (by decide)
  · rintro rfl
    have := J.P.hm
    rw [h2] at this
    cases this
theorem GrowX.base {rr : List AM.Obj} {v : V} {t e' : Nat} {rows : List (List V)} (h : GrowX (o ++ rr) o.length v t e' rows) (hl : o1.length = o.length) : GrowX (o1 ++ rr) o.length v t e' rows := by
  rcases h with h | ⟨m, ck, h1, h2, h3, h4⟩
  · exact .inl h
  · refine .inr ⟨m, ck, h1, ?_, h3, h4⟩
    rw [List.getElem?_append_right h3] at h2
    rw [List.getElem?_append_right (by omega), hl]
    exact h2
set_option maxHeartbeats 32000000 in
theorem make_x (J : PJ o jl dd pg lm a s seq over on st) {v : V} {cs : List (Int × Pg)} (hc : ChRow o v cs) (hn : cs.length ≤ 500) (ha : a ≤ 100000) (hs0 : 0 ≤ seq) (hs1 : seq < 2 ^ 59) :
    ∃ r oh, Den FF E2 61 [.ptr jl 0, v] ⟨o, e, d⟩ = some (r, oh) ∧ ∃ n o' d', r = .val (.int .i64 n) ∧ LvJ jl dd pg lm o e d oh o' d' ∧ (n = (dMake on st a seq cs).1 ∧ PJ o' jl dd pg lm a s (dMake on st a seq cs).2.1 over on (dMake on st a seq cs).2.2) := by
  refine To.denE hxE2 (f := 61) (a := af61) rfl (E2_none rfl) (Nat.le_of_ble_eq_true rfl) ?_
  have lJ := J.lj
  have lD := J.P.ld
  have lP := J.P.lp
  have lM := J.P.ll
  have hl := hc.len
  have hL : (laidL cs).length ≤ 1000 := by rw [laidL_len]; unfold listsN; omega
  obtain ⟨r0, oh0, q0, pv, rr0, e0, d0, rfl, hpl, G0, hG0⟩ := laid_x (e := o.length) (d := o.length) hc hn
  have he0 : e0 = o.length := by have := G0.e; omega
  have hd0 : d0 = o.length := by have := G0.d; omega
  subst he0 hd0
  have hp0 := PgRow.grow hG0 (laidL_64 hc.p64)
  obtain ⟨r1, oh1, q1, v1, rr1, e1, d1, rfl, G1, hc1⟩ := from_x (e := o.length) (d := o.length) hp0 hL (a := (a : Int) + 1) (by omega) (by omega)
  have he1 : e1 = o.length := by have := G1.e; rw [List.length_append] at this; omega
  have hd1 : d1 = o.length := by have := G1.d; rw [List.length_append] at this; omega
  subst he1 hd1
  rw [List.append_assoc] at hc1
  have g1 := G1.eq
  rw [List.append_assoc] at g1
  obtain ⟨r2, oh2, q2, rfl, o2', d2, L2, P2⟩ := rput_x (e := o.length) (d := o.length) (a := (a : Int)) (s := (s : Int)) (J.P.app (rr0 ++ rr1)) hc1 (by rw [fromL_len]; omega)
  obtain ⟨o2, rfl, D2⟩ := L2.dx.split lD lP lM
  have hl2 := D2.len
  have P2' := PD.chop P2 (by omega) (by omega) (by omega)
  have M2 : LowJ jl dd pg lm o o2 o.length d2 := L2.low.chop.j
  have g2 := L2.eq
  have hrv : regV dd a s = [.ptr dd 0, .int .i64 (a : Int), .int .i64 (s : Int)] := rfl
  have gj : ∀ r, (o ++ r)[jl]? = some (.cells .ex 109 0 [.ptr dd 0, .int .i64 (a : Int), .int .i64 (s : Int), .int .i64 seq, .bool over]) := fun r => app_old J.hj r
  have wa : IntKind.i64.wrap ((a : Int) + 1) = (a : Int) + 1 := wrap_i64 (by omega) (by omega)
  have hG1 : GrowX (o ++ (rr0 ++ rr1)) o.length pv 31 64 ((laidL cs).map bytesA) := by rw [← List.append_assoc]; exact hG0.app
  have hp2 := PgRow.grow (hG1.base hl2) (laidL_64 hc.p64)
  have qs := fun e d => sumPages_q (e := e) (d := d) hp2 (by omega)
  have hsl := sumP_lt (laidL cs)
  generalize rr0 ++ rr1 = R at *
  obtain ⟨n1, st1, hw1⟩ : ∃ n1 st1, dPut on st (fromL ((a : Int) + 1) (laidL cs)) = (n1, st1) := ⟨_, _, rfl⟩
  obtain ⟨n2, st2, hw2⟩ : ∃ n2 st2, dMark on st1 a seq true cs.length (sumP (laidL cs)) = (n2, st2) := ⟨_, _, rfl⟩
  obtain ⟨n3, st3, hw3⟩ : ∃ n3 st3, dPut on st2 cs = (n3, st3) := ⟨_, _, rfl⟩
  obtain ⟨n4, st4, hw4⟩ : ∃ n4 st4, dMark on st3 a (seq + 1) false 0 0 = (n4, st4) := ⟨_, _, rfl⟩
  have hw1' : dPut on ⟨st.down, st.left, st.pgs, st.ca⟩ (fromL ((a : Int) + 1) (laidL cs)) = (n1, st1) := hw1
  rw [hw1'] at q2
  rw [hw1'] at P2'
  have J2 : PJ o2 jl dd pg lm a s seq over on st1 := J.dx D2 P2'
  simp only at q2
  (repeat' (first | refine To.seq hxE2 ?_ | refine To.op0 hxE2 (by simp only [go_sem, reduceIte, seval]; rfl) ?_ | refine To.nop hxE2 ?_))
  refine To.op hxE2 (by simp only [go_sem, reduceIte, seval, q0]; rfl) ?_
  rw [show oh0.getD (AM.enter ⟨o, e, d⟩) = ⟨o ++ rr0, o.length, o.length⟩ from G0.eq]
  (repeat' (first | refine To.seq hxE2 ?_ | refine To.op0 hxE2 (by simp only [go_sem, reduceIte, seval]; rfl) ?_ | refine To.nop hxE2 ?_ | refine To.draw0 hxE2 ?_ | refine ToD.op0 (by simp only [go_sem, reduceIte, seval, Heap.gets, Heap.get, Nat.add_zero, Nat.reduceLeDiff, List.all_cons, List.all_nil, gj, wa]; rfl) (by simp only [put_some]; rfl) ?_ | fail))
  refine ToD.callD rfl rfl rfl (by simp only [go_sem, reduceIte, seval]; exact q1) g1 ?_ ?_
  · simp only [go_sem, reduceIte, seval, Heap.gets, Nat.reduceLeDiff, List.all_cons, List.all_nil, lookA, List.all_cons, List.all_nil, gj]
  refine ToD.callD rfl rfl rfl (by simp only [go_sem, reduceIte, seval]; exact q2) g2 rfl ?_
  (repeat' (first | refine To.seq hxE2 ?_ | refine To.op0 hxE2 (by simp only [go_sem, reduceIte, seval]; rfl) ?_ | refine To.nop hxE2 ?_ | refine ToD.op0 (by simp only [go_sem, reduceIte, seval]; rfl) (by simp only [put_some]; rfl) ?_ | refine ToD.nop ?_))
  by_cases hz1 : n1 = 0
  case neg =>
    have hb : (n1 != 0) = true := by simpa using hz1
    have hr : dMake on st a seq cs = (n1, seq, st1) := by
      unfold dMake
      rw [hw1, if_pos (by simpa using hz1)]
    (repeat' (first | refine To.seq hxE2 ?_ | refine To.op0 hxE2 (by simp only [go_sem, reduceIte, seval, hb]; rfl) ?_ | refine To.nop hxE2 ?_ | (refine To.condT hxE2 ?_ ?_; focus (simp only [go_sem, reduceIte, seval, hb]; done)) | refine To.ret hxE2 ?_))
    exact fin_lvj (n := n1) (R := fun m o' => m = (dMake on st a seq cs).1 ∧ PJ o' jl dd pg lm a s (dMake on st a seq cs).2.1 over on (dMake on st a seq cs).2.2) (i := 4) rfl (by simp only [go_sem, reduceIte, seval]) D2.j M2 (Nat.le_refl _) lJ lD lP lM (by rw [hr]; exact ⟨rfl, J2⟩)
  subst hz1
  obtain ⟨r3, oh3, q3, n2', o3', d3, rfl, L3, rfl, J3'⟩ := turn_x (e := o.length) (d := d2) (sq0 := 0) (lv := true) (c := (cs.length : Int)) (sm := (sumP (laidL cs) : Int)) (J2.app R) (by omega) (by omega) hs0 (by omega)
  rw [hw2] at q3 J3'
  simp only at q3 J3'
  obtain ⟨o3, rfl, D3⟩ := L3.dx.split (by omega) (by omega) (by omega) (by omega)
  have hl3 := D3.len
  have J3 := J3'.chop (by omega) (by omega) (by omega) (by omega)
  have M3 := M2.trans L3.low.chop
  have g3 := L3.eq
  have hhv : headV 0 true (cs.length : Int) (sumP (laidL cs) : Int) = [.int .i64 0, .bool true, .int .i64 (cs.length : Int), .int .u32 (sumP (laidL cs) : Int)] := rfl
  rw [hhv] at q3
  (repeat' (first | refine To.seq hxE2 ?_ | refine To.op0 hxE2 (by simp only [go_sem, reduceIte, seval, hl, qs, bne_self_eq_false]; rfl) ?_ | (refine To.condF hxE2 ?_ ?_; focus (simp only [go_sem, reduceIte, seval, bne_self_eq_false]; done)) | refine To.skip hxE2 ?_))
  refine To.op hxE2 (by simp only [go_sem, reduceIte, seval, q3]; rfl) ?_
  rw [g3]
  (repeat' (first | refine To.seq hxE2 ?_ | refine To.op0 hxE2 (by simp only [go_sem, reduceIte, seval]; rfl) ?_ | refine To.nop hxE2 ?_))
  by_cases hz2 : n2 = 0
  case neg =>
    have hb : (n2 != 0) = true := by simpa using hz2
    have hr : dMake on st a seq cs = (n2, seq + 1, st2) := by
      unfold dMake
      rw [hw1, if_neg (by simp), hw2, if_pos (by simpa using hz2)]
    (repeat' (first | refine To.seq hxE2 ?_ | refine To.op0 hxE2 (by simp only [go_sem, reduceIte, seval, hb]; rfl) ?_ | refine To.nop hxE2 ?_ | (refine To.condT hxE2 ?_ ?_; focus (simp only [go_sem, reduceIte, seval, hb]; done)) | refine To.ret hxE2 ?_))
    exact fin_lvj (n := n2) (R := fun m o' => m = (dMake on st a seq cs).1 ∧ PJ o' jl dd pg lm a s (dMake on st a seq cs).2.1 over on (dMake on st a seq cs).2.2) (i := 4) rfl (by simp only [go_sem, reduceIte, seval]) (D2.j.trans D3) M3 (Nat.le_refl _) lJ lD lP lM (by rw [hr]; exact ⟨rfl, J3⟩)
  subst hz2
  have hc3 := ((hc.jx J D2.j).jx J2 D3).app R
  obtain ⟨r4, oh4, q4, rfl, o4', d4, L4, P4⟩ := rput_x (e := o.length) (d := d3) (a := (a : Int)) (s := (s : Int)) (J3.P.app R) hc3 (by omega)
  have hw3' : dPut on ⟨st2.down, st2.left, st2.pgs, st2.ca⟩ cs = (n3, st3) := hw3
  rw [hw3'] at q4 P4
  simp only at q4 P4
  obtain ⟨o4, rfl, D4⟩ := L4.dx.split (by omega) (by omega) (by omega)
  have hl4 := D4.len
  have J4 := J3.dx D4 (PD.chop P4 (by omega) (by omega) (by omega))
  have M4 := M3.trans L4.low.chop.j
  have g4 := L4.eq
  have gj3 : ∀ r, (o3 ++ r)[jl]? = some (.cells .ex 109 0 [.ptr dd 0, .int .i64 (a : Int), .int .i64 (s : Int), .int .i64 (seq + 1), .bool over]) := fun r => app_old J3.hj r
  rw [hrv] at q4
  (repeat' (first | refine To.seq hxE2 ?_ | refine To.op0 hxE2 (by simp only [go_sem, reduceIte, seval, Heap.gets, Nat.add_zero, Nat.reduceLeDiff, gj3, bne_self_eq_false]; rfl) ?_ | (refine To.condF hxE2 ?_ ?_; focus (simp only [go_sem, reduceIte, seval, bne_self_eq_false]; done)) | refine To.skip hxE2 ?_))
  refine To.op hxE2 (by simp only [go_sem, reduceIte, seval, q4]; rfl) ?_
  rw [g4]
  (repeat' (first | refine To.seq hxE2 ?_ | refine To.op0 hxE2 (by simp only [go_sem, reduceIte, seval]; rfl) ?_ | refine To.nop hxE2 ?_))
  by_cases hz3 : n3 = 0
  case neg =>
    have hb : (n3 != 0) = true := by simpa using hz3
    have hr : dMake on st a seq cs = (n3, seq + 1, st3) := by
      unfold dMake
      rw [hw1, if_neg (by simp), hw2, if_neg (by simp), hw3, if_pos (by simpa using hz3)]
    (repeat' (first | refine To.seq hxE2 ?_ | refine To.op0 hxE2 (by simp only [go_sem, reduceIte, seval, hb]; rfl) ?_ | refine To.nop hxE2 ?_ | (refine To.condT hxE2 ?_ ?_; focus (simp only [go_sem, reduceIte, seval, hb]; done)) | refine To.ret hxE2 ?_))
    exact fin_lvj (n := n3) (R := fun m o' => m = (dMake on st a seq cs).1 ∧ PJ o' jl dd pg lm a s (dMake on st a seq cs).2.1 over on (dMake on st a seq cs).2.2) (i := 4) rfl (by simp only [go_sem, reduceIte, seval]) ((D2.j.trans D3).trans D4.j) M4 (Nat.le_refl _) lJ lD lP lM (by rw [hr]; exact ⟨rfl, J4⟩)
  subst hz3
  obtain ⟨r5, oh5, q5, n4', o5', d5, rfl, L5, rfl, J5'⟩ := turn_x (e := o.length) (d := d4) (sq0 := 0) (lv := false) (c := 0) (sm := 0) (J4.app R) (by omega) (by omega) (by omega) (by omega)
  rw [hw4] at q5 J5'
  simp only at q5 J5'
  obtain ⟨o5, rfl, D5⟩ := L5.dx.split (by omega) (by omega) (by omega) (by omega)
  have hl5 := D5.len
  have J5 := J5'.chop (by omega) (by omega) (by omega) (by omega)
  have M5 := M4.trans L5.low.chop
  have g5 := L5.eq
  have hhv2 : headV 0 false 0 0 = [.int .i64 0, .bool false, .int .i64 0, .int .u32 0] := rfl
  rw [hhv2] at q5
  have hr : dMake on st a seq cs = (n4, seq + 2, st4) := by
    unfold dMake
    rw [hw1, if_neg (by simp), hw2, if_neg (by simp), hw3, if_neg (by simp), hw4]
  have e2 : seq + 1 + 1 = seq + 2 := by omega
  rw [e2] at J5
  (repeat' (first | refine To.seq hxE2 ?_ | refine To.op0 hxE2 (by simp only [go_sem, reduceIte, seval, bne_self_eq_false]; rfl) ?_ | (refine To.condF hxE2 ?_ ?_; focus (simp only [go_sem, reduceIte, seval, bne_self_eq_false]; done)) | refine To.skip hxE2 ?_))
  refine To.op hxE2 (by simp only [go_sem, reduceIte, seval, q5]; rfl) ?_
  rw [g5]
  (repeat' (first | refine To.op0 hxE2 (by simp only [go_sem, reduceIte, seval]; rfl) ?_ | refine To.nop hxE2 ?_ | refine To.ret hxE2 ?_))
  exact fin_lvj (n := n4) (R := fun m o' => m = (dMake on st a seq cs).1 ∧ PJ o' jl dd pg lm a s (dMake on st a seq cs).2.1 over on (dMake on st a seq cs).2.2) (i := 4) rfl (by simp only [go_sem, reduceIte, seval]) (((D2.j.trans D3).trans D4.j).trans D5) M5 (Nat.le_refl _) lJ lD lP lM (by rw [hr]; exact ⟨rfl, J5⟩)
end
end Go.Proofs.Ytfbkeieoeagkdaa

/- Journal: Commit. -/
namespace Go.Proofs.Ytfbkeieoeagkdaa
open Go AM
set_option linter.unusedSimpArgs false
set_option linter.unusedVariables false
set_option maxRecDepth 100000

def seenE (l : List Int) : List (V × V) := l.map fun k => (.int .i64 k, .bool true)
theorem seen_lone {k : Int} {l : List Int} (h : k ∉ l) : loneK .i (.int .i64 k) (seenE l) = true := by
  refine List.all_eq_true.2 fun e he => ?_
  obtain ⟨j, hj, rfl⟩ := List.mem_map.1 he
  have : (k == j) = false := by simpa using fun hk : k = j => h (hk ▸ hj)
  simp only [eqK_int, this]
theorem seen_find (k : Int) : ∀ {l : List Int}, l.Nodup → mapFind .i (.int .i64 k) (seenE l) = some (if k ∈ l then some (.bool true) else none)
  | [], _ => rfl
  | j :: r, h => by
    obtain ⟨h1, h2⟩ := List.nodup_cons.1 h
    have ih := seen_find k h2
    have e1 : seenE (j :: r) = (.int .i64 j, .bool true) :: seenE r := rfl
    rw [e1]
    unfold mapFind
    by_cases hk : k = j
    · subst hk
      have : (k == k) = true := beq_self_eq_true _
      simp only [eqK_int, this, seen_lone h1, if_true]
      rw [if_pos List.mem_cons_self]
    · have : (k == j) = false := by simpa using hk
      simp only [eqK_int, this]
      rw [ih]
      have : k ∈ j :: r ↔ k ∈ r := by simp [hk]
      simp only [this]
theorem seen_put (k : Int) : ∀ {l : List Int}, k ∉ l → mapPut .i (.int .i64 k) (.bool true) (seenE l) = some (seenE (l ++ [k]))
  | [], _ => rfl
  | j :: r, h => by
    have hk : k ≠ j := fun hk => h (hk ▸ List.mem_cons_self)
    have ih := seen_put k (l := r) fun hr => h (List.mem_cons_of_mem _ hr)
    have e1 : seenE (j :: r) = (.int .i64 j, .bool true) :: seenE r := rfl
    rw [e1]
    unfold mapPut
    have : (k == j) = false := by simpa using hk
    simp only [eqK_int, this, ih]
    rfl
def goodC (np a s : Nat) (cs : List (Int × Pg)) : Bool := cs.all (fun c => mayB np a s c.1) && decide (cs.map (·.1)).Nodup
def wrongE (np a s : Nat) (cs : List (Int × Pg)) : Int := if goodC np a s cs = true then (if roomJ s < cs.length then 28 else 0) else 22
section
variable {o o1 o2 : List AM.Obj} {e d d1 d2 jl dd pg lm a s : Nat} {on over : Bool} {seq : Int} {st : DSt}
set_option maxHeartbeats 1000000 in
theorem jover_q (J : PJ o jl dd pg lm a s seq over on st) : Den FF E2 59 [.ptr jl 0] ⟨o, e, d⟩ = some (.val (.bool over), none) := by
  refine To.den hxE2 (f := 59) (a := af59) rfl (E2_none rfl) (Nat.le_of_ble_eq_true rfl) ?_
  (repeat' (first | refine To.seq hxE2 ?_ | refine To.op0 hxE2 (by simp only [go_sem, reduceIte, seval, Heap.get, J.hj]; rfl) ?_ | refine To.nop hxE2 ?_ | refine To.ret hxE2 ?_))
  try simp only [andThen, outOf]
  exact fin_k1 (i := 2) (v := .bool over) rfl (by simp only [go_sem, reduceIte, seval]) rfl (Kp.enter' _)
set_option maxHeartbeats 1000000 in
theorem jroom_q (J : PJ o jl dd pg lm a s seq over on st) : Den FF E2 54 [.ptr jl 0] ⟨o, e, d⟩ = some (.val (.int .i64 (roomJ s : Int)), none) := by
  refine To.den hxE2 (f := 54) (a := af54) rfl (E2_none rfl) (Nat.le_of_ble_eq_true rfl) ?_
  have q := fun e d => room_q (o := o) (e := e) (d := d) (size := (s : Int))
  (repeat' (first | refine To.seq hxE2 ?_ | refine To.op0 hxE2 (by simp only [go_sem, reduceIte, seval, Heap.get, Nat.add_zero, J.hj, q]; rfl) ?_ | refine To.nop hxE2 ?_ | (refine To.condF hxE2 ?_ ?_; focus (simp only [go_sem, reduceIte, seval]; done)) | refine To.ret hxE2 ?_ | refine To.skip hxE2 ?_))
  try simp only [andThen, outOf]
  exact fin_k1 (i := 2) (v := .int .i64 (roomJ s : Int)) rfl (by simp only [go_sem, reduceIte, seval]) rfl (Kp.enter' _)
set_option maxHeartbeats 16000000 in
theorem wrong_q (J : PJ o jl dd pg lm a s seq over on st) {v : V} {cs : List (Int × Pg)} (hc : ChRow o v cs) (hn : cs.length ≤ 500) (ha : a ≤ 1000000) (hs : s ≤ 1000000) : Den FF E2 60 [.ptr jl 0, v] ⟨o, e, d⟩ = some (.val (.int .i64 (wrongE st.pgs.length a s cs)), none) := by
  refine To.den hxE2 (f := 60) (a := af60) rfl (E2_none rfl) (Nat.le_of_ble_eq_true rfl) ?_
  have hl := hc.len
  have gj : ∀ r, (o ++ r)[jl]? = some (.cells .ex 109 0 [.ptr dd 0, .int .i64 (a : Int), .int .i64 (s : Int), .int .i64 seq, .bool over]) := fun r => app_old J.hj r
  (repeat' (first | refine To.seq hxE2 ?_ | refine To.op0 hxE2 (by simp only [go_sem, reduceIte, seval, hl]; rfl) ?_ | refine To.op1 hxE2 (by simp only [go_sem, seval]; rfl) ?_ | refine To.nop hxE2 ?_ | refine To.block hxE2 ?_))
  refine To.loop hxE2 (fun m S h' => ∃ (i e1 d1 : Nat) (r : List AM.Obj), i + m = cs.length ∧ h' = ⟨o ++ (.map (seenE ((cs.take i).map (·.1))) :: r), e1, d1⟩ ∧ o.length ≤ e1 ∧ o.length ≤ d1 ∧ (cs.take i).all (fun c => mayB st.pgs.length a s c.1) = true ∧ ((cs.take i).map (·.1)).Nodup ∧ S 0 = .ptr jl 0 ∧ S 1 = v ∧ S 5 = .map o.length ∧ S 9 = v ∧ S 10 = .int .i64 (cs.length : Int) ∧ S 11 = .int .i64 (i : Int)) ?_ cs.length _ _ ?_
  · rintro m S _ ⟨i, e1, d1, r, hm, rfl, he, hd, hall, hnd, s0, s1, s5, s9, s10, s11⟩
    by_cases hi : i < cs.length
    · have hlt : decide ((i : Int) < (cs.length : Int)) = true := decide_eq_true (by omega)
      have ix : idxOf cs.length (.int .i64 (i : Int)) = some i := idxOf_nat hi
      have wi : IntKind.i64.wrap ((i : Int) + 1) = ((i + 1 : Nat) : Int) := by rw [wrap_i64 (by omega) (by omega)]; omega
      obtain ⟨c, hx⟩ : ∃ c, cs[i]? = some c := ⟨cs[i], List.getElem?_eq_getElem hi⟩
      obtain ⟨l, ck, t, rfl, hlb, hkd⟩ := hc.at_ (by rintro rfl; simp at hi)
      have h65 : ∀ r ∈ cs.map chC, r.length = 65 := by
        intro r hr
        obtain ⟨y, hy, rfl⟩ := List.mem_map.1 hr
        exact chC_len (hc.p64 y hy)
      obtain ⟨a1, a2⟩ := flat_drop h65 (by rw [List.getElem?_map, hx]; rfl : (cs.map chC)[i]? = some (chC c))
      have hcl := chC_len (hc.p64 c (List.mem_of_getElem? hx))
      have hco := chC_one c
      have hcp := chC_plains c
      have hc0 : (chC c)[0]? = some (.int .i64 c.1) := rfl
      have gl : ∀ r, (o ++ r)[l]? = some (.cells ck t 0 (cs.map chC).flatten) := fun r => app_old hlb r
      have qm := fun r e d => may_q (e := e) (d := d) (J.P.app r) ha hs c.1
      have hrv : regV dd a s = [.ptr dd 0, .int .i64 (a : Int), .int .i64 (s : Int)] := rfl
      rw [hrv] at qm
      have gm : ∀ (x : AM.Obj) r', (o ++ (x :: r'))[o.length]? = some x := fun x r' => app_get0 _ _ _
      have gb : ∀ x y : AM.Obj, (o ++ (x :: (r ++ [y])))[o.length + (r.length + 1)]? = some y := fun x y => by
        rw [app_getk, List.getElem?_cons_succ]; simp
      have hkey : V.key .i (.int .i64 c.1) = true := rfl
      have hsf := seen_find c.1 hnd
      have htk1 : cs.take (i + 1) = cs.take i ++ [c] := by rw [List.take_add_one, hx]; rfl
      cases hmay : mayB st.pgs.length a s c.1
      · rw [hmay] at qm
        have hw : wrongE st.pgs.length a s cs = 22 := by
          unfold wrongE goodC
          rw [if_neg]
          intro h
          rw [Bool.and_eq_true] at h
          have := List.all_eq_true.1 h.1 c (List.mem_of_getElem? hx)
          rw [hmay] at this; cases this
        rw [hw]
        (repeat' (first | refine To.seq hxE2 ?_ | refine To.op0 hxE2 (by simp only [go_sem, reduceIte, seval, Heap.gets, Heap.sets, ne_eq, not_false_eq_true, Nat.zero_le, s9, s10, s11, hlt, ix, gl, a1, a2, hcl, hco, hcp, gb, z65_len, z65_drop, List.append_nil]; rfl) ?_ | refine To.op1 hxE2 (by simp only [go_sem, reduceIte, seval, Heap.sets, ne_eq, not_false_eq_true, Nat.zero_le, hcl, hco, hcp, gb, z65_len, z65_drop, List.append_nil]; rfl) ?_ | refine To.nop hxE2 ?_ | (refine To.condT hxE2 ?_ ?_; focus (simp only [go_sem, reduceIte, seval]; done)) | refine To.block hxE2 ?_ | refine To.ret hxE2 ?_ | refine To.skip hxE2 ?_ | refine To.draw0 hxE2 ?_ | refine ToD.op0 (by simp only [go_sem, reduceIte, seval, Heap.gets, Heap.get, Nat.add_zero, Nat.reduceLeDiff, s0, hc0, gj, gb, qm]; rfl) (by simp only [put_some]; rfl) ?_ | refine ToD.nop ?_))
        try simp only [andThen, outOf]
        refine fin_k1 (i := 4) (v := .int .i64 22) rfl (by simp only [go_sem, reduceIte, seval]) rfl (kp_app he ?_)
        omega
      rw [hmay] at qm
      by_cases hin : c.1 ∈ (cs.take i).map (·.1)
      · rw [if_pos hin] at hsf
        have hw : wrongE st.pgs.length a s cs = 22 := by
          unfold wrongE goodC
          rw [if_neg]
          intro h
          rw [Bool.and_eq_true, decide_eq_true_eq] at h
          have h2 := h.2
          have : (cs.map (·.1)) = (cs.take (i + 1)).map (·.1) ++ (cs.drop (i + 1)).map (·.1) := by rw [← List.map_append, List.take_append_drop]
          rw [this, htk1, List.map_append] at h2
          have h3 := (List.nodup_append.1 (List.nodup_append.1 h2).1).2.2
          exact h3 _ hin c.1 (by simp) rfl
        rw [hw]
        (repeat' (first | refine To.seq hxE2 ?_ | refine To.op0 hxE2 (by simp only [go_sem, reduceIte, seval, Heap.gets, Heap.sets, ne_eq, not_false_eq_true, Nat.zero_le, s9, s10, s11, hlt, ix, gl, a1, a2, hcl, hco, hcp, gb, z65_len, z65_drop, List.append_nil]; rfl) ?_ | refine To.op1 hxE2 (by simp only [go_sem, reduceIte, seval, Heap.sets, ne_eq, not_false_eq_true, Nat.zero_le, hcl, hco, hcp, gb, z65_len, z65_drop, List.append_nil]; rfl) ?_ | refine To.nop hxE2 ?_ | (refine To.condT hxE2 ?_ ?_; focus (simp only [go_sem, reduceIte, seval]; done)) | refine To.block hxE2 ?_ | refine To.ret hxE2 ?_ | refine To.skip hxE2 ?_ | refine To.draw0 hxE2 ?_ | refine ToD.op0 (by simp only [go_sem, reduceIte, seval, Heap.gets, Heap.get, Nat.add_zero, Nat.reduceLeDiff, s0, s5, hc0, gj, gb, gm, qm, hkey, hsf]; rfl) (by simp only [put_some]; rfl) ?_ | refine ToD.nop ?_))
        try simp only [andThen, outOf]
        refine fin_k1 (i := 4) (v := .int .i64 22) rfl (by simp only [go_sem, reduceIte, seval]) rfl (kp_app he ?_)
        omega
      · rw [if_neg hin] at hsf
        have hsp := seen_put c.1 hin
        have hset : ∀ (x y : AM.Obj) r', (o ++ (x :: r')).set o.length y = o ++ (y :: r') := fun x y r' => app_set0 _ _ _ _
        (repeat' (first | refine To.seq hxE2 ?_ | refine To.op0 hxE2 (by simp only [go_sem, reduceIte, seval, Heap.gets, Heap.sets, Heap.get, Nat.add_zero, ne_eq, not_false_eq_true, Nat.zero_le, s5, s9, s10, s11, hlt, ix, wi, gl, a1, a2, hcl, hco, hcp, hc0, gb, gm, hkey, hsp, hset, Heap.setMap, z65_len, z65_drop, List.append_nil]; rfl) ?_ | refine To.op1 hxE2 (by simp only [go_sem, reduceIte, seval, Heap.sets, ne_eq, not_false_eq_true, Nat.zero_le, hcl, hco, hcp, gb, gm, hkey, hsp, hset, Heap.setMap, z65_len, z65_drop, List.append_nil]; rfl) ?_ | refine To.nop hxE2 ?_ | (refine To.condT hxE2 ?_ ?_; focus (simp only [go_sem, reduceIte, seval]; done)) | (refine To.condF hxE2 ?_ ?_; focus (simp only [go_sem, reduceIte, seval]; done)) | refine To.block hxE2 ?_ | refine To.skip hxE2 ?_ | refine To.draw0 hxE2 ?_ | refine ToD.op0 (by simp only [go_sem, reduceIte, seval, Heap.gets, Heap.get, Nat.add_zero, Nat.reduceLeDiff, s0, s5, hc0, gj, gb, gm, qm, hkey, hsf, Option.getD_none]; rfl) (by simp only [put_some]; rfl) ?_ | refine ToD.nop ?_))
        try simp only [andThen]
        skip
        try simp only [andThen, outOf]
        refine ⟨m - 1, by omega, i + 1, _, _, _, by omega, by rw [htk1, List.map_append]; rfl, he, ?_, ?_, ?_, ?_⟩
        · omega
        · rw [htk1, List.all_append, hall]; simp [hmay]
        · rw [htk1, List.map_append]
          refine List.nodup_append.2 ⟨hnd, by simp, fun x hx y hy => ?_⟩
          rintro rfl
          simp only [List.map_cons, List.map_nil, List.mem_singleton] at hy
          exact hin (hy ▸ hx)
        · simp only [go_sem, reduceIte, seval, s0, s1, s5, s9, s10]
    · have hlt : decide ((i : Int) < (cs.length : Int)) = false := decide_eq_false (by omega)
      have hie : cs.take i = cs := List.take_of_length_le (by omega)
      rw [hie] at hall hnd ⊢
      have hgood : goodC st.pgs.length a s cs = true := by
        unfold goodC
        rw [hall, decide_eq_true hnd]; rfl
      have qr := fun r e d => jroom_q (e := e) (d := d) (J.app r)
      unfold wrongE
      rw [if_pos hgood]
      by_cases hr : roomJ s < cs.length
      · have d1' : decide ((roomJ s : Int) < (cs.length : Int)) = true := decide_eq_true (by omega)
        rw [if_pos hr]
        (repeat' (first | refine To.seq hxE2 ?_ | refine To.op0 hxE2 (by simp only [go_sem, reduceIte, seval, s0, s1, s10, s11, hlt, hl, qr, d1']; rfl) ?_ | refine To.nop hxE2 ?_ | (refine To.condT hxE2 ?_ ?_; focus (simp only [go_sem, reduceIte, seval]; done)) | (refine To.condF hxE2 ?_ ?_; focus (simp only [go_sem, reduceIte, seval]; done)) | refine To.ret hxE2 ?_ | refine To.exit hxE2 ?_))
        try simp only [andThen]
        skip
        exact fin_k1 (i := 4) (v := .int .i64 28) rfl (by simp only [go_sem, reduceIte, seval]) rfl (kp_app he hd)
      · have d1' : decide ((roomJ s : Int) < (cs.length : Int)) = false := decide_eq_false (by omega)
        rw [if_neg hr]
        (repeat' (first | refine To.seq hxE2 ?_ | refine To.op0 hxE2 (by simp only [go_sem, reduceIte, seval, s0, s1, s10, s11, hlt, hl, qr, d1']; rfl) ?_ | refine To.nop hxE2 ?_ | (refine To.condF hxE2 ?_ ?_; focus (simp only [go_sem, reduceIte, seval]; done)) | refine To.ret hxE2 ?_ | refine To.exit hxE2 ?_ | refine To.skip hxE2 ?_))
        try simp only [andThen, outOf, if_true]
        skip
        exact fin_k1 (i := 4) (v := .int .i64 0) rfl (by simp only [go_sem, reduceIte, seval]) rfl (kp_app he hd)
  · refine ⟨0, _, _, [], by omega, rfl, ?_, ?_, by simp, by simp, ?_⟩
    · simp
    · simp
    · simp only [go_sem, reduceIte, seval, initS]
theorem fin_lvj0 {a' : AF} {i : Nat} (hr : a'.res = [.t i]) {n : Int} {S : Nat → V} (hS : S i = .int .i64 n) {o1 : List AM.Obj} {e1 d1 : Nat} (D : Jx jl dd pg lm o o1) (L : LowJ jl dd pg lm o o1 o.length d1) (he : o.length ≤ e1) (h0 : jl < o.length) (h1 : dd < o.length) (h2 : pg < o.length) (h3 : lm < o.length) {R : Int → List AM.Obj → Prop} (hR : R n o1) :
    ∃ v oh, finish a' ⟨o, e, d⟩ (some (.ret, S, ⟨o1, e1, d1⟩)) = some (v, oh) ∧ ∃ n o' d', v = .val (.int .i64 n) ∧ LvJ jl dd pg lm o e d oh o' d' ∧ R n o' := by
  have h := fin_lvj (e := e) (d := d) (r1 := []) hr hS D L he h0 h1 h2 h3 hR
  rw [List.append_nil] at h
  exact h
/-- What a Commit comes to: the error; the next number; is it over; the disk. -/
def dCommit (on : Bool) (st : DSt) (a s : Nat) (seq : Int) (over : Bool) (cs : List (Int × Pg)) : Int × Int × Bool × DSt :=
  if over = true then (5, seq, over, st)
  else if wrongE st.pgs.length a s cs ≠ 0 ∨ cs = [] then (wrongE st.pgs.length a s cs, seq, over, st)
  else ((dMake on st a seq cs).1, (dMake on st a seq cs).2.1, (dMake on st a seq cs).1 != 0, (dMake on st a seq cs).2.2)
set_option maxHeartbeats 16000000 in
theorem commit_x (J : PJ o jl dd pg lm a s seq over on st) {v : V} {cs : List (Int × Pg)} (hc : ChRow o v cs) (hn : cs.length ≤ 500) (ha : a ≤ 100000) (hs : s ≤ 1000000) (hs0 : 0 ≤ seq) (hs1 : seq < 2 ^ 59) :
    ∃ r oh, Den FF E2 32 [.ptr jl 0, v] ⟨o, e, d⟩ = some (r, oh) ∧ ∃ n o' d', r = .val (.int .i64 n) ∧ LvJ jl dd pg lm o e d oh o' d' ∧ (n = (dCommit on st a s seq over cs).1 ∧ PJ o' jl dd pg lm a s (dCommit on st a s seq over cs).2.1 (dCommit on st a s seq over cs).2.2.1 on (dCommit on st a s seq over cs).2.2.2) := by
  refine To.denE hxE2 (f := 32) (a := af32) rfl (E2_none rfl) (Nat.le_of_ble_eq_true rfl) ?_
  have lJ := J.lj
  have lD := J.P.ld
  have lP := J.P.lp
  have lM := J.P.ll
  have hl := hc.len
  have qo := fun e d => jover_q (e := e) (d := d) J
  have qw := fun e d => wrong_q (e := e) (d := d) J hc hn (by omega) hs
  unfold dCommit
  cases over
  case true =>
    rw [if_pos rfl]
    (repeat' (first | refine To.seq hxE2 ?_ | refine To.op0 hxE2 (by simp only [go_sem, reduceIte, seval, qo]; rfl) ?_ | refine To.nop hxE2 ?_ | (refine To.condT hxE2 ?_ ?_; focus (simp only [go_sem, reduceIte, seval]; done)) | refine To.ret hxE2 ?_))
    exact fin_lvj0 (n := 5) (R := fun m o' => m = 5 ∧ PJ o' jl dd pg lm a s seq true on st) (i := 4) rfl (by simp only [go_sem, reduceIte, seval]) Jx.refl LowJ.refl (Nat.le_refl _) lJ lD lP lM ⟨rfl, J⟩
  rw [if_neg (by decide)]
  by_cases hw : wrongE st.pgs.length a s cs = 0
  case neg =>
    have hb : (wrongE st.pgs.length a s cs != 0) = true := by simpa using hw
    rw [if_pos (.inl hw)]
    generalize wrongE st.pgs.length a s cs = n at *
    (repeat' (first | refine To.seq hxE2 ?_ | refine To.op0 hxE2 (by simp only [go_sem, reduceIte, seval, qo, qw, hb]; rfl) ?_ | refine To.nop hxE2 ?_ | (refine To.condT hxE2 ?_ ?_; focus (simp only [go_sem, reduceIte, seval]; done)) | (refine To.condF hxE2 ?_ ?_; focus (simp only [go_sem, reduceIte, seval]; done)) | refine To.ret hxE2 ?_ | refine To.skip hxE2 ?_))
    exact fin_lvj0 (n := n) (R := fun m o' => m = n ∧ PJ o' jl dd pg lm a s seq false on st) (i := 4) rfl (by simp only [go_sem, reduceIte, seval]) Jx.refl LowJ.refl (Nat.le_refl _) lJ lD lP lM ⟨rfl, J⟩
  rw [hw] at qw ⊢
  by_cases hc0 : cs = []
  · rw [if_pos (.inr hc0)]
    have hl0 : lenLV v = some (.int .i64 0, none) := by rw [hl, hc0]; rfl
    (repeat' (first | refine To.seq hxE2 ?_ | refine To.op0 hxE2 (by simp only [go_sem, reduceIte, seval, qo, qw, hl0, bne_self_eq_false]; rfl) ?_ | refine To.nop hxE2 ?_ | (refine To.condT hxE2 ?_ ?_; focus (simp only [go_sem, reduceIte, seval]; done)) | (refine To.condF hxE2 ?_ ?_; focus (simp only [go_sem, reduceIte, seval]; done)) | refine To.ret hxE2 ?_ | refine To.skip hxE2 ?_))
    exact fin_lvj0 (n := 0) (R := fun m o' => m = 0 ∧ PJ o' jl dd pg lm a s seq false on st) (i := 4) rfl (by simp only [go_sem, reduceIte, seval]) Jx.refl LowJ.refl (Nat.le_refl _) lJ lD lP lM ⟨rfl, J⟩
  rw [if_neg (by simp [hc0])]
  have hlen : cs.length ≠ 0 := fun h => hc0 (List.eq_nil_of_length_eq_zero h)
  have hb0 : ((cs.length : Int) == 0) = false := by
    rw [beq_eq_false_iff_ne]; omega
  obtain ⟨r1, oh1, q1, n, o2, d2, rfl, L1, hn1, J2⟩ := make_x (e := o.length) (d := o.length) J hc hn ha hs0 hs1
  have g1 := L1.eq
  generalize dMake on st a seq cs = w at *
  obtain ⟨n', sq', st'⟩ := w
  simp only at hn1 J2 ⊢
  subst hn1
  have hl2 := L1.dx.len
  have J3 := J2.set sq' (n != 0)
  have dx3 := jx_jl (jl := jl) (dd := dd) (pg := pg) (lm := lm) (o := o2) (.cells .ex 109 0 [.ptr dd 0, .int .i64 (a : Int), .int .i64 (s : Int), .int .i64 sq', .bool (n != 0)])
  (repeat' (first | refine To.seq hxE2 ?_ | refine To.op0 hxE2 (by simp only [go_sem, reduceIte, seval, qo, qw, hl, hb0, bne_self_eq_false]; rfl) ?_ | refine To.nop hxE2 ?_ | (refine To.condF hxE2 ?_ ?_; focus (simp only [go_sem, reduceIte, seval]; done)) | refine To.skip hxE2 ?_))
  refine To.op hxE2 (by simp only [go_sem, reduceIte, seval, q1]; rfl) ?_
  rw [show oh1.getD (AM.enter ⟨o, e, d⟩) = ⟨o2, o.length, d2⟩ from g1]
  (repeat' (first | refine To.seq hxE2 ?_ | refine To.op0 hxE2 (by simp only [go_sem, reduceIte, seval, Heap.sets, List.drop_of_length_le, V.one, List.all_cons, List.all_nil, ne_eq, not_false_eq_true, Nat.zero_le, J2.hj]; rfl) ?_ | refine To.op1 hxE2 (by simp only [go_sem, reduceIte, seval, Heap.sets, List.drop_of_length_le, V.one, List.all_cons, List.all_nil, ne_eq, not_false_eq_true, Nat.zero_le, J2.hj]; rfl) ?_ | refine To.nop hxE2 ?_ | refine To.ret hxE2 ?_))
  exact fin_lvj0 (n := n) (R := fun m o' => m = n ∧ PJ o' jl dd pg lm a s sq' (n != 0) on st') (i := 4) rfl (by simp only [go_sem, reduceIte, seval]) (L1.dx.trans dx3) (L1.low.trans ⟨Nat.min_le_left _ _, .inr (by omega)⟩) (Nat.le_refl _) lJ lD lP lM ⟨rfl, J3⟩
end
end Go.Proofs.Ytfbkeieoeagkdaa

