/- Own texts, joined: TdW, TdX, TdK, TdYh, TdM, TdO, TdA, TdB, TdC, TdD, TdE. -/
import Derived.Test.YtfbkeieoeagkdaaTdPart1
/- Disk: Crash as a fact. -/
namespace Go.Proofs.Ytfbkeieoeagkdaa
open Go AM
set_option linter.unusedSimpArgs false
set_option linter.unusedVariables false
set_option maxRecDepth 100000
section
variable {o : List AM.Obj} {e d dd pg lm : Nat} {on down : Bool} {left : Int} {pgs : List Pg} {ca : List (Nat × Pg)}

theorem keys_q : Den FF E2 51 [.map lm] ⟨o, o.length, o.length⟩ = some (.val (.fn 69 [] [.ptr o.length 0]), some ⟨o ++ [.cells .ex 29 0 [.map lm]], o.length, o.length⟩) := by
  refine To.den hxE2 (f := 51) (a := af51) rfl (E2_none rfl) (Nat.le_of_ble_eq_true rfl) ?_
  (repeat' (first | refine To.seq hxE2 ?_ | refine To.op0 hxE2 (by simp only [go_sem, eqs hxE2, reduceIte, Nat.reduceEqDiff, Nat.reduceAdd, Nat.reduceMul, Nat.reduceLT, Nat.reduceLeDiff, Int.reduceLT, Int.reduceLE, Int.reduceEq, reduceCtorEq, Int.reduceBEq, Int.reduceBNe, Int.reduceToNat, Nat.reduceSub, Nat.reduceDiv, Int.reduceNeg, Int.reduceAdd, Int.reduceSub, Int.reduceMul, Heap.gets, Heap.sets, Heap.get, bytesA_length, bytesA_one, bytesA_plains, List.take_of_length_le, List.drop_of_length_le, Nat.add_zero, V.one, Nat.reduceLeDiff, List.all_cons, List.all_nil, ne_eq, not_false_eq_true, Nat.zero_le]; rfl) ?_ | refine To.op1 hxE2 (by simp only [go_sem, eqs hxE2, reduceIte, Nat.reduceEqDiff, Nat.reduceAdd, Nat.reduceMul, Nat.reduceLT, Nat.reduceLeDiff, Int.reduceLT, Int.reduceLE, Int.reduceEq, reduceCtorEq, Int.reduceBEq, Int.reduceBNe, Int.reduceToNat, Nat.reduceSub, Nat.reduceDiv, Int.reduceNeg, Int.reduceAdd, Int.reduceSub, Int.reduceMul, Heap.gets, Heap.sets, Heap.get, bytesA_length, bytesA_one, bytesA_plains, List.take_of_length_le, List.drop_of_length_le, Nat.add_zero, V.one, Nat.reduceLeDiff, List.all_cons, List.all_nil, ne_eq, not_false_eq_true, Nat.zero_le]; rfl) ?_ | refine To.nop hxE2 ?_ | (refine To.condT hxE2 ?_ ?_; focus (simp only [go_sem, eqs hxE2, reduceIte, Nat.reduceEqDiff, Nat.reduceAdd, Nat.reduceMul, Nat.reduceLT, Nat.reduceLeDiff, Int.reduceLT, Int.reduceLE, Int.reduceEq, reduceCtorEq, Int.reduceBEq, Int.reduceBNe, Int.reduceToNat, Nat.reduceSub, Nat.reduceDiv, Int.reduceNeg, Int.reduceAdd, Int.reduceSub, Int.reduceMul, Heap.gets, Heap.sets, Heap.get, bytesA_length, bytesA_one, bytesA_plains, List.take_of_length_le, List.drop_of_length_le, Nat.add_zero, V.one, Nat.reduceLeDiff, List.all_cons, List.all_nil, ne_eq, not_false_eq_true, Nat.zero_le]; done)) | (refine To.condF hxE2 ?_ ?_; focus (simp only [go_sem, eqs hxE2, reduceIte, Nat.reduceEqDiff, Nat.reduceAdd, Nat.reduceMul, Nat.reduceLT, Nat.reduceLeDiff, Int.reduceLT, Int.reduceLE, Int.reduceEq, reduceCtorEq, Int.reduceBEq, Int.reduceBNe, Int.reduceToNat, Nat.reduceSub, Nat.reduceDiv, Int.reduceNeg, Int.reduceAdd, Int.reduceSub, Int.reduceMul, Heap.gets, Heap.sets, Heap.get, bytesA_length, bytesA_one, bytesA_plains, List.take_of_length_le, List.drop_of_length_le, Nat.add_zero, V.one, Nat.reduceLeDiff, List.all_cons, List.all_nil, ne_eq, not_false_eq_true, Nat.zero_le]; done)) | refine To.block hxE2 ?_ | refine To.scope hxE2 ?_ | refine To.ret hxE2 ?_ | refine To.exit hxE2 ?_ | refine To.skip hxE2 ?_ | refine To.label hxE2 ?_))
  try simp only [andThen, outOf]
  rw [fin1 (i := 2) rfl, leave_some (by simp only [go_sem, eqs hxE2, reduceIte, Nat.reduceEqDiff, Nat.reduceAdd, Nat.reduceMul, Nat.reduceLT, Nat.reduceLeDiff, Int.reduceLT, Int.reduceLE, Int.reduceEq, reduceCtorEq, Int.reduceBEq, Int.reduceBNe, Int.reduceToNat, Nat.reduceSub, Nat.reduceDiv, Int.reduceNeg, Int.reduceAdd, Int.reduceSub, Int.reduceMul])]
  simp only [go_sem, eqs hxE2, reduceIte, Nat.reduceEqDiff, Nat.reduceAdd, Nat.reduceMul, Nat.reduceLT, Nat.reduceLeDiff, Int.reduceLT, Int.reduceLE, Int.reduceEq, reduceCtorEq, Int.reduceBEq, Int.reduceBNe, Int.reduceToNat, Nat.reduceSub, Nat.reduceDiv, Int.reduceNeg, Int.reduceAdd, Int.reduceSub, Int.reduceMul]

theorem PD.small (P : PD o dd pg lm on down left pgs ca) (h : pgs.length ≤ 1000000) : ∀ e ∈ ca, e.1 < 1000000 := fun e he => by have := (P.c64 e he).2; omega
theorem PD.calen (P : PD o dd pg lm on down left pgs ca) : ca.length = (keysN pgs.length ca).length := by
  have h := isort_keys P.nd fun e he => (P.c64 e he).2
  have h1 := (isort_perm (ca.map fun e => (e.1 : Int))).length_eq
  rw [h] at h1
  simpa using h1.symm
theorem sorted_nil (P : PD o dd pg lm on down left pgs []) {b t : Nat} {r : List AM.Obj} {e d : Nat} (hb : (o ++ r)[b]? = some (.cells .ex t 0 [.map lm])) :
    Den FF E2 50 [.fn 69 [] [.ptr b 0]] ⟨o ++ r, e, d⟩ = some (.val .nils, none) := by
  refine den_hand rfl rfl ?_
  have hm : (o ++ r)[lm]? = some (.map []) := app_old P.hm r
  unfold sortedG
  simp only [hb, hm, keysOf]
  rw [if_pos ⟨rfl, Nat.zero_le _⟩, if_pos trivial]
theorem sorted_some (P : PD o dd pg lm on down left pgs ca) (hs : pgs.length ≤ 1000000) (hc : ca ≠ []) {b t : Nat} {r : List AM.Obj} {e d : Nat} (hb : (o ++ r)[b]? = some (.cells .ex t 0 [.map lm])) :
    Den FF E2 50 [.fn 69 [] [.ptr b 0]] ⟨o ++ r, e, d⟩ = some (.val (.slice (o ++ r).length 0 (keysN pgs.length ca).length 1), some ⟨(o ++ r) ++ [.cells .gr 3 0 ((keysN pgs.length ca).map fun i : Nat => V.int .i64 (i : Int))], e, d⟩) := by
  refine den_hand rfl rfl ?_
  have hm : (o ++ r)[lm]? = some (.map (ca.map ent)) := app_old P.hm r
  have hlen : ca.length ≤ 1000000 := by
    rw [P.calen]
    exact Nat.le_trans (List.length_filter_le _ _) (by rw [List.length_range]; exact hs)
  have hne : ¬ (ca.map fun e => (e.1 : Int)) = [] := by simpa using hc
  unfold sortedG
  simp only [hb, hm, keysOf_ent (P.small hs)]
  rw [if_pos ⟨apart_ent P.nd, by rw [List.length_map]; exact hlen⟩, if_neg hne, isort_keys P.nd fun e he => (P.c64 e he).2, List.map_map, List.length_map, P.calen]
  rfl

theorem PD.take (P : PD o dd pg lm on down left pgs ca) {n : Nat} (h1 : dd < n) (h2 : pg < n) (h3 : lm < n) : PD (o.take n) dd pg lm on down left pgs ca :=
  ⟨by rw [List.getElem?_take_of_lt h1]; exact P.hd, by rw [List.getElem?_take_of_lt h2]; exact P.hp, by rw [List.getElem?_take_of_lt h3]; exact P.hm, P.p64, P.c64, P.nd⟩
/-- A page is torn. -/
theorem PD.tearP (P : PD o dd pg lm on down left pgs ca) {i : Nat} {x q : Pg} (hi : pgs[i]? = some q) (hx : x.length = 64) : PD (o.set pg (.cells .ex 31 0 (pgC (pgs.set i x)))) dd pg lm on down left (pgs.set i x) ca :=
  ⟨by rw [List.getElem?_set_ne (Ne.symm P.ne3), List.length_set]; exact P.hd, List.getElem?_set_self P.lp, by rw [List.getElem?_set_ne P.ne2]; exact P.hm, fun p hp => by
    rcases List.mem_or_eq_of_mem_set hp with h | rfl
    · exact P.p64 p h
    · exact hx, fun e he => by rw [List.length_set]; exact P.c64 e he, P.nd⟩

set_option maxHeartbeats 16000000 in
theorem crash_q (P : PD o dd pg lm on down left pgs ca) (hs : pgs.length ≤ 1000000) {v : V} {b : List UInt8} (hB : BArg o v b) (hbm : b.length ≤ 1000000) :
    ∃ r oh, Den FF E2 20 [.ptr dd 0, v] ⟨o, e, d⟩ = some (r, oh) ∧ r = .val (.tuple []) ∧ ∃ o' d', oh.getD ⟨o, e, d⟩ = ⟨o', e, d'⟩ ∧ PD o' dd pg lm false false 0 (crashN ca b 0 (keysN pgs.length ca) pgs) [] ∧ Dx dd pg lm o o' := by
  refine To.denE hxE2 (f := 20) (a := af20) rfl (E2_none rfl) (Nat.le_of_ble_eq_true rfl) ?_
  have hK : (keysN pgs.length ca).length ≤ 1000000 := Nat.le_trans (List.length_filter_le _ _) (by rw [List.length_range]; exact hs)
  have hKm : ∀ i ∈ keysN pgs.length ca, i ∈ ca.map (·.1) := fun i hi => (keysN_mem.1 hi).2
  have hc0 : ca = [] → keysN pgs.length ca = [] := fun h => List.eq_nil_of_length_eq_zero (by rw [← P.calen, h]; rfl)
  have hld := P.ld
  have hlp := P.lp
  have hll := P.ll
  have qk := keys_q (o := o) (lm := lm)
  have qs : ∃ kv kr, Den FF E2 50 [.fn 69 [] [.ptr o.length 0]] ⟨o ++ [.cells .ex 29 0 [.map lm]], o.length, o.length⟩ = some (.val kv, kr) ∧ (∃ r, kr.getD ⟨o ++ [.cells .ex 29 0 [.map lm]], o.length, o.length⟩ = ⟨o ++ r, o.length, o.length⟩ ∧
      (keysN pgs.length ca ≠ [] → kv = .slice (o.length + 1) 0 (keysN pgs.length ca).length 1 ∧ (o ++ r)[o.length + 1]? = some (.cells .gr 3 0 ((keysN pgs.length ca).map fun i : Nat => V.int .i64 (i : Int))))) ∧ lenLV kv = some (.int .i64 ((keysN pgs.length ca).length : Int), none) := by
    by_cases hc : ca = []
    · subst hc
      refine ⟨_, _, sorted_nil P (app_get0 _ _ _), ⟨_, rfl, fun h => absurd (hc0 rfl) h⟩, ?_⟩
      rw [hc0 rfl]; rfl
    · refine ⟨_, _, sorted_some P hs hc (app_get0 _ _ _), ⟨_, by rw [List.append_assoc]; rfl, fun _ => ⟨by simp, ?_⟩⟩, rfl⟩
      exact app_getk _ _ 1
  obtain ⟨kv, kr, qs, ⟨r, hr, hkv⟩, hkl⟩ := qs
  have Pr := P.app r
  (repeat' (first | refine To.seq hxE2 ?_ | refine To.op0 hxE2 (by simp only [go_sem, eqs hxE2, reduceIte, Nat.reduceEqDiff, Nat.reduceAdd, Nat.reduceMul, Nat.reduceLT, Nat.reduceLeDiff, Int.reduceLT, Int.reduceLE, Int.reduceEq, reduceCtorEq, Int.reduceBEq, Int.reduceBNe, Int.reduceToNat, Nat.reduceSub, Nat.reduceDiv, Int.reduceNeg, Int.reduceAdd, Int.reduceSub, Int.reduceMul, Heap.gets, Heap.sets, Heap.get, bytesA_length, bytesA_one, bytesA_plains, List.take_of_length_le, List.drop_of_length_le, Nat.add_zero, V.one, Nat.reduceLeDiff, List.all_cons, List.all_nil, ne_eq, not_false_eq_true, Nat.zero_le, P.hd, qk]; rfl) ?_ | refine To.op1 hxE2 (by simp only [go_sem, eqs hxE2, reduceIte, Nat.reduceEqDiff, Nat.reduceAdd, Nat.reduceMul, Nat.reduceLT, Nat.reduceLeDiff, Int.reduceLT, Int.reduceLE, Int.reduceEq, reduceCtorEq, Int.reduceBEq, Int.reduceBNe, Int.reduceToNat, Nat.reduceSub, Nat.reduceDiv, Int.reduceNeg, Int.reduceAdd, Int.reduceSub, Int.reduceMul, Heap.gets, Heap.sets, Heap.get, bytesA_length, bytesA_one, bytesA_plains, List.take_of_length_le, List.drop_of_length_le, Nat.add_zero, V.one, Nat.reduceLeDiff, List.all_cons, List.all_nil, ne_eq, not_false_eq_true, Nat.zero_le, P.hd, qk]; rfl) ?_ | refine To.nop hxE2 ?_ | (refine To.condT hxE2 ?_ ?_; focus (simp only [go_sem, eqs hxE2, reduceIte, Nat.reduceEqDiff, Nat.reduceAdd, Nat.reduceMul, Nat.reduceLT, Nat.reduceLeDiff, Int.reduceLT, Int.reduceLE, Int.reduceEq, reduceCtorEq, Int.reduceBEq, Int.reduceBNe, Int.reduceToNat, Nat.reduceSub, Nat.reduceDiv, Int.reduceNeg, Int.reduceAdd, Int.reduceSub, Int.reduceMul, Heap.gets, Heap.sets, Heap.get, bytesA_length, bytesA_one, bytesA_plains, List.take_of_length_le, List.drop_of_length_le, Nat.add_zero, V.one, Nat.reduceLeDiff, List.all_cons, List.all_nil, ne_eq, not_false_eq_true, Nat.zero_le, P.hd, qk]; done)) | (refine To.condF hxE2 ?_ ?_; focus (simp only [go_sem, eqs hxE2, reduceIte, Nat.reduceEqDiff, Nat.reduceAdd, Nat.reduceMul, Nat.reduceLT, Nat.reduceLeDiff, Int.reduceLT, Int.reduceLE, Int.reduceEq, reduceCtorEq, Int.reduceBEq, Int.reduceBNe, Int.reduceToNat, Nat.reduceSub, Nat.reduceDiv, Int.reduceNeg, Int.reduceAdd, Int.reduceSub, Int.reduceMul, Heap.gets, Heap.sets, Heap.get, bytesA_length, bytesA_one, bytesA_plains, List.take_of_length_le, List.drop_of_length_le, Nat.add_zero, V.one, Nat.reduceLeDiff, List.all_cons, List.all_nil, ne_eq, not_false_eq_true, Nat.zero_le, P.hd, qk]; done)) | refine To.block hxE2 ?_ | refine To.scope hxE2 ?_ | refine To.ret hxE2 ?_ | refine To.exit hxE2 ?_ | refine To.skip hxE2 ?_ | refine To.label hxE2 ?_))
  refine To.op hxE2 (by simp only [go_sem, eqs hxE2, reduceIte, Nat.reduceEqDiff, Nat.reduceAdd, Nat.reduceMul, Nat.reduceLT, Nat.reduceLeDiff, Int.reduceLT, Int.reduceLE, Int.reduceEq, reduceCtorEq, Int.reduceBEq, Int.reduceBNe, Int.reduceToNat, Nat.reduceSub, Nat.reduceDiv, Int.reduceNeg, Int.reduceAdd, Int.reduceSub, Int.reduceMul, qs]; rfl) ?_
  rw [hr]
  (repeat' (first | refine To.seq hxE2 ?_ | refine To.op0 hxE2 (by simp only [go_sem, eqs hxE2, reduceIte, Nat.reduceEqDiff, Nat.reduceAdd, Nat.reduceMul, Nat.reduceLT, Nat.reduceLeDiff, Int.reduceLT, Int.reduceLE, Int.reduceEq, reduceCtorEq, Int.reduceBEq, Int.reduceBNe, Int.reduceToNat, Nat.reduceSub, Nat.reduceDiv, Int.reduceNeg, Int.reduceAdd, Int.reduceSub, Int.reduceMul, Heap.gets, Heap.sets, Heap.get, bytesA_length, bytesA_one, bytesA_plains, List.take_of_length_le, List.drop_of_length_le, Nat.add_zero, V.one, Nat.reduceLeDiff, List.all_cons, List.all_nil, ne_eq, not_false_eq_true, Nat.zero_le, hkl]; rfl) ?_ | refine To.op1 hxE2 (by simp only [go_sem, eqs hxE2, reduceIte, Nat.reduceEqDiff, Nat.reduceAdd, Nat.reduceMul, Nat.reduceLT, Nat.reduceLeDiff, Int.reduceLT, Int.reduceLE, Int.reduceEq, reduceCtorEq, Int.reduceBEq, Int.reduceBNe, Int.reduceToNat, Nat.reduceSub, Nat.reduceDiv, Int.reduceNeg, Int.reduceAdd, Int.reduceSub, Int.reduceMul, Heap.gets, Heap.sets, Heap.get, bytesA_length, bytesA_one, bytesA_plains, List.take_of_length_le, List.drop_of_length_le, Nat.add_zero, V.one, Nat.reduceLeDiff, List.all_cons, List.all_nil, ne_eq, not_false_eq_true, Nat.zero_le, hkl]; rfl) ?_ | refine To.nop hxE2 ?_ | (refine To.condT hxE2 ?_ ?_; focus (simp only [go_sem, eqs hxE2, reduceIte, Nat.reduceEqDiff, Nat.reduceAdd, Nat.reduceMul, Nat.reduceLT, Nat.reduceLeDiff, Int.reduceLT, Int.reduceLE, Int.reduceEq, reduceCtorEq, Int.reduceBEq, Int.reduceBNe, Int.reduceToNat, Nat.reduceSub, Nat.reduceDiv, Int.reduceNeg, Int.reduceAdd, Int.reduceSub, Int.reduceMul, Heap.gets, Heap.sets, Heap.get, bytesA_length, bytesA_one, bytesA_plains, List.take_of_length_le, List.drop_of_length_le, Nat.add_zero, V.one, Nat.reduceLeDiff, List.all_cons, List.all_nil, ne_eq, not_false_eq_true, Nat.zero_le, hkl]; done)) | (refine To.condF hxE2 ?_ ?_; focus (simp only [go_sem, eqs hxE2, reduceIte, Nat.reduceEqDiff, Nat.reduceAdd, Nat.reduceMul, Nat.reduceLT, Nat.reduceLeDiff, Int.reduceLT, Int.reduceLE, Int.reduceEq, reduceCtorEq, Int.reduceBEq, Int.reduceBNe, Int.reduceToNat, Nat.reduceSub, Nat.reduceDiv, Int.reduceNeg, Int.reduceAdd, Int.reduceSub, Int.reduceMul, Heap.gets, Heap.sets, Heap.get, bytesA_length, bytesA_one, bytesA_plains, List.take_of_length_le, List.drop_of_length_le, Nat.add_zero, V.one, Nat.reduceLeDiff, List.all_cons, List.all_nil, ne_eq, not_false_eq_true, Nat.zero_le, hkl]; done)) | refine To.block hxE2 ?_ | refine To.scope hxE2 ?_ | refine To.ret hxE2 ?_ | refine To.exit hxE2 ?_ | refine To.skip hxE2 ?_ | refine To.label hxE2 ?_))
  generalize hKe : keysN pgs.length ca = K at *
  have hold : ∀ l, l < o.length → (o ++ r)[l]? = o[l]? := fun l hl => List.getElem?_append_left hl
  have hro : o.length ≤ (o ++ r).length := by simp
  generalize o ++ r = oo at *
  refine To.loop hxE2 (fun m S h' => ∃ (j : Nat) (oo : List AM.Obj) (d' : Nat) (pg' : List Pg), j + m = K.length ∧ h' = ⟨oo, o.length, d'⟩ ∧ PD oo dd pg lm on down left pg' ca ∧ o.length ≤ oo.length ∧ (∀ l, l < o.length → l ≠ dd → l ≠ pg → l ≠ lm → oo[l]? = o[l]?) ∧
    (K ≠ [] → oo[o.length + 1]? = some (.cells .gr 3 0 (K.map fun i : Nat => V.int .i64 (i : Int)))) ∧ crashN ca b j (K.drop j) pg' = crashN ca b 0 K pgs ∧ S 0 = .ptr dd 0 ∧ S 1 = v ∧ S 14 = kv ∧ S 15 = .int .i64 (K.length : Int) ∧ S 16 = .int .i64 (j : Int)) ?_ K.length _ _ ?_
  · rintro m S _ ⟨j, oo, d', pg', hm, rfl, P', hle', hold', hrow, hcr, s0, s1, s14, s15, s16⟩
    by_cases hj : j < K.length
    · have hlt : decide ((j : Int) < (K.length : Int)) = true := decide_eq_true (by omega)
      have hK0 : K ≠ [] := by rintro rfl; simp at hj
      obtain ⟨rfl, _⟩ := hkv hK0
      have hrow := hrow hK0
      have hKj : K[j]? = some K[j] := List.getElem?_eq_getElem hj
      have hdrop : K.drop j = K[j] :: K.drop (j + 1) := List.drop_eq_getElem_cons hj
      have hmem := hKm _ (List.getElem_mem hj)
      generalize K[j] = i at hKj hdrop hmem
      obtain ⟨en, hen, rfl⟩ := List.mem_map.1 hmem
      have hil := (P'.c64 en hen).2
      have hfi : ∃ p, findC en.1 ca = some p ∧ p.length = 64 := by
        have h1 := (hasK_iff (i := en.1) (ca := ca)).2 hmem
        unfold hasK at h1
        cases hf : findC en.1 ca with
        | none => rw [hf] at h1; cases h1
        | some p =>
          refine ⟨p, rfl, ?_⟩
          unfold findC at hf
          obtain ⟨x, hx, rfl⟩ := Option.map_eq_some_iff.1 hf
          exact (P'.c64 x (List.mem_of_find?_eq_some hx)).1
      obtain ⟨p, hfp, hp64⟩ := hfi
      generalize en.1 = i at *
      have ix : idxOf K.length (.int .i64 (j : Int)) = some j := idxOf_nat hj
      have hkj : (K.map fun i : Nat => V.int .i64 (i : Int))[j]? = some (.int .i64 (i : Int)) := by rw [List.getElem?_map, hKj]; rfl
      have wj : IntKind.i64.wrap ((j : Int) + 1) = ((j + 1 : Nat) : Int) := by rw [wrap_i64 (by omega) (by omega)]; omega
      have hbl := hB.len
      rw [hdrop] at hcr
      (repeat' (first | refine To.seq hxE2 ?_ | refine To.op0 hxE2 (by simp only [go_sem, eqs hxE2, reduceIte, Nat.reduceEqDiff, Nat.reduceAdd, Nat.reduceMul, Nat.reduceLT, Nat.reduceLeDiff, Int.reduceLT, Int.reduceLE, Int.reduceEq, reduceCtorEq, Int.reduceBEq, Int.reduceBNe, Int.reduceToNat, Nat.reduceSub, Nat.reduceDiv, Int.reduceNeg, Int.reduceAdd, Int.reduceSub, Int.reduceMul, Heap.gets, Heap.sets, Heap.get, bytesA_length, bytesA_one, bytesA_plains, List.take_of_length_le, List.drop_of_length_le, Nat.add_zero, V.one, Nat.reduceLeDiff, List.all_cons, List.all_nil, ne_eq, not_false_eq_true, Nat.zero_le, s0, s1, s14, s15, s16, hlt, ix, hrow, hkj, hbl]; rfl) ?_ | refine To.op1 hxE2 (by simp only [go_sem, eqs hxE2, reduceIte, Nat.reduceEqDiff, Nat.reduceAdd, Nat.reduceMul, Nat.reduceLT, Nat.reduceLeDiff, Int.reduceLT, Int.reduceLE, Int.reduceEq, reduceCtorEq, Int.reduceBEq, Int.reduceBNe, Int.reduceToNat, Nat.reduceSub, Nat.reduceDiv, Int.reduceNeg, Int.reduceAdd, Int.reduceSub, Int.reduceMul, Heap.gets, Heap.sets, Heap.get, bytesA_length, bytesA_one, bytesA_plains, List.take_of_length_le, List.drop_of_length_le, Nat.add_zero, V.one, Nat.reduceLeDiff, List.all_cons, List.all_nil, ne_eq, not_false_eq_true, Nat.zero_le, s0, s1, s14, s15, s16, hlt, ix, hrow, hkj, hbl]; rfl) ?_ | refine To.nop hxE2 ?_ | (refine To.condT hxE2 ?_ ?_; focus (simp only [go_sem, eqs hxE2, reduceIte, Nat.reduceEqDiff, Nat.reduceAdd, Nat.reduceMul, Nat.reduceLT, Nat.reduceLeDiff, Int.reduceLT, Int.reduceLE, Int.reduceEq, reduceCtorEq, Int.reduceBEq, Int.reduceBNe, Int.reduceToNat, Nat.reduceSub, Nat.reduceDiv, Int.reduceNeg, Int.reduceAdd, Int.reduceSub, Int.reduceMul, Heap.gets, Heap.sets, Heap.get, bytesA_length, bytesA_one, bytesA_plains, List.take_of_length_le, List.drop_of_length_le, Nat.add_zero, V.one, Nat.reduceLeDiff, List.all_cons, List.all_nil, ne_eq, not_false_eq_true, Nat.zero_le, s0, s1, s14, s15, s16, hlt, ix, hrow, hkj, hbl]; done)) | (refine To.condF hxE2 ?_ ?_; focus (simp only [go_sem, eqs hxE2, reduceIte, Nat.reduceEqDiff, Nat.reduceAdd, Nat.reduceMul, Nat.reduceLT, Nat.reduceLeDiff, Int.reduceLT, Int.reduceLE, Int.reduceEq, reduceCtorEq, Int.reduceBEq, Int.reduceBNe, Int.reduceToNat, Nat.reduceSub, Nat.reduceDiv, Int.reduceNeg, Int.reduceAdd, Int.reduceSub, Int.reduceMul, Heap.gets, Heap.sets, Heap.get, bytesA_length, bytesA_one, bytesA_plains, List.take_of_length_le, List.drop_of_length_le, Nat.add_zero, V.one, Nat.reduceLeDiff, List.all_cons, List.all_nil, ne_eq, not_false_eq_true, Nat.zero_le, s0, s1, s14, s15, s16, hlt, ix, hrow, hkj, hbl]; done)) | refine To.block hxE2 ?_ | refine To.scope hxE2 ?_ | refine To.ret hxE2 ?_ | refine To.exit hxE2 ?_ | refine To.skip hxE2 ?_ | refine To.label hxE2 ?_))
      simp only [andThen]
      by_cases hjb : j < b.length
      · have d24 : decide ((j : Int) < (b.length : Int)) = true := decide_eq_true (by omega)
        obtain ⟨x, hx⟩ : ∃ x, b[j]? = some x := ⟨b[j], List.getElem?_eq_getElem hjb⟩
        have hb0 : b ≠ [] := by rintro rfl; simp at hjb
        obtain ⟨lb, tb, rfl, hlb⟩ := hB.at_ hb0
        have hlb' : oo[lb]? = some (.cells .ro tb 0 (bytesA b)) := by
          rw [hold' lb (get_lt hlb) (by rintro rfl; rw [P.hd] at hlb; cases hlb) (by rintro rfl; rw [P.hp] at hlb; cases hlb) (by rintro rfl; rw [P.hm] at hlb; cases hlb)]
          exact hlb
        have hq : pg'[i]? = some pg'[i] := List.getElem?_eq_getElem hil
        have hq64 := P'.p64 _ (List.getElem_mem hil)
        have hqd : pg'.getD i (zs 64) = pg'[i] := by rw [List.getD_eq_getElem?_getD, hq]; rfl
        generalize pg'[i] = q at hq hq64 hqd
        have hc65 : x.toNat % 65 < 65 := Nat.mod_lt _ (by decide)
        have hcr' : crashN ca b (j + 1) (K.drop (j + 1)) (pg'.set i (tear (x.toNat % 65) p q)) = crashN ca b 0 K pgs := by
          rw [← hcr, crashN, hx, hfp, hqd]; rfl
        have hxl : x.toNat < 256 := x.toNat_lt
        have w1 : IntKind.i64.wrap (x.toNat : Int) = (x.toNat : Int) := wrap_i64 (by omega) (by omega)
        have m1 : Int.tmod (x.toNat : Int) 65 = ((x.toNat % 65 : Nat) : Int) := by rw [Int.tmod_eq_emod_of_nonneg (by omega)]; omega
        generalize x.toNat % 65 = c at *
        have ixb : idxOf b.length (.int .i64 (j : Int)) = some j := idxOf_nat hjb
        have ixp : idxOf pg'.length (.int .i64 (i : Int)) = some i := idxOf_nat hil
        have hbx : (bytesA b)[j]? = some (.int .u8 (x.toNat : Int)) := by rw [bytesA_get, hx]; rfl
        have hpl := pgC_len P'.p64
        have hkk : (i + 1) * 64 ≤ pg'.length * 64 := Nat.mul_le_mul_right 64 hil
        have hle2 : i * 64 + 64 ≤ (pgC pg').length := by omega
        have hle3 : i * 64 + c ≤ (pgC pg').length := by omega
        have hl1 : (List.take c (bytesA p)).length = c := by rw [List.length_take, bytesA_length]; omega
        have ho1 : (List.take c (bytesA p)).all V.one = true := by rw [bytesA_take]; exact bytesA_one _
        have hp1 : V.plains (List.take c (bytesA p)) = true := by rw [bytesA_take]; exact bytesA_plains _
        have hmin : min 64 c = c := Nat.min_eq_right (by omega)
        have hbd : boundsA 64 64 none (some (.int .i64 (c : Int))) = some (0, c) := by
          simp only [boundsA, hiB, loB]
          rw [if_pos (by omega)]
          simp
        have hbd2 : boundsA 64 64 none none = some (0, 64) := rfl
        have hsp : List.take (i * 64) (pgC pg') ++ (List.take c (bytesA p) ++ List.drop (i * 64 + c) (pgC pg')) = pgC (pg'.set i (tear c p q)) := by
          have := pgC_tear P'.p64 hq hp64 (by omega : c ≤ 64)
          unfold splice at this
          rw [hl1, List.append_assoc] at this
          exact this
        have gd : ∀ r, (oo ++ r)[dd]? = some (.cells .ex 92 0 [.bool on, .bool down, .int .i64 left, .slice pg 0 pg'.length 64, .map lm]) := fun r => app_old P'.hd r
        have gp : ∀ r, (oo ++ r)[pg]? = some (.cells .ex 31 0 (pgC pg')) := fun r => app_old P'.hp r
        have gb : ∀ r, (oo ++ r)[lb]? = some (.cells .ro tb 0 (bytesA b)) := fun r => app_old hlb' r
        have hst : ∀ r x, (oo ++ r).set pg x = oo.set pg x ++ r := fun r x => set_app _ _ _ P'.lp
        have hkey : V.key .i (.int .i64 (i : Int)) = true := rfl
        have hmf := mapFind_ent i ca
        rw [hfp, Option.map_some] at hmf
        have hgets : ∀ e d, (⟨oo ++ [.cells .ex 31 0 (bytesA p)], e, d⟩ : Heap).gets oo.length 0 c = some (List.take c (bytesA p)) := fun e d => by
          simp only [Heap.gets, app_get0]
          split
          · rename_i h; rw [h]; rfl
          · rw [if_pos (by rw [bytesA_length]; omega), List.drop_zero]
        have hdr : List.drop 64 z64 = [] := rfl
        have htl : K ≠ [] := hK0
        have hx64 : (tear c p q).length = 64 := tear_len hp64 hq64 (by omega)
        by_cases hone : i * 64 = 0 ∧ (pgC pg').length = 64
        · have hT : (i * 64 = 0 ∧ (pgC pg').length = 64) = True := eq_true hone
          have hsp0 : List.take c (bytesA p) ++ List.drop c (pgC pg') = pgC (pg'.set i (tear c p q)) := by
            rw [hone.1, List.take_zero, List.nil_append, Nat.zero_add] at hsp
            exact hsp
          have hlec : c ≤ (pgC pg').length := by omega
          (repeat' (first | refine To.seq hxE2 ?_ | refine To.op0 hxE2 (by simp only [go_sem, eqs hxE2, reduceIte, Nat.reduceEqDiff, Nat.reduceAdd, Nat.reduceMul, Nat.reduceLT, Nat.reduceLeDiff, Int.reduceLT, Int.reduceLE, Int.reduceEq, reduceCtorEq, Int.reduceBEq, Int.reduceBNe, Int.reduceToNat, Nat.reduceSub, Nat.reduceDiv, Int.reduceNeg, Int.reduceAdd, Int.reduceSub, Int.reduceMul, Heap.sets, Heap.get, bytesA_length, bytesA_one, bytesA_plains, List.take_of_length_le, List.drop_of_length_le, Nat.add_zero, V.one, Nat.reduceLeDiff, List.all_cons, List.all_nil, ne_eq, not_false_eq_true, Nat.zero_le, s0, s1, s14, s15, s16, d24, P'.hd, P'.hm, gd, gp, gb, ixb, ixp, hbx, w1, m1, hT, hsp0, hlec, hbd, hbd2, hgets, hmin, hl1, ho1, hp1, hle3, hsp, hst, hkey, hmf, hdr, hp64, z64_len, z64_one, z64_plains, wj]; rfl) ?_ | refine To.op1 hxE2 (by simp only [go_sem, eqs hxE2, reduceIte, Nat.reduceEqDiff, Nat.reduceAdd, Nat.reduceMul, Nat.reduceLT, Nat.reduceLeDiff, Int.reduceLT, Int.reduceLE, Int.reduceEq, reduceCtorEq, Int.reduceBEq, Int.reduceBNe, Int.reduceToNat, Nat.reduceSub, Nat.reduceDiv, Int.reduceNeg, Int.reduceAdd, Int.reduceSub, Int.reduceMul, Heap.sets, Heap.get, bytesA_length, bytesA_one, bytesA_plains, List.take_of_length_le, List.drop_of_length_le, Nat.add_zero, V.one, Nat.reduceLeDiff, List.all_cons, List.all_nil, ne_eq, not_false_eq_true, Nat.zero_le, s0, s1, s14, s15, s16, d24, P'.hd, P'.hm, gd, gp, gb, ixb, ixp, hbx, w1, m1, hT, hsp0, hlec, hbd, hbd2, hgets, hmin, hl1, ho1, hp1, hle3, hsp, hst, hkey, hmf, hdr, hp64, z64_len, z64_one, z64_plains, wj]; rfl) ?_ | refine To.nop hxE2 ?_ | (refine To.condT hxE2 ?_ ?_; focus (simp only [go_sem, eqs hxE2, reduceIte, Nat.reduceEqDiff, Nat.reduceAdd, Nat.reduceMul, Nat.reduceLT, Nat.reduceLeDiff, Int.reduceLT, Int.reduceLE, Int.reduceEq, reduceCtorEq, Int.reduceBEq, Int.reduceBNe, Int.reduceToNat, Nat.reduceSub, Nat.reduceDiv, Int.reduceNeg, Int.reduceAdd, Int.reduceSub, Int.reduceMul, Heap.sets, Heap.get, bytesA_length, bytesA_one, bytesA_plains, List.take_of_length_le, List.drop_of_length_le, Nat.add_zero, V.one, Nat.reduceLeDiff, List.all_cons, List.all_nil, ne_eq, not_false_eq_true, Nat.zero_le, s0, s1, s14, s15, s16, d24, P'.hd, P'.hm, gd, gp, gb, ixb, ixp, hbx, w1, m1, hT, hsp0, hlec, hbd, hbd2, hgets, hmin, hl1, ho1, hp1, hle3, hsp, hst, hkey, hmf, hdr, hp64, z64_len, z64_one, z64_plains, wj]; done)) | (refine To.condF hxE2 ?_ ?_; focus (simp only [go_sem, eqs hxE2, reduceIte, Nat.reduceEqDiff, Nat.reduceAdd, Nat.reduceMul, Nat.reduceLT, Nat.reduceLeDiff, Int.reduceLT, Int.reduceLE, Int.reduceEq, reduceCtorEq, Int.reduceBEq, Int.reduceBNe, Int.reduceToNat, Nat.reduceSub, Nat.reduceDiv, Int.reduceNeg, Int.reduceAdd, Int.reduceSub, Int.reduceMul, Heap.sets, Heap.get, bytesA_length, bytesA_one, bytesA_plains, List.take_of_length_le, List.drop_of_length_le, Nat.add_zero, V.one, Nat.reduceLeDiff, List.all_cons, List.all_nil, ne_eq, not_false_eq_true, Nat.zero_le, s0, s1, s14, s15, s16, d24, P'.hd, P'.hm, gd, gp, gb, ixb, ixp, hbx, w1, m1, hT, hsp0, hlec, hbd, hbd2, hgets, hmin, hl1, ho1, hp1, hle3, hsp, hst, hkey, hmf, hdr, hp64, z64_len, z64_one, z64_plains, wj]; done)) | refine To.block hxE2 ?_ | refine To.scope hxE2 ?_ | refine To.ret hxE2 ?_ | refine To.exit hxE2 ?_ | refine To.skip hxE2 ?_ | refine To.label hxE2 ?_ | refine To.draw0 hxE2 ?_ | refine ToD.op0 (by simp only [go_sem, eqs hxE2, reduceIte, Nat.reduceEqDiff, Nat.reduceAdd, Nat.reduceMul, Nat.reduceLT, Nat.reduceLeDiff, Int.reduceLT, Int.reduceLE, Int.reduceEq, reduceCtorEq, Int.reduceBEq, Int.reduceBNe, Int.reduceToNat, Nat.reduceSub, Nat.reduceDiv, Int.reduceNeg, Int.reduceAdd, Int.reduceSub, Int.reduceMul, Heap.sets, Heap.get, bytesA_length, bytesA_one, bytesA_plains, List.take_of_length_le, List.drop_of_length_le, Nat.add_zero, V.one, Nat.reduceLeDiff, List.all_cons, List.all_nil, ne_eq, not_false_eq_true, Nat.zero_le, s0, s1, s14, s15, s16, d24, P'.hd, P'.hm, gd, gp, gb, ixb, ixp, hbx, w1, m1, hT, hsp0, hlec, hbd, hbd2, hgets, hmin, hl1, ho1, hp1, hle3, hsp, hst, hkey, hmf, hdr, hp64, z64_len, z64_one, z64_plains, wj]; rfl) (by simp only [put_some, put_none]; rfl) ?_ | refine ToD.op1 (by simp only [go_sem, eqs hxE2, reduceIte, Nat.reduceEqDiff, Nat.reduceAdd, Nat.reduceMul, Nat.reduceLT, Nat.reduceLeDiff, Int.reduceLT, Int.reduceLE, Int.reduceEq, reduceCtorEq, Int.reduceBEq, Int.reduceBNe, Int.reduceToNat, Nat.reduceSub, Nat.reduceDiv, Int.reduceNeg, Int.reduceAdd, Int.reduceSub, Int.reduceMul, Heap.sets, Heap.get, bytesA_length, bytesA_one, bytesA_plains, List.take_of_length_le, List.drop_of_length_le, Nat.add_zero, V.one, Nat.reduceLeDiff, List.all_cons, List.all_nil, ne_eq, not_false_eq_true, Nat.zero_le, s0, s1, s14, s15, s16, d24, P'.hd, P'.hm, gd, gp, gb, ixb, ixp, hbx, w1, m1, hT, hsp0, hlec, hbd, hbd2, hgets, hmin, hl1, ho1, hp1, hle3, hsp, hst, hkey, hmf, hdr, hp64, z64_len, z64_one, z64_plains, wj]; rfl) (by simp only [put_some, put_none]; rfl) (by simp only [KD.app, go_sem, eqs hxE2, reduceIte, Nat.reduceEqDiff, Nat.reduceAdd, Nat.reduceMul, Nat.reduceLT, Nat.reduceLeDiff, Int.reduceLT, Int.reduceLE, Int.reduceEq, reduceCtorEq, Int.reduceBEq, Int.reduceBNe, Int.reduceToNat, Nat.reduceSub, Nat.reduceDiv, Int.reduceNeg, Int.reduceAdd, Int.reduceSub, Int.reduceMul, Heap.sets, Heap.get, bytesA_length, bytesA_one, bytesA_plains, List.take_of_length_le, List.drop_of_length_le, Nat.add_zero, V.one, Nat.reduceLeDiff, List.all_cons, List.all_nil, ne_eq, not_false_eq_true, Nat.zero_le, s0, s1, s14, s15, s16, d24, P'.hd, P'.hm, gd, gp, gb, ixb, ixp, hbx, w1, m1, hT, hsp0, hlec, hbd, hbd2, hgets, hmin, hl1, ho1, hp1, hle3, hsp, hst, hkey, hmf, hdr, hp64, z64_len, z64_one, z64_plains, wj]; rfl) ?_ | refine ToD.nop ?_ | refine To.draw hxE2 (by decide) ?_))
          simp only [andThen, outOf]
          refine ⟨m - 1, by omega, j + 1, _, _, pg'.set i (tear c p q), by omega, rfl, (P'.tearP hq hx64).app _, by simp; omega, fun l hl a b' c' => ?_, fun _ => ?_, hcr', ?_⟩
          · rw [List.getElem?_append_left (by simp; omega), List.getElem?_set_ne (Ne.symm b')]; exact hold' l hl a b' c'
          · exact app_old (by rw [List.getElem?_set_ne (by omega)]; exact hrow) _
          · simp only [go_sem, eqs hxE2, reduceIte, Nat.reduceEqDiff, Nat.reduceAdd, Nat.reduceMul, Nat.reduceLT, Nat.reduceLeDiff, Int.reduceLT, Int.reduceLE, Int.reduceEq, reduceCtorEq, Int.reduceBEq, Int.reduceBNe, Int.reduceToNat, Nat.reduceSub, Nat.reduceDiv, Int.reduceNeg, Int.reduceAdd, Int.reduceSub, Int.reduceMul, s0, s1, s14, s15]
        · have hf : (i * 64 = 0 ∧ (pgC pg').length = 64) = False := eq_false hone
          (repeat' (first | refine To.seq hxE2 ?_ | refine To.op0 hxE2 (by simp only [go_sem, eqs hxE2, reduceIte, Nat.reduceEqDiff, Nat.reduceAdd, Nat.reduceMul, Nat.reduceLT, Nat.reduceLeDiff, Int.reduceLT, Int.reduceLE, Int.reduceEq, reduceCtorEq, Int.reduceBEq, Int.reduceBNe, Int.reduceToNat, Nat.reduceSub, Nat.reduceDiv, Int.reduceNeg, Int.reduceAdd, Int.reduceSub, Int.reduceMul, Heap.sets, Heap.get, bytesA_length, bytesA_one, bytesA_plains, List.take_of_length_le, List.drop_of_length_le, Nat.add_zero, V.one, Nat.reduceLeDiff, List.all_cons, List.all_nil, ne_eq, not_false_eq_true, Nat.zero_le, s0, s1, s14, s15, s16, d24, P'.hd, P'.hm, gd, gp, gb, ixb, ixp, hbx, w1, m1, hf, hle2, hbd, hbd2, hgets, hmin, hl1, ho1, hp1, hle3, hsp, hst, hkey, hmf, hdr, hp64, z64_len, z64_one, z64_plains, wj]; rfl) ?_ | refine To.op1 hxE2 (by simp only [go_sem, eqs hxE2, reduceIte, Nat.reduceEqDiff, Nat.reduceAdd, Nat.reduceMul, Nat.reduceLT, Nat.reduceLeDiff, Int.reduceLT, Int.reduceLE, Int.reduceEq, reduceCtorEq, Int.reduceBEq, Int.reduceBNe, Int.reduceToNat, Nat.reduceSub, Nat.reduceDiv, Int.reduceNeg, Int.reduceAdd, Int.reduceSub, Int.reduceMul, Heap.sets, Heap.get, bytesA_length, bytesA_one, bytesA_plains, List.take_of_length_le, List.drop_of_length_le, Nat.add_zero, V.one, Nat.reduceLeDiff, List.all_cons, List.all_nil, ne_eq, not_false_eq_true, Nat.zero_le, s0, s1, s14, s15, s16, d24, P'.hd, P'.hm, gd, gp, gb, ixb, ixp, hbx, w1, m1, hf, hle2, hbd, hbd2, hgets, hmin, hl1, ho1, hp1, hle3, hsp, hst, hkey, hmf, hdr, hp64, z64_len, z64_one, z64_plains, wj]; rfl) ?_ | refine To.nop hxE2 ?_ | (refine To.condT hxE2 ?_ ?_; focus (simp only [go_sem, eqs hxE2, reduceIte, Nat.reduceEqDiff, Nat.reduceAdd, Nat.reduceMul, Nat.reduceLT, Nat.reduceLeDiff, Int.reduceLT, Int.reduceLE, Int.reduceEq, reduceCtorEq, Int.reduceBEq, Int.reduceBNe, Int.reduceToNat, Nat.reduceSub, Nat.reduceDiv, Int.reduceNeg, Int.reduceAdd, Int.reduceSub, Int.reduceMul, Heap.sets, Heap.get, bytesA_length, bytesA_one, bytesA_plains, List.take_of_length_le, List.drop_of_length_le, Nat.add_zero, V.one, Nat.reduceLeDiff, List.all_cons, List.all_nil, ne_eq, not_false_eq_true, Nat.zero_le, s0, s1, s14, s15, s16, d24, P'.hd, P'.hm, gd, gp, gb, ixb, ixp, hbx, w1, m1, hf, hle2, hbd, hbd2, hgets, hmin, hl1, ho1, hp1, hle3, hsp, hst, hkey, hmf, hdr, hp64, z64_len, z64_one, z64_plains, wj]; done)) | (refine To.condF hxE2 ?_ ?_; focus (simp only [go_sem, eqs hxE2, reduceIte, Nat.reduceEqDiff, Nat.reduceAdd, Nat.reduceMul, Nat.reduceLT, Nat.reduceLeDiff, Int.reduceLT, Int.reduceLE, Int.reduceEq, reduceCtorEq, Int.reduceBEq, Int.reduceBNe, Int.reduceToNat, Nat.reduceSub, Nat.reduceDiv, Int.reduceNeg, Int.reduceAdd, Int.reduceSub, Int.reduceMul, Heap.sets, Heap.get, bytesA_length, bytesA_one, bytesA_plains, List.take_of_length_le, List.drop_of_length_le, Nat.add_zero, V.one, Nat.reduceLeDiff, List.all_cons, List.all_nil, ne_eq, not_false_eq_true, Nat.zero_le, s0, s1, s14, s15, s16, d24, P'.hd, P'.hm, gd, gp, gb, ixb, ixp, hbx, w1, m1, hf, hle2, hbd, hbd2, hgets, hmin, hl1, ho1, hp1, hle3, hsp, hst, hkey, hmf, hdr, hp64, z64_len, z64_one, z64_plains, wj]; done)) | refine To.block hxE2 ?_ | refine To.scope hxE2 ?_ | refine To.ret hxE2 ?_ | refine To.exit hxE2 ?_ | refine To.skip hxE2 ?_ | refine To.label hxE2 ?_ | refine To.draw0 hxE2 ?_ | refine ToD.op0 (by simp only [go_sem, eqs hxE2, reduceIte, Nat.reduceEqDiff, Nat.reduceAdd, Nat.reduceMul, Nat.reduceLT, Nat.reduceLeDiff, Int.reduceLT, Int.reduceLE, Int.reduceEq, reduceCtorEq, Int.reduceBEq, Int.reduceBNe, Int.reduceToNat, Nat.reduceSub, Nat.reduceDiv, Int.reduceNeg, Int.reduceAdd, Int.reduceSub, Int.reduceMul, Heap.sets, Heap.get, bytesA_length, bytesA_one, bytesA_plains, List.take_of_length_le, List.drop_of_length_le, Nat.add_zero, V.one, Nat.reduceLeDiff, List.all_cons, List.all_nil, ne_eq, not_false_eq_true, Nat.zero_le, s0, s1, s14, s15, s16, d24, P'.hd, P'.hm, gd, gp, gb, ixb, ixp, hbx, w1, m1, hf, hle2, hbd, hbd2, hgets, hmin, hl1, ho1, hp1, hle3, hsp, hst, hkey, hmf, hdr, hp64, z64_len, z64_one, z64_plains, wj]; rfl) (by simp only [put_some, put_none]; rfl) ?_ | refine ToD.op1 (by simp only [go_sem, eqs hxE2, reduceIte, Nat.reduceEqDiff, Nat.reduceAdd, Nat.reduceMul, Nat.reduceLT, Nat.reduceLeDiff, Int.reduceLT, Int.reduceLE, Int.reduceEq, reduceCtorEq, Int.reduceBEq, Int.reduceBNe, Int.reduceToNat, Nat.reduceSub, Nat.reduceDiv, Int.reduceNeg, Int.reduceAdd, Int.reduceSub, Int.reduceMul, Heap.sets, Heap.get, bytesA_length, bytesA_one, bytesA_plains, List.take_of_length_le, List.drop_of_length_le, Nat.add_zero, V.one, Nat.reduceLeDiff, List.all_cons, List.all_nil, ne_eq, not_false_eq_true, Nat.zero_le, s0, s1, s14, s15, s16, d24, P'.hd, P'.hm, gd, gp, gb, ixb, ixp, hbx, w1, m1, hf, hle2, hbd, hbd2, hgets, hmin, hl1, ho1, hp1, hle3, hsp, hst, hkey, hmf, hdr, hp64, z64_len, z64_one, z64_plains, wj]; rfl) (by simp only [put_some, put_none]; rfl) (by simp only [KD.app, go_sem, eqs hxE2, reduceIte, Nat.reduceEqDiff, Nat.reduceAdd, Nat.reduceMul, Nat.reduceLT, Nat.reduceLeDiff, Int.reduceLT, Int.reduceLE, Int.reduceEq, reduceCtorEq, Int.reduceBEq, Int.reduceBNe, Int.reduceToNat, Nat.reduceSub, Nat.reduceDiv, Int.reduceNeg, Int.reduceAdd, Int.reduceSub, Int.reduceMul, Heap.sets, Heap.get, bytesA_length, bytesA_one, bytesA_plains, List.take_of_length_le, List.drop_of_length_le, Nat.add_zero, V.one, Nat.reduceLeDiff, List.all_cons, List.all_nil, ne_eq, not_false_eq_true, Nat.zero_le, s0, s1, s14, s15, s16, d24, P'.hd, P'.hm, gd, gp, gb, ixb, ixp, hbx, w1, m1, hf, hle2, hbd, hbd2, hgets, hmin, hl1, ho1, hp1, hle3, hsp, hst, hkey, hmf, hdr, hp64, z64_len, z64_one, z64_plains, wj]; rfl) ?_ | refine ToD.nop ?_ | refine To.draw hxE2 (by decide) ?_))
          simp only [andThen, outOf]
          refine ⟨m - 1, by omega, j + 1, _, _, pg'.set i (tear c p q), by omega, rfl, (P'.tearP hq hx64).app _, by simp; omega, fun l hl a b' c' => ?_, fun _ => ?_, hcr', ?_⟩
          · rw [List.getElem?_append_left (by simp; omega), List.getElem?_set_ne (Ne.symm b')]; exact hold' l hl a b' c'
          · exact app_old (by rw [List.getElem?_set_ne (by omega)]; exact hrow) _
          · simp only [go_sem, eqs hxE2, reduceIte, Nat.reduceEqDiff, Nat.reduceAdd, Nat.reduceMul, Nat.reduceLT, Nat.reduceLeDiff, Int.reduceLT, Int.reduceLE, Int.reduceEq, reduceCtorEq, Int.reduceBEq, Int.reduceBNe, Int.reduceToNat, Nat.reduceSub, Nat.reduceDiv, Int.reduceNeg, Int.reduceAdd, Int.reduceSub, Int.reduceMul, s0, s1, s14, s15]
      · have d24 : decide ((j : Int) < (b.length : Int)) = false := decide_eq_false (by omega)
        have hbn : b[j]? = none := List.getElem?_eq_none (by omega)
        (repeat' (first | refine To.seq hxE2 ?_ | refine To.op0 hxE2 (by simp only [go_sem, eqs hxE2, reduceIte, Nat.reduceEqDiff, Nat.reduceAdd, Nat.reduceMul, Nat.reduceLT, Nat.reduceLeDiff, Int.reduceLT, Int.reduceLE, Int.reduceEq, reduceCtorEq, Int.reduceBEq, Int.reduceBNe, Int.reduceToNat, Nat.reduceSub, Nat.reduceDiv, Int.reduceNeg, Int.reduceAdd, Int.reduceSub, Int.reduceMul, Heap.gets, Heap.sets, Heap.get, bytesA_length, bytesA_one, bytesA_plains, List.take_of_length_le, List.drop_of_length_le, Nat.add_zero, V.one, Nat.reduceLeDiff, List.all_cons, List.all_nil, ne_eq, not_false_eq_true, Nat.zero_le, s0, s1, s14, s15, s16, d24, wj]; rfl) ?_ | refine To.op1 hxE2 (by simp only [go_sem, eqs hxE2, reduceIte, Nat.reduceEqDiff, Nat.reduceAdd, Nat.reduceMul, Nat.reduceLT, Nat.reduceLeDiff, Int.reduceLT, Int.reduceLE, Int.reduceEq, reduceCtorEq, Int.reduceBEq, Int.reduceBNe, Int.reduceToNat, Nat.reduceSub, Nat.reduceDiv, Int.reduceNeg, Int.reduceAdd, Int.reduceSub, Int.reduceMul, Heap.gets, Heap.sets, Heap.get, bytesA_length, bytesA_one, bytesA_plains, List.take_of_length_le, List.drop_of_length_le, Nat.add_zero, V.one, Nat.reduceLeDiff, List.all_cons, List.all_nil, ne_eq, not_false_eq_true, Nat.zero_le, s0, s1, s14, s15, s16, d24, wj]; rfl) ?_ | refine To.nop hxE2 ?_ | (refine To.condT hxE2 ?_ ?_; focus (simp only [go_sem, eqs hxE2, reduceIte, Nat.reduceEqDiff, Nat.reduceAdd, Nat.reduceMul, Nat.reduceLT, Nat.reduceLeDiff, Int.reduceLT, Int.reduceLE, Int.reduceEq, reduceCtorEq, Int.reduceBEq, Int.reduceBNe, Int.reduceToNat, Nat.reduceSub, Nat.reduceDiv, Int.reduceNeg, Int.reduceAdd, Int.reduceSub, Int.reduceMul, Heap.gets, Heap.sets, Heap.get, bytesA_length, bytesA_one, bytesA_plains, List.take_of_length_le, List.drop_of_length_le, Nat.add_zero, V.one, Nat.reduceLeDiff, List.all_cons, List.all_nil, ne_eq, not_false_eq_true, Nat.zero_le, s0, s1, s14, s15, s16, d24, wj]; done)) | (refine To.condF hxE2 ?_ ?_; focus (simp only [go_sem, eqs hxE2, reduceIte, Nat.reduceEqDiff, Nat.reduceAdd, Nat.reduceMul, Nat.reduceLT, Nat.reduceLeDiff, Int.reduceLT, Int.reduceLE, Int.reduceEq, reduceCtorEq, Int.reduceBEq, Int.reduceBNe, Int.reduceToNat, Nat.reduceSub, Nat.reduceDiv, Int.reduceNeg, Int.reduceAdd, Int.reduceSub, Int.reduceMul, Heap.gets, Heap.sets, Heap.get, bytesA_length, bytesA_one, bytesA_plains, List.take_of_length_le, List.drop_of_length_le, Nat.add_zero, V.one, Nat.reduceLeDiff, List.all_cons, List.all_nil, ne_eq, not_false_eq_true, Nat.zero_le, s0, s1, s14, s15, s16, d24, wj]; done)) | refine To.block hxE2 ?_ | refine To.scope hxE2 ?_ | refine To.ret hxE2 ?_ | refine To.exit hxE2 ?_ | refine To.skip hxE2 ?_ | refine To.label hxE2 ?_))
        simp only [andThen, outOf]
        refine ⟨m - 1, by omega, j + 1, oo, d', pg', by omega, rfl, P', hle', hold', fun _ => hrow, ?_, ?_⟩
        · rw [← hcr, crashN, hbn]
        · simp only [go_sem, eqs hxE2, reduceIte, Nat.reduceEqDiff, Nat.reduceAdd, Nat.reduceMul, Nat.reduceLT, Nat.reduceLeDiff, Int.reduceLT, Int.reduceLE, Int.reduceEq, reduceCtorEq, Int.reduceBEq, Int.reduceBNe, Int.reduceToNat, Nat.reduceSub, Nat.reduceDiv, Int.reduceNeg, Int.reduceAdd, Int.reduceSub, Int.reduceMul, s0, s1, s14, s15]
    · have hlt : decide ((j : Int) < (K.length : Int)) = false := decide_eq_false (by omega)
      have hjK : K.drop j = [] := List.drop_eq_nil_of_le (by omega)
      rw [hjK, crashN] at hcr
      subst hcr
      have hd2 : (oo.set lm (.map []))[dd]? = some (.cells .ex 92 0 [.bool on, .bool down, .int .i64 left, .slice pg 0 (crashN ca b 0 K pgs).length 64, .map lm]) := by rw [List.getElem?_set_ne (Ne.symm P'.ne1)]; exact P'.hd
      (repeat' (first | refine To.seq hxE2 ?_ | refine To.op0 hxE2 (by simp only [go_sem, eqs hxE2, reduceIte, Nat.reduceEqDiff, Nat.reduceAdd, Nat.reduceMul, Nat.reduceLT, Nat.reduceLeDiff, Int.reduceLT, Int.reduceLE, Int.reduceEq, reduceCtorEq, Int.reduceBEq, Int.reduceBNe, Int.reduceToNat, Nat.reduceSub, Nat.reduceDiv, Int.reduceNeg, Int.reduceAdd, Int.reduceSub, Int.reduceMul, Heap.gets, Heap.sets, Heap.get, bytesA_length, bytesA_one, bytesA_plains, List.take_of_length_le, List.drop_of_length_le, Nat.add_zero, V.one, Nat.reduceLeDiff, List.all_cons, List.all_nil, ne_eq, not_false_eq_true, Nat.zero_le, s0, s1, s14, s15, s16, hlt, P'.hd, P'.hm, hd2, Heap.setMap]; rfl) ?_ | refine To.op1 hxE2 (by simp only [go_sem, eqs hxE2, reduceIte, Nat.reduceEqDiff, Nat.reduceAdd, Nat.reduceMul, Nat.reduceLT, Nat.reduceLeDiff, Int.reduceLT, Int.reduceLE, Int.reduceEq, reduceCtorEq, Int.reduceBEq, Int.reduceBNe, Int.reduceToNat, Nat.reduceSub, Nat.reduceDiv, Int.reduceNeg, Int.reduceAdd, Int.reduceSub, Int.reduceMul, Heap.gets, Heap.sets, Heap.get, bytesA_length, bytesA_one, bytesA_plains, List.take_of_length_le, List.drop_of_length_le, Nat.add_zero, V.one, Nat.reduceLeDiff, List.all_cons, List.all_nil, ne_eq, not_false_eq_true, Nat.zero_le, s0, s1, s14, s15, s16, hlt, P'.hd, P'.hm, hd2, Heap.setMap]; rfl) ?_ | refine To.nop hxE2 ?_ | (refine To.condT hxE2 ?_ ?_; focus (simp only [go_sem, eqs hxE2, reduceIte, Nat.reduceEqDiff, Nat.reduceAdd, Nat.reduceMul, Nat.reduceLT, Nat.reduceLeDiff, Int.reduceLT, Int.reduceLE, Int.reduceEq, reduceCtorEq, Int.reduceBEq, Int.reduceBNe, Int.reduceToNat, Nat.reduceSub, Nat.reduceDiv, Int.reduceNeg, Int.reduceAdd, Int.reduceSub, Int.reduceMul, Heap.gets, Heap.sets, Heap.get, bytesA_length, bytesA_one, bytesA_plains, List.take_of_length_le, List.drop_of_length_le, Nat.add_zero, V.one, Nat.reduceLeDiff, List.all_cons, List.all_nil, ne_eq, not_false_eq_true, Nat.zero_le, s0, s1, s14, s15, s16, hlt, P'.hd, P'.hm, hd2, Heap.setMap]; done)) | (refine To.condF hxE2 ?_ ?_; focus (simp only [go_sem, eqs hxE2, reduceIte, Nat.reduceEqDiff, Nat.reduceAdd, Nat.reduceMul, Nat.reduceLT, Nat.reduceLeDiff, Int.reduceLT, Int.reduceLE, Int.reduceEq, reduceCtorEq, Int.reduceBEq, Int.reduceBNe, Int.reduceToNat, Nat.reduceSub, Nat.reduceDiv, Int.reduceNeg, Int.reduceAdd, Int.reduceSub, Int.reduceMul, Heap.gets, Heap.sets, Heap.get, bytesA_length, bytesA_one, bytesA_plains, List.take_of_length_le, List.drop_of_length_le, Nat.add_zero, V.one, Nat.reduceLeDiff, List.all_cons, List.all_nil, ne_eq, not_false_eq_true, Nat.zero_le, s0, s1, s14, s15, s16, hlt, P'.hd, P'.hm, hd2, Heap.setMap]; done)) | refine To.block hxE2 ?_ | refine To.scope hxE2 ?_ | refine To.ret hxE2 ?_ | refine To.exit hxE2 ?_ | refine To.skip hxE2 ?_ | refine To.label hxE2 ?_))
      try simp only [andThen, outOf]
      refine ⟨_, _, fin0n rfl, rfl, ?_⟩
      have PX : PD ((oo.set lm (.map [])).set dd (.cells .ex 92 0 [.bool false, .bool false, .int .i64 0, .slice pg 0 (crashN ca b 0 K pgs).length 64, .map lm])) dd pg lm false false 0 (crashN ca b 0 K pgs) [] := by
        have Pm : PD (oo.set lm (.map [])) dd pg lm on down left (crashN ca b 0 K pgs) [] := ⟨hd2, by rw [List.getElem?_set_ne (Ne.symm P'.ne2)]; exact P'.hp, List.getElem?_set_self P'.ll, P'.p64, by simp, by simp⟩
        exact Pm.fuse _ _ _
      refine ⟨_, min d (min (min d' lm) dd), ?_, PX.take hld hlp hll, ?_⟩
      · unfold leave
        simp only
        rw [if_pos ⟨Nat.le_refl _, rfl⟩, if_neg (by omega)]
        rfl
      · refine ⟨by rw [List.length_take, List.length_set, List.length_set]; omega, fun l a b' c' => ?_⟩
        by_cases hl : l < o.length
        · rw [List.getElem?_take_of_lt hl, List.getElem?_set_ne (Ne.symm a), List.getElem?_set_ne (Ne.symm c')]
          exact hold' l hl a b' c'
        · rw [List.getElem?_eq_none (by rw [List.length_take]; omega), List.getElem?_eq_none (by omega)]
  · refine ⟨0, oo, _, pgs, by omega, rfl, Pr, hro, fun l hl _ _ _ => hold l hl, fun h => (hkv h).2, rfl, ?_⟩
    simp only [go_sem, eqs hxE2, reduceIte, Nat.reduceEqDiff, Nat.reduceAdd, Nat.reduceMul, Nat.reduceLT, Nat.reduceLeDiff, Int.reduceLT, Int.reduceLE, Int.reduceEq, reduceCtorEq, Int.reduceBEq, Int.reduceBNe, Int.reduceToNat, Nat.reduceSub, Nat.reduceDiv, Int.reduceNeg, Int.reduceAdd, Int.reduceSub, Int.reduceMul, initS]
end
end Go.Proofs.Ytfbkeieoeagkdaa

/- Disk: scripts, as they come in. -/
namespace Go.Proofs.Ytfbkeieoeagkdaa
open Go AM
set_option linter.unusedSimpArgs false
set_option linter.unusedVariables false
set_option maxRecDepth 100000

structure Op3 where
  K : Int
  N : Int
  p : Pg
  L : V
  b : List UInt8
def Op3.cs (x : Op3) : List V := .int .i64 x.K :: .int .i64 x.N :: (bytesA x.p ++ [x.L])
structure Op3.fits (o : List AM.Obj) (x : Op3) : Prop where
  p64 : x.p.length = 64
  arg : BArg o x.L x.b
  max : x.b.length ≤ maxLen
  one : x.L.one = true
  nmax : x.N < 2 ^ 63
structure OArg (o : List AM.Obj) (v : V) (xs : List Op3) : Prop where
  len : lenLV v = some (.int .i64 (xs.length : Int), none)
  at_ : xs ≠ [] → ∃ l t, v = .slice l 0 xs.length 67 ∧ o[l]? = some (.cells .ro t 0 (xs.map Op3.cs).flatten)
  fits : ∀ x ∈ xs, x.fits o
  max : xs.length ≤ maxLen
abbrev Op3Ty : Ty := .struct [.int .i64, .int .i64, .arr 64 (.int .u8), .slice (.int .u8)]
theorem op3_of {o : List AM.Obj} {x : List V} (h : Ty.has o Op3Ty x) : ∃ y : Op3, x = y.cs ∧ y.fits o := by
  obtain ⟨c0, x0, rfl, ⟨K, rfl, _⟩, c1, x1, rfl, ⟨N, rfl, _, hN⟩, c2, x2, rfl, hp, c3, x3, rfl, hL, rfl⟩ := h
  obtain ⟨p, rfl, hp64⟩ := has_bytes hp
  have hN : N < 2 ^ 63 := by
    have e : IntKind.i64.max = 9223372036854775807 := rfl
    omega
  rcases hL with h | ⟨a, h⟩ | ⟨l, n, h, hn, u, xs, h1, h2, h3⟩
  · subst h
    exact ⟨⟨K, N, p, .nils, []⟩, by simp [Op3.cs], hp64, ⟨rfl, fun h => absurd rfl h⟩, Nat.zero_le _, rfl, hN⟩
  · subst h
    exact ⟨⟨K, N, p, .zsl a, []⟩, by simp [Op3.cs], hp64, ⟨rfl, fun h => absurd rfl h⟩, Nat.zero_le _, rfl, hN⟩
  · subst h
    obtain ⟨b, hb, hbl⟩ := has_u8 h3
    rw [hb] at h1
    subst h2
    rw [← hbl] at hn ⊢
    exact ⟨⟨K, N, p, .slice l 0 b.length 1, b⟩, by simp [Op3.cs, Ty.size], hp64, ⟨rfl, fun _ => ⟨l, u, rfl, h1⟩⟩, hn, rfl, hN⟩
theorem ops3_of {o : List AM.Obj} : ∀ {xs : List (List V)}, (∀ x ∈ xs, Ty.has o Op3Ty x) → ∃ l : List Op3, xs = l.map Op3.cs ∧ ∀ y ∈ l, y.fits o
  | [], _ => ⟨[], rfl, by simp⟩
  | a :: r, h => by
    obtain ⟨l, hl, hf⟩ := ops3_of (xs := r) fun x hx => h x (List.mem_cons_of_mem _ hx)
    obtain ⟨y, rfl, hy⟩ := op3_of (h a List.mem_cons_self)
    refine ⟨y :: l, by rw [hl]; rfl, fun z hz => ?_⟩
    rcases List.mem_cons.1 hz with rfl | hz
    · exact hy
    · exact hf z hz
theorem oarg_of {o : List AM.Obj} {v : V} (h : Ty.arg o (.slice Op3Ty) v) : ∃ xs, OArg o v xs := by
  rcases arg_slice h with rfl | ⟨a, rfl⟩ | ⟨l, n, rfl, hn, u, xs, q1, q2, q3⟩
  · exact ⟨[], rfl, fun h => absurd rfl h, by simp, Nat.zero_le _⟩
  · exact ⟨[], rfl, fun h => absurd rfl h, by simp, Nat.zero_le _⟩
  · obtain ⟨k, rfl, k1⟩ := ops3_of q3
    rw [List.length_map] at q2
    subst q2
    exact ⟨k, rfl, fun _ => ⟨l, u, rfl, q1⟩, k1, hn⟩
theorem op3_len {x : Op3} (h : x.p.length = 64) : x.cs.length = 67 := by
  simp only [Op3.cs, List.length_cons, List.length_append, List.length_nil, bytesA_length]
  omega
theorem BArg.of {o o' : List AM.Obj} {v : V} {b : List UInt8} (h : BArg o v b) (hk : ∀ l, l < o.length → o'[l]? = o[l]?) : BArg o' v b :=
  ⟨h.len, fun hb => by obtain ⟨l, t, hv, hl⟩ := h.at_ hb; exact ⟨l, t, hv, (hk l (get_lt hl)).trans hl⟩⟩
end Go.Proofs.Ytfbkeieoeagkdaa

/- Disk: what a crash leaves, page by page. -/
namespace Go.Proofs.Ytfbkeieoeagkdaa
open Go AM
set_option linter.unusedSimpArgs false
set_option linter.unusedVariables false

theorem crash_len (ca : List (Nat × Pg)) (ch : List UInt8) : ∀ (K : List Nat) (k : Nat) (pgs : List Pg), (crashN ca ch k K pgs).length = pgs.length
  | [], k, pgs => rfl
  | i :: r, k, pgs => by
    rw [crashN, crash_len ca ch r]
    split
    · rw [List.length_set]
    · rfl
theorem crash_out (ca : List (Nat × Pg)) (ch : List UInt8) {i : Nat} : ∀ (K : List Nat) (k : Nat) (pgs : List Pg), i ∉ K → (crashN ca ch k K pgs)[i]? = pgs[i]?
  | [], k, pgs, h => rfl
  | j :: r, k, pgs, h => by
    rw [crashN, crash_out ca ch r _ _ (fun hh => h (List.mem_cons_of_mem _ hh))]
    split
    · rw [List.getElem?_set_ne]
      rintro rfl
      exact h List.mem_cons_self
    · rfl
theorem crash_get (ca : List (Nat × Pg)) (ch : List UInt8) {i : Nat} : ∀ (K : List Nat) (k : Nat) (pgs : List Pg), K.Nodup → i < pgs.length →
    (crashN ca ch k K pgs)[i]? = pgs[i]? ∨ (i ∈ K.take (ch.length - k) ∧ ∃ c, c ≤ 64 ∧ (crashN ca ch k K pgs)[i]? = some (tear c ((findC i ca).getD (zs 64)) (pgs.getD i (zs 64))))
  | [], k, pgs, hn, hi => .inl rfl
  | j :: r, k, pgs, hn, hi => by
    obtain ⟨h1, h2⟩ := List.nodup_cons.1 hn
    rw [crashN]
    cases hc : ch[k]? with
    | none =>
      have hk : ch.length ≤ k := List.getElem?_eq_none_iff.1 hc
      rcases crash_get ca ch r (k + 1) pgs h2 hi with h | ⟨h, _⟩
      · exact .inl h
      · rw [show ch.length - (k + 1) = 0 by omega, List.take_zero] at h; cases h
    | some c =>
      have hk : k < ch.length := (List.getElem?_eq_some_iff.1 hc).1
      have ht : (j :: r).take (ch.length - k) = j :: r.take (ch.length - (k + 1)) := by
        rw [show ch.length - k = (ch.length - (k + 1)) + 1 by omega, List.take_succ_cons]
      rw [ht]
      by_cases hij : i = j
      · subst hij
        right
        refine ⟨List.mem_cons_self, c.toNat % 65, by have := Nat.mod_lt c.toNat (by decide : 65 > 0); omega, ?_⟩
        rw [crash_out ca ch r _ _ h1, List.getElem?_set_self hi]
      · have e1 : (pgs.set j (tear (c.toNat % 65) ((findC j ca).getD (zs 64)) (pgs.getD j (zs 64))))[i]? = pgs[i]? := List.getElem?_set_ne (Ne.symm hij)
        have e2 : (pgs.set j (tear (c.toNat % 65) ((findC j ca).getD (zs 64)) (pgs.getD j (zs 64)))).getD i (zs 64) = pgs.getD i (zs 64) := by rw [List.getD_eq_getElem?_getD, e1, List.getD_eq_getElem?_getD]
        rcases crash_get ca ch r (k + 1) (pgs.set j (tear (c.toNat % 65) ((findC j ca).getD (zs 64)) (pgs.getD j (zs 64)))) h2 (by rw [List.length_set]; exact hi) with h | ⟨h, c', hc', hg⟩
        · exact .inl (h.trans e1)
        · rw [e2] at hg
          exact .inr ⟨List.mem_cons_of_mem _ h, c', hc', hg⟩
theorem sub_len {l m : List Nat} : l.Nodup → (∀ x ∈ l, x ∈ m) → l.length ≤ m.length := by
  induction l generalizing m with
  | nil => intro _ _; exact Nat.zero_le _
  | cons a l ih =>
    intro hn hs
    obtain ⟨h1, h2⟩ := List.nodup_cons.1 hn
    have ha := hs a List.mem_cons_self
    have := ih (m := m.erase a) h2 fun x hx => (List.mem_erase_of_ne (by rintro rfl; exact h1 hx)).2 (hs x (List.mem_cons_of_mem _ hx))
    rw [List.length_erase_of_mem ha] at this
    have hp : 0 < m.length := List.length_pos_of_mem ha
    rw [List.length_cons]; omega
/-- The pages that a crash has turned. -/
def tornL (R pgs : List Pg) (n : Nat) : List Nat := (List.range n).filter fun j => R[j]? != pgs[j]?
theorem torn_le (ca : List (Nat × Pg)) (ch : List UInt8) (pgs : List Pg) {n : Nat} {K : List Nat} (hK : K.Nodup) (hn : n ≤ pgs.length) : (tornL (crashN ca ch 0 K pgs) pgs n).length ≤ K.length ∧ (tornL (crashN ca ch 0 K pgs) pgs n).length ≤ ch.length := by
  have h : (tornL (crashN ca ch 0 K pgs) pgs n).length ≤ (K.take ch.length).length := by
    refine sub_len (List.nodup_range.filter _) fun x hx => ?_
    obtain ⟨hx1, hx2⟩ := List.mem_filter.1 hx
    have hxn := List.mem_range.1 hx1
    rcases crash_get ca ch K 0 pgs hK (by omega : x < pgs.length) with h | ⟨h, _⟩
    · simp [h] at hx2
    · simpa using h
  rw [List.length_take] at h
  omega
theorem torn_succ (R pgs : List Pg) (n : Nat) : (tornL R pgs (n + 1)).length = (tornL R pgs n).length + (if R[n]? != pgs[n]? then 1 else 0) := by
  unfold tornL
  rw [List.range_succ, List.filter_append, List.length_append]
  congr 1
  rw [List.filter_cons]
  cases R[n]? != pgs[n]? <;> simp
end Go.Proofs.Ytfbkeieoeagkdaa

/- Disk: helps for the laws over scripts. -/
namespace Go.Proofs.Ytfbkeieoeagkdaa
open Go AM
set_option linter.unusedSimpArgs false
set_option linter.unusedVariables false
set_option maxRecDepth 100000
section
variable {o : List AM.Obj} {e d dd pg lm : Nat} {on down : Bool} {left : Int} {pgs : List Pg} {ca : List (Nat × Pg)}
theorem write_any (P : PD o dd pg lm on down left pgs ca) {i : Int} {p : Pg} (hp : p.length = 64) :
    ∃ n oh, Den FF E2 13 [.ptr dd 0, .int .i64 i, .agg (bytesA p)] ⟨o, e, d⟩ = some (.val (.int .i64 n), oh) ∧ ∃ o' d' down' left' ca', oh.getD ⟨o, e, d⟩ = ⟨o', e, d'⟩ ∧ PD o' dd pg lm on down' left' pgs ca' ∧ Dx dd pg lm o o' := by
  by_cases h0 : hasE down pgs.length i = 0
  · obtain ⟨hdn, k, rfl, hk⟩ := hasE_ok h0
    cases hB : burnB on down left
    · obtain ⟨v, oh, q, rfl, o', d', hg, P', D⟩ := write_burnt (e := e) (d := d) P hp h0 hB
      exact ⟨_, oh, q, o', d', _, _, _, hg, P', D⟩
    · obtain ⟨v, oh, q, rfl, o', d', hg, P', D⟩ := write_ok (e := e) (d := d) P hp hk h0 hB
      exact ⟨_, oh, q, o', d', _, _, _, hg, P', D⟩
  · exact ⟨_, none, write_no P hp h0, o, d, _, _, _, rfl, P, Dx.refl⟩
theorem flush_any (P : PD o dd pg lm on down left pgs ca) :
    ∃ n oh, Den FF E2 16 [.ptr dd 0] ⟨o, e, d⟩ = some (.val (.int .i64 n), oh) ∧ ∃ o' d' down' left' pgs' ca', oh.getD ⟨o, e, d⟩ = ⟨o', e, d'⟩ ∧ PD o' dd pg lm on down' left' pgs' ca' ∧ pgs'.length = pgs.length ∧ Dx dd pg lm o o' := by
  cases hB : burnB on down left
  · obtain ⟨v, oh, q, rfl, o', d', hg, P', D⟩ := flush_no (e := e) (d := d) P hB
    exact ⟨_, oh, q, o', d', _, _, _, _, hg, P', rfl, D⟩
  · obtain ⟨v, oh, q, rfl, o', d', hg, P', D⟩ := flush_ok (e := e) (d := d) P hB
    exact ⟨_, oh, q, o', d', _, _, _, _, hg, P', layP_len, D⟩
end
theorem op3_one {x : Op3} (h : x.L.one = true) : x.cs.all V.one = true := by
  have e : x.cs = .int .i64 x.K :: .int .i64 x.N :: (bytesA x.p ++ [x.L]) := rfl
  rw [e, List.all_cons, List.all_cons, List.all_append, bytesA_one, List.all_cons, h]
  rfl
theorem gen_ed {c : AC} {S : Nat → V} {o : List AM.Obj} {e d : Nat} {Q : Ex → (Nat → V) → Heap → Prop} (h : ∀ e1 d1, To FF E2 c S ⟨o, e1, d1⟩ Q) : To FF E2 c S ⟨o, e, d⟩ Q := h e d
theorem z512_eq : z512 = pgC (List.replicate 8 (zs 64)) := reps_pages 8
/-- A page laid into an array of pages. -/
theorem splice_pg {pgs : List Pg} {i : Nat} {p : Pg} (h : ∀ p ∈ pgs, p.length = 64) (hi : i < pgs.length) (hp : p.length = 64) : List.take (i * 64) (pgC pgs) ++ (bytesA p ++ List.drop (i * 64 + 64) (pgC pgs)) = pgC (pgs.set i p) := by
  rw [pgC_set h (List.getElem?_eq_getElem hi) hp, List.append_assoc]
theorem readP_64 {o : List AM.Obj} {dd pg lm : Nat} {on down : Bool} {left : Int} {pgs : List Pg} {ca : List (Nat × Pg)} (P : PD o dd pg lm on down left pgs ca) (i : Nat) (hi : i < pgs.length) : (readP down pgs ca (i : Int)).length = 64 := by
  unfold readP
  split
  · rw [Int.toNat_natCast]
    cases hf : findC i ca with
    | some q =>
      obtain ⟨x, hx, rfl⟩ := Option.map_eq_some_iff.1 hf
      exact (P.c64 x (List.mem_of_find?_eq_some hx)).1
    | none =>
      rw [Option.getD_none, List.getD_eq_getElem?_getD, List.getElem?_eq_getElem hi]
      exact P.p64 _ (List.getElem_mem hi)
  · rfl
theorem eqKs_bytes : ∀ (a b : List UInt8), a.length = b.length → eqKs (List.replicate a.length .i) (bytesA a) (bytesA b) = some (a == b)
  | [], [], _ => rfl
  | x :: a, y :: b, h => by
    have ih := eqKs_bytes a b (by simpa using h)
    have e1 : bytesA (x :: a) = .int .u8 (x.toNat : Int) :: bytesA a := rfl
    have e2 : bytesA (y :: b) = .int .u8 (y.toNat : Int) :: bytesA b := rfl
    rw [e1, e2, List.length_cons, List.replicate_succ]
    simp only [eqKs, eqK, if_true, ih]
    congr 1
    rw [Bool.eq_iff_iff, Bool.and_eq_true, beq_iff_eq, beq_iff_eq, beq_iff_eq, List.cons.injEq, Int.ofNat_inj, UInt8.toNat_inj]
theorem eqB64 {a b : Pg} (ha : a.length = 64) (hb : b.length = 64) : eqKs (kdsOf [(64, .i)]) (bytesA a) (bytesA b) = some (a == b) := by
  have : kdsOf [(64, Kd.i)] = List.replicate 64 .i := rfl
  rw [this, ← ha]
  exact eqKs_bytes a b (by omega)
theorem pgC_byte {pgs : List Pg} {i k : Nat} {p : Pg} {x : UInt8} (h : ∀ p ∈ pgs, p.length = 64) (hi : pgs[i]? = some p) (hx : p[k]? = some x) : (pgC pgs)[i * 64 + k]? = some (.int .u8 (x.toNat : Int)) := by
  have hat := pgC_at h hi
  have hp := h p (List.mem_of_getElem? hi)
  have hk : k < 64 := by have := (List.getElem?_eq_some_iff.1 hx).1; omega
  have h1 := congrArg (fun l => l[k]?) hat
  simp only [List.getElem?_take, if_pos hk, List.getElem?_drop, bytesA_get, hx, Option.map_some] at h1
  exact h1
theorem tear_lo {c j : Nat} {p q : Pg} (hc : c ≤ p.length) (hj : j < c) : (tear c p q)[j]? = p[j]? := by
  unfold tear
  rw [List.getElem?_append_left (by rw [List.length_take]; omega), List.getElem?_take_of_lt hj]
theorem tear_hi {c j : Nat} {p q : Pg} (hc : c ≤ p.length) (hj : c ≤ j) : (tear c p q)[j]? = q[j]? := by
  unfold tear
  rw [List.getElem?_append_right (by rw [List.length_take]; omega), List.length_take, List.getElem?_drop]
  congr 1; omega
theorem opz_drop : List.drop 67 opz = [] := rfl
theorem opz_len : opz.length = 67 := rfl

end Go.Proofs.Ytfbkeieoeagkdaa

/- Disk: the document's disk in memory; calls that read it. -/
namespace Go.Proofs.Ytfbkeieoeagkdaa
open Go AM
set_option linter.unusedSimpArgs false
set_option linter.unusedVariables false
set_option maxRecDepth 100000

def boC (l : List Bool) : List V := l.map V.bool
/-- The document's disk. -/
structure RD (o : List AM.Obj) (w l1 l2 l3 : Nat) (left : Int) (down : Bool) (last nw : List Pg) (on : List Bool) : Prop where
  hw : o[w]? = some (.cells .ex 54 0 [.slice l1 0 last.length 64, .slice l2 0 last.length 64, .slice l3 0 last.length 1, .int .i64 left, .bool down])
  h1 : o[l1]? = some (.cells .ex 31 0 (pgC last))
  h2 : o[l2]? = some (.cells .ex 31 0 (pgC nw))
  h3 : o[l3]? = some (.cells .ex 4 0 (boC on))
  n2 : nw.length = last.length
  n3 : on.length = last.length
  p1 : ∀ p ∈ last, p.length = 64
  p2 : ∀ p ∈ nw, p.length = 64
  d12 : l1 ≠ l2
section
variable {o : List AM.Obj} {e d w l1 l2 l3 : Nat} {left : Int} {down : Bool} {last nw : List Pg} {on : List Bool}
theorem RD.app (R : RD o w l1 l2 l3 left down last nw on) (r : List AM.Obj) : RD (o ++ r) w l1 l2 l3 left down last nw on := ⟨app_old R.hw r, app_old R.h1 r, app_old R.h2 r, app_old R.h3 r, R.n2, R.n3, R.p1, R.p2, R.d12⟩
/-- How many are on. -/
def countT (l : List Bool) : Nat := (l.filter id).length
theorem countT_succ {l : List Bool} {i : Nat} {b : Bool} (h : l[i]? = some b) : countT (l.take (i + 1)) = countT (l.take i) + (if b = true then 1 else 0) := by
  unfold countT
  rw [List.take_add_one, h, Option.toList_some, List.filter_append, List.length_append]
  congr 1
  cases b <;> rfl
set_option maxHeartbeats 4000000 in
theorem rcached_q (R : RD o w l1 l2 l3 left down last nw on) (hn : last.length ≤ 1000000) : Den FF E2 28 [.ptr w 0] ⟨o, e, d⟩ = some (.val (.int .i64 (countT on : Int)), none) := by
  refine To.den hxE2 (f := 28) (a := af28) rfl (E2_none rfl) (Nat.le_of_ble_eq_true rfl) ?_
  (repeat' (first | refine To.seq hxE2 ?_ | refine To.op0 hxE2 (by simp only [go_sem, eqs hxE2, reduceIte, Nat.reduceEqDiff, Nat.reduceAdd, Nat.reduceMul, Nat.reduceLT, Nat.reduceLeDiff, Int.reduceLT, Int.reduceLE, Int.reduceEq, reduceCtorEq, Int.reduceBEq, Int.reduceBNe, Int.reduceToNat, Nat.reduceSub, Nat.reduceDiv, Int.reduceNeg, Int.reduceAdd, Int.reduceSub, Int.reduceMul, Heap.gets, Heap.sets, Heap.get, bytesA_length, bytesA_one, bytesA_plains, List.take_of_length_le, List.drop_of_length_le, Nat.add_zero, V.one, Nat.reduceLeDiff, List.all_cons, List.all_nil, ne_eq, not_false_eq_true, Nat.zero_le, R.hw]; rfl) ?_ | refine To.op1 hxE2 (by simp only [go_sem, eqs hxE2, reduceIte, Nat.reduceEqDiff, Nat.reduceAdd, Nat.reduceMul, Nat.reduceLT, Nat.reduceLeDiff, Int.reduceLT, Int.reduceLE, Int.reduceEq, reduceCtorEq, Int.reduceBEq, Int.reduceBNe, Int.reduceToNat, Nat.reduceSub, Nat.reduceDiv, Int.reduceNeg, Int.reduceAdd, Int.reduceSub, Int.reduceMul, Heap.gets, Heap.sets, Heap.get, bytesA_length, bytesA_one, bytesA_plains, List.take_of_length_le, List.drop_of_length_le, Nat.add_zero, V.one, Nat.reduceLeDiff, List.all_cons, List.all_nil, ne_eq, not_false_eq_true, Nat.zero_le, R.hw]; rfl) ?_ | refine To.nop hxE2 ?_ | (refine To.condT hxE2 ?_ ?_; focus (simp only [go_sem, eqs hxE2, reduceIte, Nat.reduceEqDiff, Nat.reduceAdd, Nat.reduceMul, Nat.reduceLT, Nat.reduceLeDiff, Int.reduceLT, Int.reduceLE, Int.reduceEq, reduceCtorEq, Int.reduceBEq, Int.reduceBNe, Int.reduceToNat, Nat.reduceSub, Nat.reduceDiv, Int.reduceNeg, Int.reduceAdd, Int.reduceSub, Int.reduceMul, Heap.gets, Heap.sets, Heap.get, bytesA_length, bytesA_one, bytesA_plains, List.take_of_length_le, List.drop_of_length_le, Nat.add_zero, V.one, Nat.reduceLeDiff, List.all_cons, List.all_nil, ne_eq, not_false_eq_true, Nat.zero_le, R.hw]; done)) | (refine To.condF hxE2 ?_ ?_; focus (simp only [go_sem, eqs hxE2, reduceIte, Nat.reduceEqDiff, Nat.reduceAdd, Nat.reduceMul, Nat.reduceLT, Nat.reduceLeDiff, Int.reduceLT, Int.reduceLE, Int.reduceEq, reduceCtorEq, Int.reduceBEq, Int.reduceBNe, Int.reduceToNat, Nat.reduceSub, Nat.reduceDiv, Int.reduceNeg, Int.reduceAdd, Int.reduceSub, Int.reduceMul, Heap.gets, Heap.sets, Heap.get, bytesA_length, bytesA_one, bytesA_plains, List.take_of_length_le, List.drop_of_length_le, Nat.add_zero, V.one, Nat.reduceLeDiff, List.all_cons, List.all_nil, ne_eq, not_false_eq_true, Nat.zero_le, R.hw]; done)) | refine To.block hxE2 ?_ | refine To.scope hxE2 ?_ | refine To.ret hxE2 ?_ | refine To.exit hxE2 ?_ | refine To.skip hxE2 ?_ | refine To.label hxE2 ?_))
  refine To.loop hxE2 (fun m S h' => ∃ i : Nat, i + m = on.length ∧ h' = ⟨o, o.length, o.length⟩ ∧ S 0 = .ptr w 0 ∧ S 3 = .int .i64 (countT (on.take i) : Int) ∧ S 4 = .int .i64 (i : Int)) ?_ on.length _ _ ?_
  · rintro m S _ ⟨i, hm, rfl, s0, s3, s4⟩
    by_cases hi : i < on.length
    · have hlt : decide ((i : Int) < (last.length : Int)) = true := decide_eq_true (by have := R.n3; omega)
      obtain ⟨b, hb⟩ : ∃ b, on[i]? = some b := ⟨on[i], List.getElem?_eq_getElem hi⟩
      have ix : idxOf last.length (.int .i64 (i : Int)) = some i := idxOf_nat (by have := R.n3; omega)
      have hbb : (boC on)[i]? = some (.bool b) := by unfold boC; rw [List.getElem?_map, hb]; rfl
      have wi : IntKind.i64.wrap ((i : Int) + 1) = ((i + 1 : Nat) : Int) := by rw [wrap_i64 (by omega) (by have := R.n3; omega)]; omega
      have hct : countT (on.take i) ≤ i := Nat.le_trans (List.length_filter_le _ _) (by rw [List.length_take]; omega)
      have wc : IntKind.i64.wrap ((countT (on.take i) : Int) + 1) = ((countT (on.take i) + 1 : Nat) : Int) := by rw [wrap_i64 (by omega) (by have := R.n3; omega)]; omega
      have hcs := countT_succ hb
      cases b
      · (repeat' (first | refine To.seq hxE2 ?_ | refine To.op0 hxE2 (by simp only [go_sem, eqs hxE2, reduceIte, Nat.reduceEqDiff, Nat.reduceAdd, Nat.reduceMul, Nat.reduceLT, Nat.reduceLeDiff, Int.reduceLT, Int.reduceLE, Int.reduceEq, reduceCtorEq, Int.reduceBEq, Int.reduceBNe, Int.reduceToNat, Nat.reduceSub, Nat.reduceDiv, Int.reduceNeg, Int.reduceAdd, Int.reduceSub, Int.reduceMul, Heap.gets, Heap.sets, Heap.get, bytesA_length, bytesA_one, bytesA_plains, List.take_of_length_le, List.drop_of_length_le, Nat.add_zero, V.one, Nat.reduceLeDiff, List.all_cons, List.all_nil, ne_eq, not_false_eq_true, Nat.zero_le, R.hw, R.h3, s0, s3, s4, hlt, ix, hbb, wi]; rfl) ?_ | refine To.op1 hxE2 (by simp only [go_sem, eqs hxE2, reduceIte, Nat.reduceEqDiff, Nat.reduceAdd, Nat.reduceMul, Nat.reduceLT, Nat.reduceLeDiff, Int.reduceLT, Int.reduceLE, Int.reduceEq, reduceCtorEq, Int.reduceBEq, Int.reduceBNe, Int.reduceToNat, Nat.reduceSub, Nat.reduceDiv, Int.reduceNeg, Int.reduceAdd, Int.reduceSub, Int.reduceMul, Heap.gets, Heap.sets, Heap.get, bytesA_length, bytesA_one, bytesA_plains, List.take_of_length_le, List.drop_of_length_le, Nat.add_zero, V.one, Nat.reduceLeDiff, List.all_cons, List.all_nil, ne_eq, not_false_eq_true, Nat.zero_le, R.hw, R.h3, s0, s3, s4, hlt, ix, hbb, wi]; rfl) ?_ | refine To.nop hxE2 ?_ | (refine To.condT hxE2 ?_ ?_; focus (simp only [go_sem, eqs hxE2, reduceIte, Nat.reduceEqDiff, Nat.reduceAdd, Nat.reduceMul, Nat.reduceLT, Nat.reduceLeDiff, Int.reduceLT, Int.reduceLE, Int.reduceEq, reduceCtorEq, Int.reduceBEq, Int.reduceBNe, Int.reduceToNat, Nat.reduceSub, Nat.reduceDiv, Int.reduceNeg, Int.reduceAdd, Int.reduceSub, Int.reduceMul, Heap.gets, Heap.sets, Heap.get, bytesA_length, bytesA_one, bytesA_plains, List.take_of_length_le, List.drop_of_length_le, Nat.add_zero, V.one, Nat.reduceLeDiff, List.all_cons, List.all_nil, ne_eq, not_false_eq_true, Nat.zero_le, R.hw, R.h3, s0, s3, s4, hlt, ix, hbb, wi]; done)) | (refine To.condF hxE2 ?_ ?_; focus (simp only [go_sem, eqs hxE2, reduceIte, Nat.reduceEqDiff, Nat.reduceAdd, Nat.reduceMul, Nat.reduceLT, Nat.reduceLeDiff, Int.reduceLT, Int.reduceLE, Int.reduceEq, reduceCtorEq, Int.reduceBEq, Int.reduceBNe, Int.reduceToNat, Nat.reduceSub, Nat.reduceDiv, Int.reduceNeg, Int.reduceAdd, Int.reduceSub, Int.reduceMul, Heap.gets, Heap.sets, Heap.get, bytesA_length, bytesA_one, bytesA_plains, List.take_of_length_le, List.drop_of_length_le, Nat.add_zero, V.one, Nat.reduceLeDiff, List.all_cons, List.all_nil, ne_eq, not_false_eq_true, Nat.zero_le, R.hw, R.h3, s0, s3, s4, hlt, ix, hbb, wi]; done)) | refine To.block hxE2 ?_ | refine To.scope hxE2 ?_ | refine To.ret hxE2 ?_ | refine To.exit hxE2 ?_ | refine To.skip hxE2 ?_ | refine To.label hxE2 ?_))
        try simp only [andThen, outOf]
        refine ⟨m - 1, by omega, i + 1, by omega, trivial, ?_⟩
        rw [hcs]
        simp only [go_sem, eqs hxE2, reduceIte, Nat.reduceEqDiff, Nat.reduceAdd, Nat.reduceMul, Nat.reduceLT, Nat.reduceLeDiff, Int.reduceLT, Int.reduceLE, Int.reduceEq, reduceCtorEq, Int.reduceBEq, Int.reduceBNe, Int.reduceToNat, Nat.reduceSub, Nat.reduceDiv, Int.reduceNeg, Int.reduceAdd, Int.reduceSub, Int.reduceMul, s0, s3, Nat.add_zero]
      · (repeat' (first | refine To.seq hxE2 ?_ | refine To.op0 hxE2 (by simp only [go_sem, eqs hxE2, reduceIte, Nat.reduceEqDiff, Nat.reduceAdd, Nat.reduceMul, Nat.reduceLT, Nat.reduceLeDiff, Int.reduceLT, Int.reduceLE, Int.reduceEq, reduceCtorEq, Int.reduceBEq, Int.reduceBNe, Int.reduceToNat, Nat.reduceSub, Nat.reduceDiv, Int.reduceNeg, Int.reduceAdd, Int.reduceSub, Int.reduceMul, Heap.gets, Heap.sets, Heap.get, bytesA_length, bytesA_one, bytesA_plains, List.take_of_length_le, List.drop_of_length_le, Nat.add_zero, V.one, Nat.reduceLeDiff, List.all_cons, List.all_nil, ne_eq, not_false_eq_true, Nat.zero_le, R.hw, R.h3, s0, s3, s4, hlt, ix, hbb, wi, wc]; rfl) ?_ | refine To.op1 hxE2 (by simp only [go_sem, eqs hxE2, reduceIte, Nat.reduceEqDiff, Nat.reduceAdd, Nat.reduceMul, Nat.reduceLT, Nat.reduceLeDiff, Int.reduceLT, Int.reduceLE, Int.reduceEq, reduceCtorEq, Int.reduceBEq, Int.reduceBNe, Int.reduceToNat, Nat.reduceSub, Nat.reduceDiv, Int.reduceNeg, Int.reduceAdd, Int.reduceSub, Int.reduceMul, Heap.gets, Heap.sets, Heap.get, bytesA_length, bytesA_one, bytesA_plains, List.take_of_length_le, List.drop_of_length_le, Nat.add_zero, V.one, Nat.reduceLeDiff, List.all_cons, List.all_nil, ne_eq, not_false_eq_true, Nat.zero_le, R.hw, R.h3, s0, s3, s4, hlt, ix, hbb, wi, wc]; rfl) ?_ | refine To.nop hxE2 ?_ | (refine To.condT hxE2 ?_ ?_; focus (simp only [go_sem, eqs hxE2, reduceIte, Nat.reduceEqDiff, Nat.reduceAdd, Nat.reduceMul, Nat.reduceLT, Nat.reduceLeDiff, Int.reduceLT, Int.reduceLE, Int.reduceEq, reduceCtorEq, Int.reduceBEq, Int.reduceBNe, Int.reduceToNat, Nat.reduceSub, Nat.reduceDiv, Int.reduceNeg, Int.reduceAdd, Int.reduceSub, Int.reduceMul, Heap.gets, Heap.sets, Heap.get, bytesA_length, bytesA_one, bytesA_plains, List.take_of_length_le, List.drop_of_length_le, Nat.add_zero, V.one, Nat.reduceLeDiff, List.all_cons, List.all_nil, ne_eq, not_false_eq_true, Nat.zero_le, R.hw, R.h3, s0, s3, s4, hlt, ix, hbb, wi, wc]; done)) | (refine To.condF hxE2 ?_ ?_; focus (simp only [go_sem, eqs hxE2, reduceIte, Nat.reduceEqDiff, Nat.reduceAdd, Nat.reduceMul, Nat.reduceLT, Nat.reduceLeDiff, Int.reduceLT, Int.reduceLE, Int.reduceEq, reduceCtorEq, Int.reduceBEq, Int.reduceBNe, Int.reduceToNat, Nat.reduceSub, Nat.reduceDiv, Int.reduceNeg, Int.reduceAdd, Int.reduceSub, Int.reduceMul, Heap.gets, Heap.sets, Heap.get, bytesA_length, bytesA_one, bytesA_plains, List.take_of_length_le, List.drop_of_length_le, Nat.add_zero, V.one, Nat.reduceLeDiff, List.all_cons, List.all_nil, ne_eq, not_false_eq_true, Nat.zero_le, R.hw, R.h3, s0, s3, s4, hlt, ix, hbb, wi, wc]; done)) | refine To.block hxE2 ?_ | refine To.scope hxE2 ?_ | refine To.ret hxE2 ?_ | refine To.exit hxE2 ?_ | refine To.skip hxE2 ?_ | refine To.label hxE2 ?_))
        try simp only [andThen, outOf]
        refine ⟨m - 1, by omega, i + 1, by omega, trivial, ?_⟩
        rw [hcs]
        simp only [go_sem, eqs hxE2, reduceIte, Nat.reduceEqDiff, Nat.reduceAdd, Nat.reduceMul, Nat.reduceLT, Nat.reduceLeDiff, Int.reduceLT, Int.reduceLE, Int.reduceEq, reduceCtorEq, Int.reduceBEq, Int.reduceBNe, Int.reduceToNat, Nat.reduceSub, Nat.reduceDiv, Int.reduceNeg, Int.reduceAdd, Int.reduceSub, Int.reduceMul, s0, s3]
    · have hlt : decide ((i : Int) < (last.length : Int)) = false := decide_eq_false (by have := R.n3; omega)
      have hi2 : on.take i = on := List.take_of_length_le (by omega)
      rw [hi2] at s3
      (repeat' (first | refine To.seq hxE2 ?_ | refine To.op0 hxE2 (by simp only [go_sem, eqs hxE2, reduceIte, Nat.reduceEqDiff, Nat.reduceAdd, Nat.reduceMul, Nat.reduceLT, Nat.reduceLeDiff, Int.reduceLT, Int.reduceLE, Int.reduceEq, reduceCtorEq, Int.reduceBEq, Int.reduceBNe, Int.reduceToNat, Nat.reduceSub, Nat.reduceDiv, Int.reduceNeg, Int.reduceAdd, Int.reduceSub, Int.reduceMul, Heap.gets, Heap.sets, Heap.get, bytesA_length, bytesA_one, bytesA_plains, List.take_of_length_le, List.drop_of_length_le, Nat.add_zero, V.one, Nat.reduceLeDiff, List.all_cons, List.all_nil, ne_eq, not_false_eq_true, Nat.zero_le, R.hw, s0, s3, s4, hlt]; rfl) ?_ | refine To.op1 hxE2 (by simp only [go_sem, eqs hxE2, reduceIte, Nat.reduceEqDiff, Nat.reduceAdd, Nat.reduceMul, Nat.reduceLT, Nat.reduceLeDiff, Int.reduceLT, Int.reduceLE, Int.reduceEq, reduceCtorEq, Int.reduceBEq, Int.reduceBNe, Int.reduceToNat, Nat.reduceSub, Nat.reduceDiv, Int.reduceNeg, Int.reduceAdd, Int.reduceSub, Int.reduceMul, Heap.gets, Heap.sets, Heap.get, bytesA_length, bytesA_one, bytesA_plains, List.take_of_length_le, List.drop_of_length_le, Nat.add_zero, V.one, Nat.reduceLeDiff, List.all_cons, List.all_nil, ne_eq, not_false_eq_true, Nat.zero_le, R.hw, s0, s3, s4, hlt]; rfl) ?_ | refine To.nop hxE2 ?_ | (refine To.condT hxE2 ?_ ?_; focus (simp only [go_sem, eqs hxE2, reduceIte, Nat.reduceEqDiff, Nat.reduceAdd, Nat.reduceMul, Nat.reduceLT, Nat.reduceLeDiff, Int.reduceLT, Int.reduceLE, Int.reduceEq, reduceCtorEq, Int.reduceBEq, Int.reduceBNe, Int.reduceToNat, Nat.reduceSub, Nat.reduceDiv, Int.reduceNeg, Int.reduceAdd, Int.reduceSub, Int.reduceMul, Heap.gets, Heap.sets, Heap.get, bytesA_length, bytesA_one, bytesA_plains, List.take_of_length_le, List.drop_of_length_le, Nat.add_zero, V.one, Nat.reduceLeDiff, List.all_cons, List.all_nil, ne_eq, not_false_eq_true, Nat.zero_le, R.hw, s0, s3, s4, hlt]; done)) | (refine To.condF hxE2 ?_ ?_; focus (simp only [go_sem, eqs hxE2, reduceIte, Nat.reduceEqDiff, Nat.reduceAdd, Nat.reduceMul, Nat.reduceLT, Nat.reduceLeDiff, Int.reduceLT, Int.reduceLE, Int.reduceEq, reduceCtorEq, Int.reduceBEq, Int.reduceBNe, Int.reduceToNat, Nat.reduceSub, Nat.reduceDiv, Int.reduceNeg, Int.reduceAdd, Int.reduceSub, Int.reduceMul, Heap.gets, Heap.sets, Heap.get, bytesA_length, bytesA_one, bytesA_plains, List.take_of_length_le, List.drop_of_length_le, Nat.add_zero, V.one, Nat.reduceLeDiff, List.all_cons, List.all_nil, ne_eq, not_false_eq_true, Nat.zero_le, R.hw, s0, s3, s4, hlt]; done)) | refine To.block hxE2 ?_ | refine To.scope hxE2 ?_ | refine To.ret hxE2 ?_ | refine To.exit hxE2 ?_ | refine To.skip hxE2 ?_ | refine To.label hxE2 ?_))
      try simp only [andThen, outOf]
      exact fin_k1 (i := 2) (v := .int .i64 (countT on : Int)) rfl (by simp only [go_sem, eqs hxE2, reduceIte, Nat.reduceEqDiff, Nat.reduceAdd, Nat.reduceMul, Nat.reduceLT, Nat.reduceLeDiff, Int.reduceLT, Int.reduceLE, Int.reduceEq, reduceCtorEq, Int.reduceBEq, Int.reduceBNe, Int.reduceToNat, Nat.reduceSub, Nat.reduceDiv, Int.reduceNeg, Int.reduceAdd, Int.reduceSub, Int.reduceMul]) rfl (Kp.enter' _)
  · refine ⟨0, by omega, rfl, ?_⟩
    simp only [go_sem, eqs hxE2, reduceIte, Nat.reduceEqDiff, Nat.reduceAdd, Nat.reduceMul, Nat.reduceLT, Nat.reduceLeDiff, Int.reduceLT, Int.reduceLE, Int.reduceEq, reduceCtorEq, Int.reduceBEq, Int.reduceBNe, Int.reduceToNat, Nat.reduceSub, Nat.reduceDiv, Int.reduceNeg, Int.reduceAdd, Int.reduceSub, Int.reduceMul, initS, List.take_zero, countT, List.filter_nil, List.length_nil]

/-- What the document's Read gives. -/
def rerr (down : Bool) (n : Nat) (i : Int) : Int := if down = true then 5 else if i < 0 ∨ (n : Int) ≤ i then 22 else 0
def rpage (down : Bool) (last nw : List Pg) (on : List Bool) (i : Int) : Pg := if rerr down last.length i = 0 then (if on.getD i.toNat false = true then nw.getD i.toNat (zs 64) else last.getD i.toNat (zs 64)) else zs 64
set_option maxHeartbeats 8000000 in
theorem rread_q (R : RD o w l1 l2 l3 left down last nw on) (i : Int) : Den FF E2 23 [.ptr w 0, .int .i64 i] ⟨o, e, d⟩ = some (.val (.tuple [.agg (bytesA (rpage down last nw on i)), .int .i64 (rerr down last.length i)]), none) := by
  refine To.den hxE2 (f := 23) (a := af23) rfl (E2_none rfl) (Nat.le_of_ble_eq_true rfl) ?_
  have gw : ∀ r, (o ++ r)[w]? = some (.cells .ex 54 0 [.slice l1 0 last.length 64, .slice l2 0 last.length 64, .slice l3 0 last.length 1, .int .i64 left, .bool down]) := fun r => app_old R.hw r
  have g1 : ∀ r, (o ++ r)[l1]? = some (.cells .ex 31 0 (pgC last)) := fun r => app_old R.h1 r
  have g2 : ∀ r, (o ++ r)[l2]? = some (.cells .ex 31 0 (pgC nw)) := fun r => app_old R.h2 r
  have g3 : ∀ r, (o ++ r)[l3]? = some (.cells .ex 4 0 (boC on)) := fun r => app_old R.h3 r
  cases down
  case true =>
    have hr : rerr true last.length i = 5 := rfl
    have hp : rpage true last nw on i = zs 64 := by unfold rpage; rw [hr, if_neg (by decide)]
    rw [hr, hp]
    (repeat' (first | refine To.seq hxE2 ?_ | refine To.op0 hxE2 (by simp only [go_sem, eqs hxE2, reduceIte, Nat.reduceEqDiff, Nat.reduceAdd, Nat.reduceMul, Nat.reduceLT, Nat.reduceLeDiff, Int.reduceLT, Int.reduceLE, Int.reduceEq, reduceCtorEq, Int.reduceBEq, Int.reduceBNe, Int.reduceToNat, Nat.reduceSub, Nat.reduceDiv, Int.reduceNeg, Int.reduceAdd, Int.reduceSub, Int.reduceMul, Heap.gets, Heap.sets, Heap.get, bytesA_length, bytesA_one, bytesA_plains, List.take_of_length_le, List.drop_of_length_le, Nat.add_zero, V.one, Nat.reduceLeDiff, List.all_cons, List.all_nil, ne_eq, not_false_eq_true, Nat.zero_le, gw, z64_len, z64_drop, z64_one, z64_plains]; rfl) ?_ | refine To.op1 hxE2 (by simp only [go_sem, eqs hxE2, reduceIte, Nat.reduceEqDiff, Nat.reduceAdd, Nat.reduceMul, Nat.reduceLT, Nat.reduceLeDiff, Int.reduceLT, Int.reduceLE, Int.reduceEq, reduceCtorEq, Int.reduceBEq, Int.reduceBNe, Int.reduceToNat, Nat.reduceSub, Nat.reduceDiv, Int.reduceNeg, Int.reduceAdd, Int.reduceSub, Int.reduceMul, Heap.gets, Heap.sets, Heap.get, bytesA_length, bytesA_one, bytesA_plains, List.take_of_length_le, List.drop_of_length_le, Nat.add_zero, V.one, Nat.reduceLeDiff, List.all_cons, List.all_nil, ne_eq, not_false_eq_true, Nat.zero_le, gw, z64_len, z64_drop, z64_one, z64_plains]; rfl) ?_ | refine To.nop hxE2 ?_ | (refine To.condT hxE2 ?_ ?_; focus (simp only [go_sem, eqs hxE2, reduceIte, Nat.reduceEqDiff, Nat.reduceAdd, Nat.reduceMul, Nat.reduceLT, Nat.reduceLeDiff, Int.reduceLT, Int.reduceLE, Int.reduceEq, reduceCtorEq, Int.reduceBEq, Int.reduceBNe, Int.reduceToNat, Nat.reduceSub, Nat.reduceDiv, Int.reduceNeg, Int.reduceAdd, Int.reduceSub, Int.reduceMul, Heap.gets, Heap.sets, Heap.get, bytesA_length, bytesA_one, bytesA_plains, List.take_of_length_le, List.drop_of_length_le, Nat.add_zero, V.one, Nat.reduceLeDiff, List.all_cons, List.all_nil, ne_eq, not_false_eq_true, Nat.zero_le, gw, z64_len, z64_drop, z64_one, z64_plains]; done)) | (refine To.condF hxE2 ?_ ?_; focus (simp only [go_sem, eqs hxE2, reduceIte, Nat.reduceEqDiff, Nat.reduceAdd, Nat.reduceMul, Nat.reduceLT, Nat.reduceLeDiff, Int.reduceLT, Int.reduceLE, Int.reduceEq, reduceCtorEq, Int.reduceBEq, Int.reduceBNe, Int.reduceToNat, Nat.reduceSub, Nat.reduceDiv, Int.reduceNeg, Int.reduceAdd, Int.reduceSub, Int.reduceMul, Heap.gets, Heap.sets, Heap.get, bytesA_length, bytesA_one, bytesA_plains, List.take_of_length_le, List.drop_of_length_le, Nat.add_zero, V.one, Nat.reduceLeDiff, List.all_cons, List.all_nil, ne_eq, not_false_eq_true, Nat.zero_le, gw, z64_len, z64_drop, z64_one, z64_plains]; done)) | refine To.block hxE2 ?_ | refine To.scope hxE2 ?_ | refine To.ret hxE2 ?_ | refine To.exit hxE2 ?_ | refine To.skip hxE2 ?_ | refine To.label hxE2 ?_))
    try simp only [andThen, outOf]
    exact fin_kc2 (cs := z64) (l := o.length) rfl (by simp only [go_sem, eqs hxE2, reduceIte, Nat.reduceEqDiff, Nat.reduceAdd, Nat.reduceMul, Nat.reduceLT, Nat.reduceLeDiff, Int.reduceLT, Int.reduceLE, Int.reduceEq, reduceCtorEq, Int.reduceBEq, Int.reduceBNe, Int.reduceToNat, Nat.reduceSub, Nat.reduceDiv, Int.reduceNeg, Int.reduceAdd, Int.reduceSub, Int.reduceMul]) (by simp only [go_sem, eqs hxE2, reduceIte, Nat.reduceEqDiff, Nat.reduceAdd, Nat.reduceMul, Nat.reduceLT, Nat.reduceLeDiff, Int.reduceLT, Int.reduceLE, Int.reduceEq, reduceCtorEq, Int.reduceBEq, Int.reduceBNe, Int.reduceToNat, Nat.reduceSub, Nat.reduceDiv, Int.reduceNeg, Int.reduceAdd, Int.reduceSub, Int.reduceMul]) (gets_app2 rfl) rfl rfl (kp_app (by omega) (by omega))
  by_cases h1 : i < 0
  · have d1 : decide (i < 0) = true := decide_eq_true h1
    have hr : rerr false last.length i = 22 := by unfold rerr; rw [if_neg (by decide), if_pos (.inl h1)]
    have hp : rpage false last nw on i = zs 64 := by unfold rpage; rw [hr, if_neg (by decide)]
    rw [hr, hp]
    (repeat' (first | refine To.seq hxE2 ?_ | refine To.op0 hxE2 (by simp only [go_sem, eqs hxE2, reduceIte, Nat.reduceEqDiff, Nat.reduceAdd, Nat.reduceMul, Nat.reduceLT, Nat.reduceLeDiff, Int.reduceLT, Int.reduceLE, Int.reduceEq, reduceCtorEq, Int.reduceBEq, Int.reduceBNe, Int.reduceToNat, Nat.reduceSub, Nat.reduceDiv, Int.reduceNeg, Int.reduceAdd, Int.reduceSub, Int.reduceMul, Heap.gets, Heap.sets, Heap.get, bytesA_length, bytesA_one, bytesA_plains, List.take_of_length_le, List.drop_of_length_le, Nat.add_zero, V.one, Nat.reduceLeDiff, List.all_cons, List.all_nil, ne_eq, not_false_eq_true, Nat.zero_le, gw, d1, z64_len, z64_drop, z64_one, z64_plains]; rfl) ?_ | refine To.op1 hxE2 (by simp only [go_sem, eqs hxE2, reduceIte, Nat.reduceEqDiff, Nat.reduceAdd, Nat.reduceMul, Nat.reduceLT, Nat.reduceLeDiff, Int.reduceLT, Int.reduceLE, Int.reduceEq, reduceCtorEq, Int.reduceBEq, Int.reduceBNe, Int.reduceToNat, Nat.reduceSub, Nat.reduceDiv, Int.reduceNeg, Int.reduceAdd, Int.reduceSub, Int.reduceMul, Heap.gets, Heap.sets, Heap.get, bytesA_length, bytesA_one, bytesA_plains, List.take_of_length_le, List.drop_of_length_le, Nat.add_zero, V.one, Nat.reduceLeDiff, List.all_cons, List.all_nil, ne_eq, not_false_eq_true, Nat.zero_le, gw, d1, z64_len, z64_drop, z64_one, z64_plains]; rfl) ?_ | refine To.nop hxE2 ?_ | (refine To.condT hxE2 ?_ ?_; focus (simp only [go_sem, eqs hxE2, reduceIte, Nat.reduceEqDiff, Nat.reduceAdd, Nat.reduceMul, Nat.reduceLT, Nat.reduceLeDiff, Int.reduceLT, Int.reduceLE, Int.reduceEq, reduceCtorEq, Int.reduceBEq, Int.reduceBNe, Int.reduceToNat, Nat.reduceSub, Nat.reduceDiv, Int.reduceNeg, Int.reduceAdd, Int.reduceSub, Int.reduceMul, Heap.gets, Heap.sets, Heap.get, bytesA_length, bytesA_one, bytesA_plains, List.take_of_length_le, List.drop_of_length_le, Nat.add_zero, V.one, Nat.reduceLeDiff, List.all_cons, List.all_nil, ne_eq, not_false_eq_true, Nat.zero_le, gw, d1, z64_len, z64_drop, z64_one, z64_plains]; done)) | (refine To.condF hxE2 ?_ ?_; focus (simp only [go_sem, eqs hxE2, reduceIte, Nat.reduceEqDiff, Nat.reduceAdd, Nat.reduceMul, Nat.reduceLT, Nat.reduceLeDiff, Int.reduceLT, Int.reduceLE, Int.reduceEq, reduceCtorEq, Int.reduceBEq, Int.reduceBNe, Int.reduceToNat, Nat.reduceSub, Nat.reduceDiv, Int.reduceNeg, Int.reduceAdd, Int.reduceSub, Int.reduceMul, Heap.gets, Heap.sets, Heap.get, bytesA_length, bytesA_one, bytesA_plains, List.take_of_length_le, List.drop_of_length_le, Nat.add_zero, V.one, Nat.reduceLeDiff, List.all_cons, List.all_nil, ne_eq, not_false_eq_true, Nat.zero_le, gw, d1, z64_len, z64_drop, z64_one, z64_plains]; done)) | refine To.block hxE2 ?_ | refine To.scope hxE2 ?_ | refine To.ret hxE2 ?_ | refine To.exit hxE2 ?_ | refine To.skip hxE2 ?_ | refine To.label hxE2 ?_))
    try simp only [andThen, outOf]
    exact fin_kc2 (cs := z64) (l := o.length) rfl (by simp only [go_sem, eqs hxE2, reduceIte, Nat.reduceEqDiff, Nat.reduceAdd, Nat.reduceMul, Nat.reduceLT, Nat.reduceLeDiff, Int.reduceLT, Int.reduceLE, Int.reduceEq, reduceCtorEq, Int.reduceBEq, Int.reduceBNe, Int.reduceToNat, Nat.reduceSub, Nat.reduceDiv, Int.reduceNeg, Int.reduceAdd, Int.reduceSub, Int.reduceMul]) (by simp only [go_sem, eqs hxE2, reduceIte, Nat.reduceEqDiff, Nat.reduceAdd, Nat.reduceMul, Nat.reduceLT, Nat.reduceLeDiff, Int.reduceLT, Int.reduceLE, Int.reduceEq, reduceCtorEq, Int.reduceBEq, Int.reduceBNe, Int.reduceToNat, Nat.reduceSub, Nat.reduceDiv, Int.reduceNeg, Int.reduceAdd, Int.reduceSub, Int.reduceMul]) (gets_app2 rfl) rfl rfl (kp_app (by omega) (by omega))
  have d1 : decide (i < 0) = false := decide_eq_false h1
  obtain ⟨k, rfl⟩ := Int.eq_ofNat_of_zero_le (Int.not_lt.1 h1)
  by_cases h2 : last.length ≤ k
  · have d2 : decide ((last.length : Int) ≤ (k : Int)) = true := decide_eq_true (by omega)
    have hr : rerr false last.length (k : Int) = 22 := by unfold rerr; rw [if_neg (by decide), if_pos (.inr (by omega))]
    have hp : rpage false last nw on (k : Int) = zs 64 := by unfold rpage; rw [hr, if_neg (by decide)]
    rw [hr, hp]
    (repeat' (first | refine To.seq hxE2 ?_ | refine To.op0 hxE2 (by simp only [go_sem, eqs hxE2, reduceIte, Nat.reduceEqDiff, Nat.reduceAdd, Nat.reduceMul, Nat.reduceLT, Nat.reduceLeDiff, Int.reduceLT, Int.reduceLE, Int.reduceEq, reduceCtorEq, Int.reduceBEq, Int.reduceBNe, Int.reduceToNat, Nat.reduceSub, Nat.reduceDiv, Int.reduceNeg, Int.reduceAdd, Int.reduceSub, Int.reduceMul, Heap.gets, Heap.sets, Heap.get, bytesA_length, bytesA_one, bytesA_plains, List.take_of_length_le, List.drop_of_length_le, Nat.add_zero, V.one, Nat.reduceLeDiff, List.all_cons, List.all_nil, ne_eq, not_false_eq_true, Nat.zero_le, gw, d1, d2, z64_len, z64_drop, z64_one, z64_plains]; rfl) ?_ | refine To.op1 hxE2 (by simp only [go_sem, eqs hxE2, reduceIte, Nat.reduceEqDiff, Nat.reduceAdd, Nat.reduceMul, Nat.reduceLT, Nat.reduceLeDiff, Int.reduceLT, Int.reduceLE, Int.reduceEq, reduceCtorEq, Int.reduceBEq, Int.reduceBNe, Int.reduceToNat, Nat.reduceSub, Nat.reduceDiv, Int.reduceNeg, Int.reduceAdd, Int.reduceSub, Int.reduceMul, Heap.gets, Heap.sets, Heap.get, bytesA_length, bytesA_one, bytesA_plains, List.take_of_length_le, List.drop_of_length_le, Nat.add_zero, V.one, Nat.reduceLeDiff, List.all_cons, List.all_nil, ne_eq, not_false_eq_true, Nat.zero_le, gw, d1, d2, z64_len, z64_drop, z64_one, z64_plains]; rfl) ?_ | refine To.nop hxE2 ?_ | (refine To.condT hxE2 ?_ ?_; focus (simp only [go_sem, eqs hxE2, reduceIte, Nat.reduceEqDiff, Nat.reduceAdd, Nat.reduceMul, Nat.reduceLT, Nat.reduceLeDiff, Int.reduceLT, Int.reduceLE, Int.reduceEq, reduceCtorEq, Int.reduceBEq, Int.reduceBNe, Int.reduceToNat, Nat.reduceSub, Nat.reduceDiv, Int.reduceNeg, Int.reduceAdd, Int.reduceSub, Int.reduceMul, Heap.gets, Heap.sets, Heap.get, bytesA_length, bytesA_one, bytesA_plains, List.take_of_length_le, List.drop_of_length_le, Nat.add_zero, V.one, Nat.reduceLeDiff, List.all_cons, List.all_nil, ne_eq, not_false_eq_true, Nat.zero_le, gw, d1, d2, z64_len, z64_drop, z64_one, z64_plains]; done)) | (refine To.condF hxE2 ?_ ?_; focus (simp only [go_sem, eqs hxE2, reduceIte, Nat.reduceEqDiff, Nat.reduceAdd, Nat.reduceMul, Nat.reduceLT, Nat.reduceLeDiff, Int.reduceLT, Int.reduceLE, Int.reduceEq, reduceCtorEq, Int.reduceBEq, Int.reduceBNe, Int.reduceToNat, Nat.reduceSub, Nat.reduceDiv, Int.reduceNeg, Int.reduceAdd, Int.reduceSub, Int.reduceMul, Heap.gets, Heap.sets, Heap.get, bytesA_length, bytesA_one, bytesA_plains, List.take_of_length_le, List.drop_of_length_le, Nat.add_zero, V.one, Nat.reduceLeDiff, List.all_cons, List.all_nil, ne_eq, not_false_eq_true, Nat.zero_le, gw, d1, d2, z64_len, z64_drop, z64_one, z64_plains]; done)) | refine To.block hxE2 ?_ | refine To.scope hxE2 ?_ | refine To.ret hxE2 ?_ | refine To.exit hxE2 ?_ | refine To.skip hxE2 ?_ | refine To.label hxE2 ?_))
    try simp only [andThen, outOf]
    exact fin_kc2 (cs := z64) (l := o.length) rfl (by simp only [go_sem, eqs hxE2, reduceIte, Nat.reduceEqDiff, Nat.reduceAdd, Nat.reduceMul, Nat.reduceLT, Nat.reduceLeDiff, Int.reduceLT, Int.reduceLE, Int.reduceEq, reduceCtorEq, Int.reduceBEq, Int.reduceBNe, Int.reduceToNat, Nat.reduceSub, Nat.reduceDiv, Int.reduceNeg, Int.reduceAdd, Int.reduceSub, Int.reduceMul]) (by simp only [go_sem, eqs hxE2, reduceIte, Nat.reduceEqDiff, Nat.reduceAdd, Nat.reduceMul, Nat.reduceLT, Nat.reduceLeDiff, Int.reduceLT, Int.reduceLE, Int.reduceEq, reduceCtorEq, Int.reduceBEq, Int.reduceBNe, Int.reduceToNat, Nat.reduceSub, Nat.reduceDiv, Int.reduceNeg, Int.reduceAdd, Int.reduceSub, Int.reduceMul]) (gets_app2 rfl) rfl rfl (kp_app (by omega) (by omega))
  have d2 : decide ((last.length : Int) ≤ (k : Int)) = false := decide_eq_false (by omega)
  have hk : k < last.length := by omega
  have hr : rerr false last.length (k : Int) = 0 := by unfold rerr; rw [if_neg (by decide), if_neg (by rintro (h | h) <;> omega)]
  have hp : rpage false last nw on (k : Int) = if on.getD k false = true then nw.getD k (zs 64) else last.getD k (zs 64) := by unfold rpage; rw [hr, if_pos rfl, Int.toNat_natCast]
  rw [hr, hp]
  obtain ⟨b, hb⟩ : ∃ b, on[k]? = some b := ⟨on[k]'(by have := R.n3; omega), List.getElem?_eq_getElem (by have := R.n3; omega)⟩
  have hbd : on.getD k false = b := by rw [List.getD_eq_getElem?_getD, hb]; rfl
  have hbb : (boC on)[k]? = some (.bool b) := by unfold boC; rw [List.getElem?_map, hb]; rfl
  have ix : idxOf last.length (.int .i64 (k : Int)) = some k := idxOf_nat hk
  have hkk : (k + 1) * 64 ≤ last.length * 64 := Nat.mul_le_mul_right 64 hk
  rw [hbd]
  cases b
  · have hg : last[k]? = some last[k] := List.getElem?_eq_getElem hk
    have e1 : last.getD k (zs 64) = last[k] := by rw [List.getD_eq_getElem?_getD, hg]; rfl
    rw [if_neg (by decide), e1]
    have hat := pgC_at R.p1 hg
    have hle : k * 64 + 64 ≤ (pgC last).length := by rw [pgC_len R.p1]; omega
    have h64 := R.p1 _ (List.getElem_mem hk)
    generalize last[k] = p at hat h64 ⊢
    (repeat' (first | refine To.seq hxE2 ?_ | refine To.op0 hxE2 (by simp only [go_sem, eqs hxE2, reduceIte, Nat.reduceEqDiff, Nat.reduceAdd, Nat.reduceMul, Nat.reduceLT, Nat.reduceLeDiff, Int.reduceLT, Int.reduceLE, Int.reduceEq, reduceCtorEq, Int.reduceBEq, Int.reduceBNe, Int.reduceToNat, Nat.reduceSub, Nat.reduceDiv, Int.reduceNeg, Int.reduceAdd, Int.reduceSub, Int.reduceMul, Heap.gets, Heap.sets, Heap.get, bytesA_length, bytesA_one, bytesA_plains, List.take_of_length_le, List.drop_of_length_le, Nat.add_zero, V.one, Nat.reduceLeDiff, List.all_cons, List.all_nil, ne_eq, not_false_eq_true, Nat.zero_le, gw, g1, g3, d1, d2, hbb, ix, hle, hat, h64, z64_len, z64_drop, z64_one, z64_plains]; rfl) ?_ | refine To.op1 hxE2 (by simp only [go_sem, eqs hxE2, reduceIte, Nat.reduceEqDiff, Nat.reduceAdd, Nat.reduceMul, Nat.reduceLT, Nat.reduceLeDiff, Int.reduceLT, Int.reduceLE, Int.reduceEq, reduceCtorEq, Int.reduceBEq, Int.reduceBNe, Int.reduceToNat, Nat.reduceSub, Nat.reduceDiv, Int.reduceNeg, Int.reduceAdd, Int.reduceSub, Int.reduceMul, Heap.gets, Heap.sets, Heap.get, bytesA_length, bytesA_one, bytesA_plains, List.take_of_length_le, List.drop_of_length_le, Nat.add_zero, V.one, Nat.reduceLeDiff, List.all_cons, List.all_nil, ne_eq, not_false_eq_true, Nat.zero_le, gw, g1, g3, d1, d2, hbb, ix, hle, hat, h64, z64_len, z64_drop, z64_one, z64_plains]; rfl) ?_ | refine To.nop hxE2 ?_ | (refine To.condT hxE2 ?_ ?_; focus (simp only [go_sem, eqs hxE2, reduceIte, Nat.reduceEqDiff, Nat.reduceAdd, Nat.reduceMul, Nat.reduceLT, Nat.reduceLeDiff, Int.reduceLT, Int.reduceLE, Int.reduceEq, reduceCtorEq, Int.reduceBEq, Int.reduceBNe, Int.reduceToNat, Nat.reduceSub, Nat.reduceDiv, Int.reduceNeg, Int.reduceAdd, Int.reduceSub, Int.reduceMul, Heap.gets, Heap.sets, Heap.get, bytesA_length, bytesA_one, bytesA_plains, List.take_of_length_le, List.drop_of_length_le, Nat.add_zero, V.one, Nat.reduceLeDiff, List.all_cons, List.all_nil, ne_eq, not_false_eq_true, Nat.zero_le, gw, g1, g3, d1, d2, hbb, ix, hle, hat, h64, z64_len, z64_drop, z64_one, z64_plains]; done)) | (refine To.condF hxE2 ?_ ?_; focus (simp only [go_sem, eqs hxE2, reduceIte, Nat.reduceEqDiff, Nat.reduceAdd, Nat.reduceMul, Nat.reduceLT, Nat.reduceLeDiff, Int.reduceLT, Int.reduceLE, Int.reduceEq, reduceCtorEq, Int.reduceBEq, Int.reduceBNe, Int.reduceToNat, Nat.reduceSub, Nat.reduceDiv, Int.reduceNeg, Int.reduceAdd, Int.reduceSub, Int.reduceMul, Heap.gets, Heap.sets, Heap.get, bytesA_length, bytesA_one, bytesA_plains, List.take_of_length_le, List.drop_of_length_le, Nat.add_zero, V.one, Nat.reduceLeDiff, List.all_cons, List.all_nil, ne_eq, not_false_eq_true, Nat.zero_le, gw, g1, g3, d1, d2, hbb, ix, hle, hat, h64, z64_len, z64_drop, z64_one, z64_plains]; done)) | refine To.block hxE2 ?_ | refine To.scope hxE2 ?_ | refine To.ret hxE2 ?_ | refine To.exit hxE2 ?_ | refine To.skip hxE2 ?_ | refine To.label hxE2 ?_))
    try simp only [andThen, outOf]
    exact fin_kc2 (cs := bytesA p) (l := o.length) rfl (by simp only [go_sem, eqs hxE2, reduceIte, Nat.reduceEqDiff, Nat.reduceAdd, Nat.reduceMul, Nat.reduceLT, Nat.reduceLeDiff, Int.reduceLT, Int.reduceLE, Int.reduceEq, reduceCtorEq, Int.reduceBEq, Int.reduceBNe, Int.reduceToNat, Nat.reduceSub, Nat.reduceDiv, Int.reduceNeg, Int.reduceAdd, Int.reduceSub, Int.reduceMul]) (by simp only [go_sem, eqs hxE2, reduceIte, Nat.reduceEqDiff, Nat.reduceAdd, Nat.reduceMul, Nat.reduceLT, Nat.reduceLeDiff, Int.reduceLT, Int.reduceLE, Int.reduceEq, reduceCtorEq, Int.reduceBEq, Int.reduceBNe, Int.reduceToNat, Nat.reduceSub, Nat.reduceDiv, Int.reduceNeg, Int.reduceAdd, Int.reduceSub, Int.reduceMul]) (gets_app2 (by rw [bytesA_length]; exact h64)) (bytesA_plains _) rfl (kp_app (by omega) (by omega))
  · have hkn : k < nw.length := by have := R.n2; omega
    have hg : nw[k]? = some nw[k] := List.getElem?_eq_getElem hkn
    have e1 : nw.getD k (zs 64) = nw[k] := by rw [List.getD_eq_getElem?_getD, hg]; rfl
    rw [if_pos rfl, e1]
    have hat := pgC_at R.p2 hg
    have hle : k * 64 + 64 ≤ (pgC nw).length := by rw [pgC_len R.p2, R.n2]; omega
    have h64 := R.p2 _ (List.getElem_mem hkn)
    generalize nw[k] = p at hat h64 ⊢
    (repeat' (first | refine To.seq hxE2 ?_ | refine To.op0 hxE2 (by simp only [go_sem, eqs hxE2, reduceIte, Nat.reduceEqDiff, Nat.reduceAdd, Nat.reduceMul, Nat.reduceLT, Nat.reduceLeDiff, Int.reduceLT, Int.reduceLE, Int.reduceEq, reduceCtorEq, Int.reduceBEq, Int.reduceBNe, Int.reduceToNat, Nat.reduceSub, Nat.reduceDiv, Int.reduceNeg, Int.reduceAdd, Int.reduceSub, Int.reduceMul, Heap.gets, Heap.sets, Heap.get, bytesA_length, bytesA_one, bytesA_plains, List.take_of_length_le, List.drop_of_length_le, Nat.add_zero, V.one, Nat.reduceLeDiff, List.all_cons, List.all_nil, ne_eq, not_false_eq_true, Nat.zero_le, gw, g2, g3, d1, d2, hbb, ix, hle, hat, h64, z64_len, z64_drop, z64_one, z64_plains]; rfl) ?_ | refine To.op1 hxE2 (by simp only [go_sem, eqs hxE2, reduceIte, Nat.reduceEqDiff, Nat.reduceAdd, Nat.reduceMul, Nat.reduceLT, Nat.reduceLeDiff, Int.reduceLT, Int.reduceLE, Int.reduceEq, reduceCtorEq, Int.reduceBEq, Int.reduceBNe, Int.reduceToNat, Nat.reduceSub, Nat.reduceDiv, Int.reduceNeg, Int.reduceAdd, Int.reduceSub, Int.reduceMul, Heap.gets, Heap.sets, Heap.get, bytesA_length, bytesA_one, bytesA_plains, List.take_of_length_le, List.drop_of_length_le, Nat.add_zero, V.one, Nat.reduceLeDiff, List.all_cons, List.all_nil, ne_eq, not_false_eq_true, Nat.zero_le, gw, g2, g3, d1, d2, hbb, ix, hle, hat, h64, z64_len, z64_drop, z64_one, z64_plains]; rfl) ?_ | refine To.nop hxE2 ?_ | (refine To.condT hxE2 ?_ ?_; focus (simp only [go_sem, eqs hxE2, reduceIte, Nat.reduceEqDiff, Nat.reduceAdd, Nat.reduceMul, Nat.reduceLT, Nat.reduceLeDiff, Int.reduceLT, Int.reduceLE, Int.reduceEq, reduceCtorEq, Int.reduceBEq, Int.reduceBNe, Int.reduceToNat, Nat.reduceSub, Nat.reduceDiv, Int.reduceNeg, Int.reduceAdd, Int.reduceSub, Int.reduceMul, Heap.gets, Heap.sets, Heap.get, bytesA_length, bytesA_one, bytesA_plains, List.take_of_length_le, List.drop_of_length_le, Nat.add_zero, V.one, Nat.reduceLeDiff, List.all_cons, List.all_nil, ne_eq, not_false_eq_true, Nat.zero_le, gw, g2, g3, d1, d2, hbb, ix, hle, hat, h64, z64_len, z64_drop, z64_one, z64_plains]; done)) | (refine To.condF hxE2 ?_ ?_; focus (simp only [go_sem, eqs hxE2, reduceIte, Nat.reduceEqDiff, Nat.reduceAdd, Nat.reduceMul, Nat.reduceLT, Nat.reduceLeDiff, Int.reduceLT, Int.reduceLE, Int.reduceEq, reduceCtorEq, Int.reduceBEq, Int.reduceBNe, Int.reduceToNat, Nat.reduceSub, Nat.reduceDiv, Int.reduceNeg, Int.reduceAdd, Int.reduceSub, Int.reduceMul, Heap.gets, Heap.sets, Heap.get, bytesA_length, bytesA_one, bytesA_plains, List.take_of_length_le, List.drop_of_length_le, Nat.add_zero, V.one, Nat.reduceLeDiff, List.all_cons, List.all_nil, ne_eq, not_false_eq_true, Nat.zero_le, gw, g2, g3, d1, d2, hbb, ix, hle, hat, h64, z64_len, z64_drop, z64_one, z64_plains]; done)) | refine To.block hxE2 ?_ | refine To.scope hxE2 ?_ | refine To.ret hxE2 ?_ | refine To.exit hxE2 ?_ | refine To.skip hxE2 ?_ | refine To.label hxE2 ?_))
    try simp only [andThen, outOf]
    exact fin_kc2 (cs := bytesA p) (l := o.length) rfl (by simp only [go_sem, eqs hxE2, reduceIte, Nat.reduceEqDiff, Nat.reduceAdd, Nat.reduceMul, Nat.reduceLT, Nat.reduceLeDiff, Int.reduceLT, Int.reduceLE, Int.reduceEq, reduceCtorEq, Int.reduceBEq, Int.reduceBNe, Int.reduceToNat, Nat.reduceSub, Nat.reduceDiv, Int.reduceNeg, Int.reduceAdd, Int.reduceSub, Int.reduceMul]) (by simp only [go_sem, eqs hxE2, reduceIte, Nat.reduceEqDiff, Nat.reduceAdd, Nat.reduceMul, Nat.reduceLT, Nat.reduceLeDiff, Int.reduceLT, Int.reduceLE, Int.reduceEq, reduceCtorEq, Int.reduceBEq, Int.reduceBNe, Int.reduceToNat, Nat.reduceSub, Nat.reduceDiv, Int.reduceNeg, Int.reduceAdd, Int.reduceSub, Int.reduceMul]) (gets_app2 (by rw [bytesA_length]; exact h64)) (bytesA_plains _) rfl (kp_app (by omega) (by omega))
end
end Go.Proofs.Ytfbkeieoeagkdaa

/- Disk: the document's disk: New, Fuse, a step. -/
namespace Go.Proofs.Ytfbkeieoeagkdaa
open Go AM
set_option linter.unusedSimpArgs false
set_option linter.unusedVariables false
set_option maxRecDepth 100000

/-- All but the four objects of the document's disk stays. -/
structure Rx (w l1 l2 l3 : Nat) (o o' : List AM.Obj) : Prop where
  len : o'.length = o.length
  get : ∀ l, l ≠ w → l ≠ l1 → l ≠ l2 → l ≠ l3 → o'[l]? = o[l]?
theorem Rx.refl {w l1 l2 l3 : Nat} {o : List AM.Obj} : Rx w l1 l2 l3 o o := ⟨rfl, fun _ _ _ _ _ => rfl⟩
theorem Rx.trans {w l1 l2 l3 : Nat} {o o' o'' : List AM.Obj} (h : Rx w l1 l2 l3 o o') (k : Rx w l1 l2 l3 o' o'') : Rx w l1 l2 l3 o o'' := ⟨k.len.trans h.len, fun l a b c d => (k.get l a b c d).trans (h.get l a b c d)⟩
section
variable {o : List AM.Obj} {e d w l1 l2 l3 : Nat} {left : Int} {down : Bool} {last nw : List Pg} {on : List Bool}
theorem rx_w (x : AM.Obj) : Rx w l1 l2 l3 o (o.set w x) := ⟨by simp, fun l a _ _ _ => List.getElem?_set_ne (Ne.symm a)⟩
theorem rx_1 (x : AM.Obj) : Rx w l1 l2 l3 o (o.set l1 x) := ⟨by simp, fun l _ a _ _ => List.getElem?_set_ne (Ne.symm a)⟩
theorem rx_2 (x : AM.Obj) : Rx w l1 l2 l3 o (o.set l2 x) := ⟨by simp, fun l _ _ a _ => List.getElem?_set_ne (Ne.symm a)⟩
theorem rx_3 (x : AM.Obj) : Rx w l1 l2 l3 o (o.set l3 x) := ⟨by simp, fun l _ _ _ a => List.getElem?_set_ne (Ne.symm a)⟩
theorem RD.lw (R : RD o w l1 l2 l3 left down last nw on) : w < o.length := get_lt R.hw
theorem RD.ll1 (R : RD o w l1 l2 l3 left down last nw on) : l1 < o.length := get_lt R.h1
theorem RD.ll2 (R : RD o w l1 l2 l3 left down last nw on) : l2 < o.length := get_lt R.h2
theorem RD.ll3 (R : RD o w l1 l2 l3 left down last nw on) : l3 < o.length := get_lt R.h3
theorem ty_ne {a b : Nat} {t u : Nat} {c c' : List V} (h1 : o[a]? = some (.cells .ex t 0 c)) (h2 : o[b]? = some (.cells .ex u 0 c')) (hne : t ≠ u) : a ≠ b := by
  rintro rfl
  rw [h1] at h2
  simp only [Option.some.injEq] at h2
  injection h2 with _ h
  exact hne h
theorem RD.nw1 (R : RD o w l1 l2 l3 left down last nw on) : w ≠ l1 := ty_ne R.hw R.h1 (by decide)
theorem RD.nw2 (R : RD o w l1 l2 l3 left down last nw on) : w ≠ l2 := ty_ne R.hw R.h2 (by decide)
theorem RD.nw3 (R : RD o w l1 l2 l3 left down last nw on) : w ≠ l3 := ty_ne R.hw R.h3 (by decide)
theorem RD.n13 (R : RD o w l1 l2 l3 left down last nw on) : l1 ≠ l3 := ty_ne R.h1 R.h3 (by decide)
theorem RD.n23 (R : RD o w l1 l2 l3 left down last nw on) : l2 ≠ l3 := ty_ne R.h2 R.h3 (by decide)
/-- The disk's own object turned. -/
theorem RD.fuse (R : RD o w l1 l2 l3 left down last nw on) (left' : Int) (down' : Bool) : RD (o.set w (.cells .ex 54 0 [.slice l1 0 last.length 64, .slice l2 0 last.length 64, .slice l3 0 last.length 1, .int .i64 left', .bool down'])) w l1 l2 l3 left' down' last nw on :=
  ⟨List.getElem?_set_self R.lw, by rw [List.getElem?_set_ne R.nw1]; exact R.h1, by rw [List.getElem?_set_ne R.nw2]; exact R.h2, by rw [List.getElem?_set_ne R.nw3]; exact R.h3, R.n2, R.n3, R.p1, R.p2, R.d12⟩
theorem RD.same (R : RD o w l1 l2 l3 left down last nw on) : o.set w (.cells .ex 54 0 [.slice l1 0 last.length 64, .slice l2 0 last.length 64, .slice l3 0 last.length 1, .int .i64 left, .bool down]) = o := by
  apply List.ext_getElem?
  intro i
  by_cases hi : w = i
  · subst hi; rw [List.getElem?_set_self R.lw, R.hw]
  · rw [List.getElem?_set_ne hi]

set_option maxHeartbeats 2000000 in
theorem rfuse_q (R : RD o w l1 l2 l3 left down last nw on) (n : Int) : ∃ v oh, Den FF E2 25 [.ptr w 0, .int .i64 n] ⟨o, e, d⟩ = some (v, oh) ∧ v = .val (.tuple []) ∧ ∃ o' d', oh.getD ⟨o, e, d⟩ = ⟨o', e, d'⟩ ∧ RD o' w l1 l2 l3 (if n < 0 then -1 else n) down last nw on ∧ Rx w l1 l2 l3 o o' := by
  refine To.denE hxE2 (f := 25) (a := af25) rfl (E2_none rfl) (Nat.le_of_ble_eq_true rfl) ?_
  have hs : ∀ x, (o.set w x)[w]? = some x := fun x => List.getElem?_set_self R.lw
  have hld := R.lw
  by_cases hn : n < 0
  · have d1 : decide (n < 0) = true := decide_eq_true hn
    rw [if_pos hn]
    (repeat' (first | refine To.seq hxE2 ?_ | refine To.op0 hxE2 (by simp only [go_sem, eqs hxE2, reduceIte, Nat.reduceEqDiff, Nat.reduceAdd, Nat.reduceMul, Nat.reduceLT, Nat.reduceLeDiff, Int.reduceLT, Int.reduceLE, Int.reduceEq, reduceCtorEq, Int.reduceBEq, Int.reduceBNe, Int.reduceToNat, Nat.reduceSub, Nat.reduceDiv, Int.reduceNeg, Int.reduceAdd, Int.reduceSub, Int.reduceMul, Heap.gets, Heap.sets, Heap.get, bytesA_length, bytesA_one, bytesA_plains, List.take_of_length_le, List.drop_of_length_le, Nat.add_zero, V.one, Nat.reduceLeDiff, List.all_cons, List.all_nil, ne_eq, not_false_eq_true, Nat.zero_le, R.hw, hs, List.set_set, d1]; rfl) ?_ | refine To.op1 hxE2 (by simp only [go_sem, eqs hxE2, reduceIte, Nat.reduceEqDiff, Nat.reduceAdd, Nat.reduceMul, Nat.reduceLT, Nat.reduceLeDiff, Int.reduceLT, Int.reduceLE, Int.reduceEq, reduceCtorEq, Int.reduceBEq, Int.reduceBNe, Int.reduceToNat, Nat.reduceSub, Nat.reduceDiv, Int.reduceNeg, Int.reduceAdd, Int.reduceSub, Int.reduceMul, Heap.gets, Heap.sets, Heap.get, bytesA_length, bytesA_one, bytesA_plains, List.take_of_length_le, List.drop_of_length_le, Nat.add_zero, V.one, Nat.reduceLeDiff, List.all_cons, List.all_nil, ne_eq, not_false_eq_true, Nat.zero_le, R.hw, hs, List.set_set, d1]; rfl) ?_ | refine To.nop hxE2 ?_ | (refine To.condT hxE2 ?_ ?_; focus (simp only [go_sem, eqs hxE2, reduceIte, Nat.reduceEqDiff, Nat.reduceAdd, Nat.reduceMul, Nat.reduceLT, Nat.reduceLeDiff, Int.reduceLT, Int.reduceLE, Int.reduceEq, reduceCtorEq, Int.reduceBEq, Int.reduceBNe, Int.reduceToNat, Nat.reduceSub, Nat.reduceDiv, Int.reduceNeg, Int.reduceAdd, Int.reduceSub, Int.reduceMul, Heap.gets, Heap.sets, Heap.get, bytesA_length, bytesA_one, bytesA_plains, List.take_of_length_le, List.drop_of_length_le, Nat.add_zero, V.one, Nat.reduceLeDiff, List.all_cons, List.all_nil, ne_eq, not_false_eq_true, Nat.zero_le, R.hw, hs, List.set_set, d1]; done)) | (refine To.condF hxE2 ?_ ?_; focus (simp only [go_sem, eqs hxE2, reduceIte, Nat.reduceEqDiff, Nat.reduceAdd, Nat.reduceMul, Nat.reduceLT, Nat.reduceLeDiff, Int.reduceLT, Int.reduceLE, Int.reduceEq, reduceCtorEq, Int.reduceBEq, Int.reduceBNe, Int.reduceToNat, Nat.reduceSub, Nat.reduceDiv, Int.reduceNeg, Int.reduceAdd, Int.reduceSub, Int.reduceMul, Heap.gets, Heap.sets, Heap.get, bytesA_length, bytesA_one, bytesA_plains, List.take_of_length_le, List.drop_of_length_le, Nat.add_zero, V.one, Nat.reduceLeDiff, List.all_cons, List.all_nil, ne_eq, not_false_eq_true, Nat.zero_le, R.hw, hs, List.set_set, d1]; done)) | refine To.block hxE2 ?_ | refine To.scope hxE2 ?_ | refine To.ret hxE2 ?_ | refine To.exit hxE2 ?_ | refine To.skip hxE2 ?_ | refine To.label hxE2 ?_))
    try simp only [andThen, outOf]
    refine ⟨_, _, fin0n rfl, rfl, ?_⟩
    obtain ⟨d2, hlv, _⟩ := leave_same2 (o := o) (o' := o.set w (.cells .ex 54 0 [.slice l1 0 last.length 64, .slice l2 0 last.length 64, .slice l3 0 last.length 1, .int .i64 (-1), .bool down])) (e := e) (d := d) (d' := min (min o.length w) w) (v := .tuple []) rfl (by simp) (fun h => by omega)
    exact ⟨_, d2, hlv, R.fuse _ _, rx_w _⟩
  · have d1 : decide (n < 0) = false := decide_eq_false hn
    rw [if_neg hn]
    (repeat' (first | refine To.seq hxE2 ?_ | refine To.op0 hxE2 (by simp only [go_sem, eqs hxE2, reduceIte, Nat.reduceEqDiff, Nat.reduceAdd, Nat.reduceMul, Nat.reduceLT, Nat.reduceLeDiff, Int.reduceLT, Int.reduceLE, Int.reduceEq, reduceCtorEq, Int.reduceBEq, Int.reduceBNe, Int.reduceToNat, Nat.reduceSub, Nat.reduceDiv, Int.reduceNeg, Int.reduceAdd, Int.reduceSub, Int.reduceMul, Heap.gets, Heap.sets, Heap.get, bytesA_length, bytesA_one, bytesA_plains, List.take_of_length_le, List.drop_of_length_le, Nat.add_zero, V.one, Nat.reduceLeDiff, List.all_cons, List.all_nil, ne_eq, not_false_eq_true, Nat.zero_le, R.hw, hs, List.set_set, d1]; rfl) ?_ | refine To.op1 hxE2 (by simp only [go_sem, eqs hxE2, reduceIte, Nat.reduceEqDiff, Nat.reduceAdd, Nat.reduceMul, Nat.reduceLT, Nat.reduceLeDiff, Int.reduceLT, Int.reduceLE, Int.reduceEq, reduceCtorEq, Int.reduceBEq, Int.reduceBNe, Int.reduceToNat, Nat.reduceSub, Nat.reduceDiv, Int.reduceNeg, Int.reduceAdd, Int.reduceSub, Int.reduceMul, Heap.gets, Heap.sets, Heap.get, bytesA_length, bytesA_one, bytesA_plains, List.take_of_length_le, List.drop_of_length_le, Nat.add_zero, V.one, Nat.reduceLeDiff, List.all_cons, List.all_nil, ne_eq, not_false_eq_true, Nat.zero_le, R.hw, hs, List.set_set, d1]; rfl) ?_ | refine To.nop hxE2 ?_ | (refine To.condT hxE2 ?_ ?_; focus (simp only [go_sem, eqs hxE2, reduceIte, Nat.reduceEqDiff, Nat.reduceAdd, Nat.reduceMul, Nat.reduceLT, Nat.reduceLeDiff, Int.reduceLT, Int.reduceLE, Int.reduceEq, reduceCtorEq, Int.reduceBEq, Int.reduceBNe, Int.reduceToNat, Nat.reduceSub, Nat.reduceDiv, Int.reduceNeg, Int.reduceAdd, Int.reduceSub, Int.reduceMul, Heap.gets, Heap.sets, Heap.get, bytesA_length, bytesA_one, bytesA_plains, List.take_of_length_le, List.drop_of_length_le, Nat.add_zero, V.one, Nat.reduceLeDiff, List.all_cons, List.all_nil, ne_eq, not_false_eq_true, Nat.zero_le, R.hw, hs, List.set_set, d1]; done)) | (refine To.condF hxE2 ?_ ?_; focus (simp only [go_sem, eqs hxE2, reduceIte, Nat.reduceEqDiff, Nat.reduceAdd, Nat.reduceMul, Nat.reduceLT, Nat.reduceLeDiff, Int.reduceLT, Int.reduceLE, Int.reduceEq, reduceCtorEq, Int.reduceBEq, Int.reduceBNe, Int.reduceToNat, Nat.reduceSub, Nat.reduceDiv, Int.reduceNeg, Int.reduceAdd, Int.reduceSub, Int.reduceMul, Heap.gets, Heap.sets, Heap.get, bytesA_length, bytesA_one, bytesA_plains, List.take_of_length_le, List.drop_of_length_le, Nat.add_zero, V.one, Nat.reduceLeDiff, List.all_cons, List.all_nil, ne_eq, not_false_eq_true, Nat.zero_le, R.hw, hs, List.set_set, d1]; done)) | refine To.block hxE2 ?_ | refine To.scope hxE2 ?_ | refine To.ret hxE2 ?_ | refine To.exit hxE2 ?_ | refine To.skip hxE2 ?_ | refine To.label hxE2 ?_))
    try simp only [andThen, outOf]
    refine ⟨_, _, fin0n rfl, rfl, ?_⟩
    obtain ⟨d2, hlv, _⟩ := leave_same2 (o := o) (o' := o.set w (.cells .ex 54 0 [.slice l1 0 last.length 64, .slice l2 0 last.length 64, .slice l3 0 last.length 1, .int .i64 n, .bool down])) (e := e) (d := d) (d' := min o.length w) (v := .tuple []) rfl (by simp) (fun h => by omega)
    exact ⟨_, d2, hlv, R.fuse _ _, rx_w _⟩

def stepD (left : Int) (down : Bool) : Bool := if left = 0 then true else down
def stepL (left : Int) : Int := if 0 < left then left - 1 else left
set_option maxHeartbeats 4000000 in
theorem rstep_q (R : RD o w l1 l2 l3 left down last nw on) (hl : left < 2 ^ 63) : ∃ v oh, Den FF E2 52 [.ptr w 0] ⟨o, e, d⟩ = some (v, oh) ∧ v = .val (.bool (decide (left ≠ 0))) ∧ ∃ o' d', oh.getD ⟨o, e, d⟩ = ⟨o', e, d'⟩ ∧ RD o' w l1 l2 l3 (stepL left) (stepD left down) last nw on ∧ Rx w l1 l2 l3 o o' ∧ min d w ≤ d' ∧ (o' = o ∨ d' ≤ w) := by
  refine To.denE hxE2 (f := 52) (a := af52) rfl (E2_none rfl) (Nat.le_of_ble_eq_true rfl) ?_
  have hs : ∀ x, (o.set w x)[w]? = some x := fun x => List.getElem?_set_self R.lw
  have hld := R.lw
  by_cases h0 : left = 0
  · subst h0
    have e1 : stepL 0 = 0 := rfl
    have e2 : stepD 0 down = true := rfl
    rw [e1, e2]
    (repeat' (first | refine To.seq hxE2 ?_ | refine To.op0 hxE2 (by simp only [go_sem, eqs hxE2, reduceIte, Nat.reduceEqDiff, Nat.reduceAdd, Nat.reduceMul, Nat.reduceLT, Nat.reduceLeDiff, Int.reduceLT, Int.reduceLE, Int.reduceEq, reduceCtorEq, Int.reduceBEq, Int.reduceBNe, Int.reduceToNat, Nat.reduceSub, Nat.reduceDiv, Int.reduceNeg, Int.reduceAdd, Int.reduceSub, Int.reduceMul, Heap.gets, Heap.sets, Heap.get, bytesA_length, bytesA_one, bytesA_plains, List.take_of_length_le, List.drop_of_length_le, Nat.add_zero, V.one, Nat.reduceLeDiff, List.all_cons, List.all_nil, ne_eq, not_false_eq_true, Nat.zero_le, R.hw, hs, List.set_set]; rfl) ?_ | refine To.op1 hxE2 (by simp only [go_sem, eqs hxE2, reduceIte, Nat.reduceEqDiff, Nat.reduceAdd, Nat.reduceMul, Nat.reduceLT, Nat.reduceLeDiff, Int.reduceLT, Int.reduceLE, Int.reduceEq, reduceCtorEq, Int.reduceBEq, Int.reduceBNe, Int.reduceToNat, Nat.reduceSub, Nat.reduceDiv, Int.reduceNeg, Int.reduceAdd, Int.reduceSub, Int.reduceMul, Heap.gets, Heap.sets, Heap.get, bytesA_length, bytesA_one, bytesA_plains, List.take_of_length_le, List.drop_of_length_le, Nat.add_zero, V.one, Nat.reduceLeDiff, List.all_cons, List.all_nil, ne_eq, not_false_eq_true, Nat.zero_le, R.hw, hs, List.set_set]; rfl) ?_ | refine To.nop hxE2 ?_ | (refine To.condT hxE2 ?_ ?_; focus (simp only [go_sem, eqs hxE2, reduceIte, Nat.reduceEqDiff, Nat.reduceAdd, Nat.reduceMul, Nat.reduceLT, Nat.reduceLeDiff, Int.reduceLT, Int.reduceLE, Int.reduceEq, reduceCtorEq, Int.reduceBEq, Int.reduceBNe, Int.reduceToNat, Nat.reduceSub, Nat.reduceDiv, Int.reduceNeg, Int.reduceAdd, Int.reduceSub, Int.reduceMul, Heap.gets, Heap.sets, Heap.get, bytesA_length, bytesA_one, bytesA_plains, List.take_of_length_le, List.drop_of_length_le, Nat.add_zero, V.one, Nat.reduceLeDiff, List.all_cons, List.all_nil, ne_eq, not_false_eq_true, Nat.zero_le, R.hw, hs, List.set_set]; done)) | (refine To.condF hxE2 ?_ ?_; focus (simp only [go_sem, eqs hxE2, reduceIte, Nat.reduceEqDiff, Nat.reduceAdd, Nat.reduceMul, Nat.reduceLT, Nat.reduceLeDiff, Int.reduceLT, Int.reduceLE, Int.reduceEq, reduceCtorEq, Int.reduceBEq, Int.reduceBNe, Int.reduceToNat, Nat.reduceSub, Nat.reduceDiv, Int.reduceNeg, Int.reduceAdd, Int.reduceSub, Int.reduceMul, Heap.gets, Heap.sets, Heap.get, bytesA_length, bytesA_one, bytesA_plains, List.take_of_length_le, List.drop_of_length_le, Nat.add_zero, V.one, Nat.reduceLeDiff, List.all_cons, List.all_nil, ne_eq, not_false_eq_true, Nat.zero_le, R.hw, hs, List.set_set]; done)) | refine To.block hxE2 ?_ | refine To.scope hxE2 ?_ | refine To.ret hxE2 ?_ | refine To.exit hxE2 ?_ | refine To.skip hxE2 ?_ | refine To.label hxE2 ?_))
    try simp only [andThen, outOf]
    refine ⟨_, _, fin1 (i := 2) rfl, by simp only [get_fput, reduceIte, Nat.reduceEqDiff]; rfl, ?_⟩
    obtain ⟨d2, q1, q2, q3⟩ := leave_same2 (o := o) (o' := o.set w (.cells .ex 54 0 [.slice l1 0 last.length 64, .slice l2 0 last.length 64, .slice l3 0 last.length 1, .int .i64 0, .bool true])) (e := e) (d := d) (d' := min o.length w) (v := .bool false) rfl (by simp) (fun hc => by omega)
    exact ⟨_, d2, by simp only [get_fput, reduceIte, Nat.reduceEqDiff]; exact q1, R.fuse _ _, rx_w _, by omega, q3.imp id (fun h => by omega)⟩
  have e0 : decide (left ≠ 0) = true := decide_eq_true h0
  have e2 : stepD left down = down := if_neg h0
  have d0 : decide (left = 0) = false := decide_eq_false h0
  have d0' : (left == 0) = false := by simpa using h0
  rw [e0, e2]
  by_cases hp : 0 < left
  · have e1 : stepL left = left - 1 := if_pos hp
    have dp : decide (0 < left) = true := decide_eq_true hp
    have wr : IntKind.i64.wrap (left - 1) = left - 1 := wrap_i64 (by omega) (by omega)
    rw [e1]
    (repeat' (first | refine To.seq hxE2 ?_ | refine To.op0 hxE2 (by simp only [go_sem, eqs hxE2, reduceIte, Nat.reduceEqDiff, Nat.reduceAdd, Nat.reduceMul, Nat.reduceLT, Nat.reduceLeDiff, Int.reduceLT, Int.reduceLE, Int.reduceEq, reduceCtorEq, Int.reduceBEq, Int.reduceBNe, Int.reduceToNat, Nat.reduceSub, Nat.reduceDiv, Int.reduceNeg, Int.reduceAdd, Int.reduceSub, Int.reduceMul, Heap.gets, Heap.sets, Heap.get, bytesA_length, bytesA_one, bytesA_plains, List.take_of_length_le, List.drop_of_length_le, Nat.add_zero, V.one, Nat.reduceLeDiff, List.all_cons, List.all_nil, ne_eq, not_false_eq_true, Nat.zero_le, R.hw, hs, List.set_set, d0, d0', dp, wr]; rfl) ?_ | refine To.op1 hxE2 (by simp only [go_sem, eqs hxE2, reduceIte, Nat.reduceEqDiff, Nat.reduceAdd, Nat.reduceMul, Nat.reduceLT, Nat.reduceLeDiff, Int.reduceLT, Int.reduceLE, Int.reduceEq, reduceCtorEq, Int.reduceBEq, Int.reduceBNe, Int.reduceToNat, Nat.reduceSub, Nat.reduceDiv, Int.reduceNeg, Int.reduceAdd, Int.reduceSub, Int.reduceMul, Heap.gets, Heap.sets, Heap.get, bytesA_length, bytesA_one, bytesA_plains, List.take_of_length_le, List.drop_of_length_le, Nat.add_zero, V.one, Nat.reduceLeDiff, List.all_cons, List.all_nil, ne_eq, not_false_eq_true, Nat.zero_le, R.hw, hs, List.set_set, d0, d0', dp, wr]; rfl) ?_ | refine To.nop hxE2 ?_ | (refine To.condT hxE2 ?_ ?_; focus (simp only [go_sem, eqs hxE2, reduceIte, Nat.reduceEqDiff, Nat.reduceAdd, Nat.reduceMul, Nat.reduceLT, Nat.reduceLeDiff, Int.reduceLT, Int.reduceLE, Int.reduceEq, reduceCtorEq, Int.reduceBEq, Int.reduceBNe, Int.reduceToNat, Nat.reduceSub, Nat.reduceDiv, Int.reduceNeg, Int.reduceAdd, Int.reduceSub, Int.reduceMul, Heap.gets, Heap.sets, Heap.get, bytesA_length, bytesA_one, bytesA_plains, List.take_of_length_le, List.drop_of_length_le, Nat.add_zero, V.one, Nat.reduceLeDiff, List.all_cons, List.all_nil, ne_eq, not_false_eq_true, Nat.zero_le, R.hw, hs, List.set_set, d0, d0', dp, wr]; done)) | (refine To.condF hxE2 ?_ ?_; focus (simp only [go_sem, eqs hxE2, reduceIte, Nat.reduceEqDiff, Nat.reduceAdd, Nat.reduceMul, Nat.reduceLT, Nat.reduceLeDiff, Int.reduceLT, Int.reduceLE, Int.reduceEq, reduceCtorEq, Int.reduceBEq, Int.reduceBNe, Int.reduceToNat, Nat.reduceSub, Nat.reduceDiv, Int.reduceNeg, Int.reduceAdd, Int.reduceSub, Int.reduceMul, Heap.gets, Heap.sets, Heap.get, bytesA_length, bytesA_one, bytesA_plains, List.take_of_length_le, List.drop_of_length_le, Nat.add_zero, V.one, Nat.reduceLeDiff, List.all_cons, List.all_nil, ne_eq, not_false_eq_true, Nat.zero_le, R.hw, hs, List.set_set, d0, d0', dp, wr]; done)) | refine To.block hxE2 ?_ | refine To.scope hxE2 ?_ | refine To.ret hxE2 ?_ | refine To.exit hxE2 ?_ | refine To.skip hxE2 ?_ | refine To.label hxE2 ?_))
    try simp only [andThen, outOf]
    refine ⟨_, _, fin1 (i := 2) rfl, by simp only [get_fput, reduceIte, Nat.reduceEqDiff], ?_⟩
    obtain ⟨d2, q1, q2, q3⟩ := leave_same2 (o := o) (o' := o.set w (.cells .ex 54 0 [.slice l1 0 last.length 64, .slice l2 0 last.length 64, .slice l3 0 last.length 1, .int .i64 (left - 1), .bool down])) (e := e) (d := d) (d' := min o.length w) (v := .bool true) rfl (by simp) (fun hc => by omega)
    exact ⟨_, d2, by simp only [get_fput, reduceIte, Nat.reduceEqDiff]; exact q1, R.fuse _ _, rx_w _, by omega, q3.imp id (fun h => by omega)⟩
  · have e1 : stepL left = left := if_neg hp
    have dp : decide (0 < left) = false := decide_eq_false hp
    rw [e1]
    (repeat' (first | refine To.seq hxE2 ?_ | refine To.op0 hxE2 (by simp only [go_sem, eqs hxE2, reduceIte, Nat.reduceEqDiff, Nat.reduceAdd, Nat.reduceMul, Nat.reduceLT, Nat.reduceLeDiff, Int.reduceLT, Int.reduceLE, Int.reduceEq, reduceCtorEq, Int.reduceBEq, Int.reduceBNe, Int.reduceToNat, Nat.reduceSub, Nat.reduceDiv, Int.reduceNeg, Int.reduceAdd, Int.reduceSub, Int.reduceMul, Heap.gets, Heap.sets, Heap.get, bytesA_length, bytesA_one, bytesA_plains, List.take_of_length_le, List.drop_of_length_le, Nat.add_zero, V.one, Nat.reduceLeDiff, List.all_cons, List.all_nil, ne_eq, not_false_eq_true, Nat.zero_le, R.hw, hs, List.set_set, d0, d0', dp]; rfl) ?_ | refine To.op1 hxE2 (by simp only [go_sem, eqs hxE2, reduceIte, Nat.reduceEqDiff, Nat.reduceAdd, Nat.reduceMul, Nat.reduceLT, Nat.reduceLeDiff, Int.reduceLT, Int.reduceLE, Int.reduceEq, reduceCtorEq, Int.reduceBEq, Int.reduceBNe, Int.reduceToNat, Nat.reduceSub, Nat.reduceDiv, Int.reduceNeg, Int.reduceAdd, Int.reduceSub, Int.reduceMul, Heap.gets, Heap.sets, Heap.get, bytesA_length, bytesA_one, bytesA_plains, List.take_of_length_le, List.drop_of_length_le, Nat.add_zero, V.one, Nat.reduceLeDiff, List.all_cons, List.all_nil, ne_eq, not_false_eq_true, Nat.zero_le, R.hw, hs, List.set_set, d0, d0', dp]; rfl) ?_ | refine To.nop hxE2 ?_ | (refine To.condT hxE2 ?_ ?_; focus (simp only [go_sem, eqs hxE2, reduceIte, Nat.reduceEqDiff, Nat.reduceAdd, Nat.reduceMul, Nat.reduceLT, Nat.reduceLeDiff, Int.reduceLT, Int.reduceLE, Int.reduceEq, reduceCtorEq, Int.reduceBEq, Int.reduceBNe, Int.reduceToNat, Nat.reduceSub, Nat.reduceDiv, Int.reduceNeg, Int.reduceAdd, Int.reduceSub, Int.reduceMul, Heap.gets, Heap.sets, Heap.get, bytesA_length, bytesA_one, bytesA_plains, List.take_of_length_le, List.drop_of_length_le, Nat.add_zero, V.one, Nat.reduceLeDiff, List.all_cons, List.all_nil, ne_eq, not_false_eq_true, Nat.zero_le, R.hw, hs, List.set_set, d0, d0', dp]; done)) | (refine To.condF hxE2 ?_ ?_; focus (simp only [go_sem, eqs hxE2, reduceIte, Nat.reduceEqDiff, Nat.reduceAdd, Nat.reduceMul, Nat.reduceLT, Nat.reduceLeDiff, Int.reduceLT, Int.reduceLE, Int.reduceEq, reduceCtorEq, Int.reduceBEq, Int.reduceBNe, Int.reduceToNat, Nat.reduceSub, Nat.reduceDiv, Int.reduceNeg, Int.reduceAdd, Int.reduceSub, Int.reduceMul, Heap.gets, Heap.sets, Heap.get, bytesA_length, bytesA_one, bytesA_plains, List.take_of_length_le, List.drop_of_length_le, Nat.add_zero, V.one, Nat.reduceLeDiff, List.all_cons, List.all_nil, ne_eq, not_false_eq_true, Nat.zero_le, R.hw, hs, List.set_set, d0, d0', dp]; done)) | refine To.block hxE2 ?_ | refine To.scope hxE2 ?_ | refine To.ret hxE2 ?_ | refine To.exit hxE2 ?_ | refine To.skip hxE2 ?_ | refine To.label hxE2 ?_))
    try simp only [andThen, outOf]
    refine ⟨_, _, fin1 (i := 2) rfl, by simp only [get_fput, reduceIte, Nat.reduceEqDiff], ?_⟩
    obtain ⟨d2, q1, q2, q3⟩ := leave_same2 (e := e) (d := d) (d' := o.length) (v := .bool true) rfl rfl (fun _ => rfl)
    exact ⟨o, d2, by simp only [get_fput, reduceIte, Nat.reduceEqDiff]; exact q1, R, Rx.refl, by omega, .inl rfl⟩
end
end Go.Proofs.Ytfbkeieoeagkdaa

/- Disk: the document's disk: New, Write. -/
namespace Go.Proofs.Ytfbkeieoeagkdaa
open Go AM
set_option linter.unusedSimpArgs false
set_option linter.unusedVariables false
set_option maxRecDepth 100000

theorem reps_bools : ∀ N : Nat, reps [V.bool false] N = boC (List.replicate N false)
  | 0 => rfl
  | N + 1 => by
    rw [List.replicate_succ]
    unfold boC
    rw [List.map_cons]
    have := reps_bools N
    unfold boC at this
    rw [← this]; rfl

set_option maxHeartbeats 4000000 in
theorem newR_q {o : List AM.Obj} {e d N : Nat} (h1 : 1 ≤ N) (h2 : N ≤ 512) : ∃ v oh, Den FF E2 21 [.int .i64 (N : Int)] ⟨o, e, d⟩ = some (v, oh) ∧ v = .val (.ptr (o.length + 3) 0) ∧
    ∃ rr e' d', rr.length = 4 ∧ oh.getD ⟨o, e, d⟩ = ⟨o ++ rr, e', d'⟩ ∧ RD (o ++ rr) (o.length + 3) o.length (o.length + 1) (o.length + 2) (-1) false (List.replicate N (zs 64)) (List.replicate N (zs 64)) (List.replicate N false) := by
  refine To.denE hxE2 (f := 21) (a := af21) rfl (E2_none rfl) (Nat.le_of_ble_eq_true rfl) ?_
  have d1 : decide ((N : Int) < 1) = false := decide_eq_false (by omega)
  have d2 : decide ((512 : Int) < (N : Int)) = false := decide_eq_false (by omega)
  have c1 : (0 : Int) ≤ (N : Int) := by omega
  have c2 : (N : Int) * ((64 : Nat) : Int) ≤ (AM.ok1 : Int) := by unfold AM.ok1; omega
  have c3 : (N : Int) ≤ (AM.ok1 : Int) := by unfold AM.ok1; omega
  have c4 : (N : Int) * ((1 : Nat) : Int) ≤ (AM.ok1 : Int) := by unfold AM.ok1; omega
  have c5 : (N : Int) * 1 ≤ (AM.ok1 : Int) := by unfold AM.ok1; omega
  have c2' : (N : Int) * 64 ≤ (AM.ok1 : Int) := c2
  have oz : ∀ ok, V.onlys ok (reps z64 N) = true := fun ok => V.onlys_of_scs (n := 0) (fun l hl => absurd hl (Nat.not_lt_zero l)) _ (V.scs_of_plains 0 _ (reps_plains z64 rfl N))
  have ob : ∀ ok, V.onlys ok (reps (V.bool false :: []) N) = true := fun ok => V.onlys_of_scs (n := 0) (fun l hl => absurd hl (Nat.not_lt_zero l)) _ (V.scs_of_plains 0 _ (reps_plains (V.bool false :: []) rfl N))
  have k0 : List.contains (2 :: 1 :: 0 :: []) 0 = true := rfl
  have k1 : List.contains (2 :: 1 :: 0 :: []) 1 = true := rfl
  have k2 : List.contains (2 :: 1 :: 0 :: []) 2 = true := rfl
  have k3 : List.contains (3 :: 2 :: 1 :: 0 :: []) 3 = true := rfl
  (repeat' (first | refine To.seq hxE2 ?_ | refine To.op0 hxE2 (by simp only [go_sem, eqs hxE2, reduceIte, Nat.reduceEqDiff, Nat.reduceAdd, Nat.reduceMul, Nat.reduceLT, Nat.reduceLeDiff, Int.reduceLT, Int.reduceLE, Int.reduceEq, reduceCtorEq, Int.reduceBEq, Int.reduceBNe, Int.reduceToNat, Nat.reduceSub, Nat.reduceDiv, Int.reduceNeg, Int.reduceAdd, Int.reduceSub, Int.reduceMul, Heap.gets, Heap.sets, Heap.get, bytesA_length, bytesA_one, bytesA_plains, List.take_of_length_le, List.drop_of_length_le, Nat.add_zero, V.one, Nat.reduceLeDiff, List.all_cons, List.all_nil, ne_eq, not_false_eq_true, Nat.zero_le, d1, d2, c1, c2, c2', c3, c4, c5, Int.le_refl, Int.toNat_natCast, oz, ob, and_self, k0, k1, k2, k3, Nat.sub_self, Nat.add_sub_cancel_left, Bool.or_true, Bool.and_self, Bool.and_true]; rfl) ?_ | refine To.op1 hxE2 (by simp only [go_sem, eqs hxE2, reduceIte, Nat.reduceEqDiff, Nat.reduceAdd, Nat.reduceMul, Nat.reduceLT, Nat.reduceLeDiff, Int.reduceLT, Int.reduceLE, Int.reduceEq, reduceCtorEq, Int.reduceBEq, Int.reduceBNe, Int.reduceToNat, Nat.reduceSub, Nat.reduceDiv, Int.reduceNeg, Int.reduceAdd, Int.reduceSub, Int.reduceMul, Heap.gets, Heap.sets, Heap.get, bytesA_length, bytesA_one, bytesA_plains, List.take_of_length_le, List.drop_of_length_le, Nat.add_zero, V.one, Nat.reduceLeDiff, List.all_cons, List.all_nil, ne_eq, not_false_eq_true, Nat.zero_le, d1, d2, c1, c2, c2', c3, c4, c5, Int.le_refl, Int.toNat_natCast, oz, ob, and_self, k0, k1, k2, k3, Nat.sub_self, Nat.add_sub_cancel_left, Bool.or_true, Bool.and_self, Bool.and_true]; rfl) ?_ | refine To.nop hxE2 ?_ | (refine To.condT hxE2 ?_ ?_; focus (simp only [go_sem, eqs hxE2, reduceIte, Nat.reduceEqDiff, Nat.reduceAdd, Nat.reduceMul, Nat.reduceLT, Nat.reduceLeDiff, Int.reduceLT, Int.reduceLE, Int.reduceEq, reduceCtorEq, Int.reduceBEq, Int.reduceBNe, Int.reduceToNat, Nat.reduceSub, Nat.reduceDiv, Int.reduceNeg, Int.reduceAdd, Int.reduceSub, Int.reduceMul, Heap.gets, Heap.sets, Heap.get, bytesA_length, bytesA_one, bytesA_plains, List.take_of_length_le, List.drop_of_length_le, Nat.add_zero, V.one, Nat.reduceLeDiff, List.all_cons, List.all_nil, ne_eq, not_false_eq_true, Nat.zero_le, d1, d2, c1, c2, c2', c3, c4, c5, Int.le_refl, Int.toNat_natCast, oz, ob, and_self, k0, k1, k2, k3, Nat.sub_self, Nat.add_sub_cancel_left, Bool.or_true, Bool.and_self, Bool.and_true]; done)) | (refine To.condF hxE2 ?_ ?_; focus (simp only [go_sem, eqs hxE2, reduceIte, Nat.reduceEqDiff, Nat.reduceAdd, Nat.reduceMul, Nat.reduceLT, Nat.reduceLeDiff, Int.reduceLT, Int.reduceLE, Int.reduceEq, reduceCtorEq, Int.reduceBEq, Int.reduceBNe, Int.reduceToNat, Nat.reduceSub, Nat.reduceDiv, Int.reduceNeg, Int.reduceAdd, Int.reduceSub, Int.reduceMul, Heap.gets, Heap.sets, Heap.get, bytesA_length, bytesA_one, bytesA_plains, List.take_of_length_le, List.drop_of_length_le, Nat.add_zero, V.one, Nat.reduceLeDiff, List.all_cons, List.all_nil, ne_eq, not_false_eq_true, Nat.zero_le, d1, d2, c1, c2, c2', c3, c4, c5, Int.le_refl, Int.toNat_natCast, oz, ob, and_self, k0, k1, k2, k3, Nat.sub_self, Nat.add_sub_cancel_left, Bool.or_true, Bool.and_self, Bool.and_true]; done)) | refine To.block hxE2 ?_ | refine To.scope hxE2 ?_ | refine To.ret hxE2 ?_ | refine To.exit hxE2 ?_ | refine To.skip hxE2 ?_ | refine To.label hxE2 ?_ | refine To.draw0 hxE2 ?_ | refine ToD.op0 (by simp only [go_sem, eqs hxE2, reduceIte, Nat.reduceEqDiff, Nat.reduceAdd, Nat.reduceMul, Nat.reduceLT, Nat.reduceLeDiff, Int.reduceLT, Int.reduceLE, Int.reduceEq, reduceCtorEq, Int.reduceBEq, Int.reduceBNe, Int.reduceToNat, Nat.reduceSub, Nat.reduceDiv, Int.reduceNeg, Int.reduceAdd, Int.reduceSub, Int.reduceMul, Heap.gets, Heap.sets, Heap.get, bytesA_length, bytesA_one, bytesA_plains, List.take_of_length_le, List.drop_of_length_le, Nat.add_zero, V.one, Nat.reduceLeDiff, List.all_cons, List.all_nil, ne_eq, not_false_eq_true, Nat.zero_le, d1, d2, c1, c2, c2', c3, c4, c5, Int.le_refl, Int.toNat_natCast, oz, ob, and_self, k0, k1, k2, k3, Nat.sub_self, Nat.add_sub_cancel_left, Bool.or_true, Bool.and_self, Bool.and_true]; rfl) (by simp only [put_some, put_none]; rfl) ?_ | refine ToD.op1 (by simp only [go_sem, eqs hxE2, reduceIte, Nat.reduceEqDiff, Nat.reduceAdd, Nat.reduceMul, Nat.reduceLT, Nat.reduceLeDiff, Int.reduceLT, Int.reduceLE, Int.reduceEq, reduceCtorEq, Int.reduceBEq, Int.reduceBNe, Int.reduceToNat, Nat.reduceSub, Nat.reduceDiv, Int.reduceNeg, Int.reduceAdd, Int.reduceSub, Int.reduceMul, Heap.gets, Heap.sets, Heap.get, bytesA_length, bytesA_one, bytesA_plains, List.take_of_length_le, List.drop_of_length_le, Nat.add_zero, V.one, Nat.reduceLeDiff, List.all_cons, List.all_nil, ne_eq, not_false_eq_true, Nat.zero_le, d1, d2, c1, c2, c2', c3, c4, c5, Int.le_refl, Int.toNat_natCast, oz, ob, and_self, k0, k1, k2, k3, Nat.sub_self, Nat.add_sub_cancel_left, Bool.or_true, Bool.and_self, Bool.and_true]; rfl) (by simp only [put_some, put_none]; rfl) (by simp only [KD.app, go_sem, eqs hxE2, reduceIte, Nat.reduceEqDiff, Nat.reduceAdd, Nat.reduceMul, Nat.reduceLT, Nat.reduceLeDiff, Int.reduceLT, Int.reduceLE, Int.reduceEq, reduceCtorEq, Int.reduceBEq, Int.reduceBNe, Int.reduceToNat, Nat.reduceSub, Nat.reduceDiv, Int.reduceNeg, Int.reduceAdd, Int.reduceSub, Int.reduceMul, Heap.gets, Heap.sets, Heap.get, bytesA_length, bytesA_one, bytesA_plains, List.take_of_length_le, List.drop_of_length_le, Nat.add_zero, V.one, Nat.reduceLeDiff, List.all_cons, List.all_nil, ne_eq, not_false_eq_true, Nat.zero_le, d1, d2, c1, c2, c2', c3, c4, c5, Int.le_refl, Int.toNat_natCast, oz, ob, and_self, k0, k1, k2, k3, Nat.sub_self, Nat.add_sub_cancel_left, Bool.or_true, Bool.and_self, Bool.and_true]; rfl) ?_ | refine ToD.nop ?_ | refine To.draw hxE2 (by decide) ?_))
  try simp only [andThen, outOf]
  refine ⟨_, _, fin1 (i := 2) rfl, by simp only [go_sem, eqs hxE2, reduceIte, Nat.reduceEqDiff, Nat.reduceAdd, Nat.reduceMul, Nat.reduceLT, Nat.reduceLeDiff, Int.reduceLT, Int.reduceLE, Int.reduceEq, reduceCtorEq, Int.reduceBEq, Int.reduceBNe, Int.reduceToNat, Nat.reduceSub, Nat.reduceDiv, Int.reduceNeg, Int.reduceAdd, Int.reduceSub, Int.reduceMul], ?_⟩
  have hlv : ∀ h' : Heap, ∀ x : V, V.plain x = false → (leave ⟨o, e, d⟩ h' x) = some ⟨h'.o, min e h'.e, min d h'.d⟩ := fun h' x hx => leave_some hx
  rw [hlv _ _ (by simp only [get_fput, reduceIte, Nat.reduceEqDiff]; rfl)]
  refine ⟨[.cells .ex 31 0 (pgC (List.replicate N (zs 64))), .cells .ex 31 0 (pgC (List.replicate N (zs 64))), .cells .ex 4 0 (boC (List.replicate N false)), .cells .ex 54 0 [.slice o.length 0 N 64, .slice (o.length + 1) 0 N 64, .slice (o.length + 2) 0 N 1, .int .i64 (-1), .bool false]], min e (min o.length o.length), min d (min o.length o.length), rfl, ?_, ?_⟩
  · rw [← reps_pages, ← reps_bools]; rfl
  · refine ⟨?_, ?_, ?_, ?_, by simp, by simp, ?_, ?_, by omega⟩
    · rw [List.length_replicate]; exact app_getk _ _ 3
    · exact app_get0 _ _ _
    · exact app_getk _ _ 1
    · exact app_getk _ _ 2
    · intro p hp
      rw [List.eq_of_mem_replicate hp]; rfl
    · intro p hp
      rw [List.eq_of_mem_replicate hp]; rfl
set_option maxHeartbeats 4000000 in
theorem newR_no {o : List AM.Obj} {e d : Nat} {n : Int} (h : n < 1 ∨ 512 < n) : Den FF E2 21 [.int .i64 n] ⟨o, e, d⟩ = some (.val .nilp, none) := by
  refine To.den hxE2 (f := 21) (a := af21) rfl (E2_none rfl) (Nat.le_of_ble_eq_true rfl) ?_
  by_cases h1 : n < 1
  · have d1 : decide (n < 1) = true := decide_eq_true h1
    (repeat' (first | refine To.seq hxE2 ?_ | refine To.op0 hxE2 (by simp only [go_sem, eqs hxE2, reduceIte, Nat.reduceEqDiff, Nat.reduceAdd, Nat.reduceMul, Nat.reduceLT, Nat.reduceLeDiff, Int.reduceLT, Int.reduceLE, Int.reduceEq, reduceCtorEq, Int.reduceBEq, Int.reduceBNe, Int.reduceToNat, Nat.reduceSub, Nat.reduceDiv, Int.reduceNeg, Int.reduceAdd, Int.reduceSub, Int.reduceMul, Heap.gets, Heap.sets, Heap.get, bytesA_length, bytesA_one, bytesA_plains, List.take_of_length_le, List.drop_of_length_le, Nat.add_zero, V.one, Nat.reduceLeDiff, List.all_cons, List.all_nil, ne_eq, not_false_eq_true, Nat.zero_le, d1]; rfl) ?_ | refine To.op1 hxE2 (by simp only [go_sem, eqs hxE2, reduceIte, Nat.reduceEqDiff, Nat.reduceAdd, Nat.reduceMul, Nat.reduceLT, Nat.reduceLeDiff, Int.reduceLT, Int.reduceLE, Int.reduceEq, reduceCtorEq, Int.reduceBEq, Int.reduceBNe, Int.reduceToNat, Nat.reduceSub, Nat.reduceDiv, Int.reduceNeg, Int.reduceAdd, Int.reduceSub, Int.reduceMul, Heap.gets, Heap.sets, Heap.get, bytesA_length, bytesA_one, bytesA_plains, List.take_of_length_le, List.drop_of_length_le, Nat.add_zero, V.one, Nat.reduceLeDiff, List.all_cons, List.all_nil, ne_eq, not_false_eq_true, Nat.zero_le, d1]; rfl) ?_ | refine To.nop hxE2 ?_ | (refine To.condT hxE2 ?_ ?_; focus (simp only [go_sem, eqs hxE2, reduceIte, Nat.reduceEqDiff, Nat.reduceAdd, Nat.reduceMul, Nat.reduceLT, Nat.reduceLeDiff, Int.reduceLT, Int.reduceLE, Int.reduceEq, reduceCtorEq, Int.reduceBEq, Int.reduceBNe, Int.reduceToNat, Nat.reduceSub, Nat.reduceDiv, Int.reduceNeg, Int.reduceAdd, Int.reduceSub, Int.reduceMul, Heap.gets, Heap.sets, Heap.get, bytesA_length, bytesA_one, bytesA_plains, List.take_of_length_le, List.drop_of_length_le, Nat.add_zero, V.one, Nat.reduceLeDiff, List.all_cons, List.all_nil, ne_eq, not_false_eq_true, Nat.zero_le, d1]; done)) | (refine To.condF hxE2 ?_ ?_; focus (simp only [go_sem, eqs hxE2, reduceIte, Nat.reduceEqDiff, Nat.reduceAdd, Nat.reduceMul, Nat.reduceLT, Nat.reduceLeDiff, Int.reduceLT, Int.reduceLE, Int.reduceEq, reduceCtorEq, Int.reduceBEq, Int.reduceBNe, Int.reduceToNat, Nat.reduceSub, Nat.reduceDiv, Int.reduceNeg, Int.reduceAdd, Int.reduceSub, Int.reduceMul, Heap.gets, Heap.sets, Heap.get, bytesA_length, bytesA_one, bytesA_plains, List.take_of_length_le, List.drop_of_length_le, Nat.add_zero, V.one, Nat.reduceLeDiff, List.all_cons, List.all_nil, ne_eq, not_false_eq_true, Nat.zero_le, d1]; done)) | refine To.block hxE2 ?_ | refine To.scope hxE2 ?_ | refine To.ret hxE2 ?_ | refine To.exit hxE2 ?_ | refine To.skip hxE2 ?_ | refine To.label hxE2 ?_))
    try simp only [andThen, outOf]
    exact fin_k1 (i := 2) (v := .nilp) rfl (by simp only [go_sem, eqs hxE2, reduceIte, Nat.reduceEqDiff, Nat.reduceAdd, Nat.reduceMul, Nat.reduceLT, Nat.reduceLeDiff, Int.reduceLT, Int.reduceLE, Int.reduceEq, reduceCtorEq, Int.reduceBEq, Int.reduceBNe, Int.reduceToNat, Nat.reduceSub, Nat.reduceDiv, Int.reduceNeg, Int.reduceAdd, Int.reduceSub, Int.reduceMul]) rfl (Kp.enter' _)
  · have d1 : decide (n < 1) = false := decide_eq_false h1
    have d2 : decide (512 < n) = true := decide_eq_true (by omega)
    (repeat' (first | refine To.seq hxE2 ?_ | refine To.op0 hxE2 (by simp only [go_sem, eqs hxE2, reduceIte, Nat.reduceEqDiff, Nat.reduceAdd, Nat.reduceMul, Nat.reduceLT, Nat.reduceLeDiff, Int.reduceLT, Int.reduceLE, Int.reduceEq, reduceCtorEq, Int.reduceBEq, Int.reduceBNe, Int.reduceToNat, Nat.reduceSub, Nat.reduceDiv, Int.reduceNeg, Int.reduceAdd, Int.reduceSub, Int.reduceMul, Heap.gets, Heap.sets, Heap.get, bytesA_length, bytesA_one, bytesA_plains, List.take_of_length_le, List.drop_of_length_le, Nat.add_zero, V.one, Nat.reduceLeDiff, List.all_cons, List.all_nil, ne_eq, not_false_eq_true, Nat.zero_le, d1, d2]; rfl) ?_ | refine To.op1 hxE2 (by simp only [go_sem, eqs hxE2, reduceIte, Nat.reduceEqDiff, Nat.reduceAdd, Nat.reduceMul, Nat.reduceLT, Nat.reduceLeDiff, Int.reduceLT, Int.reduceLE, Int.reduceEq, reduceCtorEq, Int.reduceBEq, Int.reduceBNe, Int.reduceToNat, Nat.reduceSub, Nat.reduceDiv, Int.reduceNeg, Int.reduceAdd, Int.reduceSub, Int.reduceMul, Heap.gets, Heap.sets, Heap.get, bytesA_length, bytesA_one, bytesA_plains, List.take_of_length_le, List.drop_of_length_le, Nat.add_zero, V.one, Nat.reduceLeDiff, List.all_cons, List.all_nil, ne_eq, not_false_eq_true, Nat.zero_le, d1, d2]; rfl) ?_ | refine To.nop hxE2 ?_ | (refine To.condT hxE2 ?_ ?_; focus (simp only [go_sem, eqs hxE2, reduceIte, Nat.reduceEqDiff, Nat.reduceAdd, Nat.reduceMul, Nat.reduceLT, Nat.reduceLeDiff, Int.reduceLT, Int.reduceLE, Int.reduceEq, reduceCtorEq, Int.reduceBEq, Int.reduceBNe, Int.reduceToNat, Nat.reduceSub, Nat.reduceDiv, Int.reduceNeg, Int.reduceAdd, Int.reduceSub, Int.reduceMul, Heap.gets, Heap.sets, Heap.get, bytesA_length, bytesA_one, bytesA_plains, List.take_of_length_le, List.drop_of_length_le, Nat.add_zero, V.one, Nat.reduceLeDiff, List.all_cons, List.all_nil, ne_eq, not_false_eq_true, Nat.zero_le, d1, d2]; done)) | (refine To.condF hxE2 ?_ ?_; focus (simp only [go_sem, eqs hxE2, reduceIte, Nat.reduceEqDiff, Nat.reduceAdd, Nat.reduceMul, Nat.reduceLT, Nat.reduceLeDiff, Int.reduceLT, Int.reduceLE, Int.reduceEq, reduceCtorEq, Int.reduceBEq, Int.reduceBNe, Int.reduceToNat, Nat.reduceSub, Nat.reduceDiv, Int.reduceNeg, Int.reduceAdd, Int.reduceSub, Int.reduceMul, Heap.gets, Heap.sets, Heap.get, bytesA_length, bytesA_one, bytesA_plains, List.take_of_length_le, List.drop_of_length_le, Nat.add_zero, V.one, Nat.reduceLeDiff, List.all_cons, List.all_nil, ne_eq, not_false_eq_true, Nat.zero_le, d1, d2]; done)) | refine To.block hxE2 ?_ | refine To.scope hxE2 ?_ | refine To.ret hxE2 ?_ | refine To.exit hxE2 ?_ | refine To.skip hxE2 ?_ | refine To.label hxE2 ?_))
    try simp only [andThen, outOf]
    exact fin_k1 (i := 2) (v := .nilp) rfl (by simp only [go_sem, eqs hxE2, reduceIte, Nat.reduceEqDiff, Nat.reduceAdd, Nat.reduceMul, Nat.reduceLT, Nat.reduceLeDiff, Int.reduceLT, Int.reduceLE, Int.reduceEq, reduceCtorEq, Int.reduceBEq, Int.reduceBNe, Int.reduceToNat, Nat.reduceSub, Nat.reduceDiv, Int.reduceNeg, Int.reduceAdd, Int.reduceSub, Int.reduceMul]) rfl (Kp.enter' _)

section
variable {o : List AM.Obj} {e d w l1 l2 l3 : Nat} {left : Int} {down : Bool} {last nw : List Pg} {on : List Bool}
set_option maxHeartbeats 4000000 in
theorem rwrite_no (R : RD o w l1 l2 l3 left down last nw on) {i : Int} {p : Pg} (hp : p.length = 64) (h0 : rerr down last.length i ≠ 0) : Den FF E2 22 [.ptr w 0, .int .i64 i, .agg (bytesA p)] ⟨o, e, d⟩ = some (.val (.int .i64 (rerr down last.length i)), none) := by
  refine To.den hxE2 (f := 22) (a := af22) rfl (E2_none rfl) (Nat.le_of_ble_eq_true rfl) ?_
  have gw : ∀ r, (o ++ r)[w]? = some (.cells .ex 54 0 [.slice l1 0 last.length 64, .slice l2 0 last.length 64, .slice l3 0 last.length 1, .int .i64 left, .bool down]) := fun r => app_old R.hw r
  cases down
  case true =>
    have hr : rerr true last.length i = 5 := rfl
    rw [hr]
    (repeat' (first | refine To.seq hxE2 ?_ | refine To.op0 hxE2 (by simp only [go_sem, eqs hxE2, reduceIte, Nat.reduceEqDiff, Nat.reduceAdd, Nat.reduceMul, Nat.reduceLT, Nat.reduceLeDiff, Int.reduceLT, Int.reduceLE, Int.reduceEq, reduceCtorEq, Int.reduceBEq, Int.reduceBNe, Int.reduceToNat, Nat.reduceSub, Nat.reduceDiv, Int.reduceNeg, Int.reduceAdd, Int.reduceSub, Int.reduceMul, Heap.gets, Heap.sets, Heap.get, bytesA_length, bytesA_one, bytesA_plains, List.take_of_length_le, List.drop_of_length_le, Nat.add_zero, V.one, Nat.reduceLeDiff, List.all_cons, List.all_nil, ne_eq, not_false_eq_true, Nat.zero_le, gw]; rfl) ?_ | refine To.op1 hxE2 (by simp only [go_sem, eqs hxE2, reduceIte, Nat.reduceEqDiff, Nat.reduceAdd, Nat.reduceMul, Nat.reduceLT, Nat.reduceLeDiff, Int.reduceLT, Int.reduceLE, Int.reduceEq, reduceCtorEq, Int.reduceBEq, Int.reduceBNe, Int.reduceToNat, Nat.reduceSub, Nat.reduceDiv, Int.reduceNeg, Int.reduceAdd, Int.reduceSub, Int.reduceMul, Heap.gets, Heap.sets, Heap.get, bytesA_length, bytesA_one, bytesA_plains, List.take_of_length_le, List.drop_of_length_le, Nat.add_zero, V.one, Nat.reduceLeDiff, List.all_cons, List.all_nil, ne_eq, not_false_eq_true, Nat.zero_le, gw]; rfl) ?_ | refine To.nop hxE2 ?_ | (refine To.condT hxE2 ?_ ?_; focus (simp only [go_sem, eqs hxE2, reduceIte, Nat.reduceEqDiff, Nat.reduceAdd, Nat.reduceMul, Nat.reduceLT, Nat.reduceLeDiff, Int.reduceLT, Int.reduceLE, Int.reduceEq, reduceCtorEq, Int.reduceBEq, Int.reduceBNe, Int.reduceToNat, Nat.reduceSub, Nat.reduceDiv, Int.reduceNeg, Int.reduceAdd, Int.reduceSub, Int.reduceMul, Heap.gets, Heap.sets, Heap.get, bytesA_length, bytesA_one, bytesA_plains, List.take_of_length_le, List.drop_of_length_le, Nat.add_zero, V.one, Nat.reduceLeDiff, List.all_cons, List.all_nil, ne_eq, not_false_eq_true, Nat.zero_le, gw]; done)) | (refine To.condF hxE2 ?_ ?_; focus (simp only [go_sem, eqs hxE2, reduceIte, Nat.reduceEqDiff, Nat.reduceAdd, Nat.reduceMul, Nat.reduceLT, Nat.reduceLeDiff, Int.reduceLT, Int.reduceLE, Int.reduceEq, reduceCtorEq, Int.reduceBEq, Int.reduceBNe, Int.reduceToNat, Nat.reduceSub, Nat.reduceDiv, Int.reduceNeg, Int.reduceAdd, Int.reduceSub, Int.reduceMul, Heap.gets, Heap.sets, Heap.get, bytesA_length, bytesA_one, bytesA_plains, List.take_of_length_le, List.drop_of_length_le, Nat.add_zero, V.one, Nat.reduceLeDiff, List.all_cons, List.all_nil, ne_eq, not_false_eq_true, Nat.zero_le, gw]; done)) | refine To.block hxE2 ?_ | refine To.scope hxE2 ?_ | refine To.ret hxE2 ?_ | refine To.exit hxE2 ?_ | refine To.skip hxE2 ?_ | refine To.label hxE2 ?_))
    try simp only [andThen, outOf]
    exact fin_k1 (i := 6) (v := .int .i64 5) rfl (by simp only [go_sem, eqs hxE2, reduceIte, Nat.reduceEqDiff, Nat.reduceAdd, Nat.reduceMul, Nat.reduceLT, Nat.reduceLeDiff, Int.reduceLT, Int.reduceLE, Int.reduceEq, reduceCtorEq, Int.reduceBEq, Int.reduceBNe, Int.reduceToNat, Nat.reduceSub, Nat.reduceDiv, Int.reduceNeg, Int.reduceAdd, Int.reduceSub, Int.reduceMul]) rfl (kp_app (by omega) (by omega))
  have hr : rerr false last.length i = 22 := by
    unfold rerr at h0 ⊢
    rw [if_neg (by decide)] at h0 ⊢
    split
    · rfl
    · rename_i h; rw [if_neg h] at h0; exact absurd rfl h0
  have hi : i < 0 ∨ (last.length : Int) ≤ i := by
    unfold rerr at h0
    rw [if_neg (by decide)] at h0
    by_cases h : i < 0 ∨ (last.length : Int) ≤ i
    · exact h
    · rw [if_neg h] at h0; exact absurd rfl h0
  rw [hr]
  by_cases h1 : i < 0
  · have d1 : decide (i < 0) = true := decide_eq_true h1
    (repeat' (first | refine To.seq hxE2 ?_ | refine To.op0 hxE2 (by simp only [go_sem, eqs hxE2, reduceIte, Nat.reduceEqDiff, Nat.reduceAdd, Nat.reduceMul, Nat.reduceLT, Nat.reduceLeDiff, Int.reduceLT, Int.reduceLE, Int.reduceEq, reduceCtorEq, Int.reduceBEq, Int.reduceBNe, Int.reduceToNat, Nat.reduceSub, Nat.reduceDiv, Int.reduceNeg, Int.reduceAdd, Int.reduceSub, Int.reduceMul, Heap.gets, Heap.sets, Heap.get, bytesA_length, bytesA_one, bytesA_plains, List.take_of_length_le, List.drop_of_length_le, Nat.add_zero, V.one, Nat.reduceLeDiff, List.all_cons, List.all_nil, ne_eq, not_false_eq_true, Nat.zero_le, gw, d1]; rfl) ?_ | refine To.op1 hxE2 (by simp only [go_sem, eqs hxE2, reduceIte, Nat.reduceEqDiff, Nat.reduceAdd, Nat.reduceMul, Nat.reduceLT, Nat.reduceLeDiff, Int.reduceLT, Int.reduceLE, Int.reduceEq, reduceCtorEq, Int.reduceBEq, Int.reduceBNe, Int.reduceToNat, Nat.reduceSub, Nat.reduceDiv, Int.reduceNeg, Int.reduceAdd, Int.reduceSub, Int.reduceMul, Heap.gets, Heap.sets, Heap.get, bytesA_length, bytesA_one, bytesA_plains, List.take_of_length_le, List.drop_of_length_le, Nat.add_zero, V.one, Nat.reduceLeDiff, List.all_cons, List.all_nil, ne_eq, not_false_eq_true, Nat.zero_le, gw, d1]; rfl) ?_ | refine To.nop hxE2 ?_ | (refine To.condT hxE2 ?_ ?_; focus (simp only [go_sem, eqs hxE2, reduceIte, Nat.reduceEqDiff, Nat.reduceAdd, Nat.reduceMul, Nat.reduceLT, Nat.reduceLeDiff, Int.reduceLT, Int.reduceLE, Int.reduceEq, reduceCtorEq, Int.reduceBEq, Int.reduceBNe, Int.reduceToNat, Nat.reduceSub, Nat.reduceDiv, Int.reduceNeg, Int.reduceAdd, Int.reduceSub, Int.reduceMul, Heap.gets, Heap.sets, Heap.get, bytesA_length, bytesA_one, bytesA_plains, List.take_of_length_le, List.drop_of_length_le, Nat.add_zero, V.one, Nat.reduceLeDiff, List.all_cons, List.all_nil, ne_eq, not_false_eq_true, Nat.zero_le, gw, d1]; done)) | (refine To.condF hxE2 ?_ ?_; focus (simp only [go_sem, eqs hxE2, reduceIte, Nat.reduceEqDiff, Nat.reduceAdd, Nat.reduceMul, Nat.reduceLT, Nat.reduceLeDiff, Int.reduceLT, Int.reduceLE, Int.reduceEq, reduceCtorEq, Int.reduceBEq, Int.reduceBNe, Int.reduceToNat, Nat.reduceSub, Nat.reduceDiv, Int.reduceNeg, Int.reduceAdd, Int.reduceSub, Int.reduceMul, Heap.gets, Heap.sets, Heap.get, bytesA_length, bytesA_one, bytesA_plains, List.take_of_length_le, List.drop_of_length_le, Nat.add_zero, V.one, Nat.reduceLeDiff, List.all_cons, List.all_nil, ne_eq, not_false_eq_true, Nat.zero_le, gw, d1]; done)) | refine To.block hxE2 ?_ | refine To.scope hxE2 ?_ | refine To.ret hxE2 ?_ | refine To.exit hxE2 ?_ | refine To.skip hxE2 ?_ | refine To.label hxE2 ?_))
    try simp only [andThen, outOf]
    exact fin_k1 (i := 6) (v := .int .i64 22) rfl (by simp only [go_sem, eqs hxE2, reduceIte, Nat.reduceEqDiff, Nat.reduceAdd, Nat.reduceMul, Nat.reduceLT, Nat.reduceLeDiff, Int.reduceLT, Int.reduceLE, Int.reduceEq, reduceCtorEq, Int.reduceBEq, Int.reduceBNe, Int.reduceToNat, Nat.reduceSub, Nat.reduceDiv, Int.reduceNeg, Int.reduceAdd, Int.reduceSub, Int.reduceMul]) rfl (kp_app (by omega) (by omega))
  · have d1 : decide (i < 0) = false := decide_eq_false h1
    have d2 : decide ((last.length : Int) ≤ i) = true := decide_eq_true (by omega)
    (repeat' (first | refine To.seq hxE2 ?_ | refine To.op0 hxE2 (by simp only [go_sem, eqs hxE2, reduceIte, Nat.reduceEqDiff, Nat.reduceAdd, Nat.reduceMul, Nat.reduceLT, Nat.reduceLeDiff, Int.reduceLT, Int.reduceLE, Int.reduceEq, reduceCtorEq, Int.reduceBEq, Int.reduceBNe, Int.reduceToNat, Nat.reduceSub, Nat.reduceDiv, Int.reduceNeg, Int.reduceAdd, Int.reduceSub, Int.reduceMul, Heap.gets, Heap.sets, Heap.get, bytesA_length, bytesA_one, bytesA_plains, List.take_of_length_le, List.drop_of_length_le, Nat.add_zero, V.one, Nat.reduceLeDiff, List.all_cons, List.all_nil, ne_eq, not_false_eq_true, Nat.zero_le, gw, d1, d2]; rfl) ?_ | refine To.op1 hxE2 (by simp only [go_sem, eqs hxE2, reduceIte, Nat.reduceEqDiff, Nat.reduceAdd, Nat.reduceMul, Nat.reduceLT, Nat.reduceLeDiff, Int.reduceLT, Int.reduceLE, Int.reduceEq, reduceCtorEq, Int.reduceBEq, Int.reduceBNe, Int.reduceToNat, Nat.reduceSub, Nat.reduceDiv, Int.reduceNeg, Int.reduceAdd, Int.reduceSub, Int.reduceMul, Heap.gets, Heap.sets, Heap.get, bytesA_length, bytesA_one, bytesA_plains, List.take_of_length_le, List.drop_of_length_le, Nat.add_zero, V.one, Nat.reduceLeDiff, List.all_cons, List.all_nil, ne_eq, not_false_eq_true, Nat.zero_le, gw, d1, d2]; rfl) ?_ | refine To.nop hxE2 ?_ | (refine To.condT hxE2 ?_ ?_; focus (simp only [go_sem, eqs hxE2, reduceIte, Nat.reduceEqDiff, Nat.reduceAdd, Nat.reduceMul, Nat.reduceLT, Nat.reduceLeDiff, Int.reduceLT, Int.reduceLE, Int.reduceEq, reduceCtorEq, Int.reduceBEq, Int.reduceBNe, Int.reduceToNat, Nat.reduceSub, Nat.reduceDiv, Int.reduceNeg, Int.reduceAdd, Int.reduceSub, Int.reduceMul, Heap.gets, Heap.sets, Heap.get, bytesA_length, bytesA_one, bytesA_plains, List.take_of_length_le, List.drop_of_length_le, Nat.add_zero, V.one, Nat.reduceLeDiff, List.all_cons, List.all_nil, ne_eq, not_false_eq_true, Nat.zero_le, gw, d1, d2]; done)) | (refine To.condF hxE2 ?_ ?_; focus (simp only [go_sem, eqs hxE2, reduceIte, Nat.reduceEqDiff, Nat.reduceAdd, Nat.reduceMul, Nat.reduceLT, Nat.reduceLeDiff, Int.reduceLT, Int.reduceLE, Int.reduceEq, reduceCtorEq, Int.reduceBEq, Int.reduceBNe, Int.reduceToNat, Nat.reduceSub, Nat.reduceDiv, Int.reduceNeg, Int.reduceAdd, Int.reduceSub, Int.reduceMul, Heap.gets, Heap.sets, Heap.get, bytesA_length, bytesA_one, bytesA_plains, List.take_of_length_le, List.drop_of_length_le, Nat.add_zero, V.one, Nat.reduceLeDiff, List.all_cons, List.all_nil, ne_eq, not_false_eq_true, Nat.zero_le, gw, d1, d2]; done)) | refine To.block hxE2 ?_ | refine To.scope hxE2 ?_ | refine To.ret hxE2 ?_ | refine To.exit hxE2 ?_ | refine To.skip hxE2 ?_ | refine To.label hxE2 ?_))
    try simp only [andThen, outOf]
    exact fin_k1 (i := 6) (v := .int .i64 22) rfl (by simp only [go_sem, eqs hxE2, reduceIte, Nat.reduceEqDiff, Nat.reduceAdd, Nat.reduceMul, Nat.reduceLT, Nat.reduceLeDiff, Int.reduceLT, Int.reduceLE, Int.reduceEq, reduceCtorEq, Int.reduceBEq, Int.reduceBNe, Int.reduceToNat, Nat.reduceSub, Nat.reduceDiv, Int.reduceNeg, Int.reduceAdd, Int.reduceSub, Int.reduceMul]) rfl (kp_app (by omega) (by omega))
end
end Go.Proofs.Ytfbkeieoeagkdaa

/- Disk: the document's Write, where the fuse burns. -/
namespace Go.Proofs.Ytfbkeieoeagkdaa
open Go AM
set_option linter.unusedSimpArgs false
set_option linter.unusedVariables false
set_option maxRecDepth 100000

section
variable {o : List AM.Obj} {e d w l1 l2 l3 : Nat} {left : Int} {down : Bool} {last nw : List Pg} {on : List Bool}
set_option maxHeartbeats 4000000 in
theorem rwrite_out (R : RD o w l1 l2 l3 left down last nw on) {i : Int} {p : Pg} (hp : p.length = 64) (h0 : rerr down last.length i = 0) (hB : left = 0) :
    ∃ v oh, Den FF E2 22 [.ptr w 0, .int .i64 i, .agg (bytesA p)] ⟨o, e, d⟩ = some (v, oh) ∧ v = .val (.int .i64 5) ∧ ∃ o' d', oh.getD ⟨o, e, d⟩ = ⟨o', e, d'⟩ ∧ RD o' w l1 l2 l3 (stepL left) (stepD left down) last nw on ∧ Rx w l1 l2 l3 o o' := by
  refine To.denE hxE2 (f := 22) (a := af22) rfl (E2_none rfl) (Nat.le_of_ble_eq_true rfl) ?_
  have gw : ∀ r, (o ++ r)[w]? = some (.cells .ex 54 0 [.slice l1 0 last.length 64, .slice l2 0 last.length 64, .slice l3 0 last.length 1, .int .i64 left, .bool down]) := fun r => app_old R.hw r
  obtain ⟨hd, hi1, hi2⟩ : down = false ∧ 0 ≤ i ∧ i < last.length := by
    unfold rerr at h0
    split at h0
    · cases h0
    · split at h0
      · cases h0
      · rename_i a b; exact ⟨by simpa using a, by omega, by omega⟩
  subst hd
  have d1 : decide (i < 0) = false := decide_eq_false (by omega)
  have d2 : decide ((last.length : Int) ≤ i) = false := decide_eq_false (by omega)
  obtain ⟨vb, ohb, qb, rfl, ob, db, hgb, R2, rx, hdb, hdu⟩ := rstep_q (e := o.length) (d := o.length) (R.app [.cells .ex 31 0 (bytesA p)]) (by omega)
  have hb : decide (left ≠ 0) = false := decide_eq_false (by simpa using hB)
  rw [hb] at qb
  obtain ⟨o1, rfl⟩ : ∃ o1, ob = o1 ++ [.cells .ex 31 0 (bytesA p)] := by
    refine ⟨ob.take o.length, ?_⟩
    have hlen := rx.len
    rw [List.length_append, List.length_singleton] at hlen
    have hl := rx.get o.length (by have := R.lw; omega) (by have := R.ll1; omega) (by have := R.ll2; omega) (by have := R.ll3; omega)
    rw [app_get0] at hl
    apply List.ext_getElem?
    intro j
    by_cases hj : j < o.length
    · rw [List.getElem?_append_left (by rw [List.length_take]; omega), List.getElem?_take_of_lt hj]
    · by_cases hj2 : j = o.length
      · subst hj2
        rw [hl, List.getElem?_append_right (by rw [List.length_take]; omega), List.length_take, show o.length - min o.length ob.length = 0 by omega]; rfl
      · rw [List.getElem?_eq_none (by omega), List.getElem?_eq_none (by rw [List.length_append, List.length_take, List.length_singleton]; omega)]
  have R1 : RD o1 w l1 l2 l3 (stepL left) (stepD left false) last nw on := by
    have hlen : o1.length = o.length := by have := rx.len; simpa using this
    have lw := R.lw
    have a1 := R.ll1
    have a2 := R.ll2
    have a3 := R.ll3
    have g : ∀ l, l < o.length → (o1 ++ [AM.Obj.cells .ex 31 0 (bytesA p)])[l]? = o1[l]? := fun l hl => List.getElem?_append_left (by omega)
    exact ⟨by rw [← g _ lw]; exact R2.hw, by rw [← g _ a1]; exact R2.h1, by rw [← g _ a2]; exact R2.h2, by rw [← g _ a3]; exact R2.h3, R2.n2, R2.n3, R2.p1, R2.p2, R2.d12⟩
  have hlen : o1.length = o.length := by have := rx.len; simpa using this
  have rx1 : Rx w l1 l2 l3 o o1 := ⟨hlen, fun l a b c d => by
    have h := rx.get l a b c d
    by_cases hl : l < o.length
    · rwa [List.getElem?_append_left (by omega), List.getElem?_append_left hl] at h
    · rw [List.getElem?_eq_none (by omega), List.getElem?_eq_none (by omega)]⟩
  have lw := R.lw
  (repeat' (first | refine To.seq hxE2 ?_ | refine To.op0 hxE2 (by simp only [go_sem, eqs hxE2, reduceIte, Nat.reduceEqDiff, Nat.reduceAdd, Nat.reduceMul, Nat.reduceLT, Nat.reduceLeDiff, Int.reduceLT, Int.reduceLE, Int.reduceEq, reduceCtorEq, Int.reduceBEq, Int.reduceBNe, Int.reduceToNat, Nat.reduceSub, Nat.reduceDiv, Int.reduceNeg, Int.reduceAdd, Int.reduceSub, Int.reduceMul, Heap.gets, Heap.sets, Heap.get, bytesA_length, bytesA_one, bytesA_plains, List.take_of_length_le, List.drop_of_length_le, Nat.add_zero, V.one, Nat.reduceLeDiff, List.all_cons, List.all_nil, ne_eq, not_false_eq_true, Nat.zero_le, gw, d1, d2]; rfl) ?_ | refine To.op1 hxE2 (by simp only [go_sem, eqs hxE2, reduceIte, Nat.reduceEqDiff, Nat.reduceAdd, Nat.reduceMul, Nat.reduceLT, Nat.reduceLeDiff, Int.reduceLT, Int.reduceLE, Int.reduceEq, reduceCtorEq, Int.reduceBEq, Int.reduceBNe, Int.reduceToNat, Nat.reduceSub, Nat.reduceDiv, Int.reduceNeg, Int.reduceAdd, Int.reduceSub, Int.reduceMul, Heap.gets, Heap.sets, Heap.get, bytesA_length, bytesA_one, bytesA_plains, List.take_of_length_le, List.drop_of_length_le, Nat.add_zero, V.one, Nat.reduceLeDiff, List.all_cons, List.all_nil, ne_eq, not_false_eq_true, Nat.zero_le, gw, d1, d2]; rfl) ?_ | refine To.nop hxE2 ?_ | (refine To.condT hxE2 ?_ ?_; focus (simp only [go_sem, eqs hxE2, reduceIte, Nat.reduceEqDiff, Nat.reduceAdd, Nat.reduceMul, Nat.reduceLT, Nat.reduceLeDiff, Int.reduceLT, Int.reduceLE, Int.reduceEq, reduceCtorEq, Int.reduceBEq, Int.reduceBNe, Int.reduceToNat, Nat.reduceSub, Nat.reduceDiv, Int.reduceNeg, Int.reduceAdd, Int.reduceSub, Int.reduceMul, Heap.gets, Heap.sets, Heap.get, bytesA_length, bytesA_one, bytesA_plains, List.take_of_length_le, List.drop_of_length_le, Nat.add_zero, V.one, Nat.reduceLeDiff, List.all_cons, List.all_nil, ne_eq, not_false_eq_true, Nat.zero_le, gw, d1, d2]; done)) | (refine To.condF hxE2 ?_ ?_; focus (simp only [go_sem, eqs hxE2, reduceIte, Nat.reduceEqDiff, Nat.reduceAdd, Nat.reduceMul, Nat.reduceLT, Nat.reduceLeDiff, Int.reduceLT, Int.reduceLE, Int.reduceEq, reduceCtorEq, Int.reduceBEq, Int.reduceBNe, Int.reduceToNat, Nat.reduceSub, Nat.reduceDiv, Int.reduceNeg, Int.reduceAdd, Int.reduceSub, Int.reduceMul, Heap.gets, Heap.sets, Heap.get, bytesA_length, bytesA_one, bytesA_plains, List.take_of_length_le, List.drop_of_length_le, Nat.add_zero, V.one, Nat.reduceLeDiff, List.all_cons, List.all_nil, ne_eq, not_false_eq_true, Nat.zero_le, gw, d1, d2]; done)) | refine To.block hxE2 ?_ | refine To.scope hxE2 ?_ | refine To.ret hxE2 ?_ | refine To.exit hxE2 ?_ | refine To.skip hxE2 ?_ | refine To.label hxE2 ?_))
  refine To.op hxE2 (by simp only [go_sem, eqs hxE2, reduceIte, Nat.reduceEqDiff, Nat.reduceAdd, Nat.reduceMul, Nat.reduceLT, Nat.reduceLeDiff, Int.reduceLT, Int.reduceLE, Int.reduceEq, reduceCtorEq, Int.reduceBEq, Int.reduceBNe, Int.reduceToNat, Nat.reduceSub, Nat.reduceDiv, Int.reduceNeg, Int.reduceAdd, Int.reduceSub, Int.reduceMul, qb]; rfl) ?_
  rw [hgb]
  (repeat' (first | refine To.seq hxE2 ?_ | refine To.op0 hxE2 (by simp only [go_sem, eqs hxE2, reduceIte, Nat.reduceEqDiff, Nat.reduceAdd, Nat.reduceMul, Nat.reduceLT, Nat.reduceLeDiff, Int.reduceLT, Int.reduceLE, Int.reduceEq, reduceCtorEq, Int.reduceBEq, Int.reduceBNe, Int.reduceToNat, Nat.reduceSub, Nat.reduceDiv, Int.reduceNeg, Int.reduceAdd, Int.reduceSub, Int.reduceMul, Heap.gets, Heap.sets, Heap.get, bytesA_length, bytesA_one, bytesA_plains, List.take_of_length_le, List.drop_of_length_le, Nat.add_zero, V.one, Nat.reduceLeDiff, List.all_cons, List.all_nil, ne_eq, not_false_eq_true, Nat.zero_le]; rfl) ?_ | refine To.op1 hxE2 (by simp only [go_sem, eqs hxE2, reduceIte, Nat.reduceEqDiff, Nat.reduceAdd, Nat.reduceMul, Nat.reduceLT, Nat.reduceLeDiff, Int.reduceLT, Int.reduceLE, Int.reduceEq, reduceCtorEq, Int.reduceBEq, Int.reduceBNe, Int.reduceToNat, Nat.reduceSub, Nat.reduceDiv, Int.reduceNeg, Int.reduceAdd, Int.reduceSub, Int.reduceMul, Heap.gets, Heap.sets, Heap.get, bytesA_length, bytesA_one, bytesA_plains, List.take_of_length_le, List.drop_of_length_le, Nat.add_zero, V.one, Nat.reduceLeDiff, List.all_cons, List.all_nil, ne_eq, not_false_eq_true, Nat.zero_le]; rfl) ?_ | refine To.nop hxE2 ?_ | (refine To.condT hxE2 ?_ ?_; focus (simp only [go_sem, eqs hxE2, reduceIte, Nat.reduceEqDiff, Nat.reduceAdd, Nat.reduceMul, Nat.reduceLT, Nat.reduceLeDiff, Int.reduceLT, Int.reduceLE, Int.reduceEq, reduceCtorEq, Int.reduceBEq, Int.reduceBNe, Int.reduceToNat, Nat.reduceSub, Nat.reduceDiv, Int.reduceNeg, Int.reduceAdd, Int.reduceSub, Int.reduceMul, Heap.gets, Heap.sets, Heap.get, bytesA_length, bytesA_one, bytesA_plains, List.take_of_length_le, List.drop_of_length_le, Nat.add_zero, V.one, Nat.reduceLeDiff, List.all_cons, List.all_nil, ne_eq, not_false_eq_true, Nat.zero_le]; done)) | (refine To.condF hxE2 ?_ ?_; focus (simp only [go_sem, eqs hxE2, reduceIte, Nat.reduceEqDiff, Nat.reduceAdd, Nat.reduceMul, Nat.reduceLT, Nat.reduceLeDiff, Int.reduceLT, Int.reduceLE, Int.reduceEq, reduceCtorEq, Int.reduceBEq, Int.reduceBNe, Int.reduceToNat, Nat.reduceSub, Nat.reduceDiv, Int.reduceNeg, Int.reduceAdd, Int.reduceSub, Int.reduceMul, Heap.gets, Heap.sets, Heap.get, bytesA_length, bytesA_one, bytesA_plains, List.take_of_length_le, List.drop_of_length_le, Nat.add_zero, V.one, Nat.reduceLeDiff, List.all_cons, List.all_nil, ne_eq, not_false_eq_true, Nat.zero_le]; done)) | refine To.block hxE2 ?_ | refine To.scope hxE2 ?_ | refine To.ret hxE2 ?_ | refine To.exit hxE2 ?_ | refine To.skip hxE2 ?_ | refine To.label hxE2 ?_))
  refine ⟨_, _, fin1 (i := 6) rfl, by simp only [go_sem, eqs hxE2, reduceIte, Nat.reduceEqDiff, Nat.reduceAdd, Nat.reduceMul, Nat.reduceLT, Nat.reduceLeDiff, Int.reduceLT, Int.reduceLE, Int.reduceEq, reduceCtorEq, Int.reduceBEq, Int.reduceBNe, Int.reduceToNat, Nat.reduceSub, Nat.reduceDiv, Int.reduceNeg, Int.reduceAdd, Int.reduceSub, Int.reduceMul], ?_⟩
  obtain ⟨dd2, hlv⟩ := leave_app (o := o) (o' := o1) (r := [.cells .ex 31 0 (bytesA p)]) (e := e) (d := d) (e' := o.length) (d' := db) (v := .int .i64 5) rfl hlen (Nat.le_refl _) (fun h => by
    rcases hdu with hdu | hdu
    · exact List.append_cancel_right hdu
    · omega)
  exact ⟨o1, dd2, by simp only [get_fput, reduceIte, Nat.reduceEqDiff]; exact hlv, R1, rx1⟩
end
end Go.Proofs.Ytfbkeieoeagkdaa

/- Disk: the document's Write that is done. -/
namespace Go.Proofs.Ytfbkeieoeagkdaa
open Go AM
set_option linter.unusedSimpArgs false
set_option linter.unusedVariables false
set_option maxRecDepth 100000

section
variable {o : List AM.Obj} {e d w l1 l2 l3 : Nat} {left : Int} {down : Bool} {last nw : List Pg} {on : List Bool}
theorem tail_of {o ob : List AM.Obj} {x : AM.Obj} (hlen : ob.length = o.length + 1) (hl : ob[o.length]? = some x) : ∃ o1, ob = o1 ++ [x] ∧ o1.length = o.length := by
  refine ⟨ob.take o.length, ?_, by rw [List.length_take]; omega⟩
  apply List.ext_getElem?
  intro j
  by_cases hj : j < o.length
  · rw [List.getElem?_append_left (by rw [List.length_take]; omega), List.getElem?_take_of_lt hj]
  · by_cases hj2 : j = o.length
    · subst hj2
      rw [hl, List.getElem?_append_right (by rw [List.length_take]; omega), List.length_take, show o.length - min o.length ob.length = 0 by omega]; rfl
    · rw [List.getElem?_eq_none (by omega), List.getElem?_eq_none (by rw [List.length_append, List.length_take, List.length_singleton]; omega)]
theorem RD.chop {o1 : List AM.Obj} {x : AM.Obj} (R : RD (o1 ++ [x]) w l1 l2 l3 left down last nw on) (a0 : w < o1.length) (a1 : l1 < o1.length) (a2 : l2 < o1.length) (a3 : l3 < o1.length) : RD o1 w l1 l2 l3 left down last nw on := by
  have g : ∀ l, l < o1.length → (o1 ++ [x])[l]? = o1[l]? := fun l hl => List.getElem?_append_left hl
  exact ⟨by rw [← g _ a0]; exact R.hw, by rw [← g _ a1]; exact R.h1, by rw [← g _ a2]; exact R.h2, by rw [← g _ a3]; exact R.h3, R.n2, R.n3, R.p1, R.p2, R.d12⟩
theorem Rx.chop {o1 : List AM.Obj} {x : AM.Obj} (rx : Rx w l1 l2 l3 (o ++ [x]) (o1 ++ [x])) : Rx w l1 l2 l3 o o1 := by
  have hlen : o1.length = o.length := by have := rx.len; simpa using this
  exact ⟨hlen, fun l a b c d => by
    have h := rx.get l a b c d
    by_cases hl : l < o.length
    · rwa [List.getElem?_append_left (by omega), List.getElem?_append_left hl] at h
    · rw [List.getElem?_eq_none (by omega), List.getElem?_eq_none (by omega)]⟩
theorem boC_set (l : List Bool) (i : Nat) (b : Bool) : boC (l.set i b) = (boC l).set i (.bool b) := by unfold boC; rw [List.map_set]
/-- A page stored, and that it is on. -/
theorem RD.put (R : RD o w l1 l2 l3 left down last nw on) {k : Nat} {p : Pg} (hp : p.length = 64) (b : Bool) : RD ((o.set l2 (.cells .ex 31 0 (pgC (nw.set k p)))).set l3 (.cells .ex 4 0 (boC (on.set k b)))) w l1 l2 l3 left down last (nw.set k p) (on.set k b) := by
  refine ⟨?_, ?_, ?_, ?_, by rw [List.length_set]; exact R.n2, by rw [List.length_set]; exact R.n3, R.p1, fun q hq => ?_, R.d12⟩
  · rw [List.getElem?_set_ne (Ne.symm R.nw3), List.getElem?_set_ne (Ne.symm R.nw2)]; exact R.hw
  · rw [List.getElem?_set_ne (Ne.symm R.n13), List.getElem?_set_ne (Ne.symm R.d12)]; exact R.h1
  · rw [List.getElem?_set_ne (Ne.symm R.n23), List.getElem?_set_self R.ll2]
  · rw [List.getElem?_set_self (by rw [List.length_set]; exact R.ll3)]
  · rcases List.mem_or_eq_of_mem_set hq with h | rfl
    · exact R.p2 _ h
    · exact hp
end
end Go.Proofs.Ytfbkeieoeagkdaa

/- Disk: the document's Write, done. -/
namespace Go.Proofs.Ytfbkeieoeagkdaa
open Go AM
set_option linter.unusedSimpArgs false
set_option linter.unusedVariables false
set_option maxRecDepth 100000

section
variable {o : List AM.Obj} {e d w l1 l2 l3 : Nat} {left : Int} {down : Bool} {last nw : List Pg} {on : List Bool}
set_option maxHeartbeats 8000000 in
theorem rwrite_ok (R : RD o w l1 l2 l3 left down last nw on) {k : Nat} {p : Pg} (hp : p.length = 64) (hk : k < last.length) (hdn : down = false) (hB : left ≠ 0) (hl62 : left < 2 ^ 63) :
    ∃ v oh, Den FF E2 22 [.ptr w 0, .int .i64 (k : Int), .agg (bytesA p)] ⟨o, e, d⟩ = some (v, oh) ∧ v = .val (.int .i64 0) ∧ ∃ o' d', oh.getD ⟨o, e, d⟩ = ⟨o', e, d'⟩ ∧ RD o' w l1 l2 l3 (stepL left) (stepD left down) last (nw.set k p) (on.set k true) ∧ Rx w l1 l2 l3 o o' := by
  refine To.denE hxE2 (f := 22) (a := af22) rfl (E2_none rfl) (Nat.le_of_ble_eq_true rfl) ?_
  have gw : ∀ r, (o ++ r)[w]? = some (.cells .ex 54 0 [.slice l1 0 last.length 64, .slice l2 0 last.length 64, .slice l3 0 last.length 1, .int .i64 left, .bool down]) := fun r => app_old R.hw r
  subst hdn
  have d1 : decide ((k : Int) < 0) = false := decide_eq_false (by omega)
  have d2 : decide ((last.length : Int) ≤ (k : Int)) = false := decide_eq_false (by omega)
  obtain ⟨vb, ohb, qb, rfl, ob, db, hgb, R2, rx, hdb, hdu⟩ := rstep_q (e := o.length) (d := o.length) (R.app [.cells .ex 31 0 (bytesA p)]) hl62
  have hb : decide (left ≠ 0) = true := decide_eq_true hB
  rw [hb] at qb
  have hg0 : ob[o.length]? = some (.cells .ex 31 0 (bytesA p)) := by
    rw [rx.get o.length (by have := R.lw; omega) (by have := R.ll1; omega) (by have := R.ll2; omega) (by have := R.ll3; omega), app_get0]
  obtain ⟨o1, rfl, hlen⟩ := tail_of (by have := rx.len; simpa using this) hg0
  have R1 := R2.chop (by have := R.lw; omega) (by have := R.ll1; omega) (by have := R.ll2; omega) (by have := R.ll3; omega)
  have rx1 := rx.chop
  have g1 : ∀ r, (o1 ++ r)[w]? = some (.cells .ex 54 0 [.slice l1 0 last.length 64, .slice l2 0 last.length 64, .slice l3 0 last.length 1, .int .i64 (stepL left), .bool (stepD left false)]) := fun r => app_old R1.hw r
  have g2 : ∀ r, (o1 ++ r)[l2]? = some (.cells .ex 31 0 (pgC nw)) := fun r => app_old R1.h2 r
  have g3 : ∀ x r, (o1.set l2 x ++ r)[l3]? = some (.cells .ex 4 0 (boC on)) := fun x r => app_old (by rw [List.getElem?_set_ne R1.n23]; exact R1.h3) r
  have hst : ∀ x r, (o1 ++ r).set l2 x = o1.set l2 x ++ r := fun x r => set_app _ _ _ R1.ll2
  have hst3 : ∀ x y r, (o1.set l2 y ++ r).set l3 x = (o1.set l2 y).set l3 x ++ r := fun x y r => set_app _ _ _ (by rw [List.length_set]; exact R1.ll3)
  have ix : idxOf last.length (.int .i64 (k : Int)) = some k := idxOf_nat hk
  have htk : List.take 64 (bytesA p) = bytesA p := List.take_of_length_le (by rw [bytesA_length]; omega)
  have hle : k * 64 + 64 ≤ (pgC nw).length := by
    have hkk : (k + 1) * 64 ≤ last.length * 64 := Nat.mul_le_mul_right 64 hk
    rw [pgC_len R.p2, R.n2]; omega
  have hb1 : k < (boC on).length := by unfold boC; rw [List.length_map, R.n3]; exact hk
  have hb2 : k + 1 ≤ (boC on).length := hb1
  have lw := R.lw
  (repeat' (first | refine To.seq hxE2 ?_ | refine To.op0 hxE2 (by simp only [go_sem, eqs hxE2, reduceIte, Nat.reduceEqDiff, Nat.reduceAdd, Nat.reduceMul, Nat.reduceLT, Nat.reduceLeDiff, Int.reduceLT, Int.reduceLE, Int.reduceEq, reduceCtorEq, Int.reduceBEq, Int.reduceBNe, Int.reduceToNat, Nat.reduceSub, Nat.reduceDiv, Int.reduceNeg, Int.reduceAdd, Int.reduceSub, Int.reduceMul, Heap.gets, Heap.sets, Heap.get, bytesA_length, bytesA_one, bytesA_plains, List.take_of_length_le, List.drop_of_length_le, Nat.add_zero, V.one, Nat.reduceLeDiff, List.all_cons, List.all_nil, ne_eq, not_false_eq_true, Nat.zero_le, gw, d1, d2]; rfl) ?_ | refine To.op1 hxE2 (by simp only [go_sem, eqs hxE2, reduceIte, Nat.reduceEqDiff, Nat.reduceAdd, Nat.reduceMul, Nat.reduceLT, Nat.reduceLeDiff, Int.reduceLT, Int.reduceLE, Int.reduceEq, reduceCtorEq, Int.reduceBEq, Int.reduceBNe, Int.reduceToNat, Nat.reduceSub, Nat.reduceDiv, Int.reduceNeg, Int.reduceAdd, Int.reduceSub, Int.reduceMul, Heap.gets, Heap.sets, Heap.get, bytesA_length, bytesA_one, bytesA_plains, List.take_of_length_le, List.drop_of_length_le, Nat.add_zero, V.one, Nat.reduceLeDiff, List.all_cons, List.all_nil, ne_eq, not_false_eq_true, Nat.zero_le, gw, d1, d2]; rfl) ?_ | refine To.nop hxE2 ?_ | (refine To.condT hxE2 ?_ ?_; focus (simp only [go_sem, eqs hxE2, reduceIte, Nat.reduceEqDiff, Nat.reduceAdd, Nat.reduceMul, Nat.reduceLT, Nat.reduceLeDiff, Int.reduceLT, Int.reduceLE, Int.reduceEq, reduceCtorEq, Int.reduceBEq, Int.reduceBNe, Int.reduceToNat, Nat.reduceSub, Nat.reduceDiv, Int.reduceNeg, Int.reduceAdd, Int.reduceSub, Int.reduceMul, Heap.gets, Heap.sets, Heap.get, bytesA_length, bytesA_one, bytesA_plains, List.take_of_length_le, List.drop_of_length_le, Nat.add_zero, V.one, Nat.reduceLeDiff, List.all_cons, List.all_nil, ne_eq, not_false_eq_true, Nat.zero_le, gw, d1, d2]; done)) | (refine To.condF hxE2 ?_ ?_; focus (simp only [go_sem, eqs hxE2, reduceIte, Nat.reduceEqDiff, Nat.reduceAdd, Nat.reduceMul, Nat.reduceLT, Nat.reduceLeDiff, Int.reduceLT, Int.reduceLE, Int.reduceEq, reduceCtorEq, Int.reduceBEq, Int.reduceBNe, Int.reduceToNat, Nat.reduceSub, Nat.reduceDiv, Int.reduceNeg, Int.reduceAdd, Int.reduceSub, Int.reduceMul, Heap.gets, Heap.sets, Heap.get, bytesA_length, bytesA_one, bytesA_plains, List.take_of_length_le, List.drop_of_length_le, Nat.add_zero, V.one, Nat.reduceLeDiff, List.all_cons, List.all_nil, ne_eq, not_false_eq_true, Nat.zero_le, gw, d1, d2]; done)) | refine To.block hxE2 ?_ | refine To.scope hxE2 ?_ | refine To.ret hxE2 ?_ | refine To.exit hxE2 ?_ | refine To.skip hxE2 ?_ | refine To.label hxE2 ?_))
  refine To.op hxE2 (by simp only [go_sem, eqs hxE2, reduceIte, Nat.reduceEqDiff, Nat.reduceAdd, Nat.reduceMul, Nat.reduceLT, Nat.reduceLeDiff, Int.reduceLT, Int.reduceLE, Int.reduceEq, reduceCtorEq, Int.reduceBEq, Int.reduceBNe, Int.reduceToNat, Nat.reduceSub, Nat.reduceDiv, Int.reduceNeg, Int.reduceAdd, Int.reduceSub, Int.reduceMul, qb]; rfl) ?_
  rw [hgb]
  (repeat' (first | refine To.seq hxE2 ?_ | refine To.op0 hxE2 (by simp only [go_sem, eqs hxE2, reduceIte, Nat.reduceEqDiff, Nat.reduceAdd, Nat.reduceMul, Nat.reduceLT, Nat.reduceLeDiff, Int.reduceLT, Int.reduceLE, Int.reduceEq, reduceCtorEq, Int.reduceBEq, Int.reduceBNe, Int.reduceToNat, Nat.reduceSub, Nat.reduceDiv, Int.reduceNeg, Int.reduceAdd, Int.reduceSub, Int.reduceMul, Heap.gets, Heap.sets, Heap.get, bytesA_length, bytesA_one, bytesA_plains, List.take_of_length_le, List.drop_of_length_le, Nat.add_zero, V.one, Nat.reduceLeDiff, List.all_cons, List.all_nil, ne_eq, not_false_eq_true, Nat.zero_le, g1, g2, g3, hst, hst3, ix, htk, hp, hle, hg0, hb1, hb2]; rfl) ?_ | refine To.op1 hxE2 (by simp only [go_sem, eqs hxE2, reduceIte, Nat.reduceEqDiff, Nat.reduceAdd, Nat.reduceMul, Nat.reduceLT, Nat.reduceLeDiff, Int.reduceLT, Int.reduceLE, Int.reduceEq, reduceCtorEq, Int.reduceBEq, Int.reduceBNe, Int.reduceToNat, Nat.reduceSub, Nat.reduceDiv, Int.reduceNeg, Int.reduceAdd, Int.reduceSub, Int.reduceMul, Heap.gets, Heap.sets, Heap.get, bytesA_length, bytesA_one, bytesA_plains, List.take_of_length_le, List.drop_of_length_le, Nat.add_zero, V.one, Nat.reduceLeDiff, List.all_cons, List.all_nil, ne_eq, not_false_eq_true, Nat.zero_le, g1, g2, g3, hst, hst3, ix, htk, hp, hle, hg0, hb1, hb2]; rfl) ?_ | refine To.nop hxE2 ?_ | (refine To.condT hxE2 ?_ ?_; focus (simp only [go_sem, eqs hxE2, reduceIte, Nat.reduceEqDiff, Nat.reduceAdd, Nat.reduceMul, Nat.reduceLT, Nat.reduceLeDiff, Int.reduceLT, Int.reduceLE, Int.reduceEq, reduceCtorEq, Int.reduceBEq, Int.reduceBNe, Int.reduceToNat, Nat.reduceSub, Nat.reduceDiv, Int.reduceNeg, Int.reduceAdd, Int.reduceSub, Int.reduceMul, Heap.gets, Heap.sets, Heap.get, bytesA_length, bytesA_one, bytesA_plains, List.take_of_length_le, List.drop_of_length_le, Nat.add_zero, V.one, Nat.reduceLeDiff, List.all_cons, List.all_nil, ne_eq, not_false_eq_true, Nat.zero_le, g1, g2, g3, hst, hst3, ix, htk, hp, hle, hg0, hb1, hb2]; done)) | (refine To.condF hxE2 ?_ ?_; focus (simp only [go_sem, eqs hxE2, reduceIte, Nat.reduceEqDiff, Nat.reduceAdd, Nat.reduceMul, Nat.reduceLT, Nat.reduceLeDiff, Int.reduceLT, Int.reduceLE, Int.reduceEq, reduceCtorEq, Int.reduceBEq, Int.reduceBNe, Int.reduceToNat, Nat.reduceSub, Nat.reduceDiv, Int.reduceNeg, Int.reduceAdd, Int.reduceSub, Int.reduceMul, Heap.gets, Heap.sets, Heap.get, bytesA_length, bytesA_one, bytesA_plains, List.take_of_length_le, List.drop_of_length_le, Nat.add_zero, V.one, Nat.reduceLeDiff, List.all_cons, List.all_nil, ne_eq, not_false_eq_true, Nat.zero_le, g1, g2, g3, hst, hst3, ix, htk, hp, hle, hg0, hb1, hb2]; done)) | refine To.block hxE2 ?_ | refine To.scope hxE2 ?_ | refine To.ret hxE2 ?_ | refine To.exit hxE2 ?_ | refine To.skip hxE2 ?_ | refine To.label hxE2 ?_ | refine To.draw0 hxE2 ?_ | refine ToD.op0 (by simp only [go_sem, eqs hxE2, reduceIte, Nat.reduceEqDiff, Nat.reduceAdd, Nat.reduceMul, Nat.reduceLT, Nat.reduceLeDiff, Int.reduceLT, Int.reduceLE, Int.reduceEq, reduceCtorEq, Int.reduceBEq, Int.reduceBNe, Int.reduceToNat, Nat.reduceSub, Nat.reduceDiv, Int.reduceNeg, Int.reduceAdd, Int.reduceSub, Int.reduceMul, Heap.gets, Heap.sets, Heap.get, bytesA_length, bytesA_one, bytesA_plains, List.take_of_length_le, List.drop_of_length_le, Nat.add_zero, V.one, Nat.reduceLeDiff, List.all_cons, List.all_nil, ne_eq, not_false_eq_true, Nat.zero_le, g1, g2, g3, hst, hst3, ix, htk, hp, hle, hg0, hb1, hb2]; rfl) (by simp only [put_some, put_none]; rfl) ?_ | refine ToD.op1 (by simp only [go_sem, eqs hxE2, reduceIte, Nat.reduceEqDiff, Nat.reduceAdd, Nat.reduceMul, Nat.reduceLT, Nat.reduceLeDiff, Int.reduceLT, Int.reduceLE, Int.reduceEq, reduceCtorEq, Int.reduceBEq, Int.reduceBNe, Int.reduceToNat, Nat.reduceSub, Nat.reduceDiv, Int.reduceNeg, Int.reduceAdd, Int.reduceSub, Int.reduceMul, Heap.gets, Heap.sets, Heap.get, bytesA_length, bytesA_one, bytesA_plains, List.take_of_length_le, List.drop_of_length_le, Nat.add_zero, V.one, Nat.reduceLeDiff, List.all_cons, List.all_nil, ne_eq, not_false_eq_true, Nat.zero_le, g1, g2, g3, hst, hst3, ix, htk, hp, hle, hg0, hb1, hb2]; rfl) (by simp only [put_some, put_none]; rfl) (by simp only [KD.app, go_sem, eqs hxE2, reduceIte, Nat.reduceEqDiff, Nat.reduceAdd, Nat.reduceMul, Nat.reduceLT, Nat.reduceLeDiff, Int.reduceLT, Int.reduceLE, Int.reduceEq, reduceCtorEq, Int.reduceBEq, Int.reduceBNe, Int.reduceToNat, Nat.reduceSub, Nat.reduceDiv, Int.reduceNeg, Int.reduceAdd, Int.reduceSub, Int.reduceMul, Heap.gets, Heap.sets, Heap.get, bytesA_length, bytesA_one, bytesA_plains, List.take_of_length_le, List.drop_of_length_le, Nat.add_zero, V.one, Nat.reduceLeDiff, List.all_cons, List.all_nil, ne_eq, not_false_eq_true, Nat.zero_le, g1, g2, g3, hst, hst3, ix, htk, hp, hle, hg0, hb1, hb2]; rfl) ?_ | refine ToD.nop ?_ | refine To.draw hxE2 (by decide) ?_))
  have hkn : k < nw.length := by rw [R.n2]; exact hk
  have e2 : List.take (k * 64) (pgC nw) ++ (bytesA p ++ List.drop (k * 64 + 64) (pgC nw)) = pgC (nw.set k p) := by
    rw [pgC_set R.p2 (List.getElem?_eq_getElem hkn) hp, List.append_assoc]
  have e3 : List.take k (boC on) ++ V.bool true :: List.drop (k + 1) (boC on) = boC (on.set k true) := by
    rw [boC_set, List.set_eq_take_append_cons_drop, if_pos hb1]
  rw [e2, e3]
  refine ⟨_, _, fin1 (i := 6) rfl, by simp only [go_sem, eqs hxE2, reduceIte, Nat.reduceEqDiff, Nat.reduceAdd, Nat.reduceMul, Nat.reduceLT, Nat.reduceLeDiff, Int.reduceLT, Int.reduceLE, Int.reduceEq, reduceCtorEq, Int.reduceBEq, Int.reduceBNe, Int.reduceToNat, Nat.reduceSub, Nat.reduceDiv, Int.reduceNeg, Int.reduceAdd, Int.reduceSub, Int.reduceMul], ?_⟩
  obtain ⟨dd2, hlv⟩ := leave_app (o := o) (o' := (o1.set l2 (.cells .ex 31 0 (pgC (nw.set k p)))).set l3 (.cells .ex 4 0 (boC (on.set k true)))) (r := [.cells .ex 31 0 (bytesA p)]) (e := e) (d := d) (e' := o.length) (d' := min (min db l2) l3) (v := .int .i64 0) rfl (by rw [List.length_set, List.length_set]; exact hlen) (Nat.le_refl _) (fun h => by have := R.ll2; omega)
  exact ⟨_, dd2, by simp only [get_fput, reduceIte, Nat.reduceEqDiff]; exact hlv, R1.put hp true, rx1.trans ((rx_2 _).trans (rx_3 _))⟩
end
end Go.Proofs.Ytfbkeieoeagkdaa

/- Disk: the document's Flush. -/
namespace Go.Proofs.Ytfbkeieoeagkdaa
open Go AM
set_option linter.unusedSimpArgs false
set_option linter.unusedVariables false
set_option maxRecDepth 100000

section
variable {o : List AM.Obj} {e d w l1 l2 l3 : Nat} {left : Int} {down : Bool} {last nw : List Pg} {on : List Bool}
/-- A page turned where it lasts. -/
theorem RD.page (R : RD o w l1 l2 l3 left down last nw on) {k : Nat} {p : Pg} (hp : p.length = 64) : RD (o.set l1 (.cells .ex 31 0 (pgC (last.set k p)))) w l1 l2 l3 left down (last.set k p) nw on := by
  refine ⟨?_, ?_, ?_, ?_, by rw [List.length_set]; exact R.n2, by rw [List.length_set]; exact R.n3, fun q hq => ?_, R.p2, R.d12⟩
  · rw [List.getElem?_set_ne (Ne.symm R.nw1), List.length_set]; exact R.hw
  · rw [List.getElem?_set_self R.ll1]
  · rw [List.getElem?_set_ne R.d12]; exact R.h2
  · rw [List.getElem?_set_ne R.n13]; exact R.h3
  · rcases List.mem_or_eq_of_mem_set hq with h | rfl
    · exact R.p1 _ h
    · exact hp
/-- What is on turned. -/
theorem RD.mark (R : RD o w l1 l2 l3 left down last nw on) {k : Nat} (b : Bool) : RD (o.set l3 (.cells .ex 4 0 (boC (on.set k b)))) w l1 l2 l3 left down last nw (on.set k b) := by
  refine ⟨?_, ?_, ?_, ?_, R.n2, by rw [List.length_set]; exact R.n3, R.p1, R.p2, R.d12⟩
  · rw [List.getElem?_set_ne (Ne.symm R.nw3)]; exact R.hw
  · rw [List.getElem?_set_ne (Ne.symm R.n13)]; exact R.h1
  · rw [List.getElem?_set_ne (Ne.symm R.n23)]; exact R.h2
  · rw [List.getElem?_set_self R.ll3]
theorem boC_at {on : List Bool} {k : Nat} (b : Bool) (h : k < on.length) : List.take k (boC on) ++ V.bool b :: List.drop (k + 1) (boC on) = boC (on.set k b) := by
  rw [boC_set, List.set_eq_take_append_cons_drop, if_pos (by unfold boC; rw [List.length_map]; exact h)]

set_option maxHeartbeats 2000000 in
theorem rflush_no (R : RD o w l1 l2 l3 left down last nw on) (h0 : down = true ∨ left = 0) :
    ∃ v oh, Den FF E2 24 [.ptr w 0] ⟨o, e, d⟩ = some (v, oh) ∧ v = .val (.int .i64 5) ∧ ∃ o' d', oh.getD ⟨o, e, d⟩ = ⟨o', e, d'⟩ ∧ RD o' w l1 l2 l3 left true last nw on ∧ Rx w l1 l2 l3 o o' := by
  refine To.denE hxE2 (f := 24) (a := af24) rfl (E2_none rfl) (Nat.le_of_ble_eq_true rfl) ?_
  cases down
  case true =>
    (repeat' (first | refine To.seq hxE2 ?_ | refine To.op0 hxE2 (by simp only [go_sem, eqs hxE2, reduceIte, Nat.reduceEqDiff, Nat.reduceAdd, Nat.reduceMul, Nat.reduceLT, Nat.reduceLeDiff, Int.reduceLT, Int.reduceLE, Int.reduceEq, reduceCtorEq, Int.reduceBEq, Int.reduceBNe, Int.reduceToNat, Nat.reduceSub, Nat.reduceDiv, Int.reduceNeg, Int.reduceAdd, Int.reduceSub, Int.reduceMul, Heap.gets, Heap.sets, Heap.get, bytesA_length, bytesA_one, bytesA_plains, List.take_of_length_le, List.drop_of_length_le, Nat.add_zero, V.one, Nat.reduceLeDiff, List.all_cons, List.all_nil, ne_eq, not_false_eq_true, Nat.zero_le, R.hw]; rfl) ?_ | refine To.op1 hxE2 (by simp only [go_sem, eqs hxE2, reduceIte, Nat.reduceEqDiff, Nat.reduceAdd, Nat.reduceMul, Nat.reduceLT, Nat.reduceLeDiff, Int.reduceLT, Int.reduceLE, Int.reduceEq, reduceCtorEq, Int.reduceBEq, Int.reduceBNe, Int.reduceToNat, Nat.reduceSub, Nat.reduceDiv, Int.reduceNeg, Int.reduceAdd, Int.reduceSub, Int.reduceMul, Heap.gets, Heap.sets, Heap.get, bytesA_length, bytesA_one, bytesA_plains, List.take_of_length_le, List.drop_of_length_le, Nat.add_zero, V.one, Nat.reduceLeDiff, List.all_cons, List.all_nil, ne_eq, not_false_eq_true, Nat.zero_le, R.hw]; rfl) ?_ | refine To.nop hxE2 ?_ | (refine To.condT hxE2 ?_ ?_; focus (simp only [go_sem, eqs hxE2, reduceIte, Nat.reduceEqDiff, Nat.reduceAdd, Nat.reduceMul, Nat.reduceLT, Nat.reduceLeDiff, Int.reduceLT, Int.reduceLE, Int.reduceEq, reduceCtorEq, Int.reduceBEq, Int.reduceBNe, Int.reduceToNat, Nat.reduceSub, Nat.reduceDiv, Int.reduceNeg, Int.reduceAdd, Int.reduceSub, Int.reduceMul, Heap.gets, Heap.sets, Heap.get, bytesA_length, bytesA_one, bytesA_plains, List.take_of_length_le, List.drop_of_length_le, Nat.add_zero, V.one, Nat.reduceLeDiff, List.all_cons, List.all_nil, ne_eq, not_false_eq_true, Nat.zero_le, R.hw]; done)) | (refine To.condF hxE2 ?_ ?_; focus (simp only [go_sem, eqs hxE2, reduceIte, Nat.reduceEqDiff, Nat.reduceAdd, Nat.reduceMul, Nat.reduceLT, Nat.reduceLeDiff, Int.reduceLT, Int.reduceLE, Int.reduceEq, reduceCtorEq, Int.reduceBEq, Int.reduceBNe, Int.reduceToNat, Nat.reduceSub, Nat.reduceDiv, Int.reduceNeg, Int.reduceAdd, Int.reduceSub, Int.reduceMul, Heap.gets, Heap.sets, Heap.get, bytesA_length, bytesA_one, bytesA_plains, List.take_of_length_le, List.drop_of_length_le, Nat.add_zero, V.one, Nat.reduceLeDiff, List.all_cons, List.all_nil, ne_eq, not_false_eq_true, Nat.zero_le, R.hw]; done)) | refine To.block hxE2 ?_ | refine To.scope hxE2 ?_ | refine To.ret hxE2 ?_ | refine To.exit hxE2 ?_ | refine To.skip hxE2 ?_ | refine To.label hxE2 ?_))
    refine ⟨_, _, fin1 (i := 2) rfl, by simp only [go_sem, eqs hxE2, reduceIte, Nat.reduceEqDiff, Nat.reduceAdd, Nat.reduceMul, Nat.reduceLT, Nat.reduceLeDiff, Int.reduceLT, Int.reduceLE, Int.reduceEq, reduceCtorEq, Int.reduceBEq, Int.reduceBNe, Int.reduceToNat, Nat.reduceSub, Nat.reduceDiv, Int.reduceNeg, Int.reduceAdd, Int.reduceSub, Int.reduceMul], ?_⟩
    obtain ⟨d2, q1, q2, q3⟩ := leave_same2 (e := e) (d := d) (d' := o.length) (v := .int .i64 5) rfl rfl (fun _ => rfl)
    exact ⟨o, d2, by simp only [get_fput, reduceIte, Nat.reduceEqDiff]; exact q1, R, Rx.refl⟩
  have hl : left = 0 := by simpa using h0
  subst hl
  obtain ⟨vb, ohb, qb, rfl, ob, db, hgb, R2, rx, hdb, hdu⟩ := rstep_q (e := o.length) (d := o.length) R (by omega)
  have hb : decide ((0 : Int) ≠ 0) = false := rfl
  rw [hb] at qb
  have e1 : stepL 0 = 0 := rfl
  have e2 : stepD 0 false = true := rfl
  rw [e1, e2] at R2
  have lw := R.lw
  (repeat' (first | refine To.seq hxE2 ?_ | refine To.op0 hxE2 (by simp only [go_sem, eqs hxE2, reduceIte, Nat.reduceEqDiff, Nat.reduceAdd, Nat.reduceMul, Nat.reduceLT, Nat.reduceLeDiff, Int.reduceLT, Int.reduceLE, Int.reduceEq, reduceCtorEq, Int.reduceBEq, Int.reduceBNe, Int.reduceToNat, Nat.reduceSub, Nat.reduceDiv, Int.reduceNeg, Int.reduceAdd, Int.reduceSub, Int.reduceMul, Heap.gets, Heap.sets, Heap.get, bytesA_length, bytesA_one, bytesA_plains, List.take_of_length_le, List.drop_of_length_le, Nat.add_zero, V.one, Nat.reduceLeDiff, List.all_cons, List.all_nil, ne_eq, not_false_eq_true, Nat.zero_le, R.hw]; rfl) ?_ | refine To.op1 hxE2 (by simp only [go_sem, eqs hxE2, reduceIte, Nat.reduceEqDiff, Nat.reduceAdd, Nat.reduceMul, Nat.reduceLT, Nat.reduceLeDiff, Int.reduceLT, Int.reduceLE, Int.reduceEq, reduceCtorEq, Int.reduceBEq, Int.reduceBNe, Int.reduceToNat, Nat.reduceSub, Nat.reduceDiv, Int.reduceNeg, Int.reduceAdd, Int.reduceSub, Int.reduceMul, Heap.gets, Heap.sets, Heap.get, bytesA_length, bytesA_one, bytesA_plains, List.take_of_length_le, List.drop_of_length_le, Nat.add_zero, V.one, Nat.reduceLeDiff, List.all_cons, List.all_nil, ne_eq, not_false_eq_true, Nat.zero_le, R.hw]; rfl) ?_ | refine To.nop hxE2 ?_ | (refine To.condT hxE2 ?_ ?_; focus (simp only [go_sem, eqs hxE2, reduceIte, Nat.reduceEqDiff, Nat.reduceAdd, Nat.reduceMul, Nat.reduceLT, Nat.reduceLeDiff, Int.reduceLT, Int.reduceLE, Int.reduceEq, reduceCtorEq, Int.reduceBEq, Int.reduceBNe, Int.reduceToNat, Nat.reduceSub, Nat.reduceDiv, Int.reduceNeg, Int.reduceAdd, Int.reduceSub, Int.reduceMul, Heap.gets, Heap.sets, Heap.get, bytesA_length, bytesA_one, bytesA_plains, List.take_of_length_le, List.drop_of_length_le, Nat.add_zero, V.one, Nat.reduceLeDiff, List.all_cons, List.all_nil, ne_eq, not_false_eq_true, Nat.zero_le, R.hw]; done)) | (refine To.condF hxE2 ?_ ?_; focus (simp only [go_sem, eqs hxE2, reduceIte, Nat.reduceEqDiff, Nat.reduceAdd, Nat.reduceMul, Nat.reduceLT, Nat.reduceLeDiff, Int.reduceLT, Int.reduceLE, Int.reduceEq, reduceCtorEq, Int.reduceBEq, Int.reduceBNe, Int.reduceToNat, Nat.reduceSub, Nat.reduceDiv, Int.reduceNeg, Int.reduceAdd, Int.reduceSub, Int.reduceMul, Heap.gets, Heap.sets, Heap.get, bytesA_length, bytesA_one, bytesA_plains, List.take_of_length_le, List.drop_of_length_le, Nat.add_zero, V.one, Nat.reduceLeDiff, List.all_cons, List.all_nil, ne_eq, not_false_eq_true, Nat.zero_le, R.hw]; done)) | refine To.block hxE2 ?_ | refine To.scope hxE2 ?_ | refine To.ret hxE2 ?_ | refine To.exit hxE2 ?_ | refine To.skip hxE2 ?_ | refine To.label hxE2 ?_))
  refine To.op hxE2 (by simp only [go_sem, eqs hxE2, reduceIte, Nat.reduceEqDiff, Nat.reduceAdd, Nat.reduceMul, Nat.reduceLT, Nat.reduceLeDiff, Int.reduceLT, Int.reduceLE, Int.reduceEq, reduceCtorEq, Int.reduceBEq, Int.reduceBNe, Int.reduceToNat, Nat.reduceSub, Nat.reduceDiv, Int.reduceNeg, Int.reduceAdd, Int.reduceSub, Int.reduceMul, qb]; rfl) ?_
  rw [show ohb.getD (AM.enter ⟨o, e, d⟩) = ⟨ob, o.length, db⟩ from hgb]
  (repeat' (first | refine To.seq hxE2 ?_ | refine To.op0 hxE2 (by simp only [go_sem, eqs hxE2, reduceIte, Nat.reduceEqDiff, Nat.reduceAdd, Nat.reduceMul, Nat.reduceLT, Nat.reduceLeDiff, Int.reduceLT, Int.reduceLE, Int.reduceEq, reduceCtorEq, Int.reduceBEq, Int.reduceBNe, Int.reduceToNat, Nat.reduceSub, Nat.reduceDiv, Int.reduceNeg, Int.reduceAdd, Int.reduceSub, Int.reduceMul, Heap.gets, Heap.sets, Heap.get, bytesA_length, bytesA_one, bytesA_plains, List.take_of_length_le, List.drop_of_length_le, Nat.add_zero, V.one, Nat.reduceLeDiff, List.all_cons, List.all_nil, ne_eq, not_false_eq_true, Nat.zero_le]; rfl) ?_ | refine To.op1 hxE2 (by simp only [go_sem, eqs hxE2, reduceIte, Nat.reduceEqDiff, Nat.reduceAdd, Nat.reduceMul, Nat.reduceLT, Nat.reduceLeDiff, Int.reduceLT, Int.reduceLE, Int.reduceEq, reduceCtorEq, Int.reduceBEq, Int.reduceBNe, Int.reduceToNat, Nat.reduceSub, Nat.reduceDiv, Int.reduceNeg, Int.reduceAdd, Int.reduceSub, Int.reduceMul, Heap.gets, Heap.sets, Heap.get, bytesA_length, bytesA_one, bytesA_plains, List.take_of_length_le, List.drop_of_length_le, Nat.add_zero, V.one, Nat.reduceLeDiff, List.all_cons, List.all_nil, ne_eq, not_false_eq_true, Nat.zero_le]; rfl) ?_ | refine To.nop hxE2 ?_ | (refine To.condT hxE2 ?_ ?_; focus (simp only [go_sem, eqs hxE2, reduceIte, Nat.reduceEqDiff, Nat.reduceAdd, Nat.reduceMul, Nat.reduceLT, Nat.reduceLeDiff, Int.reduceLT, Int.reduceLE, Int.reduceEq, reduceCtorEq, Int.reduceBEq, Int.reduceBNe, Int.reduceToNat, Nat.reduceSub, Nat.reduceDiv, Int.reduceNeg, Int.reduceAdd, Int.reduceSub, Int.reduceMul, Heap.gets, Heap.sets, Heap.get, bytesA_length, bytesA_one, bytesA_plains, List.take_of_length_le, List.drop_of_length_le, Nat.add_zero, V.one, Nat.reduceLeDiff, List.all_cons, List.all_nil, ne_eq, not_false_eq_true, Nat.zero_le]; done)) | (refine To.condF hxE2 ?_ ?_; focus (simp only [go_sem, eqs hxE2, reduceIte, Nat.reduceEqDiff, Nat.reduceAdd, Nat.reduceMul, Nat.reduceLT, Nat.reduceLeDiff, Int.reduceLT, Int.reduceLE, Int.reduceEq, reduceCtorEq, Int.reduceBEq, Int.reduceBNe, Int.reduceToNat, Nat.reduceSub, Nat.reduceDiv, Int.reduceNeg, Int.reduceAdd, Int.reduceSub, Int.reduceMul, Heap.gets, Heap.sets, Heap.get, bytesA_length, bytesA_one, bytesA_plains, List.take_of_length_le, List.drop_of_length_le, Nat.add_zero, V.one, Nat.reduceLeDiff, List.all_cons, List.all_nil, ne_eq, not_false_eq_true, Nat.zero_le]; done)) | refine To.block hxE2 ?_ | refine To.scope hxE2 ?_ | refine To.ret hxE2 ?_ | refine To.exit hxE2 ?_ | refine To.skip hxE2 ?_ | refine To.label hxE2 ?_))
  refine ⟨_, _, fin1 (i := 2) rfl, by simp only [go_sem, eqs hxE2, reduceIte, Nat.reduceEqDiff, Nat.reduceAdd, Nat.reduceMul, Nat.reduceLT, Nat.reduceLeDiff, Int.reduceLT, Int.reduceLE, Int.reduceEq, reduceCtorEq, Int.reduceBEq, Int.reduceBNe, Int.reduceToNat, Nat.reduceSub, Nat.reduceDiv, Int.reduceNeg, Int.reduceAdd, Int.reduceSub, Int.reduceMul], ?_⟩
  obtain ⟨d2, q1, q2, q3⟩ := leave_same2 (o := o) (o' := ob) (e := e) (d := d) (d' := db) (v := .int .i64 5) rfl rx.len (fun h => by
    rcases hdu with hdu | hdu
    · exact hdu
    · omega)
  exact ⟨ob, d2, by simp only [get_fput, reduceIte, Nat.reduceEqDiff]; exact q1, R2, rx⟩

set_option maxHeartbeats 8000000 in
theorem rflush_ok (R : RD o w l1 l2 l3 left down last nw on) (hdn : down = false) (hB : left ≠ 0) (hl63 : left < 2 ^ 63) (hn : last.length ≤ 1000000) :
    ∃ v oh, Den FF E2 24 [.ptr w 0] ⟨o, e, d⟩ = some (v, oh) ∧ v = .val (.int .i64 0) ∧ ∃ o' d' last' on', oh.getD ⟨o, e, d⟩ = ⟨o', e, d'⟩ ∧ RD o' w l1 l2 l3 (stepL left) false last' nw on' ∧ Rx w l1 l2 l3 o o' ∧ last'.length = last.length ∧
      ∀ j, j < last.length → on'[j]? = some false ∧ last'[j]? = if on[j]? = some true then nw[j]? else last[j]? := by
  refine To.denE hxE2 (f := 24) (a := af24) rfl (E2_none rfl) (Nat.le_of_ble_eq_true rfl) ?_
  subst hdn
  obtain ⟨vb, ohb, qb, rfl, ob, db, hgb, R2, rx, hdb, hdu⟩ := rstep_q (e := o.length) (d := o.length) R hl63
  have hb : decide (left ≠ 0) = true := decide_eq_true hB
  rw [hb] at qb
  have e0 : stepD left false = false := if_neg hB
  rw [e0] at R2
  have lw := R.lw
  have a1 := R.ll1
  have a3 := R.ll3
  have n2 := R.n2
  have n3 := R.n3
  (repeat' (first | refine To.seq hxE2 ?_ | refine To.op0 hxE2 (by simp only [go_sem, eqs hxE2, reduceIte, Nat.reduceEqDiff, Nat.reduceAdd, Nat.reduceMul, Nat.reduceLT, Nat.reduceLeDiff, Int.reduceLT, Int.reduceLE, Int.reduceEq, reduceCtorEq, Int.reduceBEq, Int.reduceBNe, Int.reduceToNat, Nat.reduceSub, Nat.reduceDiv, Int.reduceNeg, Int.reduceAdd, Int.reduceSub, Int.reduceMul, Heap.gets, Heap.sets, Heap.get, bytesA_length, bytesA_one, bytesA_plains, List.take_of_length_le, List.drop_of_length_le, Nat.add_zero, V.one, Nat.reduceLeDiff, List.all_cons, List.all_nil, ne_eq, not_false_eq_true, Nat.zero_le, R.hw]; rfl) ?_ | refine To.op1 hxE2 (by simp only [go_sem, eqs hxE2, reduceIte, Nat.reduceEqDiff, Nat.reduceAdd, Nat.reduceMul, Nat.reduceLT, Nat.reduceLeDiff, Int.reduceLT, Int.reduceLE, Int.reduceEq, reduceCtorEq, Int.reduceBEq, Int.reduceBNe, Int.reduceToNat, Nat.reduceSub, Nat.reduceDiv, Int.reduceNeg, Int.reduceAdd, Int.reduceSub, Int.reduceMul, Heap.gets, Heap.sets, Heap.get, bytesA_length, bytesA_one, bytesA_plains, List.take_of_length_le, List.drop_of_length_le, Nat.add_zero, V.one, Nat.reduceLeDiff, List.all_cons, List.all_nil, ne_eq, not_false_eq_true, Nat.zero_le, R.hw]; rfl) ?_ | refine To.nop hxE2 ?_ | (refine To.condT hxE2 ?_ ?_; focus (simp only [go_sem, eqs hxE2, reduceIte, Nat.reduceEqDiff, Nat.reduceAdd, Nat.reduceMul, Nat.reduceLT, Nat.reduceLeDiff, Int.reduceLT, Int.reduceLE, Int.reduceEq, reduceCtorEq, Int.reduceBEq, Int.reduceBNe, Int.reduceToNat, Nat.reduceSub, Nat.reduceDiv, Int.reduceNeg, Int.reduceAdd, Int.reduceSub, Int.reduceMul, Heap.gets, Heap.sets, Heap.get, bytesA_length, bytesA_one, bytesA_plains, List.take_of_length_le, List.drop_of_length_le, Nat.add_zero, V.one, Nat.reduceLeDiff, List.all_cons, List.all_nil, ne_eq, not_false_eq_true, Nat.zero_le, R.hw]; done)) | (refine To.condF hxE2 ?_ ?_; focus (simp only [go_sem, eqs hxE2, reduceIte, Nat.reduceEqDiff, Nat.reduceAdd, Nat.reduceMul, Nat.reduceLT, Nat.reduceLeDiff, Int.reduceLT, Int.reduceLE, Int.reduceEq, reduceCtorEq, Int.reduceBEq, Int.reduceBNe, Int.reduceToNat, Nat.reduceSub, Nat.reduceDiv, Int.reduceNeg, Int.reduceAdd, Int.reduceSub, Int.reduceMul, Heap.gets, Heap.sets, Heap.get, bytesA_length, bytesA_one, bytesA_plains, List.take_of_length_le, List.drop_of_length_le, Nat.add_zero, V.one, Nat.reduceLeDiff, List.all_cons, List.all_nil, ne_eq, not_false_eq_true, Nat.zero_le, R.hw]; done)) | refine To.block hxE2 ?_ | refine To.scope hxE2 ?_ | refine To.ret hxE2 ?_ | refine To.exit hxE2 ?_ | refine To.skip hxE2 ?_ | refine To.label hxE2 ?_))
  refine To.op hxE2 (by simp only [go_sem, eqs hxE2, reduceIte, Nat.reduceEqDiff, Nat.reduceAdd, Nat.reduceMul, Nat.reduceLT, Nat.reduceLeDiff, Int.reduceLT, Int.reduceLE, Int.reduceEq, reduceCtorEq, Int.reduceBEq, Int.reduceBNe, Int.reduceToNat, Nat.reduceSub, Nat.reduceDiv, Int.reduceNeg, Int.reduceAdd, Int.reduceSub, Int.reduceMul, qb]; rfl) ?_
  rw [show ohb.getD (AM.enter ⟨o, e, d⟩) = ⟨ob, o.length, db⟩ from hgb]
  (repeat' (first | refine To.seq hxE2 ?_ | refine To.op0 hxE2 (by simp only [go_sem, eqs hxE2, reduceIte, Nat.reduceEqDiff, Nat.reduceAdd, Nat.reduceMul, Nat.reduceLT, Nat.reduceLeDiff, Int.reduceLT, Int.reduceLE, Int.reduceEq, reduceCtorEq, Int.reduceBEq, Int.reduceBNe, Int.reduceToNat, Nat.reduceSub, Nat.reduceDiv, Int.reduceNeg, Int.reduceAdd, Int.reduceSub, Int.reduceMul, Heap.gets, Heap.sets, Heap.get, bytesA_length, bytesA_one, bytesA_plains, List.take_of_length_le, List.drop_of_length_le, Nat.add_zero, V.one, Nat.reduceLeDiff, List.all_cons, List.all_nil, ne_eq, not_false_eq_true, Nat.zero_le]; rfl) ?_ | refine To.op1 hxE2 (by simp only [go_sem, eqs hxE2, reduceIte, Nat.reduceEqDiff, Nat.reduceAdd, Nat.reduceMul, Nat.reduceLT, Nat.reduceLeDiff, Int.reduceLT, Int.reduceLE, Int.reduceEq, reduceCtorEq, Int.reduceBEq, Int.reduceBNe, Int.reduceToNat, Nat.reduceSub, Nat.reduceDiv, Int.reduceNeg, Int.reduceAdd, Int.reduceSub, Int.reduceMul, Heap.gets, Heap.sets, Heap.get, bytesA_length, bytesA_one, bytesA_plains, List.take_of_length_le, List.drop_of_length_le, Nat.add_zero, V.one, Nat.reduceLeDiff, List.all_cons, List.all_nil, ne_eq, not_false_eq_true, Nat.zero_le]; rfl) ?_ | refine To.nop hxE2 ?_ | (refine To.condT hxE2 ?_ ?_; focus (simp only [go_sem, eqs hxE2, reduceIte, Nat.reduceEqDiff, Nat.reduceAdd, Nat.reduceMul, Nat.reduceLT, Nat.reduceLeDiff, Int.reduceLT, Int.reduceLE, Int.reduceEq, reduceCtorEq, Int.reduceBEq, Int.reduceBNe, Int.reduceToNat, Nat.reduceSub, Nat.reduceDiv, Int.reduceNeg, Int.reduceAdd, Int.reduceSub, Int.reduceMul, Heap.gets, Heap.sets, Heap.get, bytesA_length, bytesA_one, bytesA_plains, List.take_of_length_le, List.drop_of_length_le, Nat.add_zero, V.one, Nat.reduceLeDiff, List.all_cons, List.all_nil, ne_eq, not_false_eq_true, Nat.zero_le]; done)) | (refine To.condF hxE2 ?_ ?_; focus (simp only [go_sem, eqs hxE2, reduceIte, Nat.reduceEqDiff, Nat.reduceAdd, Nat.reduceMul, Nat.reduceLT, Nat.reduceLeDiff, Int.reduceLT, Int.reduceLE, Int.reduceEq, reduceCtorEq, Int.reduceBEq, Int.reduceBNe, Int.reduceToNat, Nat.reduceSub, Nat.reduceDiv, Int.reduceNeg, Int.reduceAdd, Int.reduceSub, Int.reduceMul, Heap.gets, Heap.sets, Heap.get, bytesA_length, bytesA_one, bytesA_plains, List.take_of_length_le, List.drop_of_length_le, Nat.add_zero, V.one, Nat.reduceLeDiff, List.all_cons, List.all_nil, ne_eq, not_false_eq_true, Nat.zero_le]; done)) | refine To.block hxE2 ?_ | refine To.scope hxE2 ?_ | refine To.ret hxE2 ?_ | refine To.exit hxE2 ?_ | refine To.skip hxE2 ?_ | refine To.label hxE2 ?_))
  refine To.loop hxE2 (fun m S h' => ∃ (i : Nat) (o2 : List AM.Obj) (d2 : Nat) (la : List Pg) (onn : List Bool), i + m = last.length ∧ h' = ⟨o2, o.length, d2⟩ ∧ RD o2 w l1 l2 l3 (stepL left) false la nw onn ∧ Rx w l1 l2 l3 o o2 ∧ (o2 = o ∨ d2 < o.length) ∧ la.length = last.length ∧
    (∀ j, j < i → onn[j]? = some false ∧ la[j]? = if on[j]? = some true then nw[j]? else last[j]?) ∧ (∀ j, i ≤ j → onn[j]? = on[j]? ∧ la[j]? = last[j]?) ∧ S 0 = .ptr w 0 ∧ S 3 = .int .i64 (i : Int)) ?_ last.length _ _ ?_
  · rintro m S _ ⟨i, o2, d2, la, onn, hm, rfl, R3, rx3, hdd, hla, hpre, hpost, s0, s3⟩
    by_cases hi : i < last.length
    · have hlt : decide ((i : Int) < (la.length : Int)) = true := decide_eq_true (by omega)
      have ix : idxOf la.length (.int .i64 (i : Int)) = some i := idxOf_nat (by omega)
      have n3' := R3.n3
      obtain ⟨b, hb⟩ : ∃ b, onn[i]? = some b := ⟨onn[i]'(by omega), List.getElem?_eq_getElem (by omega)⟩
      have hbb : (boC onn)[i]? = some (.bool b) := by unfold boC; rw [List.getElem?_map, hb]; rfl
      have wi : IntKind.i64.wrap ((i : Int) + 1) = ((i + 1 : Nat) : Int) := by rw [wrap_i64 (by omega) (by omega)]; omega
      have honi : on[i]? = some b := by rw [← (hpost i (Nat.le_refl _)).1]; exact hb
      cases b
      · (repeat' (first | refine To.seq hxE2 ?_ | refine To.op0 hxE2 (by simp only [go_sem, eqs hxE2, reduceIte, Nat.reduceEqDiff, Nat.reduceAdd, Nat.reduceMul, Nat.reduceLT, Nat.reduceLeDiff, Int.reduceLT, Int.reduceLE, Int.reduceEq, reduceCtorEq, Int.reduceBEq, Int.reduceBNe, Int.reduceToNat, Nat.reduceSub, Nat.reduceDiv, Int.reduceNeg, Int.reduceAdd, Int.reduceSub, Int.reduceMul, Heap.gets, Heap.sets, Heap.get, bytesA_length, bytesA_one, bytesA_plains, List.take_of_length_le, List.drop_of_length_le, Nat.add_zero, V.one, Nat.reduceLeDiff, List.all_cons, List.all_nil, ne_eq, not_false_eq_true, Nat.zero_le, R3.hw, R3.h3, s0, s3, hlt, ix, hbb, wi]; rfl) ?_ | refine To.op1 hxE2 (by simp only [go_sem, eqs hxE2, reduceIte, Nat.reduceEqDiff, Nat.reduceAdd, Nat.reduceMul, Nat.reduceLT, Nat.reduceLeDiff, Int.reduceLT, Int.reduceLE, Int.reduceEq, reduceCtorEq, Int.reduceBEq, Int.reduceBNe, Int.reduceToNat, Nat.reduceSub, Nat.reduceDiv, Int.reduceNeg, Int.reduceAdd, Int.reduceSub, Int.reduceMul, Heap.gets, Heap.sets, Heap.get, bytesA_length, bytesA_one, bytesA_plains, List.take_of_length_le, List.drop_of_length_le, Nat.add_zero, V.one, Nat.reduceLeDiff, List.all_cons, List.all_nil, ne_eq, not_false_eq_true, Nat.zero_le, R3.hw, R3.h3, s0, s3, hlt, ix, hbb, wi]; rfl) ?_ | refine To.nop hxE2 ?_ | (refine To.condT hxE2 ?_ ?_; focus (simp only [go_sem, eqs hxE2, reduceIte, Nat.reduceEqDiff, Nat.reduceAdd, Nat.reduceMul, Nat.reduceLT, Nat.reduceLeDiff, Int.reduceLT, Int.reduceLE, Int.reduceEq, reduceCtorEq, Int.reduceBEq, Int.reduceBNe, Int.reduceToNat, Nat.reduceSub, Nat.reduceDiv, Int.reduceNeg, Int.reduceAdd, Int.reduceSub, Int.reduceMul, Heap.gets, Heap.sets, Heap.get, bytesA_length, bytesA_one, bytesA_plains, List.take_of_length_le, List.drop_of_length_le, Nat.add_zero, V.one, Nat.reduceLeDiff, List.all_cons, List.all_nil, ne_eq, not_false_eq_true, Nat.zero_le, R3.hw, R3.h3, s0, s3, hlt, ix, hbb, wi]; done)) | (refine To.condF hxE2 ?_ ?_; focus (simp only [go_sem, eqs hxE2, reduceIte, Nat.reduceEqDiff, Nat.reduceAdd, Nat.reduceMul, Nat.reduceLT, Nat.reduceLeDiff, Int.reduceLT, Int.reduceLE, Int.reduceEq, reduceCtorEq, Int.reduceBEq, Int.reduceBNe, Int.reduceToNat, Nat.reduceSub, Nat.reduceDiv, Int.reduceNeg, Int.reduceAdd, Int.reduceSub, Int.reduceMul, Heap.gets, Heap.sets, Heap.get, bytesA_length, bytesA_one, bytesA_plains, List.take_of_length_le, List.drop_of_length_le, Nat.add_zero, V.one, Nat.reduceLeDiff, List.all_cons, List.all_nil, ne_eq, not_false_eq_true, Nat.zero_le, R3.hw, R3.h3, s0, s3, hlt, ix, hbb, wi]; done)) | refine To.block hxE2 ?_ | refine To.scope hxE2 ?_ | refine To.ret hxE2 ?_ | refine To.exit hxE2 ?_ | refine To.skip hxE2 ?_ | refine To.label hxE2 ?_))
        try simp only [andThen, outOf]
        refine ⟨m - 1, by omega, i + 1, o2, d2, la, onn, by omega, rfl, R3, rx3, hdd, hla, fun j hj => ?_, fun j hj => hpost j (by omega), ?_⟩
        · by_cases hji : j = i
          · subst hji
            rw [honi, if_neg (by simp)]
            exact ⟨hb, (hpost j (Nat.le_refl _)).2⟩
          · exact hpre j (by omega)
        · simp only [go_sem, eqs hxE2, reduceIte, Nat.reduceEqDiff, Nat.reduceAdd, Nat.reduceMul, Nat.reduceLT, Nat.reduceLeDiff, Int.reduceLT, Int.reduceLE, Int.reduceEq, reduceCtorEq, Int.reduceBEq, Int.reduceBNe, Int.reduceToNat, Nat.reduceSub, Nat.reduceDiv, Int.reduceNeg, Int.reduceAdd, Int.reduceSub, Int.reduceMul, s0]
      · have hkn : i < nw.length := by omega
        have hg : nw[i]? = some nw[i] := List.getElem?_eq_getElem hkn
        have hat := pgC_at R3.p2 hg
        have hkk : (i + 1) * 64 ≤ last.length * 64 := Nat.mul_le_mul_right 64 hi
        have hle2 : i * 64 + 64 ≤ (pgC nw).length := by rw [pgC_len R3.p2]; omega
        have hle1 : i * 64 + 64 ≤ (pgC la).length := by rw [pgC_len R3.p1]; omega
        have h64 := R3.p2 _ (List.getElem_mem hkn)
        have hlai : la[i]? = some (la[i]'(by omega)) := List.getElem?_eq_getElem (by omega)
        generalize nw[i] = p at hat h64 hg
        have g3 : ∀ x, (o2.set l1 x)[l3]? = some (.cells .ex 4 0 (boC onn)) := fun x => by rw [List.getElem?_set_ne R3.n13]; exact R3.h3
        have hb1 : i < (boC onn).length := by unfold boC; rw [List.length_map]; omega
        have hb2 : i + 1 ≤ (boC onn).length := hb1
        (repeat' (first | refine To.seq hxE2 ?_ | refine To.op0 hxE2 (by simp only [go_sem, eqs hxE2, reduceIte, Nat.reduceEqDiff, Nat.reduceAdd, Nat.reduceMul, Nat.reduceLT, Nat.reduceLeDiff, Int.reduceLT, Int.reduceLE, Int.reduceEq, reduceCtorEq, Int.reduceBEq, Int.reduceBNe, Int.reduceToNat, Nat.reduceSub, Nat.reduceDiv, Int.reduceNeg, Int.reduceAdd, Int.reduceSub, Int.reduceMul, Heap.gets, Heap.sets, Heap.get, bytesA_length, bytesA_one, bytesA_plains, List.take_of_length_le, List.drop_of_length_le, Nat.add_zero, V.one, Nat.reduceLeDiff, List.all_cons, List.all_nil, ne_eq, not_false_eq_true, Nat.zero_le, R3.hw, R3.h1, R3.h2, R3.h3, g3, s0, s3, hlt, ix, hbb, wi, hat, hle1, hle2, h64, hb1, hb2]; rfl) ?_ | refine To.op1 hxE2 (by simp only [go_sem, eqs hxE2, reduceIte, Nat.reduceEqDiff, Nat.reduceAdd, Nat.reduceMul, Nat.reduceLT, Nat.reduceLeDiff, Int.reduceLT, Int.reduceLE, Int.reduceEq, reduceCtorEq, Int.reduceBEq, Int.reduceBNe, Int.reduceToNat, Nat.reduceSub, Nat.reduceDiv, Int.reduceNeg, Int.reduceAdd, Int.reduceSub, Int.reduceMul, Heap.gets, Heap.sets, Heap.get, bytesA_length, bytesA_one, bytesA_plains, List.take_of_length_le, List.drop_of_length_le, Nat.add_zero, V.one, Nat.reduceLeDiff, List.all_cons, List.all_nil, ne_eq, not_false_eq_true, Nat.zero_le, R3.hw, R3.h1, R3.h2, R3.h3, g3, s0, s3, hlt, ix, hbb, wi, hat, hle1, hle2, h64, hb1, hb2]; rfl) ?_ | refine To.nop hxE2 ?_ | (refine To.condT hxE2 ?_ ?_; focus (simp only [go_sem, eqs hxE2, reduceIte, Nat.reduceEqDiff, Nat.reduceAdd, Nat.reduceMul, Nat.reduceLT, Nat.reduceLeDiff, Int.reduceLT, Int.reduceLE, Int.reduceEq, reduceCtorEq, Int.reduceBEq, Int.reduceBNe, Int.reduceToNat, Nat.reduceSub, Nat.reduceDiv, Int.reduceNeg, Int.reduceAdd, Int.reduceSub, Int.reduceMul, Heap.gets, Heap.sets, Heap.get, bytesA_length, bytesA_one, bytesA_plains, List.take_of_length_le, List.drop_of_length_le, Nat.add_zero, V.one, Nat.reduceLeDiff, List.all_cons, List.all_nil, ne_eq, not_false_eq_true, Nat.zero_le, R3.hw, R3.h1, R3.h2, R3.h3, g3, s0, s3, hlt, ix, hbb, wi, hat, hle1, hle2, h64, hb1, hb2]; done)) | (refine To.condF hxE2 ?_ ?_; focus (simp only [go_sem, eqs hxE2, reduceIte, Nat.reduceEqDiff, Nat.reduceAdd, Nat.reduceMul, Nat.reduceLT, Nat.reduceLeDiff, Int.reduceLT, Int.reduceLE, Int.reduceEq, reduceCtorEq, Int.reduceBEq, Int.reduceBNe, Int.reduceToNat, Nat.reduceSub, Nat.reduceDiv, Int.reduceNeg, Int.reduceAdd, Int.reduceSub, Int.reduceMul, Heap.gets, Heap.sets, Heap.get, bytesA_length, bytesA_one, bytesA_plains, List.take_of_length_le, List.drop_of_length_le, Nat.add_zero, V.one, Nat.reduceLeDiff, List.all_cons, List.all_nil, ne_eq, not_false_eq_true, Nat.zero_le, R3.hw, R3.h1, R3.h2, R3.h3, g3, s0, s3, hlt, ix, hbb, wi, hat, hle1, hle2, h64, hb1, hb2]; done)) | refine To.block hxE2 ?_ | refine To.scope hxE2 ?_ | refine To.ret hxE2 ?_ | refine To.exit hxE2 ?_ | refine To.skip hxE2 ?_ | refine To.label hxE2 ?_ | refine To.draw0 hxE2 ?_ | refine ToD.op0 (by simp only [go_sem, eqs hxE2, reduceIte, Nat.reduceEqDiff, Nat.reduceAdd, Nat.reduceMul, Nat.reduceLT, Nat.reduceLeDiff, Int.reduceLT, Int.reduceLE, Int.reduceEq, reduceCtorEq, Int.reduceBEq, Int.reduceBNe, Int.reduceToNat, Nat.reduceSub, Nat.reduceDiv, Int.reduceNeg, Int.reduceAdd, Int.reduceSub, Int.reduceMul, Heap.gets, Heap.sets, Heap.get, bytesA_length, bytesA_one, bytesA_plains, List.take_of_length_le, List.drop_of_length_le, Nat.add_zero, V.one, Nat.reduceLeDiff, List.all_cons, List.all_nil, ne_eq, not_false_eq_true, Nat.zero_le, R3.hw, R3.h1, R3.h2, R3.h3, g3, s0, s3, hlt, ix, hbb, wi, hat, hle1, hle2, h64, hb1, hb2]; rfl) (by simp only [put_some, put_none]; rfl) ?_ | refine ToD.op1 (by simp only [go_sem, eqs hxE2, reduceIte, Nat.reduceEqDiff, Nat.reduceAdd, Nat.reduceMul, Nat.reduceLT, Nat.reduceLeDiff, Int.reduceLT, Int.reduceLE, Int.reduceEq, reduceCtorEq, Int.reduceBEq, Int.reduceBNe, Int.reduceToNat, Nat.reduceSub, Nat.reduceDiv, Int.reduceNeg, Int.reduceAdd, Int.reduceSub, Int.reduceMul, Heap.gets, Heap.sets, Heap.get, bytesA_length, bytesA_one, bytesA_plains, List.take_of_length_le, List.drop_of_length_le, Nat.add_zero, V.one, Nat.reduceLeDiff, List.all_cons, List.all_nil, ne_eq, not_false_eq_true, Nat.zero_le, R3.hw, R3.h1, R3.h2, R3.h3, g3, s0, s3, hlt, ix, hbb, wi, hat, hle1, hle2, h64, hb1, hb2]; rfl) (by simp only [put_some, put_none]; rfl) (by simp only [KD.app, go_sem, eqs hxE2, reduceIte, Nat.reduceEqDiff, Nat.reduceAdd, Nat.reduceMul, Nat.reduceLT, Nat.reduceLeDiff, Int.reduceLT, Int.reduceLE, Int.reduceEq, reduceCtorEq, Int.reduceBEq, Int.reduceBNe, Int.reduceToNat, Nat.reduceSub, Nat.reduceDiv, Int.reduceNeg, Int.reduceAdd, Int.reduceSub, Int.reduceMul, Heap.gets, Heap.sets, Heap.get, bytesA_length, bytesA_one, bytesA_plains, List.take_of_length_le, List.drop_of_length_le, Nat.add_zero, V.one, Nat.reduceLeDiff, List.all_cons, List.all_nil, ne_eq, not_false_eq_true, Nat.zero_le, R3.hw, R3.h1, R3.h2, R3.h3, g3, s0, s3, hlt, ix, hbb, wi, hat, hle1, hle2, h64, hb1, hb2]; rfl) ?_ | refine ToD.nop ?_ | refine To.draw hxE2 (by decide) ?_))
        try simp only [andThen, outOf]
        have e2 : List.take (i * 64) (pgC la) ++ (bytesA p ++ List.drop (i * 64 + 64) (pgC la)) = pgC (la.set i p) := by
          rw [pgC_set R3.p1 hlai h64, List.append_assoc]
        have e3 := boC_at false (by omega : i < onn.length)
        rw [e2, e3]
        have R4 := (R3.page (k := i) h64).mark (k := i) false
        refine ⟨m - 1, by omega, i + 1, _, _, la.set i p, onn.set i false, by omega, rfl, R4, rx3.trans ((rx_1 _).trans (rx_3 _)), .inr (by omega), by rw [List.length_set]; exact hla, fun j hj => ?_, fun j hj => ?_, ?_⟩
        · by_cases hji : j = i
          · subst hji
            rw [honi, if_pos rfl, hg, List.getElem?_set_self (by omega), List.getElem?_set_self (by omega)]
            exact ⟨rfl, rfl⟩
          · rw [List.getElem?_set_ne (Ne.symm hji), List.getElem?_set_ne (Ne.symm hji)]
            exact hpre j (by omega)
        · rw [List.getElem?_set_ne (by omega), List.getElem?_set_ne (by omega)]
          exact hpost j (by omega)
        · simp only [go_sem, eqs hxE2, reduceIte, Nat.reduceEqDiff, Nat.reduceAdd, Nat.reduceMul, Nat.reduceLT, Nat.reduceLeDiff, Int.reduceLT, Int.reduceLE, Int.reduceEq, reduceCtorEq, Int.reduceBEq, Int.reduceBNe, Int.reduceToNat, Nat.reduceSub, Nat.reduceDiv, Int.reduceNeg, Int.reduceAdd, Int.reduceSub, Int.reduceMul, s0]
    · have hlt : decide ((i : Int) < (la.length : Int)) = false := decide_eq_false (by omega)
      (repeat' (first | refine To.seq hxE2 ?_ | refine To.op0 hxE2 (by simp only [go_sem, eqs hxE2, reduceIte, Nat.reduceEqDiff, Nat.reduceAdd, Nat.reduceMul, Nat.reduceLT, Nat.reduceLeDiff, Int.reduceLT, Int.reduceLE, Int.reduceEq, reduceCtorEq, Int.reduceBEq, Int.reduceBNe, Int.reduceToNat, Nat.reduceSub, Nat.reduceDiv, Int.reduceNeg, Int.reduceAdd, Int.reduceSub, Int.reduceMul, Heap.gets, Heap.sets, Heap.get, bytesA_length, bytesA_one, bytesA_plains, List.take_of_length_le, List.drop_of_length_le, Nat.add_zero, V.one, Nat.reduceLeDiff, List.all_cons, List.all_nil, ne_eq, not_false_eq_true, Nat.zero_le, R3.hw, s0, s3, hlt]; rfl) ?_ | refine To.op1 hxE2 (by simp only [go_sem, eqs hxE2, reduceIte, Nat.reduceEqDiff, Nat.reduceAdd, Nat.reduceMul, Nat.reduceLT, Nat.reduceLeDiff, Int.reduceLT, Int.reduceLE, Int.reduceEq, reduceCtorEq, Int.reduceBEq, Int.reduceBNe, Int.reduceToNat, Nat.reduceSub, Nat.reduceDiv, Int.reduceNeg, Int.reduceAdd, Int.reduceSub, Int.reduceMul, Heap.gets, Heap.sets, Heap.get, bytesA_length, bytesA_one, bytesA_plains, List.take_of_length_le, List.drop_of_length_le, Nat.add_zero, V.one, Nat.reduceLeDiff, List.all_cons, List.all_nil, ne_eq, not_false_eq_true, Nat.zero_le, R3.hw, s0, s3, hlt]; rfl) ?_ | refine To.nop hxE2 ?_ | (refine To.condT hxE2 ?_ ?_; focus (simp only [go_sem, eqs hxE2, reduceIte, Nat.reduceEqDiff, Nat.reduceAdd, Nat.reduceMul, Nat.reduceLT, Nat.reduceLeDiff, Int.reduceLT, Int.reduceLE, Int.reduceEq, reduceCtorEq, Int.reduceBEq, Int.reduceBNe, Int.reduceToNat, Nat.reduceSub, Nat.reduceDiv, Int.reduceNeg, Int.reduceAdd, Int.reduceSub, Int.reduceMul, Heap.gets, Heap.sets, Heap.get, bytesA_length, bytesA_one, bytesA_plains, List.take_of_length_le, List.drop_of_length_le, Nat.add_zero, V.one, Nat.reduceLeDiff, List.all_cons, List.all_nil, ne_eq, not_false_eq_true, Nat.zero_le, R3.hw, s0, s3, hlt]; done)) | (refine To.condF hxE2 ?_ ?_; focus (simp only [go_sem, eqs hxE2, reduceIte, Nat.reduceEqDiff, Nat.reduceAdd, Nat.reduceMul, Nat.reduceLT, Nat.reduceLeDiff, Int.reduceLT, Int.reduceLE, Int.reduceEq, reduceCtorEq, Int.reduceBEq, Int.reduceBNe, Int.reduceToNat, Nat.reduceSub, Nat.reduceDiv, Int.reduceNeg, Int.reduceAdd, Int.reduceSub, Int.reduceMul, Heap.gets, Heap.sets, Heap.get, bytesA_length, bytesA_one, bytesA_plains, List.take_of_length_le, List.drop_of_length_le, Nat.add_zero, V.one, Nat.reduceLeDiff, List.all_cons, List.all_nil, ne_eq, not_false_eq_true, Nat.zero_le, R3.hw, s0, s3, hlt]; done)) | refine To.block hxE2 ?_ | refine To.scope hxE2 ?_ | refine To.ret hxE2 ?_ | refine To.exit hxE2 ?_ | refine To.skip hxE2 ?_ | refine To.label hxE2 ?_))
      try simp only [andThen, outOf]
      refine ⟨_, _, fin1 (i := 2) rfl, by simp only [go_sem, eqs hxE2, reduceIte, Nat.reduceEqDiff, Nat.reduceAdd, Nat.reduceMul, Nat.reduceLT, Nat.reduceLeDiff, Int.reduceLT, Int.reduceLE, Int.reduceEq, reduceCtorEq, Int.reduceBEq, Int.reduceBNe, Int.reduceToNat, Nat.reduceSub, Nat.reduceDiv, Int.reduceNeg, Int.reduceAdd, Int.reduceSub, Int.reduceMul], ?_⟩
      obtain ⟨d3, q1, q2, q3⟩ := leave_same2 (o := o) (o' := o2) (e := e) (d := d) (d' := d2) (v := .int .i64 0) rfl rx3.len (fun h => by
        rcases hdd with hdd | hdd
        · exact hdd
        · omega)
      exact ⟨o2, d3, la, onn, by simp only [get_fput, reduceIte, Nat.reduceEqDiff]; exact q1, R3, rx3, hla, fun j hj => hpre j (by omega)⟩
  · refine ⟨0, ob, db, last, on, by omega, rfl, R2, rx, hdu.imp id (fun h => by omega), rfl, fun j hj => absurd hj (by omega), fun j hj => ⟨rfl, rfl⟩, ?_⟩
    simp only [go_sem, eqs hxE2, reduceIte, Nat.reduceEqDiff, Nat.reduceAdd, Nat.reduceMul, Nat.reduceLT, Nat.reduceLeDiff, Int.reduceLT, Int.reduceLE, Int.reduceEq, reduceCtorEq, Int.reduceBEq, Int.reduceBNe, Int.reduceToNat, Nat.reduceSub, Nat.reduceDiv, Int.reduceNeg, Int.reduceAdd, Int.reduceSub, Int.reduceMul, initS]
end
end Go.Proofs.Ytfbkeieoeagkdaa

