/- Own texts, joined: Q24DC, Q24NA, Q24DP, Q24NB. -/
import Derived.Test.YtjbblfoefibeaaaQ24Part3
/- Wire: the texts that a reader reads. -/
namespace Go.Proofs.Ytjbblfoefibeaaa
open Go AM
set_option linter.unusedSimpArgs false
set_option linter.unusedVariables false
set_option maxRecDepth 100000

theorem takeR_length {n : Nat} {s : List UInt8} {b : Bool} : (takeR n s b).length ≤ s.length := by
  unfold takeR; split
  · exact Nat.le_refl _
  · simp
def lenN (s : List UInt8) (b : Bool) : Nat := be (takeT 2 s b)
def textT (s : List UInt8) (b : Bool) : List UInt8 := takeT (lenN s b) (takeR 2 s b) (takeBad 2 s b)
def textR (s : List UInt8) (b : Bool) : List UInt8 := takeR (lenN s b) (takeR 2 s b) (takeBad 2 s b)
def textBad (s : List UInt8) (b : Bool) : Bool := takeBad (lenN s b) (takeR 2 s b) (takeBad 2 s b)
theorem lenN_lt {s : List UInt8} {b : Bool} : lenN s b < 65536 := by
  have h := be_lt (takeT 2 s b)
  have h2 := Nat.pow_le_pow_right (n := 256) (by decide) (takeT_length (n := 2) (s := s) (b := b))
  exact Nat.lt_of_lt_of_le h h2

set_option maxHeartbeats 2000000 in
theorem rtext_den {o : List AM.Obj} {e d a : Nat} {s : List UInt8} {b : Bool} (ho : o[a]? = some (rdO s b)) (hs : s.length ≤ 1000000) :
    ∃ r oh, Den FF E5 58 [.ptr a 0] ⟨o, e, d⟩ = some (r, oh) ∧ r = .val (.str (textT s b)) ∧ ∃ d', oh = some ⟨o.set a (rdO (textR s b) (textBad s b)), e, d'⟩ ∧ d' ≤ a := by
  refine To.denE hxE5 (f := 58) (a := af58) rfl (E5_none rfl) (Nat.le_of_ble_eq_true rfl) ?_
  have hl := get_lt ho
  obtain ⟨r, oh, q, rfl, d1, rfl, hd1⟩ := rnum_den (n := 2) (z := 2) (e := o.length) (d := o.length) rfl ho (by decide) hs
  have ho1 : (o.set a (rdO (takeR 2 s b) (takeBad 2 s b)))[a]? = some (rdO (takeR 2 s b) (takeBad 2 s b)) := by simp [hl]
  have hn := lenN_lt (s := s) (b := b)
  obtain ⟨r2, oh2, q2, rfl, d2, rfl, hd2⟩ := take_den (n := lenN s b) (e := o.length) (d := d1) ho1 (by omega) (Nat.le_trans takeR_length hs)
  rw [List.set_set] at q2
  unfold lenN at q2
  (repeat' (first | refine To.seq hxE5 ?_ | refine To.op0 hxE5 (by simp only [go_sem, eqs hxE5, reduceIte, Nat.reduceEqDiff, Nat.reduceAdd, Nat.reduceMul, Nat.reduceLT, Nat.reduceLeDiff, Int.reduceLT, Int.reduceLE, Int.reduceEq, reduceCtorEq, Int.reduceBEq, Int.reduceBNe, Int.reduceToNat, Nat.reduceSub, Nat.reduceDiv, Int.reduceNeg, Int.reduceAdd, Int.reduceSub, Int.reduceMul, Heap.gets, Heap.sets, Heap.get, bytesA_length, bytesA_one, bytesA_plains, List.take_of_length_le, List.drop_of_length_le, Nat.add_zero, V.one, Nat.reduceLeDiff, List.all_cons, List.all_nil, ne_eq, not_false_eq_true, Nat.zero_le, q, q2]; rfl) ?_ | refine To.op1 hxE5 (by simp only [go_sem, eqs hxE5, reduceIte, Nat.reduceEqDiff, Nat.reduceAdd, Nat.reduceMul, Nat.reduceLT, Nat.reduceLeDiff, Int.reduceLT, Int.reduceLE, Int.reduceEq, reduceCtorEq, Int.reduceBEq, Int.reduceBNe, Int.reduceToNat, Nat.reduceSub, Nat.reduceDiv, Int.reduceNeg, Int.reduceAdd, Int.reduceSub, Int.reduceMul, Heap.gets, Heap.sets, Heap.get, bytesA_length, bytesA_one, bytesA_plains, List.take_of_length_le, List.drop_of_length_le, Nat.add_zero, V.one, Nat.reduceLeDiff, List.all_cons, List.all_nil, ne_eq, not_false_eq_true, Nat.zero_le, q, q2]; rfl) ?_ | refine To.nop hxE5 ?_ | (refine To.condT hxE5 ?_ ?_; focus (simp only [go_sem, eqs hxE5, reduceIte, Nat.reduceEqDiff, Nat.reduceAdd, Nat.reduceMul, Nat.reduceLT, Nat.reduceLeDiff, Int.reduceLT, Int.reduceLE, Int.reduceEq, reduceCtorEq, Int.reduceBEq, Int.reduceBNe, Int.reduceToNat, Nat.reduceSub, Nat.reduceDiv, Int.reduceNeg, Int.reduceAdd, Int.reduceSub, Int.reduceMul, Heap.gets, Heap.sets, Heap.get, bytesA_length, bytesA_one, bytesA_plains, List.take_of_length_le, List.drop_of_length_le, Nat.add_zero, V.one, Nat.reduceLeDiff, List.all_cons, List.all_nil, ne_eq, not_false_eq_true, Nat.zero_le, q, q2]; done)) | (refine To.condF hxE5 ?_ ?_; focus (simp only [go_sem, eqs hxE5, reduceIte, Nat.reduceEqDiff, Nat.reduceAdd, Nat.reduceMul, Nat.reduceLT, Nat.reduceLeDiff, Int.reduceLT, Int.reduceLE, Int.reduceEq, reduceCtorEq, Int.reduceBEq, Int.reduceBNe, Int.reduceToNat, Nat.reduceSub, Nat.reduceDiv, Int.reduceNeg, Int.reduceAdd, Int.reduceSub, Int.reduceMul, Heap.gets, Heap.sets, Heap.get, bytesA_length, bytesA_one, bytesA_plains, List.take_of_length_le, List.drop_of_length_le, Nat.add_zero, V.one, Nat.reduceLeDiff, List.all_cons, List.all_nil, ne_eq, not_false_eq_true, Nat.zero_le, q, q2]; done)) | refine To.block hxE5 ?_ | refine To.scope hxE5 ?_ | refine To.ret hxE5 ?_ | refine To.exit hxE5 ?_ | refine To.skip hxE5 ?_ | refine To.label hxE5 ?_))
  refine ⟨_, _, fin1 (i := 2) rfl, ?_, ?_⟩
  · simp only [go_sem, eqs hxE5, reduceIte, Nat.reduceEqDiff, Nat.reduceAdd, Nat.reduceMul, Nat.reduceLT, Nat.reduceLeDiff, Int.reduceLT, Int.reduceLE, Int.reduceEq, reduceCtorEq, Int.reduceBEq, Int.reduceBNe, Int.reduceToNat, Nat.reduceSub, Nat.reduceDiv, Int.reduceNeg, Int.reduceAdd, Int.reduceSub, Int.reduceMul, textT, lenN]
  · simp only [go_sem, eqs hxE5, reduceIte, Nat.reduceEqDiff, Nat.reduceAdd, Nat.reduceMul, Nat.reduceLT, Nat.reduceLeDiff, Int.reduceLT, Int.reduceLE, Int.reduceEq, reduceCtorEq, Int.reduceBEq, Int.reduceBNe, Int.reduceToNat, Nat.reduceSub, Nat.reduceDiv, Int.reduceNeg, Int.reduceAdd, Int.reduceSub, Int.reduceMul, textR, textBad, lenN]
    rw [if_neg (by omega), List.take_of_length_le (by simp)]
    exact ⟨_, rfl, by omega⟩

theorem rdone_den {o : List AM.Obj} {e d a : Nat} {s : List UInt8} {b : Bool} {x y : Int} (ho : o[a]? = some (rdO s b)) :
    ∃ r oh, Den FF E5 59 [.ptr a 0, .int .i64 x, .int .i64 y] ⟨o, e, d⟩ = some (r, oh) ∧ r = .val (.bool (!b && (s == [] && x == y))) ∧ oh = none := by
  refine To.denE hxE5 (f := 59) (a := af59) rfl (E5_none rfl) (Nat.le_of_ble_eq_true rfl) ?_
  have hl := get_lt ho
  unfold rdO at *
  cases b
  · cases c : (s == [])
    · (repeat' (first | refine To.seq hxE5 ?_ | refine To.op0 hxE5 (by simp only [go_sem, eqs hxE5, reduceIte, Nat.reduceEqDiff, Nat.reduceAdd, Nat.reduceMul, Nat.reduceLT, Nat.reduceLeDiff, Int.reduceLT, Int.reduceLE, Int.reduceEq, reduceCtorEq, Int.reduceBEq, Int.reduceBNe, Int.reduceToNat, Nat.reduceSub, Nat.reduceDiv, Int.reduceNeg, Int.reduceAdd, Int.reduceSub, Int.reduceMul, Heap.gets, Heap.sets, Heap.get, bytesA_length, bytesA_one, bytesA_plains, List.take_of_length_le, List.drop_of_length_le, Nat.add_zero, V.one, Nat.reduceLeDiff, List.all_cons, List.all_nil, ne_eq, not_false_eq_true, Nat.zero_le, ho, c]; rfl) ?_ | refine To.op1 hxE5 (by simp only [go_sem, eqs hxE5, reduceIte, Nat.reduceEqDiff, Nat.reduceAdd, Nat.reduceMul, Nat.reduceLT, Nat.reduceLeDiff, Int.reduceLT, Int.reduceLE, Int.reduceEq, reduceCtorEq, Int.reduceBEq, Int.reduceBNe, Int.reduceToNat, Nat.reduceSub, Nat.reduceDiv, Int.reduceNeg, Int.reduceAdd, Int.reduceSub, Int.reduceMul, Heap.gets, Heap.sets, Heap.get, bytesA_length, bytesA_one, bytesA_plains, List.take_of_length_le, List.drop_of_length_le, Nat.add_zero, V.one, Nat.reduceLeDiff, List.all_cons, List.all_nil, ne_eq, not_false_eq_true, Nat.zero_le, ho, c]; rfl) ?_ | refine To.nop hxE5 ?_ | (refine To.condT hxE5 ?_ ?_; focus (simp only [go_sem, eqs hxE5, reduceIte, Nat.reduceEqDiff, Nat.reduceAdd, Nat.reduceMul, Nat.reduceLT, Nat.reduceLeDiff, Int.reduceLT, Int.reduceLE, Int.reduceEq, reduceCtorEq, Int.reduceBEq, Int.reduceBNe, Int.reduceToNat, Nat.reduceSub, Nat.reduceDiv, Int.reduceNeg, Int.reduceAdd, Int.reduceSub, Int.reduceMul, Heap.gets, Heap.sets, Heap.get, bytesA_length, bytesA_one, bytesA_plains, List.take_of_length_le, List.drop_of_length_le, Nat.add_zero, V.one, Nat.reduceLeDiff, List.all_cons, List.all_nil, ne_eq, not_false_eq_true, Nat.zero_le, ho, c]; done)) | (refine To.condF hxE5 ?_ ?_; focus (simp only [go_sem, eqs hxE5, reduceIte, Nat.reduceEqDiff, Nat.reduceAdd, Nat.reduceMul, Nat.reduceLT, Nat.reduceLeDiff, Int.reduceLT, Int.reduceLE, Int.reduceEq, reduceCtorEq, Int.reduceBEq, Int.reduceBNe, Int.reduceToNat, Nat.reduceSub, Nat.reduceDiv, Int.reduceNeg, Int.reduceAdd, Int.reduceSub, Int.reduceMul, Heap.gets, Heap.sets, Heap.get, bytesA_length, bytesA_one, bytesA_plains, List.take_of_length_le, List.drop_of_length_le, Nat.add_zero, V.one, Nat.reduceLeDiff, List.all_cons, List.all_nil, ne_eq, not_false_eq_true, Nat.zero_le, ho, c]; done)) | refine To.block hxE5 ?_ | refine To.scope hxE5 ?_ | refine To.ret hxE5 ?_ | refine To.exit hxE5 ?_ | refine To.skip hxE5 ?_ | refine To.label hxE5 ?_))
      refine ⟨_, _, fin1 (i := 6) rfl, ?_, ?_⟩
      · simp only [go_sem, eqs hxE5, reduceIte, Nat.reduceEqDiff, Nat.reduceAdd, Nat.reduceMul, Nat.reduceLT, Nat.reduceLeDiff, Int.reduceLT, Int.reduceLE, Int.reduceEq, reduceCtorEq, Int.reduceBEq, Int.reduceBNe, Int.reduceToNat, Nat.reduceSub, Nat.reduceDiv, Int.reduceNeg, Int.reduceAdd, Int.reduceSub, Int.reduceMul, c, Bool.false_and]
      · rw [leave_plain (Kp.enter ⟨o, e, d⟩) (by simp only [go_sem, eqs hxE5, reduceIte, Nat.reduceEqDiff, Nat.reduceAdd, Nat.reduceMul, Nat.reduceLT, Nat.reduceLeDiff, Int.reduceLT, Int.reduceLE, Int.reduceEq, reduceCtorEq, Int.reduceBEq, Int.reduceBNe, Int.reduceToNat, Nat.reduceSub, Nat.reduceDiv, Int.reduceNeg, Int.reduceAdd, Int.reduceSub, Int.reduceMul])]
    · (repeat' (first | refine To.seq hxE5 ?_ | refine To.op0 hxE5 (by simp only [go_sem, eqs hxE5, reduceIte, Nat.reduceEqDiff, Nat.reduceAdd, Nat.reduceMul, Nat.reduceLT, Nat.reduceLeDiff, Int.reduceLT, Int.reduceLE, Int.reduceEq, reduceCtorEq, Int.reduceBEq, Int.reduceBNe, Int.reduceToNat, Nat.reduceSub, Nat.reduceDiv, Int.reduceNeg, Int.reduceAdd, Int.reduceSub, Int.reduceMul, Heap.gets, Heap.sets, Heap.get, bytesA_length, bytesA_one, bytesA_plains, List.take_of_length_le, List.drop_of_length_le, Nat.add_zero, V.one, Nat.reduceLeDiff, List.all_cons, List.all_nil, ne_eq, not_false_eq_true, Nat.zero_le, ho, c]; rfl) ?_ | refine To.op1 hxE5 (by simp only [go_sem, eqs hxE5, reduceIte, Nat.reduceEqDiff, Nat.reduceAdd, Nat.reduceMul, Nat.reduceLT, Nat.reduceLeDiff, Int.reduceLT, Int.reduceLE, Int.reduceEq, reduceCtorEq, Int.reduceBEq, Int.reduceBNe, Int.reduceToNat, Nat.reduceSub, Nat.reduceDiv, Int.reduceNeg, Int.reduceAdd, Int.reduceSub, Int.reduceMul, Heap.gets, Heap.sets, Heap.get, bytesA_length, bytesA_one, bytesA_plains, List.take_of_length_le, List.drop_of_length_le, Nat.add_zero, V.one, Nat.reduceLeDiff, List.all_cons, List.all_nil, ne_eq, not_false_eq_true, Nat.zero_le, ho, c]; rfl) ?_ | refine To.nop hxE5 ?_ | (refine To.condT hxE5 ?_ ?_; focus (simp only [go_sem, eqs hxE5, reduceIte, Nat.reduceEqDiff, Nat.reduceAdd, Nat.reduceMul, Nat.reduceLT, Nat.reduceLeDiff, Int.reduceLT, Int.reduceLE, Int.reduceEq, reduceCtorEq, Int.reduceBEq, Int.reduceBNe, Int.reduceToNat, Nat.reduceSub, Nat.reduceDiv, Int.reduceNeg, Int.reduceAdd, Int.reduceSub, Int.reduceMul, Heap.gets, Heap.sets, Heap.get, bytesA_length, bytesA_one, bytesA_plains, List.take_of_length_le, List.drop_of_length_le, Nat.add_zero, V.one, Nat.reduceLeDiff, List.all_cons, List.all_nil, ne_eq, not_false_eq_true, Nat.zero_le, ho, c]; done)) | (refine To.condF hxE5 ?_ ?_; focus (simp only [go_sem, eqs hxE5, reduceIte, Nat.reduceEqDiff, Nat.reduceAdd, Nat.reduceMul, Nat.reduceLT, Nat.reduceLeDiff, Int.reduceLT, Int.reduceLE, Int.reduceEq, reduceCtorEq, Int.reduceBEq, Int.reduceBNe, Int.reduceToNat, Nat.reduceSub, Nat.reduceDiv, Int.reduceNeg, Int.reduceAdd, Int.reduceSub, Int.reduceMul, Heap.gets, Heap.sets, Heap.get, bytesA_length, bytesA_one, bytesA_plains, List.take_of_length_le, List.drop_of_length_le, Nat.add_zero, V.one, Nat.reduceLeDiff, List.all_cons, List.all_nil, ne_eq, not_false_eq_true, Nat.zero_le, ho, c]; done)) | refine To.block hxE5 ?_ | refine To.scope hxE5 ?_ | refine To.ret hxE5 ?_ | refine To.exit hxE5 ?_ | refine To.skip hxE5 ?_ | refine To.label hxE5 ?_))
      refine ⟨_, _, fin1 (i := 6) rfl, ?_, ?_⟩
      · simp only [go_sem, eqs hxE5, reduceIte, Nat.reduceEqDiff, Nat.reduceAdd, Nat.reduceMul, Nat.reduceLT, Nat.reduceLeDiff, Int.reduceLT, Int.reduceLE, Int.reduceEq, reduceCtorEq, Int.reduceBEq, Int.reduceBNe, Int.reduceToNat, Nat.reduceSub, Nat.reduceDiv, Int.reduceNeg, Int.reduceAdd, Int.reduceSub, Int.reduceMul, c, Bool.false_and]
      · rw [leave_plain (Kp.enter ⟨o, e, d⟩) (by simp only [go_sem, eqs hxE5, reduceIte, Nat.reduceEqDiff, Nat.reduceAdd, Nat.reduceMul, Nat.reduceLT, Nat.reduceLeDiff, Int.reduceLT, Int.reduceLE, Int.reduceEq, reduceCtorEq, Int.reduceBEq, Int.reduceBNe, Int.reduceToNat, Nat.reduceSub, Nat.reduceDiv, Int.reduceNeg, Int.reduceAdd, Int.reduceSub, Int.reduceMul])]
  · (repeat' (first | refine To.seq hxE5 ?_ | refine To.op0 hxE5 (by simp only [go_sem, eqs hxE5, reduceIte, Nat.reduceEqDiff, Nat.reduceAdd, Nat.reduceMul, Nat.reduceLT, Nat.reduceLeDiff, Int.reduceLT, Int.reduceLE, Int.reduceEq, reduceCtorEq, Int.reduceBEq, Int.reduceBNe, Int.reduceToNat, Nat.reduceSub, Nat.reduceDiv, Int.reduceNeg, Int.reduceAdd, Int.reduceSub, Int.reduceMul, Heap.gets, Heap.sets, Heap.get, bytesA_length, bytesA_one, bytesA_plains, List.take_of_length_le, List.drop_of_length_le, Nat.add_zero, V.one, Nat.reduceLeDiff, List.all_cons, List.all_nil, ne_eq, not_false_eq_true, Nat.zero_le, ho]; rfl) ?_ | refine To.op1 hxE5 (by simp only [go_sem, eqs hxE5, reduceIte, Nat.reduceEqDiff, Nat.reduceAdd, Nat.reduceMul, Nat.reduceLT, Nat.reduceLeDiff, Int.reduceLT, Int.reduceLE, Int.reduceEq, reduceCtorEq, Int.reduceBEq, Int.reduceBNe, Int.reduceToNat, Nat.reduceSub, Nat.reduceDiv, Int.reduceNeg, Int.reduceAdd, Int.reduceSub, Int.reduceMul, Heap.gets, Heap.sets, Heap.get, bytesA_length, bytesA_one, bytesA_plains, List.take_of_length_le, List.drop_of_length_le, Nat.add_zero, V.one, Nat.reduceLeDiff, List.all_cons, List.all_nil, ne_eq, not_false_eq_true, Nat.zero_le, ho]; rfl) ?_ | refine To.nop hxE5 ?_ | (refine To.condT hxE5 ?_ ?_; focus (simp only [go_sem, eqs hxE5, reduceIte, Nat.reduceEqDiff, Nat.reduceAdd, Nat.reduceMul, Nat.reduceLT, Nat.reduceLeDiff, Int.reduceLT, Int.reduceLE, Int.reduceEq, reduceCtorEq, Int.reduceBEq, Int.reduceBNe, Int.reduceToNat, Nat.reduceSub, Nat.reduceDiv, Int.reduceNeg, Int.reduceAdd, Int.reduceSub, Int.reduceMul, Heap.gets, Heap.sets, Heap.get, bytesA_length, bytesA_one, bytesA_plains, List.take_of_length_le, List.drop_of_length_le, Nat.add_zero, V.one, Nat.reduceLeDiff, List.all_cons, List.all_nil, ne_eq, not_false_eq_true, Nat.zero_le, ho]; done)) | (refine To.condF hxE5 ?_ ?_; focus (simp only [go_sem, eqs hxE5, reduceIte, Nat.reduceEqDiff, Nat.reduceAdd, Nat.reduceMul, Nat.reduceLT, Nat.reduceLeDiff, Int.reduceLT, Int.reduceLE, Int.reduceEq, reduceCtorEq, Int.reduceBEq, Int.reduceBNe, Int.reduceToNat, Nat.reduceSub, Nat.reduceDiv, Int.reduceNeg, Int.reduceAdd, Int.reduceSub, Int.reduceMul, Heap.gets, Heap.sets, Heap.get, bytesA_length, bytesA_one, bytesA_plains, List.take_of_length_le, List.drop_of_length_le, Nat.add_zero, V.one, Nat.reduceLeDiff, List.all_cons, List.all_nil, ne_eq, not_false_eq_true, Nat.zero_le, ho]; done)) | refine To.block hxE5 ?_ | refine To.scope hxE5 ?_ | refine To.ret hxE5 ?_ | refine To.exit hxE5 ?_ | refine To.skip hxE5 ?_ | refine To.label hxE5 ?_))
    refine ⟨_, _, fin1 (i := 6) rfl, ?_, ?_⟩
    · simp only [go_sem, eqs hxE5, reduceIte, Nat.reduceEqDiff, Nat.reduceAdd, Nat.reduceMul, Nat.reduceLT, Nat.reduceLeDiff, Int.reduceLT, Int.reduceLE, Int.reduceEq, reduceCtorEq, Int.reduceBEq, Int.reduceBNe, Int.reduceToNat, Nat.reduceSub, Nat.reduceDiv, Int.reduceNeg, Int.reduceAdd, Int.reduceSub, Int.reduceMul, Bool.false_and]
    · rw [leave_plain (Kp.enter ⟨o, e, d⟩) (by simp only [go_sem, eqs hxE5, reduceIte, Nat.reduceEqDiff, Nat.reduceAdd, Nat.reduceMul, Nat.reduceLT, Nat.reduceLeDiff, Int.reduceLT, Int.reduceLE, Int.reduceEq, reduceCtorEq, Int.reduceBEq, Int.reduceBNe, Int.reduceToNat, Nat.reduceSub, Nat.reduceDiv, Int.reduceNeg, Int.reduceAdd, Int.reduceSub, Int.reduceMul])]
/-- What is left to read, and whether it went wrong. -/
abbrev Rst := List UInt8 × Bool
def rdS (n : Nat) (p : Rst) : Rst := (takeR n p.1 p.2, takeBad n p.1 p.2)
def rdV (n : Nat) (p : Rst) : Nat := be (takeT n p.1 p.2)
def rdP (p : Rst) : AM.Obj := rdO p.1 p.2
def txS (p : Rst) : Rst := (textR p.1 p.2, textBad p.1 p.2)
def txV (p : Rst) : List UInt8 := textT p.1 p.2
theorem finCT {a : AF} {h : Heap} {S : Nat → V} {h' : Heap} {i n j l o : Nat} {cs : List V} (hr : a.res = [.c i (some n), .t j]) (hS : S i = .ptr l o) (hg : h'.gets l o n = some cs) :
    finish a h (some (.ret, S, h')) = some (.val (.tuple [.agg cs, S j]), leave h h' (.tuple [.agg cs, S j])) := by
  have e : Slots.get S i = .ptr l o := hS
  simp only [finish, hr, resAll, resOne, resV, e, hg, Option.map_some]; rfl

theorem rdS_length {n : Nat} {p : Rst} : (rdS n p).1.length ≤ p.1.length := takeR_length
theorem txS_length {p : Rst} : (txS p).1.length ≤ p.1.length := Nat.le_trans takeR_length takeR_length
end Go.Proofs.Ytjbblfoefibeaaa

/- Wire: notices, as they are put and read. -/
namespace Go.Proofs.Ytjbblfoefibeaaa
open Go AM
set_option linter.unusedSimpArgs false
set_option linter.unusedVariables false
set_option maxRecDepth 100000

structure NIs (k i : Int) (nm : List UInt8) : Prop where
  k0 : 1 ≤ k
  k1 : k ≤ 2
  i0 : 1 ≤ i
  i1 : i ≤ 128
  nm1 : nm.length ≤ 13
theorem nIs {k i : Int} {nm : List UInt8} (h : rightN k i nm = true) : NIs k i nm := by
  simp only [rightN, Bool.and_eq_true, Bool.or_eq_true, decide_eq_true_eq, beq_iff_eq] at h
  obtain ⟨⟨a, b⟩, ⟨rfl, rfl⟩ | ⟨rfl, h⟩⟩ := h
  · exact ⟨by omega, by omega, a, b, by simp⟩
  · refine ⟨by omega, by omega, a, b, ?_⟩
    unfold checkN at h
    split at h
    · cases h
    · split at h
      · cases h
      · rename_i _ hd
        have := of_decide_eq_false (by simpa using hd : decide (13 < nm.length) = false)
        omega

def noteB (k i : Int) (nm : List UInt8) : List UInt8 := bigF 3 1 ++ (bigF k 1 ++ (bigF i 4 ++ textB nm))
def putN (k i : Int) (nm : List UInt8) : V := if rightN k i nm = true then .tuple [.str (noteB k i nm), .int .i64 0] else .tuple [.str [], .int .i64 22]
def tNoteB : Ans
  | [.agg [.int .i64 k, .int .i64 i, .str nm]] => if rightN k i nm = true then some (.str (noteB k i nm)) else none
  | _ => none
set_option maxHeartbeats 4000000 in
theorem okNoteB : SpOk FF E5 22 tNoteB := by
  intro args v h hpl
  unfold tNoteB at h
  split at h
  · rename_i k i nm
    split at h
    · rename_i hc
      cases h
      obtain ⟨a1, a2, a3, a4, a5⟩ := nIs hc
      refine ⟨rfl, _, (?_ : Den FF E5 22 [.agg [.int .i64 k, .int .i64 i, .str nm]] H0 = some (.val (.str (noteB k i nm)), none))⟩
      refine To.den hxE5 (f := 22) (a := af22) rfl (E5_none rfl) (Nat.le_of_ble_eq_true rfl) ?_
      have q0 := fun h => eBig_5 3 1 (by decide) h
      have q1 := fun h => eBig_5 k 1 ⟨by omega, by omega, by decide, by decide⟩ h
      have q2 := fun h => eBig_5 i 4 ⟨by omega, by omega, by decide, by decide⟩ h
      have q7 := fun h => eText_5 nm (by omega) h
      have l3 : (6 + (2 + nm.length) ≤ 9223372036854775807) = True := eq_true (by omega)
      have l4 : (1 + (1 + 4) + (2 + nm.length) ≤ 9223372036854775807) = True := eq_true (by omega)
      (repeat' (first | refine To.seq hxE5 ?_ | refine To.op0 hxE5 (by simp only [go_sem, eqs hxE5, reduceIte, Nat.reduceEqDiff, Nat.reduceAdd, Nat.reduceMul, Nat.reduceLT, Nat.reduceLeDiff, Int.reduceLT, Int.reduceLE, Int.reduceEq, reduceCtorEq, Int.reduceBEq, Int.reduceBNe, Int.reduceToNat, Nat.reduceSub, Nat.reduceDiv, Int.reduceNeg, Int.reduceAdd, Int.reduceSub, Int.reduceMul, Heap.gets, Heap.sets, Heap.get, bytesA_length, bytesA_one, bytesA_plains, List.take_of_length_le, List.drop_of_length_le, Nat.add_zero, V.one, Nat.reduceLeDiff, List.all_cons, List.all_nil, ne_eq, not_false_eq_true, Nat.zero_le, q0, q1, q2, q7, bigF_length, textB_length, l3, l4]; rfl) ?_ | refine To.op1 hxE5 (by simp only [go_sem, eqs hxE5, reduceIte, Nat.reduceEqDiff, Nat.reduceAdd, Nat.reduceMul, Nat.reduceLT, Nat.reduceLeDiff, Int.reduceLT, Int.reduceLE, Int.reduceEq, reduceCtorEq, Int.reduceBEq, Int.reduceBNe, Int.reduceToNat, Nat.reduceSub, Nat.reduceDiv, Int.reduceNeg, Int.reduceAdd, Int.reduceSub, Int.reduceMul, Heap.gets, Heap.sets, Heap.get, bytesA_length, bytesA_one, bytesA_plains, List.take_of_length_le, List.drop_of_length_le, Nat.add_zero, V.one, Nat.reduceLeDiff, List.all_cons, List.all_nil, ne_eq, not_false_eq_true, Nat.zero_le, q0, q1, q2, q7, bigF_length, textB_length, l3, l4]; rfl) ?_ | refine To.nop hxE5 ?_ | (refine To.condT hxE5 ?_ ?_; focus (simp only [go_sem, eqs hxE5, reduceIte, Nat.reduceEqDiff, Nat.reduceAdd, Nat.reduceMul, Nat.reduceLT, Nat.reduceLeDiff, Int.reduceLT, Int.reduceLE, Int.reduceEq, reduceCtorEq, Int.reduceBEq, Int.reduceBNe, Int.reduceToNat, Nat.reduceSub, Nat.reduceDiv, Int.reduceNeg, Int.reduceAdd, Int.reduceSub, Int.reduceMul, Heap.gets, Heap.sets, Heap.get, bytesA_length, bytesA_one, bytesA_plains, List.take_of_length_le, List.drop_of_length_le, Nat.add_zero, V.one, Nat.reduceLeDiff, List.all_cons, List.all_nil, ne_eq, not_false_eq_true, Nat.zero_le, q0, q1, q2, q7, bigF_length, textB_length, l3, l4]; done)) | (refine To.condF hxE5 ?_ ?_; focus (simp only [go_sem, eqs hxE5, reduceIte, Nat.reduceEqDiff, Nat.reduceAdd, Nat.reduceMul, Nat.reduceLT, Nat.reduceLeDiff, Int.reduceLT, Int.reduceLE, Int.reduceEq, reduceCtorEq, Int.reduceBEq, Int.reduceBNe, Int.reduceToNat, Nat.reduceSub, Nat.reduceDiv, Int.reduceNeg, Int.reduceAdd, Int.reduceSub, Int.reduceMul, Heap.gets, Heap.sets, Heap.get, bytesA_length, bytesA_one, bytesA_plains, List.take_of_length_le, List.drop_of_length_le, Nat.add_zero, V.one, Nat.reduceLeDiff, List.all_cons, List.all_nil, ne_eq, not_false_eq_true, Nat.zero_le, q0, q1, q2, q7, bigF_length, textB_length, l3, l4]; done)) | refine To.block hxE5 ?_ | refine To.scope hxE5 ?_ | refine To.ret hxE5 ?_ | refine To.exit hxE5 ?_ | refine To.skip hxE5 ?_ | refine To.label hxE5 ?_ | refine To.draw0 hxE5 ?_ | refine ToD.op0 (by simp only [go_sem, eqs hxE5, reduceIte, Nat.reduceEqDiff, Nat.reduceAdd, Nat.reduceMul, Nat.reduceLT, Nat.reduceLeDiff, Int.reduceLT, Int.reduceLE, Int.reduceEq, reduceCtorEq, Int.reduceBEq, Int.reduceBNe, Int.reduceToNat, Nat.reduceSub, Nat.reduceDiv, Int.reduceNeg, Int.reduceAdd, Int.reduceSub, Int.reduceMul, Heap.gets, Heap.sets, Heap.get, bytesA_length, bytesA_one, bytesA_plains, List.take_of_length_le, List.drop_of_length_le, Nat.add_zero, V.one, Nat.reduceLeDiff, List.all_cons, List.all_nil, ne_eq, not_false_eq_true, Nat.zero_le, q0, q1, q2, q7, bigF_length, textB_length, l3, l4]; rfl) (by simp only [put_some, put_none]; rfl) ?_ | refine ToD.op1 (by simp only [go_sem, eqs hxE5, reduceIte, Nat.reduceEqDiff, Nat.reduceAdd, Nat.reduceMul, Nat.reduceLT, Nat.reduceLeDiff, Int.reduceLT, Int.reduceLE, Int.reduceEq, reduceCtorEq, Int.reduceBEq, Int.reduceBNe, Int.reduceToNat, Nat.reduceSub, Nat.reduceDiv, Int.reduceNeg, Int.reduceAdd, Int.reduceSub, Int.reduceMul, Heap.gets, Heap.sets, Heap.get, bytesA_length, bytesA_one, bytesA_plains, List.take_of_length_le, List.drop_of_length_le, Nat.add_zero, V.one, Nat.reduceLeDiff, List.all_cons, List.all_nil, ne_eq, not_false_eq_true, Nat.zero_le, q0, q1, q2, q7, bigF_length, textB_length, l3, l4]; rfl) (by simp only [put_some, put_none]; rfl) (by simp only [KD.app, go_sem, eqs hxE5, reduceIte, Nat.reduceEqDiff, Nat.reduceAdd, Nat.reduceMul, Nat.reduceLT, Nat.reduceLeDiff, Int.reduceLT, Int.reduceLE, Int.reduceEq, reduceCtorEq, Int.reduceBEq, Int.reduceBNe, Int.reduceToNat, Nat.reduceSub, Nat.reduceDiv, Int.reduceNeg, Int.reduceAdd, Int.reduceSub, Int.reduceMul, Heap.gets, Heap.sets, Heap.get, bytesA_length, bytesA_one, bytesA_plains, List.take_of_length_le, List.drop_of_length_le, Nat.add_zero, V.one, Nat.reduceLeDiff, List.all_cons, List.all_nil, ne_eq, not_false_eq_true, Nat.zero_le, q0, q1, q2, q7, bigF_length, textB_length, l3, l4]; rfl) ?_ | refine ToD.nop ?_ | refine To.draw hxE5 (by decide) ?_))
      simp only [andThen, outOf, go_sem, eqs hxE5, reduceIte, Nat.reduceEqDiff, Nat.reduceAdd, Nat.reduceMul, Nat.reduceLT, Nat.reduceLeDiff, Int.reduceLT, Int.reduceLE, Int.reduceEq, reduceCtorEq, Int.reduceBEq, Int.reduceBNe, Int.reduceToNat, Nat.reduceSub, Nat.reduceDiv, Int.reduceNeg, Int.reduceAdd, Int.reduceSub, Int.reduceMul, Heap.gets, Heap.sets, Heap.get, bytesA_length, bytesA_one, bytesA_plains, List.take_of_length_le, List.drop_of_length_le, Nat.add_zero, V.one, Nat.reduceLeDiff, List.all_cons, List.all_nil, ne_eq, not_false_eq_true, Nat.zero_le, af22, noteB, List.append_assoc]
    · cases h
  · cases h

theorem noteB_eq {k i : Int} {nm : List UInt8} (h : NIs k i nm) :
    [] ++ tobeI 1 3 ++ tobeI 1 k ++ numsB [i] ++ tobeI 2 (nm.length : Int) ++ nm = noteB k i nm := by
  obtain ⟨a1, a2, a3, a4, a5⟩ := h
  have tb : ∀ (s : Nat) {n : Int}, 0 ≤ n → tobeI s n = bigF n (s : Int) := by
    intro s n h
    obtain ⟨a, rfl⟩ : ∃ a : Nat, n = (a : Int) := ⟨n.toNat, by omega⟩
    rw [tobeI_nat]; rfl
  rw [tb 1 (by omega), tb 1 (by omega), tobeI_nat]
  simp only [numsB, List.map_cons, List.map_nil, List.flatten_cons, List.flatten_nil, List.append_nil]
  rw [tb 4 (by omega)]
  simp only [noteB, textB, List.nil_append, List.append_assoc]
  rfl
theorem Wr.app' {o : List AM.Obj} {w : Nat} {bs : List UInt8} (h : Wr o w bs) (r : List AM.Obj) : Wr (o ++ r) w bs := by
  obtain ⟨p, v, hw, hp, hb⟩ := h
  refine ⟨p, v, app_old hw r, hp, ?_⟩
  rcases hb with h | ⟨m, hv, hm⟩
  · exact .inl h
  · exact .inr ⟨m, hv, app_old hm r⟩

set_option maxHeartbeats 4000000 in
theorem putN_den (k i : Int) (nm : List UInt8) : ∃ r oh, Den FF E5 19 [.agg [.int .i64 k, .int .i64 i, .str nm]] H0 = some (r, oh) ∧ r = .val (putN k i nm) ∧ oh = none := by
  refine To.denE hxE5 (f := 19) (a := af19) rfl (E5_none rfl) (Nat.le_of_ble_eq_true rfl) ?_
  unfold putN
  cases c0 : rightN k i nm
  · (repeat' (first | refine To.seq hxE5 ?_ | refine To.op0 hxE5 (by simp only [go_sem, eqs hxE5, reduceIte, Nat.reduceEqDiff, Nat.reduceAdd, Nat.reduceMul, Nat.reduceLT, Nat.reduceLeDiff, Int.reduceLT, Int.reduceLE, Int.reduceEq, reduceCtorEq, Int.reduceBEq, Int.reduceBNe, Int.reduceToNat, Nat.reduceSub, Nat.reduceDiv, Int.reduceNeg, Int.reduceAdd, Int.reduceSub, Int.reduceMul, Heap.gets, Heap.sets, Heap.get, bytesA_length, bytesA_one, bytesA_plains, List.take_of_length_le, List.drop_of_length_le, Nat.add_zero, V.one, Nat.reduceLeDiff, List.all_cons, List.all_nil, ne_eq, not_false_eq_true, Nat.zero_le, eNRight_5, c0]; rfl) ?_ | refine To.op1 hxE5 (by simp only [go_sem, eqs hxE5, reduceIte, Nat.reduceEqDiff, Nat.reduceAdd, Nat.reduceMul, Nat.reduceLT, Nat.reduceLeDiff, Int.reduceLT, Int.reduceLE, Int.reduceEq, reduceCtorEq, Int.reduceBEq, Int.reduceBNe, Int.reduceToNat, Nat.reduceSub, Nat.reduceDiv, Int.reduceNeg, Int.reduceAdd, Int.reduceSub, Int.reduceMul, Heap.gets, Heap.sets, Heap.get, bytesA_length, bytesA_one, bytesA_plains, List.take_of_length_le, List.drop_of_length_le, Nat.add_zero, V.one, Nat.reduceLeDiff, List.all_cons, List.all_nil, ne_eq, not_false_eq_true, Nat.zero_le, eNRight_5, c0]; rfl) ?_ | refine To.nop hxE5 ?_ | (refine To.condT hxE5 ?_ ?_; focus (simp only [go_sem, eqs hxE5, reduceIte, Nat.reduceEqDiff, Nat.reduceAdd, Nat.reduceMul, Nat.reduceLT, Nat.reduceLeDiff, Int.reduceLT, Int.reduceLE, Int.reduceEq, reduceCtorEq, Int.reduceBEq, Int.reduceBNe, Int.reduceToNat, Nat.reduceSub, Nat.reduceDiv, Int.reduceNeg, Int.reduceAdd, Int.reduceSub, Int.reduceMul, Heap.gets, Heap.sets, Heap.get, bytesA_length, bytesA_one, bytesA_plains, List.take_of_length_le, List.drop_of_length_le, Nat.add_zero, V.one, Nat.reduceLeDiff, List.all_cons, List.all_nil, ne_eq, not_false_eq_true, Nat.zero_le, eNRight_5, c0]; done)) | (refine To.condF hxE5 ?_ ?_; focus (simp only [go_sem, eqs hxE5, reduceIte, Nat.reduceEqDiff, Nat.reduceAdd, Nat.reduceMul, Nat.reduceLT, Nat.reduceLeDiff, Int.reduceLT, Int.reduceLE, Int.reduceEq, reduceCtorEq, Int.reduceBEq, Int.reduceBNe, Int.reduceToNat, Nat.reduceSub, Nat.reduceDiv, Int.reduceNeg, Int.reduceAdd, Int.reduceSub, Int.reduceMul, Heap.gets, Heap.sets, Heap.get, bytesA_length, bytesA_one, bytesA_plains, List.take_of_length_le, List.drop_of_length_le, Nat.add_zero, V.one, Nat.reduceLeDiff, List.all_cons, List.all_nil, ne_eq, not_false_eq_true, Nat.zero_le, eNRight_5, c0]; done)) | refine To.block hxE5 ?_ | refine To.scope hxE5 ?_ | refine To.ret hxE5 ?_ | refine To.exit hxE5 ?_ | refine To.skip hxE5 ?_ | refine To.label hxE5 ?_))
    refine ⟨_, _, fin2 (i := 2) (j := 3) rfl, ?_, ?_⟩
    · simp only [go_sem, eqs hxE5, reduceIte, Nat.reduceEqDiff, Nat.reduceAdd, Nat.reduceMul, Nat.reduceLT, Nat.reduceLeDiff, Int.reduceLT, Int.reduceLE, Int.reduceEq, reduceCtorEq, Int.reduceBEq, Int.reduceBNe, Int.reduceToNat, Nat.reduceSub, Nat.reduceDiv, Int.reduceNeg, Int.reduceAdd, Int.reduceSub, Int.reduceMul]
    · simp only [go_sem, eqs hxE5, reduceIte, Nat.reduceEqDiff, Nat.reduceAdd, Nat.reduceMul, Nat.reduceLT, Nat.reduceLeDiff, Int.reduceLT, Int.reduceLE, Int.reduceEq, reduceCtorEq, Int.reduceBEq, Int.reduceBNe, Int.reduceToNat, Nat.reduceSub, Nat.reduceDiv, Int.reduceNeg, Int.reduceAdd, Int.reduceSub, Int.reduceMul]
  have hR := nIs c0
  obtain ⟨a1, a2, a3, a4, a5⟩ := nIs c0
  have hW0 : Wr [.cells .ex 39 0 [.int .i64 k, .int .i64 i, .str nm], .cells .ex 105 0 [.nilp, .nils]] 1 [] := ⟨.nilp, .nils, rfl, .inl rfl, .inl ⟨rfl, rfl⟩⟩
  obtain ⟨r1, oh1, q1, rfl, o1, e1, d1, rfl, hW1, hO1, he1⟩ := bytes_den (e := 0) (d := 0) (n := 3) 1 (sz := 1) rfl hW0 (by simp) (by decide) (by decide)
  obtain ⟨r2, oh2, q2, rfl, o2, e2, d2, rfl, hW2, hO2, he2⟩ := bytes_den (e := e1) (d := d1) (n := k) 1 (sz := 1) rfl hW1 (by simp [tobeI_length]) (by decide) (by decide)
  have b1 := hO1.2 0 _ _ _ _ (by decide) rfl (by decide)
  have b2 := hO2.2 0 _ _ _ _ (by decide) b1 (by decide)
  obtain ⟨r3, oh3, q3, rfl, o3, e3, d3, rfl, hW3, hO3, he3⟩ := numsw_den (e := e2) (d := d2) (x := o2.length) (l := [i]) (hW2.app' [.cells .ex 3 0 [.int .i64 i]]) (by simp [tobeI_length]) (by simp) (by simp) (by rw [app_get0]; rfl)
  simp only [List.length_cons, List.length_nil, Nat.zero_add, Nat.reduceAdd] at q3
  have b3 := hO3.2 0 _ _ _ _ (by decide) (app_old b2 _) (by decide)
  obtain ⟨r4, oh4, q4, rfl, o4, e4, d4, rfl, hW4, hO4, he4⟩ := textw_den (e := e3) (d := d3) (s := nm) hW3 (by simp [tobeI_length, numsB_len]) (by omega)
  have b4 := hO4.2 0 _ _ _ _ (by decide) b3 (by decide)
  rw [noteB_eq hR] at hW4
  obtain ⟨r6, oh6, q6, rfl, o6, e6, d6, rfl⟩ := string_den (e := e4) (d := d4) hW4 (by simp [noteB, bigF, tobe]) (by simp [noteB, bigF_length, textB_length]; omega)
  (repeat' (first | refine To.seq hxE5 ?_ | refine To.op0 hxE5 (by simp only [go_sem, eqs hxE5, reduceIte, Nat.reduceEqDiff, Nat.reduceAdd, Nat.reduceMul, Nat.reduceLT, Nat.reduceLeDiff, Int.reduceLT, Int.reduceLE, Int.reduceEq, reduceCtorEq, Int.reduceBEq, Int.reduceBNe, Int.reduceToNat, Nat.reduceSub, Nat.reduceDiv, Int.reduceNeg, Int.reduceAdd, Int.reduceSub, Int.reduceMul, Heap.gets, Heap.sets, Heap.get, bytesA_length, bytesA_one, bytesA_plains, List.take_of_length_le, List.drop_of_length_le, Nat.add_zero, V.one, Nat.reduceLeDiff, List.all_cons, List.all_nil, ne_eq, not_false_eq_true, Nat.zero_le, eNRight_5, c0, q1, q2, q3, q4, q6, b1, b2, b3, b4]; rfl) ?_ | refine To.op1 hxE5 (by simp only [go_sem, eqs hxE5, reduceIte, Nat.reduceEqDiff, Nat.reduceAdd, Nat.reduceMul, Nat.reduceLT, Nat.reduceLeDiff, Int.reduceLT, Int.reduceLE, Int.reduceEq, reduceCtorEq, Int.reduceBEq, Int.reduceBNe, Int.reduceToNat, Nat.reduceSub, Nat.reduceDiv, Int.reduceNeg, Int.reduceAdd, Int.reduceSub, Int.reduceMul, Heap.gets, Heap.sets, Heap.get, bytesA_length, bytesA_one, bytesA_plains, List.take_of_length_le, List.drop_of_length_le, Nat.add_zero, V.one, Nat.reduceLeDiff, List.all_cons, List.all_nil, ne_eq, not_false_eq_true, Nat.zero_le, eNRight_5, c0, q1, q2, q3, q4, q6, b1, b2, b3, b4]; rfl) ?_ | refine To.nop hxE5 ?_ | (refine To.condT hxE5 ?_ ?_; focus (simp only [go_sem, eqs hxE5, reduceIte, Nat.reduceEqDiff, Nat.reduceAdd, Nat.reduceMul, Nat.reduceLT, Nat.reduceLeDiff, Int.reduceLT, Int.reduceLE, Int.reduceEq, reduceCtorEq, Int.reduceBEq, Int.reduceBNe, Int.reduceToNat, Nat.reduceSub, Nat.reduceDiv, Int.reduceNeg, Int.reduceAdd, Int.reduceSub, Int.reduceMul, Heap.gets, Heap.sets, Heap.get, bytesA_length, bytesA_one, bytesA_plains, List.take_of_length_le, List.drop_of_length_le, Nat.add_zero, V.one, Nat.reduceLeDiff, List.all_cons, List.all_nil, ne_eq, not_false_eq_true, Nat.zero_le, eNRight_5, c0, q1, q2, q3, q4, q6, b1, b2, b3, b4]; done)) | (refine To.condF hxE5 ?_ ?_; focus (simp only [go_sem, eqs hxE5, reduceIte, Nat.reduceEqDiff, Nat.reduceAdd, Nat.reduceMul, Nat.reduceLT, Nat.reduceLeDiff, Int.reduceLT, Int.reduceLE, Int.reduceEq, reduceCtorEq, Int.reduceBEq, Int.reduceBNe, Int.reduceToNat, Nat.reduceSub, Nat.reduceDiv, Int.reduceNeg, Int.reduceAdd, Int.reduceSub, Int.reduceMul, Heap.gets, Heap.sets, Heap.get, bytesA_length, bytesA_one, bytesA_plains, List.take_of_length_le, List.drop_of_length_le, Nat.add_zero, V.one, Nat.reduceLeDiff, List.all_cons, List.all_nil, ne_eq, not_false_eq_true, Nat.zero_le, eNRight_5, c0, q1, q2, q3, q4, q6, b1, b2, b3, b4]; done)) | refine To.block hxE5 ?_ | refine To.scope hxE5 ?_ | refine To.ret hxE5 ?_ | refine To.exit hxE5 ?_ | refine To.skip hxE5 ?_ | refine To.label hxE5 ?_))
  refine ⟨_, _, fin2 (i := 2) (j := 3) rfl, ?_, ?_⟩
  · rw [if_pos rfl]; simp only [go_sem, eqs hxE5, reduceIte, Nat.reduceEqDiff, Nat.reduceAdd, Nat.reduceMul, Nat.reduceLT, Nat.reduceLeDiff, Int.reduceLT, Int.reduceLE, Int.reduceEq, reduceCtorEq, Int.reduceBEq, Int.reduceBNe, Int.reduceToNat, Nat.reduceSub, Nat.reduceDiv, Int.reduceNeg, Int.reduceAdd, Int.reduceSub, Int.reduceMul]
  · simp only [go_sem, eqs hxE5, reduceIte, Nat.reduceEqDiff, Nat.reduceAdd, Nat.reduceMul, Nat.reduceLT, Nat.reduceLeDiff, Int.reduceLT, Int.reduceLE, Int.reduceEq, reduceCtorEq, Int.reduceBEq, Int.reduceBNe, Int.reduceToNat, Nat.reduceSub, Nat.reduceDiv, Int.reduceNeg, Int.reduceAdd, Int.reduceSub, Int.reduceMul]
def tPutN : Ans
  | [.agg [.int .i64 k, .int .i64 i, .str nm]] => some (putN k i nm)
  | _ => none
theorem okPutN : SpOk FF E5 19 tPutN := by
  intro args v h hpl
  unfold tPutN at h
  split at h
  · cases h
    obtain ⟨r, oh, q, rfl, rfl⟩ := putN_den _ _ _
    exact ⟨by unfold putN; split <;> rfl, _, q⟩
  · cases h

def nP0 (s : List UInt8) : Rst := (s, false)
def nP1 (s : List UInt8) : Rst := rdS 1 (nP0 s)
def nP2 (s : List UInt8) : Rst := rdS 1 (nP1 s)
def nP3 (s : List UInt8) : Rst := rdS 4 (nP2 s)
def nP4 (s : List UInt8) : Rst := txS (nP3 s)
def nFirst (s : List UInt8) : Int := ((rdV 1 (nP0 s) : Nat) : Int)
def nK (s : List UInt8) : Int := ((rdV 1 (nP1 s) : Nat) : Int)
def nI (s : List UInt8) : Int := ((rdV 4 (nP2 s) : Nat) : Int)
def nNm (s : List UInt8) : List UInt8 := txV (nP3 s)
def nDone (s : List UInt8) : Bool := !(nP4 s).2 && ((nP4 s).1 == [] && nFirst s == 3)
def nRight (s : List UInt8) : Bool := rightN (nK s) (nI s) (nNm s)
def noNote : V := .agg [.int .i64 0, .int .i64 0, .str []]
def getN (s : List UInt8) : V := if (nDone s && nRight s) = true then .tuple [.agg [.int .i64 (nK s), .int .i64 (nI s), .str (nNm s)], .int .i64 0] else .tuple [noNote, .int .i64 22]

set_option maxHeartbeats 8000000 in
theorem getN_den (s : List UInt8) (hs : s.length ≤ 100000) : ∃ r oh, Den FF E5 21 [.str s] H0 = some (r, oh) ∧ r = .val (getN s) ∧ oh = none := by
  refine To.denE hxE5 (f := 21) (a := af21) rfl (E5_none rfl) (Nat.le_of_ble_eq_true rfl) ?_
  have b1 : (nP1 s).1.length ≤ 100000 := Nat.le_trans rdS_length hs
  have b2 : (nP2 s).1.length ≤ 100000 := Nat.le_trans rdS_length b1
  have b3 : (nP3 s).1.length ≤ 100000 := Nat.le_trans rdS_length b2
  let Z : AM.Obj := .cells .ex 39 0 [.int .i64 0, .int .i64 0, .str []]
  let X (a b : Int) (nm : List UInt8) : AM.Obj := .cells .ex 39 0 [.int .i64 a, .int .i64 b, .str nm]
  obtain ⟨d1, hd1, q1⟩ : ∃ d1, d1 ≤ 1 ∧ Den FF E5 56 [.ptr 1 0, .int .i64 1] ⟨[Z, .cells .ex 114 0 [.str s, .bool false]], 0, 0⟩ = some (.val (.int .i64 (nFirst s)), some ⟨[Z, rdP (nP1 s)], 0, d1⟩) := by
    obtain ⟨r, oh, q, rfl, d, rfl, hd⟩ := rnum_den (o := [Z, rdO s false]) (e := 0) (d := 0) (a := 1) (n := 1) (z := 1) (s := s) (b := false) rfl rfl (by decide) (by omega)
    exact ⟨d, hd, q⟩
  obtain ⟨d2, hd2, q2⟩ : ∃ d2, d2 ≤ 1 ∧ Den FF E5 56 [.ptr 1 0, .int .i64 1] ⟨[Z, rdP (nP1 s)], 0, d1⟩ = some (.val (.int .i64 (nK s)), some ⟨[Z, rdP (nP2 s)], 0, d2⟩) := by
    obtain ⟨r, oh, q, rfl, d, rfl, hd⟩ := rnum_den (o := [Z, rdP (nP1 s)]) (e := 0) (d := d1) (a := 1) (n := 1) (z := 1) (s := (nP1 s).1) (b := (nP1 s).2) rfl rfl (by decide) (by omega)
    exact ⟨d, hd, q⟩
  obtain ⟨d3, hd3, q3⟩ : ∃ d3, d3 ≤ 1 ∧ Den FF E5 56 [.ptr 1 0, .int .i64 4] ⟨[Z, rdP (nP2 s)], 0, d2⟩ = some (.val (.int .i64 (nI s)), some ⟨[Z, rdP (nP3 s)], 0, d3⟩) := by
    obtain ⟨r, oh, q, rfl, d, rfl, hd⟩ := rnum_den (o := [Z, rdP (nP2 s)]) (e := 0) (d := d2) (a := 1) (n := 4) (z := 4) (s := (nP2 s).1) (b := (nP2 s).2) rfl rfl (by decide) (by omega)
    exact ⟨d, hd, q⟩
  obtain ⟨d5, hd5, q5⟩ : ∃ d5, d5 ≤ 1 ∧ Den FF E5 58 [.ptr 1 0] ⟨[Z, rdP (nP3 s), X (nK s) (nI s) []], 0, min d3 2⟩ = some (.val (.str (nNm s)), some ⟨[Z, rdP (nP4 s), X (nK s) (nI s) []], 0, d5⟩) := by
    obtain ⟨r, oh, q, rfl, d, rfl, hd⟩ := rtext_den (o := [Z, rdP (nP3 s), X (nK s) (nI s) []]) (e := 0) (d := min d3 2) (a := 1) (s := (nP3 s).1) (b := (nP3 s).2) rfl (by omega)
    exact ⟨d, hd, q⟩
  have q6 : Den FF E5 59 [.ptr 1 0, .int .i64 (nFirst s), .int .i64 3] ⟨[Z, rdP (nP4 s), X (nK s) (nI s) (nNm s)], 0, min d5 2⟩ = some (.val (.bool (nDone s)), none) := by
    obtain ⟨r, oh, q, rfl, rfl⟩ := rdone_den (o := [Z, rdP (nP4 s), X (nK s) (nI s) (nNm s)]) (e := 0) (d := min d5 2) (a := 1) (s := (nP4 s).1) (b := (nP4 s).2) (x := nFirst s) (y := 3) rfl
    exact q
  have q7 := fun h => eNRight_5 (nK s) (nI s) (nNm s) h
  unfold getN
  change ∀ h, Den FF E5 _ _ h = some (.val (.bool (nRight s)), none) at q7
  generalize nK s = k at *
  generalize nI s = i at *
  generalize nNm s = nm at *
  generalize nFirst s = fst at *
  generalize rdP (nP1 s) = r1 at *
  generalize rdP (nP2 s) = r2 at *
  generalize rdP (nP3 s) = r3 at *
  generalize rdP (nP4 s) = r4 at *
  simp only [Z, X] at q1 q2 q3 q5 q6
  clear_value Z X
  cases c1 : nDone s
  · rw [c1] at q6
    (repeat' (first | refine To.seq hxE5 ?_ | refine To.op0 hxE5 (by simp only [go_sem, eqs hxE5, reduceIte, Nat.reduceEqDiff, Nat.reduceAdd, Nat.reduceMul, Nat.reduceLT, Nat.reduceLeDiff, Int.reduceLT, Int.reduceLE, Int.reduceEq, reduceCtorEq, Int.reduceBEq, Int.reduceBNe, Int.reduceToNat, Nat.reduceSub, Nat.reduceDiv, Int.reduceNeg, Int.reduceAdd, Int.reduceSub, Int.reduceMul, Heap.gets, Heap.sets, Heap.get, bytesA_length, bytesA_one, bytesA_plains, List.take_of_length_le, List.drop_of_length_le, Nat.add_zero, V.one, Nat.reduceLeDiff, List.all_cons, List.all_nil, ne_eq, not_false_eq_true, Nat.zero_le, q1, q2, q3, q5, q6]; rfl) ?_ | refine To.op1 hxE5 (by simp only [go_sem, eqs hxE5, reduceIte, Nat.reduceEqDiff, Nat.reduceAdd, Nat.reduceMul, Nat.reduceLT, Nat.reduceLeDiff, Int.reduceLT, Int.reduceLE, Int.reduceEq, reduceCtorEq, Int.reduceBEq, Int.reduceBNe, Int.reduceToNat, Nat.reduceSub, Nat.reduceDiv, Int.reduceNeg, Int.reduceAdd, Int.reduceSub, Int.reduceMul, Heap.gets, Heap.sets, Heap.get, bytesA_length, bytesA_one, bytesA_plains, List.take_of_length_le, List.drop_of_length_le, Nat.add_zero, V.one, Nat.reduceLeDiff, List.all_cons, List.all_nil, ne_eq, not_false_eq_true, Nat.zero_le, q1, q2, q3, q5, q6]; rfl) ?_ | refine To.nop hxE5 ?_ | (refine To.condT hxE5 ?_ ?_; focus (simp only [go_sem, eqs hxE5, reduceIte, Nat.reduceEqDiff, Nat.reduceAdd, Nat.reduceMul, Nat.reduceLT, Nat.reduceLeDiff, Int.reduceLT, Int.reduceLE, Int.reduceEq, reduceCtorEq, Int.reduceBEq, Int.reduceBNe, Int.reduceToNat, Nat.reduceSub, Nat.reduceDiv, Int.reduceNeg, Int.reduceAdd, Int.reduceSub, Int.reduceMul, Heap.gets, Heap.sets, Heap.get, bytesA_length, bytesA_one, bytesA_plains, List.take_of_length_le, List.drop_of_length_le, Nat.add_zero, V.one, Nat.reduceLeDiff, List.all_cons, List.all_nil, ne_eq, not_false_eq_true, Nat.zero_le, q1, q2, q3, q5, q6]; done)) | (refine To.condF hxE5 ?_ ?_; focus (simp only [go_sem, eqs hxE5, reduceIte, Nat.reduceEqDiff, Nat.reduceAdd, Nat.reduceMul, Nat.reduceLT, Nat.reduceLeDiff, Int.reduceLT, Int.reduceLE, Int.reduceEq, reduceCtorEq, Int.reduceBEq, Int.reduceBNe, Int.reduceToNat, Nat.reduceSub, Nat.reduceDiv, Int.reduceNeg, Int.reduceAdd, Int.reduceSub, Int.reduceMul, Heap.gets, Heap.sets, Heap.get, bytesA_length, bytesA_one, bytesA_plains, List.take_of_length_le, List.drop_of_length_le, Nat.add_zero, V.one, Nat.reduceLeDiff, List.all_cons, List.all_nil, ne_eq, not_false_eq_true, Nat.zero_le, q1, q2, q3, q5, q6]; done)) | refine To.block hxE5 ?_ | refine To.scope hxE5 ?_ | refine To.ret hxE5 ?_ | refine To.exit hxE5 ?_ | refine To.skip hxE5 ?_ | refine To.label hxE5 ?_))
    refine ⟨_, _, finCT (i := 2) (n := 3) (j := 3) (l := 0) (o := 0) rfl (by simp only [go_sem, eqs hxE5, reduceIte, Nat.reduceEqDiff, Nat.reduceAdd, Nat.reduceMul, Nat.reduceLT, Nat.reduceLeDiff, Int.reduceLT, Int.reduceLE, Int.reduceEq, reduceCtorEq, Int.reduceBEq, Int.reduceBNe, Int.reduceToNat, Nat.reduceSub, Nat.reduceDiv, Int.reduceNeg, Int.reduceAdd, Int.reduceSub, Int.reduceMul]) (by simp only [go_sem, eqs hxE5, reduceIte, Nat.reduceEqDiff, Nat.reduceAdd, Nat.reduceMul, Nat.reduceLT, Nat.reduceLeDiff, Int.reduceLT, Int.reduceLE, Int.reduceEq, reduceCtorEq, Int.reduceBEq, Int.reduceBNe, Int.reduceToNat, Nat.reduceSub, Nat.reduceDiv, Int.reduceNeg, Int.reduceAdd, Int.reduceSub, Int.reduceMul, Heap.gets, Heap.sets, Heap.get, bytesA_length, bytesA_one, bytesA_plains, List.take_of_length_le, List.drop_of_length_le, Nat.add_zero, V.one, Nat.reduceLeDiff, List.all_cons, List.all_nil, ne_eq, not_false_eq_true, Nat.zero_le]; rfl), ?_, ?_⟩
    · simp only [go_sem, eqs hxE5, reduceIte, Nat.reduceEqDiff, Nat.reduceAdd, Nat.reduceMul, Nat.reduceLT, Nat.reduceLeDiff, Int.reduceLT, Int.reduceLE, Int.reduceEq, reduceCtorEq, Int.reduceBEq, Int.reduceBNe, Int.reduceToNat, Nat.reduceSub, Nat.reduceDiv, Int.reduceNeg, Int.reduceAdd, Int.reduceSub, Int.reduceMul, Bool.false_and, noNote]
    · simp only [go_sem, eqs hxE5, reduceIte, Nat.reduceEqDiff, Nat.reduceAdd, Nat.reduceMul, Nat.reduceLT, Nat.reduceLeDiff, Int.reduceLT, Int.reduceLE, Int.reduceEq, reduceCtorEq, Int.reduceBEq, Int.reduceBNe, Int.reduceToNat, Nat.reduceSub, Nat.reduceDiv, Int.reduceNeg, Int.reduceAdd, Int.reduceSub, Int.reduceMul]
  · rw [c1] at q6
    cases c2 : nRight s
    · rw [c2] at q7
      (repeat' (first | refine To.seq hxE5 ?_ | refine To.op0 hxE5 (by simp only [go_sem, eqs hxE5, reduceIte, Nat.reduceEqDiff, Nat.reduceAdd, Nat.reduceMul, Nat.reduceLT, Nat.reduceLeDiff, Int.reduceLT, Int.reduceLE, Int.reduceEq, reduceCtorEq, Int.reduceBEq, Int.reduceBNe, Int.reduceToNat, Nat.reduceSub, Nat.reduceDiv, Int.reduceNeg, Int.reduceAdd, Int.reduceSub, Int.reduceMul, Heap.gets, Heap.sets, Heap.get, bytesA_length, bytesA_one, bytesA_plains, List.take_of_length_le, List.drop_of_length_le, Nat.add_zero, V.one, Nat.reduceLeDiff, List.all_cons, List.all_nil, ne_eq, not_false_eq_true, Nat.zero_le, q1, q2, q3, q5, q6, q7]; rfl) ?_ | refine To.op1 hxE5 (by simp only [go_sem, eqs hxE5, reduceIte, Nat.reduceEqDiff, Nat.reduceAdd, Nat.reduceMul, Nat.reduceLT, Nat.reduceLeDiff, Int.reduceLT, Int.reduceLE, Int.reduceEq, reduceCtorEq, Int.reduceBEq, Int.reduceBNe, Int.reduceToNat, Nat.reduceSub, Nat.reduceDiv, Int.reduceNeg, Int.reduceAdd, Int.reduceSub, Int.reduceMul, Heap.gets, Heap.sets, Heap.get, bytesA_length, bytesA_one, bytesA_plains, List.take_of_length_le, List.drop_of_length_le, Nat.add_zero, V.one, Nat.reduceLeDiff, List.all_cons, List.all_nil, ne_eq, not_false_eq_true, Nat.zero_le, q1, q2, q3, q5, q6, q7]; rfl) ?_ | refine To.nop hxE5 ?_ | (refine To.condT hxE5 ?_ ?_; focus (simp only [go_sem, eqs hxE5, reduceIte, Nat.reduceEqDiff, Nat.reduceAdd, Nat.reduceMul, Nat.reduceLT, Nat.reduceLeDiff, Int.reduceLT, Int.reduceLE, Int.reduceEq, reduceCtorEq, Int.reduceBEq, Int.reduceBNe, Int.reduceToNat, Nat.reduceSub, Nat.reduceDiv, Int.reduceNeg, Int.reduceAdd, Int.reduceSub, Int.reduceMul, Heap.gets, Heap.sets, Heap.get, bytesA_length, bytesA_one, bytesA_plains, List.take_of_length_le, List.drop_of_length_le, Nat.add_zero, V.one, Nat.reduceLeDiff, List.all_cons, List.all_nil, ne_eq, not_false_eq_true, Nat.zero_le, q1, q2, q3, q5, q6, q7]; done)) | (refine To.condF hxE5 ?_ ?_; focus (simp only [go_sem, eqs hxE5, reduceIte, Nat.reduceEqDiff, Nat.reduceAdd, Nat.reduceMul, Nat.reduceLT, Nat.reduceLeDiff, Int.reduceLT, Int.reduceLE, Int.reduceEq, reduceCtorEq, Int.reduceBEq, Int.reduceBNe, Int.reduceToNat, Nat.reduceSub, Nat.reduceDiv, Int.reduceNeg, Int.reduceAdd, Int.reduceSub, Int.reduceMul, Heap.gets, Heap.sets, Heap.get, bytesA_length, bytesA_one, bytesA_plains, List.take_of_length_le, List.drop_of_length_le, Nat.add_zero, V.one, Nat.reduceLeDiff, List.all_cons, List.all_nil, ne_eq, not_false_eq_true, Nat.zero_le, q1, q2, q3, q5, q6, q7]; done)) | refine To.block hxE5 ?_ | refine To.scope hxE5 ?_ | refine To.ret hxE5 ?_ | refine To.exit hxE5 ?_ | refine To.skip hxE5 ?_ | refine To.label hxE5 ?_))
      refine ⟨_, _, finCT (i := 2) (n := 3) (j := 3) (l := 0) (o := 0) rfl (by simp only [go_sem, eqs hxE5, reduceIte, Nat.reduceEqDiff, Nat.reduceAdd, Nat.reduceMul, Nat.reduceLT, Nat.reduceLeDiff, Int.reduceLT, Int.reduceLE, Int.reduceEq, reduceCtorEq, Int.reduceBEq, Int.reduceBNe, Int.reduceToNat, Nat.reduceSub, Nat.reduceDiv, Int.reduceNeg, Int.reduceAdd, Int.reduceSub, Int.reduceMul]) (by simp only [go_sem, eqs hxE5, reduceIte, Nat.reduceEqDiff, Nat.reduceAdd, Nat.reduceMul, Nat.reduceLT, Nat.reduceLeDiff, Int.reduceLT, Int.reduceLE, Int.reduceEq, reduceCtorEq, Int.reduceBEq, Int.reduceBNe, Int.reduceToNat, Nat.reduceSub, Nat.reduceDiv, Int.reduceNeg, Int.reduceAdd, Int.reduceSub, Int.reduceMul, Heap.gets, Heap.sets, Heap.get, bytesA_length, bytesA_one, bytesA_plains, List.take_of_length_le, List.drop_of_length_le, Nat.add_zero, V.one, Nat.reduceLeDiff, List.all_cons, List.all_nil, ne_eq, not_false_eq_true, Nat.zero_le]; rfl), ?_, ?_⟩
      · simp only [go_sem, eqs hxE5, reduceIte, Nat.reduceEqDiff, Nat.reduceAdd, Nat.reduceMul, Nat.reduceLT, Nat.reduceLeDiff, Int.reduceLT, Int.reduceLE, Int.reduceEq, reduceCtorEq, Int.reduceBEq, Int.reduceBNe, Int.reduceToNat, Nat.reduceSub, Nat.reduceDiv, Int.reduceNeg, Int.reduceAdd, Int.reduceSub, Int.reduceMul, Bool.true_and, noNote]
      · simp only [go_sem, eqs hxE5, reduceIte, Nat.reduceEqDiff, Nat.reduceAdd, Nat.reduceMul, Nat.reduceLT, Nat.reduceLeDiff, Int.reduceLT, Int.reduceLE, Int.reduceEq, reduceCtorEq, Int.reduceBEq, Int.reduceBNe, Int.reduceToNat, Nat.reduceSub, Nat.reduceDiv, Int.reduceNeg, Int.reduceAdd, Int.reduceSub, Int.reduceMul]
    · rw [c2] at q7
      (repeat' (first | refine To.seq hxE5 ?_ | refine To.op0 hxE5 (by simp only [go_sem, eqs hxE5, reduceIte, Nat.reduceEqDiff, Nat.reduceAdd, Nat.reduceMul, Nat.reduceLT, Nat.reduceLeDiff, Int.reduceLT, Int.reduceLE, Int.reduceEq, reduceCtorEq, Int.reduceBEq, Int.reduceBNe, Int.reduceToNat, Nat.reduceSub, Nat.reduceDiv, Int.reduceNeg, Int.reduceAdd, Int.reduceSub, Int.reduceMul, Heap.gets, Heap.sets, Heap.get, bytesA_length, bytesA_one, bytesA_plains, List.take_of_length_le, List.drop_of_length_le, Nat.add_zero, V.one, Nat.reduceLeDiff, List.all_cons, List.all_nil, ne_eq, not_false_eq_true, Nat.zero_le, q1, q2, q3, q5, q6, q7]; rfl) ?_ | refine To.op1 hxE5 (by simp only [go_sem, eqs hxE5, reduceIte, Nat.reduceEqDiff, Nat.reduceAdd, Nat.reduceMul, Nat.reduceLT, Nat.reduceLeDiff, Int.reduceLT, Int.reduceLE, Int.reduceEq, reduceCtorEq, Int.reduceBEq, Int.reduceBNe, Int.reduceToNat, Nat.reduceSub, Nat.reduceDiv, Int.reduceNeg, Int.reduceAdd, Int.reduceSub, Int.reduceMul, Heap.gets, Heap.sets, Heap.get, bytesA_length, bytesA_one, bytesA_plains, List.take_of_length_le, List.drop_of_length_le, Nat.add_zero, V.one, Nat.reduceLeDiff, List.all_cons, List.all_nil, ne_eq, not_false_eq_true, Nat.zero_le, q1, q2, q3, q5, q6, q7]; rfl) ?_ | refine To.nop hxE5 ?_ | (refine To.condT hxE5 ?_ ?_; focus (simp only [go_sem, eqs hxE5, reduceIte, Nat.reduceEqDiff, Nat.reduceAdd, Nat.reduceMul, Nat.reduceLT, Nat.reduceLeDiff, Int.reduceLT, Int.reduceLE, Int.reduceEq, reduceCtorEq, Int.reduceBEq, Int.reduceBNe, Int.reduceToNat, Nat.reduceSub, Nat.reduceDiv, Int.reduceNeg, Int.reduceAdd, Int.reduceSub, Int.reduceMul, Heap.gets, Heap.sets, Heap.get, bytesA_length, bytesA_one, bytesA_plains, List.take_of_length_le, List.drop_of_length_le, Nat.add_zero, V.one, Nat.reduceLeDiff, List.all_cons, List.all_nil, ne_eq, not_false_eq_true, Nat.zero_le, q1, q2, q3, q5, q6, q7]; done)) | (refine To.condF hxE5 ?_ ?_; focus (simp only [go_sem, eqs hxE5, reduceIte, Nat.reduceEqDiff, Nat.reduceAdd, Nat.reduceMul, Nat.reduceLT, Nat.reduceLeDiff, Int.reduceLT, Int.reduceLE, Int.reduceEq, reduceCtorEq, Int.reduceBEq, Int.reduceBNe, Int.reduceToNat, Nat.reduceSub, Nat.reduceDiv, Int.reduceNeg, Int.reduceAdd, Int.reduceSub, Int.reduceMul, Heap.gets, Heap.sets, Heap.get, bytesA_length, bytesA_one, bytesA_plains, List.take_of_length_le, List.drop_of_length_le, Nat.add_zero, V.one, Nat.reduceLeDiff, List.all_cons, List.all_nil, ne_eq, not_false_eq_true, Nat.zero_le, q1, q2, q3, q5, q6, q7]; done)) | refine To.block hxE5 ?_ | refine To.scope hxE5 ?_ | refine To.ret hxE5 ?_ | refine To.exit hxE5 ?_ | refine To.skip hxE5 ?_ | refine To.label hxE5 ?_))
      refine ⟨_, _, finCT (i := 2) (n := 3) (j := 3) (l := 0) (o := 0) rfl (by simp only [go_sem, eqs hxE5, reduceIte, Nat.reduceEqDiff, Nat.reduceAdd, Nat.reduceMul, Nat.reduceLT, Nat.reduceLeDiff, Int.reduceLT, Int.reduceLE, Int.reduceEq, reduceCtorEq, Int.reduceBEq, Int.reduceBNe, Int.reduceToNat, Nat.reduceSub, Nat.reduceDiv, Int.reduceNeg, Int.reduceAdd, Int.reduceSub, Int.reduceMul]) (by simp only [go_sem, eqs hxE5, reduceIte, Nat.reduceEqDiff, Nat.reduceAdd, Nat.reduceMul, Nat.reduceLT, Nat.reduceLeDiff, Int.reduceLT, Int.reduceLE, Int.reduceEq, reduceCtorEq, Int.reduceBEq, Int.reduceBNe, Int.reduceToNat, Nat.reduceSub, Nat.reduceDiv, Int.reduceNeg, Int.reduceAdd, Int.reduceSub, Int.reduceMul, Heap.gets, Heap.sets, Heap.get, bytesA_length, bytesA_one, bytesA_plains, List.take_of_length_le, List.drop_of_length_le, Nat.add_zero, V.one, Nat.reduceLeDiff, List.all_cons, List.all_nil, ne_eq, not_false_eq_true, Nat.zero_le]; rfl), ?_, ?_⟩
      · simp only [go_sem, eqs hxE5, reduceIte, Nat.reduceEqDiff, Nat.reduceAdd, Nat.reduceMul, Nat.reduceLT, Nat.reduceLeDiff, Int.reduceLT, Int.reduceLE, Int.reduceEq, reduceCtorEq, Int.reduceBEq, Int.reduceBNe, Int.reduceToNat, Nat.reduceSub, Nat.reduceDiv, Int.reduceNeg, Int.reduceAdd, Int.reduceSub, Int.reduceMul, Bool.true_and]
      · simp only [go_sem, eqs hxE5, reduceIte, Nat.reduceEqDiff, Nat.reduceAdd, Nat.reduceMul, Nat.reduceLT, Nat.reduceLeDiff, Int.reduceLT, Int.reduceLE, Int.reduceEq, reduceCtorEq, Int.reduceBEq, Int.reduceBNe, Int.reduceToNat, Nat.reduceSub, Nat.reduceDiv, Int.reduceNeg, Int.reduceAdd, Int.reduceSub, Int.reduceMul]
def tGetN : Ans
  | [.str s] => if s.length ≤ 100000 then some (getN s) else none
  | _ => none
theorem okGetN : SpOk FF E5 21 tGetN := by
  intro args v h hpl
  unfold tGetN at h
  split at h
  · split at h
    · rename_i hc
      cases h
      obtain ⟨r, oh, q, rfl, rfl⟩ := getN_den _ hc
      exact ⟨by unfold getN; split <;> rfl, _, q⟩
    · cases h
  · cases h
def g8 : Nat → Option Ans := addG g5 [(22, tNoteB), (19, tPutN), (21, tGetN)]
def E8 : ExtF := plainExt g8
theorem hxE8 : ExtMono E8 := plainExt_mono g8
theorem sndE8 : ExtSound Try.prog E8 := addG_sound mixed ffok sndE5 (by
  intro p hp
  simp only [List.mem_cons, List.not_mem_nil, or_false] at hp
  rcases hp with rfl | rfl | rfl
  · exact okNoteB
  · exact okPutN
  · exact okGetN)
theorem E8_none {f : Nat} (h : g8 f = none) (c : CallF) : E8 c f = none := plainExt_none h c
theorem eContains_8 (s : List UInt8) (c : UInt8) (h : Heap) : Den FF E8 79 [.str s, .str [c]] h = some (.val (.bool (s.contains c)), none) := den_plain (sp := tContains) h rfl (by rfl) (by first | (simp [V.plains, V.plain, bytesA_plains]; done) | rfl)
theorem eAwake24_8 (_ : Unit) (h : Heap) : Den FF E8 27 [] h = some (.val (.bool true), none) := den_plain (sp := tAwake) h rfl (by rfl) (by first | (simp [V.plains, V.plain, bytesA_plains]; done) | rfl)
theorem eAwake23_8 (_ : Unit) (h : Heap) : Den FF E8 11 [] h = some (.val (.bool true), none) := den_plain (sp := tAwake) h rfl (by rfl) (by first | (simp [V.plains, V.plain, bytesA_plains]; done) | rfl)
theorem eIn_8 (n lo hi : Int) (h : Heap) : Den FF E8 65 [.int .i64 n, .int .i64 lo, .int .i64 hi] h = some (.val (.bool (inB n lo hi)), none) := den_plain (sp := tIn) h rfl (by rfl) (by first | (simp [V.plains, V.plain, bytesA_plains]; done) | rfl)
theorem eTakes_8 (id op ino oth n m : Int) (nm tx : List UInt8) (h : Heap) : Den FF E8 54 [.agg [.int .i64 id, .int .i64 op, .int .i64 ino, .int .i64 oth, .int .i64 n, .int .i64 m, .str nm, .str tx]] h = some (.val (.tuple [.agg (takesF id op ino oth n m nm tx), .bool (isOp op)]), none) := den_plain (sp := tTakes) h rfl (by rfl) (by first | (simp [V.plains, V.plain, bytesA_plains]; done) | rfl)
theorem eWAttr_8 (a0 a1 a2 a3 a4 a5 : Int) (h : Heap) : Den FF E8 25 [.agg [.int .i64 a0, .int .i64 a1, .int .i64 a2, .int .i64 a3, .int .i64 a4, .int .i64 a5]] h = some (.val (.bool (attrB a0 a1 a2 a3 a4 a5)), none) := den_plain (sp := tAttr) h rfl (by rfl) (by first | (simp [V.plains, V.plain, bytesA_plains]; done) | rfl)
theorem eRAttr_8 (a0 a1 a2 a3 a4 a5 : Int) (h : Heap) : Den FF E8 24 [.agg [.int .i64 a0, .int .i64 a1, .int .i64 a2, .int .i64 a3, .int .i64 a4, .int .i64 a5]] h = some (.val (.bool (attrB a0 a1 a2 a3 a4 a5)), none) := den_plain (sp := tAttr) h rfl (by rfl) (by first | (simp [V.plains, V.plain, bytesA_plains]; done) | rfl)
theorem eNum1_8 (n : Int) (h : Heap) : Den FF E8 77 [.int .i64 n] h = some (.val (.bool (!numB n)), none) := den_plain (sp := tNum1) h rfl (by rfl) (by first | (simp [V.plains, V.plain, bytesA_plains]; done) | rfl)
theorem eRight_8 (id op ino oth n m : Int) (nm tx : List UInt8) (h : Heap) : Den FF E8 14 [.agg [.int .i64 id, .int .i64 op, .int .i64 ino, .int .i64 oth, .int .i64 n, .int .i64 m, .str nm, .str tx]] h = some (.val (.bool (rightR id op ino oth n m nm tx)), none) := den_plain (sp := tRight) h rfl (by rfl) (by first | (simp [V.plains, V.plain, bytesA_plains]; done) | rfl)
theorem eNumD_8 (n : Int) (h : Heap) : Den FF E8 48 [.int .i64 n] h = some (.val (.bool (numB n)), none) := den_plain (sp := tNumD) h rfl (by rfl) (by first | (simp [V.plains, V.plain, bytesA_plains]; done) | rfl)
theorem eBig_8 (n s : Int) (hc : 0 ≤ n ∧ n ≤ 9223372036854775807 ∧ 0 ≤ s ∧ s ≤ 8) (h : Heap) : Den FF E8 60 [.int .i64 n, .int .i64 s] h = some (.val (.str (bigF n s)), none) := den_plain (sp := tBig) h rfl (by exact if_pos hc) (by first | (simp [V.plains, V.plain, bytesA_plains]; done) | rfl)
theorem eNumber_8 (s : List UInt8) (a z : Int) (hc : 0 ≤ a ∧ a ≤ 1000000 ∧ 0 ≤ z ∧ z ≤ 4 ∧ s.length ≤ 1000000) (h : Heap) : Den FF E8 62 [.str s, .int .i64 a, .int .i64 z] h = some (.val ((if a.toNat + z.toNat ≤ s.length then .tuple [.int .i64 (numAt s a.toNat z.toNat), .bool true] else .tuple [.int .i64 0, .bool false])), none) := den_plain (sp := tNumber) h rfl (by exact if_pos hc) (by first | (simp [V.plains, V.plain, bytesA_plains]; done) | rfl)
theorem eCheck_8 (s : List UInt8) (h : Heap) : Den FF E8 66 [.str s] h = some (.val (.int .i64 (checkN s)), none) := den_plain (sp := tCheck) h rfl (by rfl) (by first | (simp [V.plains, V.plain, bytesA_plains]; done) | rfl)
theorem eRCheck_8 (s : List UInt8) (h : Heap) : Den FF E8 64 [.str s] h = some (.val (.int .i64 (checkN s)), none) := den_plain (sp := tCheck) h rfl (by rfl) (by first | (simp [V.plains, V.plain, bytesA_plains]; done) | rfl)
theorem eText_8 (s : List UInt8) (hc : s.length ≤ 1000000) (h : Heap) : Den FF E8 61 [.str s] h = some (.val (.str (textB s)), none) := den_plain (sp := tText) h rfl (by exact if_pos hc) (by first | (simp [V.plains, V.plain, bytesA_plains]; done) | rfl)
theorem ePart_8 (s : List UInt8) (a : Int) (hc : 0 ≤ a ∧ a ≤ 900000 ∧ s.length ≤ 900000) (h : Heap) : Den FF E8 63 [.str s, .int .i64 a] h = some (.val (partV s a.toNat), none) := den_plain (sp := tPart) h rfl (by exact if_pos hc) (by first | (simp [V.plains, V.plain, bytesA_plains]; done) | rfl)
theorem eRRight_8 (id op ino oth n m : Int) (nm tx : List UInt8) (h : Heap) : Den FF E8 12 [.agg [.int .i64 id, .int .i64 op, .int .i64 ino, .int .i64 oth, .int .i64 n, .int .i64 m, .str nm, .str tx]] h = some (.val (.bool (rightR id op ino oth n m nm tx)), none) := den_plain (sp := tRight) h rfl (by rfl) (by first | (simp [V.plains, V.plain, bytesA_plains]; done) | rfl)
theorem eNRight_8 (k i : Int) (nm : List UInt8) (h : Heap) : Den FF E8 20 [.agg [.int .i64 k, .int .i64 i, .str nm]] h = some (.val (.bool (rightN k i nm)), none) := den_plain (sp := tNRight) h rfl (by rfl) (by first | (simp [V.plains, V.plain, bytesA_plains]; done) | rfl)
theorem eRNRight_8 (k i : Int) (nm : List UInt8) (h : Heap) : Den FF E8 18 [.agg [.int .i64 k, .int .i64 i, .str nm]] h = some (.val (.bool (rightN k i nm)), none) := den_plain (sp := tNRight) h rfl (by rfl) (by first | (simp [V.plains, V.plain, bytesA_plains]; done) | rfl)
theorem eNoteB_8 (k i : Int) (nm : List UInt8) (hc : rightN k i nm = true) (h : Heap) : Den FF E8 22 [.agg [.int .i64 k, .int .i64 i, .str nm]] h = some (.val (.str (noteB k i nm)), none) := den_plain (sp := tNoteB) h rfl (by exact if_pos hc) (by first | (simp [V.plains, V.plain, bytesA_plains]; done) | rfl)
theorem ePutN_8 (k i : Int) (nm : List UInt8) (h : Heap) : Den FF E8 19 [.agg [.int .i64 k, .int .i64 i, .str nm]] h = some (.val (putN k i nm), none) := den_plain (sp := tPutN) h rfl (by rfl) (by first | (simp [V.plains, V.plain, bytesA_plains]; done) | rfl)
theorem eGetN_8 (s : List UInt8) (hc : s.length ≤ 100000) (h : Heap) : Den FF E8 21 [.str s] h = some (.val (getN s), none) := den_plain (sp := tGetN) h rfl (by exact if_pos hc) (by first | (simp [V.plains, V.plain, bytesA_plains]; done) | rfl)
end Go.Proofs.Ytjbblfoefibeaaa

/- Wire: what a reader takes off, in plain words. -/
namespace Go.Proofs.Ytjbblfoefibeaaa
open Go AM
set_option linter.unusedSimpArgs false
set_option linter.unusedVariables false
set_option maxRecDepth 100000

def rNum (s : List UInt8) (a : Nat) : Int := ((numAt s a 4 : Nat) : Int)
def rOp (s : List UInt8) : Int := ((s.getD 1 0).toNat : Int)
theorem takes_app {n : Nat} {a r : List UInt8} (h : a.length = n) : takeT n (a ++ r) false = a ∧ takeR n (a ++ r) false = r ∧ takeBad n (a ++ r) false = false := by
  subst h
  have hb : takeBad a.length (a ++ r) false = false := by simp [takeBad]
  refine ⟨?_, ?_, hb⟩
  · unfold takeT; rw [hb]; simp
  · unfold takeR; rw [hb]; simp
theorem rdS_app {n : Nat} {a r : List UInt8} (h : a.length = n) : rdS n (a ++ r, false) = (r, false) := by
  obtain ⟨_, h2, h3⟩ := takes_app (r := r) h
  simp only [rdS, h2, h3]
theorem rdV_app {n : Nat} {a r : List UInt8} (h : a.length = n) : rdV n (a ++ r, false) = be a := by
  obtain ⟨h1, _, _⟩ := takes_app (r := r) h
  simp only [rdV, h1]
theorem tobe2_len (t : List UInt8) (ht : t.length < 65536) : be (tobe 2 t.length) = t.length := by
  rw [be_tobe]; exact Nat.mod_eq_of_lt ht
theorem txS_app {t r : List UInt8} (ht : t.length < 65536) : txS (textB t ++ r, false) = (r, false) ∧ txV (textB t ++ r, false) = t := by
  have e : textB t ++ r = tobe 2 t.length ++ (t ++ r) := by simp [textB]
  obtain ⟨a1, a2, a3⟩ := takes_app (r := t ++ r) (tobe_length 2 t.length)
  obtain ⟨b1, b2, b3⟩ := takes_app (r := r) (show t.length = t.length from rfl)
  have hl : lenN (tobe 2 t.length ++ (t ++ r)) false = t.length := by unfold lenN; rw [a1, tobe2_len t ht]
  rw [e]
  simp only [txS, txV, textT, textR, textBad, hl, a2, a3, b1, b2, b3, and_self]

theorem big_be {n : Int} {k : Nat} (h0 : 0 ≤ n) (h1 : n < 256 ^ k) : ((be (bigF n (k : Int)) : Nat) : Int) = n := by
  unfold bigF
  obtain ⟨a, rfl⟩ : ∃ a : Nat, n = (a : Int) := ⟨n.toNat, by omega⟩
  simp only [Int.toNat_natCast]
  have h2 : a < 256 ^ k := by exact_mod_cast h1
  rw [be_tobe, Nat.mod_eq_of_lt h2]
theorem big_be4 {n : Int} (h0 : 0 ≤ n) (h1 : n ≤ 4294967295) : ((be (bigF n 4) : Nat) : Int) = n := by
  have e : (256 : Int) ^ 4 = 4294967296 := by decide
  exact big_be (k := 4) h0 (by omega)
theorem big_be1 {n : Int} (h0 : 0 ≤ n) (h1 : n ≤ 255) : ((be (bigF n 1) : Nat) : Int) = n := by
  have e : (256 : Int) ^ 1 = 256 := by decide
  exact big_be (k := 1) h0 (by omega)
theorem big4_len (n : Int) : (bigF n 4).length = 4 := bigF_length n 4
theorem big1_len (n : Int) : (bigF n 1).length = 1 := bigF_length n 1

theorem rdS_ok {n : Nat} {p : Rst} (h : (rdS n p).2 = false) : p.2 = false ∧ p.1 = bigF ((rdV n p : Nat) : Int) (n : Int) ++ (rdS n p).1 := by
  obtain ⟨s, b⟩ := p
  simp only [rdS, rdV, takeBad, Bool.or_eq_false_iff, decide_eq_false_iff_not] at h ⊢
  obtain ⟨rfl, hl⟩ := h
  have hb : takeBad n s false = false := by simp [takeBad, hl]
  have h1 : takeT n s false = s.take n := by unfold takeT; rw [hb]; rfl
  have h2 : takeR n s false = s.drop n := by unfold takeR; rw [hb]; rfl
  refine ⟨rfl, ?_⟩
  rw [h1, h2]
  have hlen : (s.take n).length = n := by rw [List.length_take]; omega
  have : bigF ((be (s.take n) : Nat) : Int) (n : Int) = s.take n := by
    unfold bigF
    simp only [Int.toNat_natCast]
    have := tobe_be (s.take n)
    rwa [hlen] at this
  rw [this, List.take_append_drop]
theorem txS_ok {p : Rst} (h : (txS p).2 = false) : p.2 = false ∧ p.1 = textB (txV p) ++ (txS p).1 := by
  have e : txS p = rdS (lenN p.1 p.2) (rdS 2 p) := rfl
  have h' : (rdS (lenN p.1 p.2) (rdS 2 p)).2 = false := h
  obtain ⟨h1, h2⟩ := rdS_ok h'
  obtain ⟨h3, h4⟩ := rdS_ok h1
  refine ⟨h3, ?_⟩
  have hv : txV p = takeT (lenN p.1 p.2) (rdS 2 p).1 (rdS 2 p).2 := rfl
  have hl : (txV p).length = lenN p.1 p.2 := by
    rw [hv]
    have hb : takeBad (lenN p.1 p.2) (rdS 2 p).1 (rdS 2 p).2 = false := h'
    unfold takeT; rw [hb]
    simp only [takeBad, Bool.or_eq_false_iff, decide_eq_false_iff_not] at hb
    simp only [Bool.false_eq_true, if_false, List.length_take]; omega
  have hx : bigF ((rdV (lenN p.1 p.2) (rdS 2 p) : Nat) : Int) ((lenN p.1 p.2 : Nat) : Int) = txV p := by
    unfold bigF
    simp only [Int.toNat_natCast]
    have := tobe_be (txV p)
    rw [hl] at this
    exact this
  rw [hx] at h2
  have hz : bigF ((rdV 2 p : Nat) : Int) ((2 : Nat) : Int) = tobe 2 (txV p).length := by
    rw [hl]; rfl
  rw [hz, h2, ← e] at h4
  rw [h4]; simp [textB]

theorem numAt_app {a b r : List UInt8} {k n : Nat} (ha : a.length = k) (hb : b.length = n) : numAt (a ++ (b ++ r)) k n = be b := by
  subst ha hb
  simp [numAt]
theorem numAt2_lt (s : List UInt8) (a : Nat) : numAt s a 2 < 65536 := by
  have h := be_lt ((s.drop a).take 2)
  have h2 := Nat.pow_le_pow_right (n := 256) (by decide) (show ((s.drop a).take 2).length ≤ 2 by rw [List.length_take]; omega)
  exact Nat.lt_of_lt_of_le h h2
end Go.Proofs.Ytjbblfoefibeaaa

/- Wire: the law of notices. -/
namespace Go.Proofs.Ytjbblfoefibeaaa
open Go AM
set_option linter.unusedSimpArgs false
set_option linter.unusedVariables false
set_option maxRecDepth 100000

def mA (s : List UInt8) : Nat := numAt s 6 2
def mNm (s : List UInt8) : List UInt8 := (s.drop 8).take (mA s)
def mFit (s : List UInt8) : Bool := decide (6 ≤ s.length) && ((s.getD 0 0 == 3) && decide (8 + mA s ≤ s.length))
def mRight (s : List UInt8) : Bool := rightN (rOp s) (rNum s 2) (mNm s)
def mSame (s : List UInt8) : Bool := noteB (rOp s) (rNum s 2) (mNm s) == s
def readN (s : List UInt8) : V := if (mFit s && (mRight s && mSame s)) = true then .tuple [.agg [.int .i64 (rOp s), .int .i64 (rNum s 2), .str (mNm s)], .bool true] else .tuple [noNote, .bool false]

theorem num4_8 {s : List UInt8} (a : Nat) (h : Heap) (ha : a + 4 ≤ s.length) (hs : s.length ≤ 100000) : Den FF E8 62 [.str s, .int .i64 (a : Int), .int .i64 4] h = some (.val (.tuple [.int .i64 (rNum s a), .bool true]), none) := by
  have := eNumber_8 s (a : Int) 4 ⟨by omega, by omega, by decide, by decide, by omega⟩ h
  simp only [Int.toNat_natCast, show Int.toNat 4 = 4 from rfl, if_pos ha] at this
  exact this
theorem part_ok8 {s : List UInt8} {a n : Nat} (h : Heap) (hn : numAt s a 2 = n) (ha : a + 2 + n ≤ s.length) (hs : s.length ≤ 100000) : Den FF E8 63 [.str s, .int .i64 (a : Int)] h = some (.val (.tuple [.str ((s.drop (a + 2)).take n), .int .i64 ((2 + n : Nat) : Int), .bool true]), none) := by
  subst hn
  have := ePart_8 s (a : Int) ⟨by omega, by omega, by omega⟩ h
  simp only [Int.toNat_natCast, partV] at this
  rw [if_pos (by omega), if_pos ha] at this
  exact this
theorem part_no8 {s : List UInt8} {a n : Nat} (h : Heap) (hn : numAt s a 2 = n) (ha : ¬ a + 2 + n ≤ s.length) (ha2 : a ≤ 800000) (hs : s.length ≤ 100000) : Den FF E8 63 [.str s, .int .i64 (a : Int)] h = some (.val (.tuple [.str [], .int .i64 0, .bool false]), none) := by
  subst hn
  have := ePart_8 s (a : Int) ⟨by omega, by omega, by omega⟩ h
  simp only [Int.toNat_natCast, partV] at this
  by_cases h1 : a + 2 ≤ s.length
  · rw [if_pos h1, if_neg ha] at this; exact this
  · rw [if_neg h1] at this; exact this

set_option maxHeartbeats 8000000 in
theorem readN_den (s : List UInt8) (hs : s.length ≤ 100000) : ∃ r oh, Den FF E8 23 [.str s] H0 = some (r, oh) ∧ r = .val (readN s) ∧ oh = none := by
  refine To.denE hxE8 (f := 23) (a := af23) rfl (E8_none rfl) (Nat.le_of_ble_eq_true rfl) ?_
  unfold readN
  by_cases h22 : s.length < 6
  · have d1 : decide ((s.length : Int) < 6) = true := by simp; omega
    have hF : mFit s = false := by simp only [mFit, show decide (6 ≤ s.length) = false by simp; omega, Bool.false_and]
    (repeat' (first | refine To.seq hxE8 ?_ | refine To.op0 hxE8 (by simp only [go_sem, eqs hxE8, reduceIte, Nat.reduceEqDiff, Nat.reduceAdd, Nat.reduceMul, Nat.reduceLT, Nat.reduceLeDiff, Int.reduceLT, Int.reduceLE, Int.reduceEq, reduceCtorEq, Int.reduceBEq, Int.reduceBNe, Int.reduceToNat, Nat.reduceSub, Nat.reduceDiv, Int.reduceNeg, Int.reduceAdd, Int.reduceSub, Int.reduceMul, Heap.gets, Heap.sets, Heap.get, bytesA_length, bytesA_one, bytesA_plains, List.take_of_length_le, List.drop_of_length_le, Nat.add_zero, V.one, Nat.reduceLeDiff, List.all_cons, List.all_nil, ne_eq, not_false_eq_true, Nat.zero_le, d1]; rfl) ?_ | refine To.op1 hxE8 (by simp only [go_sem, eqs hxE8, reduceIte, Nat.reduceEqDiff, Nat.reduceAdd, Nat.reduceMul, Nat.reduceLT, Nat.reduceLeDiff, Int.reduceLT, Int.reduceLE, Int.reduceEq, reduceCtorEq, Int.reduceBEq, Int.reduceBNe, Int.reduceToNat, Nat.reduceSub, Nat.reduceDiv, Int.reduceNeg, Int.reduceAdd, Int.reduceSub, Int.reduceMul, Heap.gets, Heap.sets, Heap.get, bytesA_length, bytesA_one, bytesA_plains, List.take_of_length_le, List.drop_of_length_le, Nat.add_zero, V.one, Nat.reduceLeDiff, List.all_cons, List.all_nil, ne_eq, not_false_eq_true, Nat.zero_le, d1]; rfl) ?_ | refine To.nop hxE8 ?_ | (refine To.condT hxE8 ?_ ?_; focus (simp only [go_sem, eqs hxE8, reduceIte, Nat.reduceEqDiff, Nat.reduceAdd, Nat.reduceMul, Nat.reduceLT, Nat.reduceLeDiff, Int.reduceLT, Int.reduceLE, Int.reduceEq, reduceCtorEq, Int.reduceBEq, Int.reduceBNe, Int.reduceToNat, Nat.reduceSub, Nat.reduceDiv, Int.reduceNeg, Int.reduceAdd, Int.reduceSub, Int.reduceMul, Heap.gets, Heap.sets, Heap.get, bytesA_length, bytesA_one, bytesA_plains, List.take_of_length_le, List.drop_of_length_le, Nat.add_zero, V.one, Nat.reduceLeDiff, List.all_cons, List.all_nil, ne_eq, not_false_eq_true, Nat.zero_le, d1]; done)) | (refine To.condF hxE8 ?_ ?_; focus (simp only [go_sem, eqs hxE8, reduceIte, Nat.reduceEqDiff, Nat.reduceAdd, Nat.reduceMul, Nat.reduceLT, Nat.reduceLeDiff, Int.reduceLT, Int.reduceLE, Int.reduceEq, reduceCtorEq, Int.reduceBEq, Int.reduceBNe, Int.reduceToNat, Nat.reduceSub, Nat.reduceDiv, Int.reduceNeg, Int.reduceAdd, Int.reduceSub, Int.reduceMul, Heap.gets, Heap.sets, Heap.get, bytesA_length, bytesA_one, bytesA_plains, List.take_of_length_le, List.drop_of_length_le, Nat.add_zero, V.one, Nat.reduceLeDiff, List.all_cons, List.all_nil, ne_eq, not_false_eq_true, Nat.zero_le, d1]; done)) | refine To.block hxE8 ?_ | refine To.scope hxE8 ?_ | refine To.ret hxE8 ?_ | refine To.exit hxE8 ?_ | refine To.skip hxE8 ?_ | refine To.label hxE8 ?_))
    refine ⟨_, _, finCT (i := 2) (n := 3) (j := 3) (l := 0) (o := 0) rfl (by simp only [go_sem, eqs hxE8, reduceIte, Nat.reduceEqDiff, Nat.reduceAdd, Nat.reduceMul, Nat.reduceLT, Nat.reduceLeDiff, Int.reduceLT, Int.reduceLE, Int.reduceEq, reduceCtorEq, Int.reduceBEq, Int.reduceBNe, Int.reduceToNat, Nat.reduceSub, Nat.reduceDiv, Int.reduceNeg, Int.reduceAdd, Int.reduceSub, Int.reduceMul]) (by simp only [go_sem, eqs hxE8, reduceIte, Nat.reduceEqDiff, Nat.reduceAdd, Nat.reduceMul, Nat.reduceLT, Nat.reduceLeDiff, Int.reduceLT, Int.reduceLE, Int.reduceEq, reduceCtorEq, Int.reduceBEq, Int.reduceBNe, Int.reduceToNat, Nat.reduceSub, Nat.reduceDiv, Int.reduceNeg, Int.reduceAdd, Int.reduceSub, Int.reduceMul, Heap.gets, Heap.sets, Heap.get, bytesA_length, bytesA_one, bytesA_plains, List.take_of_length_le, List.drop_of_length_le, Nat.add_zero, V.one, Nat.reduceLeDiff, List.all_cons, List.all_nil, ne_eq, not_false_eq_true, Nat.zero_le]; rfl), ?_, ?_⟩
    · simp only [go_sem, eqs hxE8, reduceIte, Nat.reduceEqDiff, Nat.reduceAdd, Nat.reduceMul, Nat.reduceLT, Nat.reduceLeDiff, Int.reduceLT, Int.reduceLE, Int.reduceEq, reduceCtorEq, Int.reduceBEq, Int.reduceBNe, Int.reduceToNat, Nat.reduceSub, Nat.reduceDiv, Int.reduceNeg, Int.reduceAdd, Int.reduceSub, Int.reduceMul, hF, Bool.false_and, noNote]
    · simp only [go_sem, eqs hxE8, reduceIte, Nat.reduceEqDiff, Nat.reduceAdd, Nat.reduceMul, Nat.reduceLT, Nat.reduceLeDiff, Int.reduceLT, Int.reduceLE, Int.reduceEq, reduceCtorEq, Int.reduceBEq, Int.reduceBNe, Int.reduceToNat, Nat.reduceSub, Nat.reduceDiv, Int.reduceNeg, Int.reduceAdd, Int.reduceSub, Int.reduceMul]
  have d1 : decide ((s.length : Int) < 6) = false := by simp; omega
  have l22 : decide (6 ≤ s.length) = true := by simp; omega
  obtain ⟨c0, hc0⟩ : ∃ c, s[0]? = some c := ⟨s[0], List.getElem?_eq_getElem (by omega)⟩
  obtain ⟨c1, hc1⟩ : ∃ c, s[1]? = some c := ⟨s[1], List.getElem?_eq_getElem (by omega)⟩
  have i0 : idxOf s.length (.int .i64 0) = some 0 := idxOf_nat (n := s.length) (i := 0) (by omega)
  have i1 : idxOf s.length (.int .i64 1) = some 1 := idxOf_nat (n := s.length) (i := 1) (by omega)
  have g0 : s.getD 0 0 = c0 := by rw [List.getD_eq_getElem?_getD, hc0]; rfl
  have g1 : s.getD 1 0 = c1 := by rw [List.getD_eq_getElem?_getD, hc1]; rfl
  have e1 : ((c0.toNat : Int) == 3) = (c0 == 3) := by
    rw [Bool.eq_iff_iff, beq_iff_eq, beq_iff_eq]
    constructor
    · intro h; apply UInt8.toNat.inj; have : c0.toNat = 3 := by omega
      rw [this]; rfl
    · intro h; rw [h]; rfl
  have e2 : ((c0.toNat : Int) != 3) = !(c0 == 3) := by rw [bne, e1]
  cases hc : (c0 == 3)
  · have hF : mFit s = false := by simp only [mFit, g0, hc, Bool.false_and, Bool.and_false]
    rw [hc] at e1 e2
    (repeat' (first | refine To.seq hxE8 ?_ | refine To.op0 hxE8 (by simp only [go_sem, eqs hxE8, reduceIte, Nat.reduceEqDiff, Nat.reduceAdd, Nat.reduceMul, Nat.reduceLT, Nat.reduceLeDiff, Int.reduceLT, Int.reduceLE, Int.reduceEq, reduceCtorEq, Int.reduceBEq, Int.reduceBNe, Int.reduceToNat, Nat.reduceSub, Nat.reduceDiv, Int.reduceNeg, Int.reduceAdd, Int.reduceSub, Int.reduceMul, Heap.gets, Heap.sets, Heap.get, bytesA_length, bytesA_one, bytesA_plains, List.take_of_length_le, List.drop_of_length_le, Nat.add_zero, V.one, Nat.reduceLeDiff, List.all_cons, List.all_nil, ne_eq, not_false_eq_true, Nat.zero_le, d1, i0, hc0, e1, e2]; rfl) ?_ | refine To.op1 hxE8 (by simp only [go_sem, eqs hxE8, reduceIte, Nat.reduceEqDiff, Nat.reduceAdd, Nat.reduceMul, Nat.reduceLT, Nat.reduceLeDiff, Int.reduceLT, Int.reduceLE, Int.reduceEq, reduceCtorEq, Int.reduceBEq, Int.reduceBNe, Int.reduceToNat, Nat.reduceSub, Nat.reduceDiv, Int.reduceNeg, Int.reduceAdd, Int.reduceSub, Int.reduceMul, Heap.gets, Heap.sets, Heap.get, bytesA_length, bytesA_one, bytesA_plains, List.take_of_length_le, List.drop_of_length_le, Nat.add_zero, V.one, Nat.reduceLeDiff, List.all_cons, List.all_nil, ne_eq, not_false_eq_true, Nat.zero_le, d1, i0, hc0, e1, e2]; rfl) ?_ | refine To.nop hxE8 ?_ | (refine To.condT hxE8 ?_ ?_; focus (simp only [go_sem, eqs hxE8, reduceIte, Nat.reduceEqDiff, Nat.reduceAdd, Nat.reduceMul, Nat.reduceLT, Nat.reduceLeDiff, Int.reduceLT, Int.reduceLE, Int.reduceEq, reduceCtorEq, Int.reduceBEq, Int.reduceBNe, Int.reduceToNat, Nat.reduceSub, Nat.reduceDiv, Int.reduceNeg, Int.reduceAdd, Int.reduceSub, Int.reduceMul, Heap.gets, Heap.sets, Heap.get, bytesA_length, bytesA_one, bytesA_plains, List.take_of_length_le, List.drop_of_length_le, Nat.add_zero, V.one, Nat.reduceLeDiff, List.all_cons, List.all_nil, ne_eq, not_false_eq_true, Nat.zero_le, d1, i0, hc0, e1, e2]; done)) | (refine To.condF hxE8 ?_ ?_; focus (simp only [go_sem, eqs hxE8, reduceIte, Nat.reduceEqDiff, Nat.reduceAdd, Nat.reduceMul, Nat.reduceLT, Nat.reduceLeDiff, Int.reduceLT, Int.reduceLE, Int.reduceEq, reduceCtorEq, Int.reduceBEq, Int.reduceBNe, Int.reduceToNat, Nat.reduceSub, Nat.reduceDiv, Int.reduceNeg, Int.reduceAdd, Int.reduceSub, Int.reduceMul, Heap.gets, Heap.sets, Heap.get, bytesA_length, bytesA_one, bytesA_plains, List.take_of_length_le, List.drop_of_length_le, Nat.add_zero, V.one, Nat.reduceLeDiff, List.all_cons, List.all_nil, ne_eq, not_false_eq_true, Nat.zero_le, d1, i0, hc0, e1, e2]; done)) | refine To.block hxE8 ?_ | refine To.scope hxE8 ?_ | refine To.ret hxE8 ?_ | refine To.exit hxE8 ?_ | refine To.skip hxE8 ?_ | refine To.label hxE8 ?_))
    refine ⟨_, _, finCT (i := 2) (n := 3) (j := 3) (l := 0) (o := 0) rfl (by simp only [go_sem, eqs hxE8, reduceIte, Nat.reduceEqDiff, Nat.reduceAdd, Nat.reduceMul, Nat.reduceLT, Nat.reduceLeDiff, Int.reduceLT, Int.reduceLE, Int.reduceEq, reduceCtorEq, Int.reduceBEq, Int.reduceBNe, Int.reduceToNat, Nat.reduceSub, Nat.reduceDiv, Int.reduceNeg, Int.reduceAdd, Int.reduceSub, Int.reduceMul]) (by simp only [go_sem, eqs hxE8, reduceIte, Nat.reduceEqDiff, Nat.reduceAdd, Nat.reduceMul, Nat.reduceLT, Nat.reduceLeDiff, Int.reduceLT, Int.reduceLE, Int.reduceEq, reduceCtorEq, Int.reduceBEq, Int.reduceBNe, Int.reduceToNat, Nat.reduceSub, Nat.reduceDiv, Int.reduceNeg, Int.reduceAdd, Int.reduceSub, Int.reduceMul, Heap.gets, Heap.sets, Heap.get, bytesA_length, bytesA_one, bytesA_plains, List.take_of_length_le, List.drop_of_length_le, Nat.add_zero, V.one, Nat.reduceLeDiff, List.all_cons, List.all_nil, ne_eq, not_false_eq_true, Nat.zero_le]; rfl), ?_, ?_⟩
    · simp only [go_sem, eqs hxE8, reduceIte, Nat.reduceEqDiff, Nat.reduceAdd, Nat.reduceMul, Nat.reduceLT, Nat.reduceLeDiff, Int.reduceLT, Int.reduceLE, Int.reduceEq, reduceCtorEq, Int.reduceBEq, Int.reduceBNe, Int.reduceToNat, Nat.reduceSub, Nat.reduceDiv, Int.reduceNeg, Int.reduceAdd, Int.reduceSub, Int.reduceMul, hF, Bool.false_and, noNote]
    · simp only [go_sem, eqs hxE8, reduceIte, Nat.reduceEqDiff, Nat.reduceAdd, Nat.reduceMul, Nat.reduceLT, Nat.reduceLeDiff, Int.reduceLT, Int.reduceLE, Int.reduceEq, reduceCtorEq, Int.reduceBEq, Int.reduceBNe, Int.reduceToNat, Nat.reduceSub, Nat.reduceDiv, Int.reduceNeg, Int.reduceAdd, Int.reduceSub, Int.reduceMul]
  rw [hc] at e1 e2
  have hop : rOp s = (c1.toNat : Int) := by rw [rOp, g1]
  have w1 : IntKind.i64.wrap (c1.toNat : Int) = rOp s := by rw [hop]; have := c1.toNat_lt; exact wrap_i64 (by omega) (by omega)
  have q2 : ∀ h, Den FF E8 62 [.str s, .int .i64 2, .int .i64 4] h = some (.val (.tuple [.int .i64 (rNum s 2), .bool true]), none) := fun h => num4_8 2 h (by omega) hs
  by_cases hA : 8 + mA s ≤ s.length
  · have lA : decide (8 + mA s ≤ s.length) = true := decide_eq_true hA
    have hA2 : 6 + 2 + mA s ≤ s.length := hA
    have qA : ∀ h, Den FF E8 63 [.str s, .int .i64 6] h = some (.val (.tuple [.str (mNm s), .int .i64 ((2 + mA s : Nat) : Int), .bool true]), none) := fun h => part_ok8 (a := 6) h rfl hA2 hs
    have hF : mFit s = true := by simp only [mFit, g0, hc, l22, lA, Bool.and_true]
    have qR := fun h => eRNRight_8 (rOp s) (rNum s 2) (mNm s) h
    change ∀ h, Den FF E8 _ _ h = some (.val (.bool (mRight s)), none) at qR
    rw [hF]
    cases cR : mRight s
    · rw [cR] at qR
      (repeat' (first | refine To.seq hxE8 ?_ | refine To.op0 hxE8 (by simp only [go_sem, eqs hxE8, reduceIte, Nat.reduceEqDiff, Nat.reduceAdd, Nat.reduceMul, Nat.reduceLT, Nat.reduceLeDiff, Int.reduceLT, Int.reduceLE, Int.reduceEq, reduceCtorEq, Int.reduceBEq, Int.reduceBNe, Int.reduceToNat, Nat.reduceSub, Nat.reduceDiv, Int.reduceNeg, Int.reduceAdd, Int.reduceSub, Int.reduceMul, Heap.gets, Heap.sets, Heap.get, bytesA_length, bytesA_one, bytesA_plains, List.take_of_length_le, List.drop_of_length_le, Nat.add_zero, V.one, Nat.reduceLeDiff, List.all_cons, List.all_nil, ne_eq, not_false_eq_true, Nat.zero_le, d1, i0, i1, hc0, hc1, e1, e2, w1, q2, qA, qR]; rfl) ?_ | refine To.op1 hxE8 (by simp only [go_sem, eqs hxE8, reduceIte, Nat.reduceEqDiff, Nat.reduceAdd, Nat.reduceMul, Nat.reduceLT, Nat.reduceLeDiff, Int.reduceLT, Int.reduceLE, Int.reduceEq, reduceCtorEq, Int.reduceBEq, Int.reduceBNe, Int.reduceToNat, Nat.reduceSub, Nat.reduceDiv, Int.reduceNeg, Int.reduceAdd, Int.reduceSub, Int.reduceMul, Heap.gets, Heap.sets, Heap.get, bytesA_length, bytesA_one, bytesA_plains, List.take_of_length_le, List.drop_of_length_le, Nat.add_zero, V.one, Nat.reduceLeDiff, List.all_cons, List.all_nil, ne_eq, not_false_eq_true, Nat.zero_le, d1, i0, i1, hc0, hc1, e1, e2, w1, q2, qA, qR]; rfl) ?_ | refine To.nop hxE8 ?_ | (refine To.condT hxE8 ?_ ?_; focus (simp only [go_sem, eqs hxE8, reduceIte, Nat.reduceEqDiff, Nat.reduceAdd, Nat.reduceMul, Nat.reduceLT, Nat.reduceLeDiff, Int.reduceLT, Int.reduceLE, Int.reduceEq, reduceCtorEq, Int.reduceBEq, Int.reduceBNe, Int.reduceToNat, Nat.reduceSub, Nat.reduceDiv, Int.reduceNeg, Int.reduceAdd, Int.reduceSub, Int.reduceMul, Heap.gets, Heap.sets, Heap.get, bytesA_length, bytesA_one, bytesA_plains, List.take_of_length_le, List.drop_of_length_le, Nat.add_zero, V.one, Nat.reduceLeDiff, List.all_cons, List.all_nil, ne_eq, not_false_eq_true, Nat.zero_le, d1, i0, i1, hc0, hc1, e1, e2, w1, q2, qA, qR]; done)) | (refine To.condF hxE8 ?_ ?_; focus (simp only [go_sem, eqs hxE8, reduceIte, Nat.reduceEqDiff, Nat.reduceAdd, Nat.reduceMul, Nat.reduceLT, Nat.reduceLeDiff, Int.reduceLT, Int.reduceLE, Int.reduceEq, reduceCtorEq, Int.reduceBEq, Int.reduceBNe, Int.reduceToNat, Nat.reduceSub, Nat.reduceDiv, Int.reduceNeg, Int.reduceAdd, Int.reduceSub, Int.reduceMul, Heap.gets, Heap.sets, Heap.get, bytesA_length, bytesA_one, bytesA_plains, List.take_of_length_le, List.drop_of_length_le, Nat.add_zero, V.one, Nat.reduceLeDiff, List.all_cons, List.all_nil, ne_eq, not_false_eq_true, Nat.zero_le, d1, i0, i1, hc0, hc1, e1, e2, w1, q2, qA, qR]; done)) | refine To.block hxE8 ?_ | refine To.scope hxE8 ?_ | refine To.ret hxE8 ?_ | refine To.exit hxE8 ?_ | refine To.skip hxE8 ?_ | refine To.label hxE8 ?_))
      refine ⟨_, _, finCT (i := 2) (n := 3) (j := 3) (l := 0) (o := 0) rfl (by simp only [go_sem, eqs hxE8, reduceIte, Nat.reduceEqDiff, Nat.reduceAdd, Nat.reduceMul, Nat.reduceLT, Nat.reduceLeDiff, Int.reduceLT, Int.reduceLE, Int.reduceEq, reduceCtorEq, Int.reduceBEq, Int.reduceBNe, Int.reduceToNat, Nat.reduceSub, Nat.reduceDiv, Int.reduceNeg, Int.reduceAdd, Int.reduceSub, Int.reduceMul]) (by simp only [go_sem, eqs hxE8, reduceIte, Nat.reduceEqDiff, Nat.reduceAdd, Nat.reduceMul, Nat.reduceLT, Nat.reduceLeDiff, Int.reduceLT, Int.reduceLE, Int.reduceEq, reduceCtorEq, Int.reduceBEq, Int.reduceBNe, Int.reduceToNat, Nat.reduceSub, Nat.reduceDiv, Int.reduceNeg, Int.reduceAdd, Int.reduceSub, Int.reduceMul, Heap.gets, Heap.sets, Heap.get, bytesA_length, bytesA_one, bytesA_plains, List.take_of_length_le, List.drop_of_length_le, Nat.add_zero, V.one, Nat.reduceLeDiff, List.all_cons, List.all_nil, ne_eq, not_false_eq_true, Nat.zero_le]; rfl), ?_, ?_⟩
      · simp only [go_sem, eqs hxE8, reduceIte, Nat.reduceEqDiff, Nat.reduceAdd, Nat.reduceMul, Nat.reduceLT, Nat.reduceLeDiff, Int.reduceLT, Int.reduceLE, Int.reduceEq, reduceCtorEq, Int.reduceBEq, Int.reduceBNe, Int.reduceToNat, Nat.reduceSub, Nat.reduceDiv, Int.reduceNeg, Int.reduceAdd, Int.reduceSub, Int.reduceMul, Bool.true_and, Bool.false_and, noNote]
      · simp only [go_sem, eqs hxE8, reduceIte, Nat.reduceEqDiff, Nat.reduceAdd, Nat.reduceMul, Nat.reduceLT, Nat.reduceLeDiff, Int.reduceLT, Int.reduceLE, Int.reduceEq, reduceCtorEq, Int.reduceBEq, Int.reduceBNe, Int.reduceToNat, Nat.reduceSub, Nat.reduceDiv, Int.reduceNeg, Int.reduceAdd, Int.reduceSub, Int.reduceMul]
    · rw [cR] at qR
      have qS := fun h => eNoteB_8 (rOp s) (rNum s 2) (mNm s) cR h
      cases cS : mSame s
      · unfold mSame at cS
        (repeat' (first | refine To.seq hxE8 ?_ | refine To.op0 hxE8 (by simp only [go_sem, eqs hxE8, reduceIte, Nat.reduceEqDiff, Nat.reduceAdd, Nat.reduceMul, Nat.reduceLT, Nat.reduceLeDiff, Int.reduceLT, Int.reduceLE, Int.reduceEq, reduceCtorEq, Int.reduceBEq, Int.reduceBNe, Int.reduceToNat, Nat.reduceSub, Nat.reduceDiv, Int.reduceNeg, Int.reduceAdd, Int.reduceSub, Int.reduceMul, Heap.gets, Heap.sets, Heap.get, bytesA_length, bytesA_one, bytesA_plains, List.take_of_length_le, List.drop_of_length_le, Nat.add_zero, V.one, Nat.reduceLeDiff, List.all_cons, List.all_nil, ne_eq, not_false_eq_true, Nat.zero_le, d1, i0, i1, hc0, hc1, e1, e2, w1, q2, qA, qR, qS, cS]; rfl) ?_ | refine To.op1 hxE8 (by simp only [go_sem, eqs hxE8, reduceIte, Nat.reduceEqDiff, Nat.reduceAdd, Nat.reduceMul, Nat.reduceLT, Nat.reduceLeDiff, Int.reduceLT, Int.reduceLE, Int.reduceEq, reduceCtorEq, Int.reduceBEq, Int.reduceBNe, Int.reduceToNat, Nat.reduceSub, Nat.reduceDiv, Int.reduceNeg, Int.reduceAdd, Int.reduceSub, Int.reduceMul, Heap.gets, Heap.sets, Heap.get, bytesA_length, bytesA_one, bytesA_plains, List.take_of_length_le, List.drop_of_length_le, Nat.add_zero, V.one, Nat.reduceLeDiff, List.all_cons, List.all_nil, ne_eq, not_false_eq_true, Nat.zero_le, d1, i0, i1, hc0, hc1, e1, e2, w1, q2, qA, qR, qS, cS]; rfl) ?_ | refine To.nop hxE8 ?_ | (refine To.condT hxE8 ?_ ?_; focus (simp only [go_sem, eqs hxE8, reduceIte, Nat.reduceEqDiff, Nat.reduceAdd, Nat.reduceMul, Nat.reduceLT, Nat.reduceLeDiff, Int.reduceLT, Int.reduceLE, Int.reduceEq, reduceCtorEq, Int.reduceBEq, Int.reduceBNe, Int.reduceToNat, Nat.reduceSub, Nat.reduceDiv, Int.reduceNeg, Int.reduceAdd, Int.reduceSub, Int.reduceMul, Heap.gets, Heap.sets, Heap.get, bytesA_length, bytesA_one, bytesA_plains, List.take_of_length_le, List.drop_of_length_le, Nat.add_zero, V.one, Nat.reduceLeDiff, List.all_cons, List.all_nil, ne_eq, not_false_eq_true, Nat.zero_le, d1, i0, i1, hc0, hc1, e1, e2, w1, q2, qA, qR, qS, cS]; done)) | (refine To.condF hxE8 ?_ ?_; focus (simp only [go_sem, eqs hxE8, reduceIte, Nat.reduceEqDiff, Nat.reduceAdd, Nat.reduceMul, Nat.reduceLT, Nat.reduceLeDiff, Int.reduceLT, Int.reduceLE, Int.reduceEq, reduceCtorEq, Int.reduceBEq, Int.reduceBNe, Int.reduceToNat, Nat.reduceSub, Nat.reduceDiv, Int.reduceNeg, Int.reduceAdd, Int.reduceSub, Int.reduceMul, Heap.gets, Heap.sets, Heap.get, bytesA_length, bytesA_one, bytesA_plains, List.take_of_length_le, List.drop_of_length_le, Nat.add_zero, V.one, Nat.reduceLeDiff, List.all_cons, List.all_nil, ne_eq, not_false_eq_true, Nat.zero_le, d1, i0, i1, hc0, hc1, e1, e2, w1, q2, qA, qR, qS, cS]; done)) | refine To.block hxE8 ?_ | refine To.scope hxE8 ?_ | refine To.ret hxE8 ?_ | refine To.exit hxE8 ?_ | refine To.skip hxE8 ?_ | refine To.label hxE8 ?_))
        refine ⟨_, _, finCT (i := 2) (n := 3) (j := 3) (l := 0) (o := 0) rfl (by simp only [go_sem, eqs hxE8, reduceIte, Nat.reduceEqDiff, Nat.reduceAdd, Nat.reduceMul, Nat.reduceLT, Nat.reduceLeDiff, Int.reduceLT, Int.reduceLE, Int.reduceEq, reduceCtorEq, Int.reduceBEq, Int.reduceBNe, Int.reduceToNat, Nat.reduceSub, Nat.reduceDiv, Int.reduceNeg, Int.reduceAdd, Int.reduceSub, Int.reduceMul]) (by simp only [go_sem, eqs hxE8, reduceIte, Nat.reduceEqDiff, Nat.reduceAdd, Nat.reduceMul, Nat.reduceLT, Nat.reduceLeDiff, Int.reduceLT, Int.reduceLE, Int.reduceEq, reduceCtorEq, Int.reduceBEq, Int.reduceBNe, Int.reduceToNat, Nat.reduceSub, Nat.reduceDiv, Int.reduceNeg, Int.reduceAdd, Int.reduceSub, Int.reduceMul, Heap.gets, Heap.sets, Heap.get, bytesA_length, bytesA_one, bytesA_plains, List.take_of_length_le, List.drop_of_length_le, Nat.add_zero, V.one, Nat.reduceLeDiff, List.all_cons, List.all_nil, ne_eq, not_false_eq_true, Nat.zero_le]; rfl), ?_, ?_⟩
        · simp only [go_sem, eqs hxE8, reduceIte, Nat.reduceEqDiff, Nat.reduceAdd, Nat.reduceMul, Nat.reduceLT, Nat.reduceLeDiff, Int.reduceLT, Int.reduceLE, Int.reduceEq, reduceCtorEq, Int.reduceBEq, Int.reduceBNe, Int.reduceToNat, Nat.reduceSub, Nat.reduceDiv, Int.reduceNeg, Int.reduceAdd, Int.reduceSub, Int.reduceMul, Bool.true_and, Bool.false_and, noNote]
        · simp only [go_sem, eqs hxE8, reduceIte, Nat.reduceEqDiff, Nat.reduceAdd, Nat.reduceMul, Nat.reduceLT, Nat.reduceLeDiff, Int.reduceLT, Int.reduceLE, Int.reduceEq, reduceCtorEq, Int.reduceBEq, Int.reduceBNe, Int.reduceToNat, Nat.reduceSub, Nat.reduceDiv, Int.reduceNeg, Int.reduceAdd, Int.reduceSub, Int.reduceMul]
      · unfold mSame at cS
        (repeat' (first | refine To.seq hxE8 ?_ | refine To.op0 hxE8 (by simp only [go_sem, eqs hxE8, reduceIte, Nat.reduceEqDiff, Nat.reduceAdd, Nat.reduceMul, Nat.reduceLT, Nat.reduceLeDiff, Int.reduceLT, Int.reduceLE, Int.reduceEq, reduceCtorEq, Int.reduceBEq, Int.reduceBNe, Int.reduceToNat, Nat.reduceSub, Nat.reduceDiv, Int.reduceNeg, Int.reduceAdd, Int.reduceSub, Int.reduceMul, Heap.gets, Heap.sets, Heap.get, bytesA_length, bytesA_one, bytesA_plains, List.take_of_length_le, List.drop_of_length_le, Nat.add_zero, V.one, Nat.reduceLeDiff, List.all_cons, List.all_nil, ne_eq, not_false_eq_true, Nat.zero_le, d1, i0, i1, hc0, hc1, e1, e2, w1, q2, qA, qR, qS, cS]; rfl) ?_ | refine To.op1 hxE8 (by simp only [go_sem, eqs hxE8, reduceIte, Nat.reduceEqDiff, Nat.reduceAdd, Nat.reduceMul, Nat.reduceLT, Nat.reduceLeDiff, Int.reduceLT, Int.reduceLE, Int.reduceEq, reduceCtorEq, Int.reduceBEq, Int.reduceBNe, Int.reduceToNat, Nat.reduceSub, Nat.reduceDiv, Int.reduceNeg, Int.reduceAdd, Int.reduceSub, Int.reduceMul, Heap.gets, Heap.sets, Heap.get, bytesA_length, bytesA_one, bytesA_plains, List.take_of_length_le, List.drop_of_length_le, Nat.add_zero, V.one, Nat.reduceLeDiff, List.all_cons, List.all_nil, ne_eq, not_false_eq_true, Nat.zero_le, d1, i0, i1, hc0, hc1, e1, e2, w1, q2, qA, qR, qS, cS]; rfl) ?_ | refine To.nop hxE8 ?_ | (refine To.condT hxE8 ?_ ?_; focus (simp only [go_sem, eqs hxE8, reduceIte, Nat.reduceEqDiff, Nat.reduceAdd, Nat.reduceMul, Nat.reduceLT, Nat.reduceLeDiff, Int.reduceLT, Int.reduceLE, Int.reduceEq, reduceCtorEq, Int.reduceBEq, Int.reduceBNe, Int.reduceToNat, Nat.reduceSub, Nat.reduceDiv, Int.reduceNeg, Int.reduceAdd, Int.reduceSub, Int.reduceMul, Heap.gets, Heap.sets, Heap.get, bytesA_length, bytesA_one, bytesA_plains, List.take_of_length_le, List.drop_of_length_le, Nat.add_zero, V.one, Nat.reduceLeDiff, List.all_cons, List.all_nil, ne_eq, not_false_eq_true, Nat.zero_le, d1, i0, i1, hc0, hc1, e1, e2, w1, q2, qA, qR, qS, cS]; done)) | (refine To.condF hxE8 ?_ ?_; focus (simp only [go_sem, eqs hxE8, reduceIte, Nat.reduceEqDiff, Nat.reduceAdd, Nat.reduceMul, Nat.reduceLT, Nat.reduceLeDiff, Int.reduceLT, Int.reduceLE, Int.reduceEq, reduceCtorEq, Int.reduceBEq, Int.reduceBNe, Int.reduceToNat, Nat.reduceSub, Nat.reduceDiv, Int.reduceNeg, Int.reduceAdd, Int.reduceSub, Int.reduceMul, Heap.gets, Heap.sets, Heap.get, bytesA_length, bytesA_one, bytesA_plains, List.take_of_length_le, List.drop_of_length_le, Nat.add_zero, V.one, Nat.reduceLeDiff, List.all_cons, List.all_nil, ne_eq, not_false_eq_true, Nat.zero_le, d1, i0, i1, hc0, hc1, e1, e2, w1, q2, qA, qR, qS, cS]; done)) | refine To.block hxE8 ?_ | refine To.scope hxE8 ?_ | refine To.ret hxE8 ?_ | refine To.exit hxE8 ?_ | refine To.skip hxE8 ?_ | refine To.label hxE8 ?_))
        refine ⟨_, _, finCT (i := 2) (n := 3) (j := 3) (l := 0) (o := 0) rfl (by simp only [go_sem, eqs hxE8, reduceIte, Nat.reduceEqDiff, Nat.reduceAdd, Nat.reduceMul, Nat.reduceLT, Nat.reduceLeDiff, Int.reduceLT, Int.reduceLE, Int.reduceEq, reduceCtorEq, Int.reduceBEq, Int.reduceBNe, Int.reduceToNat, Nat.reduceSub, Nat.reduceDiv, Int.reduceNeg, Int.reduceAdd, Int.reduceSub, Int.reduceMul]) (by simp only [go_sem, eqs hxE8, reduceIte, Nat.reduceEqDiff, Nat.reduceAdd, Nat.reduceMul, Nat.reduceLT, Nat.reduceLeDiff, Int.reduceLT, Int.reduceLE, Int.reduceEq, reduceCtorEq, Int.reduceBEq, Int.reduceBNe, Int.reduceToNat, Nat.reduceSub, Nat.reduceDiv, Int.reduceNeg, Int.reduceAdd, Int.reduceSub, Int.reduceMul, Heap.gets, Heap.sets, Heap.get, bytesA_length, bytesA_one, bytesA_plains, List.take_of_length_le, List.drop_of_length_le, Nat.add_zero, V.one, Nat.reduceLeDiff, List.all_cons, List.all_nil, ne_eq, not_false_eq_true, Nat.zero_le]; rfl), ?_, ?_⟩
        · simp only [go_sem, eqs hxE8, reduceIte, Nat.reduceEqDiff, Nat.reduceAdd, Nat.reduceMul, Nat.reduceLT, Nat.reduceLeDiff, Int.reduceLT, Int.reduceLE, Int.reduceEq, reduceCtorEq, Int.reduceBEq, Int.reduceBNe, Int.reduceToNat, Nat.reduceSub, Nat.reduceDiv, Int.reduceNeg, Int.reduceAdd, Int.reduceSub, Int.reduceMul, Bool.true_and]
        · simp only [go_sem, eqs hxE8, reduceIte, Nat.reduceEqDiff, Nat.reduceAdd, Nat.reduceMul, Nat.reduceLT, Nat.reduceLeDiff, Int.reduceLT, Int.reduceLE, Int.reduceEq, reduceCtorEq, Int.reduceBEq, Int.reduceBNe, Int.reduceToNat, Nat.reduceSub, Nat.reduceDiv, Int.reduceNeg, Int.reduceAdd, Int.reduceSub, Int.reduceMul]
  · have hF : mFit s = false := by simp only [mFit, decide_eq_false hA, Bool.and_false, Bool.false_and]
    have qA : ∀ h, Den FF E8 63 [.str s, .int .i64 6] h = some (.val (.tuple [.str [], .int .i64 0, .bool false]), none) := fun h => part_no8 (a := 6) h rfl hA (by omega) hs
    (repeat' (first | refine To.seq hxE8 ?_ | refine To.op0 hxE8 (by simp only [go_sem, eqs hxE8, reduceIte, Nat.reduceEqDiff, Nat.reduceAdd, Nat.reduceMul, Nat.reduceLT, Nat.reduceLeDiff, Int.reduceLT, Int.reduceLE, Int.reduceEq, reduceCtorEq, Int.reduceBEq, Int.reduceBNe, Int.reduceToNat, Nat.reduceSub, Nat.reduceDiv, Int.reduceNeg, Int.reduceAdd, Int.reduceSub, Int.reduceMul, Heap.gets, Heap.sets, Heap.get, bytesA_length, bytesA_one, bytesA_plains, List.take_of_length_le, List.drop_of_length_le, Nat.add_zero, V.one, Nat.reduceLeDiff, List.all_cons, List.all_nil, ne_eq, not_false_eq_true, Nat.zero_le, d1, i0, i1, hc0, hc1, e1, e2, w1, q2, qA]; rfl) ?_ | refine To.op1 hxE8 (by simp only [go_sem, eqs hxE8, reduceIte, Nat.reduceEqDiff, Nat.reduceAdd, Nat.reduceMul, Nat.reduceLT, Nat.reduceLeDiff, Int.reduceLT, Int.reduceLE, Int.reduceEq, reduceCtorEq, Int.reduceBEq, Int.reduceBNe, Int.reduceToNat, Nat.reduceSub, Nat.reduceDiv, Int.reduceNeg, Int.reduceAdd, Int.reduceSub, Int.reduceMul, Heap.gets, Heap.sets, Heap.get, bytesA_length, bytesA_one, bytesA_plains, List.take_of_length_le, List.drop_of_length_le, Nat.add_zero, V.one, Nat.reduceLeDiff, List.all_cons, List.all_nil, ne_eq, not_false_eq_true, Nat.zero_le, d1, i0, i1, hc0, hc1, e1, e2, w1, q2, qA]; rfl) ?_ | refine To.nop hxE8 ?_ | (refine To.condT hxE8 ?_ ?_; focus (simp only [go_sem, eqs hxE8, reduceIte, Nat.reduceEqDiff, Nat.reduceAdd, Nat.reduceMul, Nat.reduceLT, Nat.reduceLeDiff, Int.reduceLT, Int.reduceLE, Int.reduceEq, reduceCtorEq, Int.reduceBEq, Int.reduceBNe, Int.reduceToNat, Nat.reduceSub, Nat.reduceDiv, Int.reduceNeg, Int.reduceAdd, Int.reduceSub, Int.reduceMul, Heap.gets, Heap.sets, Heap.get, bytesA_length, bytesA_one, bytesA_plains, List.take_of_length_le, List.drop_of_length_le, Nat.add_zero, V.one, Nat.reduceLeDiff, List.all_cons, List.all_nil, ne_eq, not_false_eq_true, Nat.zero_le, d1, i0, i1, hc0, hc1, e1, e2, w1, q2, qA]; done)) | (refine To.condF hxE8 ?_ ?_; focus (simp only [go_sem, eqs hxE8, reduceIte, Nat.reduceEqDiff, Nat.reduceAdd, Nat.reduceMul, Nat.reduceLT, Nat.reduceLeDiff, Int.reduceLT, Int.reduceLE, Int.reduceEq, reduceCtorEq, Int.reduceBEq, Int.reduceBNe, Int.reduceToNat, Nat.reduceSub, Nat.reduceDiv, Int.reduceNeg, Int.reduceAdd, Int.reduceSub, Int.reduceMul, Heap.gets, Heap.sets, Heap.get, bytesA_length, bytesA_one, bytesA_plains, List.take_of_length_le, List.drop_of_length_le, Nat.add_zero, V.one, Nat.reduceLeDiff, List.all_cons, List.all_nil, ne_eq, not_false_eq_true, Nat.zero_le, d1, i0, i1, hc0, hc1, e1, e2, w1, q2, qA]; done)) | refine To.block hxE8 ?_ | refine To.scope hxE8 ?_ | refine To.ret hxE8 ?_ | refine To.exit hxE8 ?_ | refine To.skip hxE8 ?_ | refine To.label hxE8 ?_))
    refine ⟨_, _, finCT (i := 2) (n := 3) (j := 3) (l := 0) (o := 0) rfl (by simp only [go_sem, eqs hxE8, reduceIte, Nat.reduceEqDiff, Nat.reduceAdd, Nat.reduceMul, Nat.reduceLT, Nat.reduceLeDiff, Int.reduceLT, Int.reduceLE, Int.reduceEq, reduceCtorEq, Int.reduceBEq, Int.reduceBNe, Int.reduceToNat, Nat.reduceSub, Nat.reduceDiv, Int.reduceNeg, Int.reduceAdd, Int.reduceSub, Int.reduceMul]) (by simp only [go_sem, eqs hxE8, reduceIte, Nat.reduceEqDiff, Nat.reduceAdd, Nat.reduceMul, Nat.reduceLT, Nat.reduceLeDiff, Int.reduceLT, Int.reduceLE, Int.reduceEq, reduceCtorEq, Int.reduceBEq, Int.reduceBNe, Int.reduceToNat, Nat.reduceSub, Nat.reduceDiv, Int.reduceNeg, Int.reduceAdd, Int.reduceSub, Int.reduceMul, Heap.gets, Heap.sets, Heap.get, bytesA_length, bytesA_one, bytesA_plains, List.take_of_length_le, List.drop_of_length_le, Nat.add_zero, V.one, Nat.reduceLeDiff, List.all_cons, List.all_nil, ne_eq, not_false_eq_true, Nat.zero_le]; rfl), ?_, ?_⟩
    · simp only [go_sem, eqs hxE8, reduceIte, Nat.reduceEqDiff, Nat.reduceAdd, Nat.reduceMul, Nat.reduceLT, Nat.reduceLeDiff, Int.reduceLT, Int.reduceLE, Int.reduceEq, reduceCtorEq, Int.reduceBEq, Int.reduceBNe, Int.reduceToNat, Nat.reduceSub, Nat.reduceDiv, Int.reduceNeg, Int.reduceAdd, Int.reduceSub, Int.reduceMul, hF, Bool.false_and, noNote]
    · simp only [go_sem, eqs hxE8, reduceIte, Nat.reduceEqDiff, Nat.reduceAdd, Nat.reduceMul, Nat.reduceLT, Nat.reduceLeDiff, Int.reduceLT, Int.reduceLE, Int.reduceEq, reduceCtorEq, Int.reduceBEq, Int.reduceBNe, Int.reduceToNat, Nat.reduceSub, Nat.reduceDiv, Int.reduceNeg, Int.reduceAdd, Int.reduceSub, Int.reduceMul]
def tReadN : Ans
  | [.str s] => if s.length ≤ 100000 then some (readN s) else none
  | _ => none
theorem okReadN : SpOk FF E8 23 tReadN := by
  intro args v h hpl
  unfold tReadN at h
  split at h
  · split at h
    · rename_i hc
      cases h
      obtain ⟨r, oh, q, rfl, rfl⟩ := readN_den _ hc
      exact ⟨by unfold readN; split <;> rfl, _, q⟩
    · cases h
  · cases h
def g9 : Nat → Option Ans := addG g8 [(23, tReadN)]
def E9 : ExtF := plainExt g9
theorem hxE9 : ExtMono E9 := plainExt_mono g9
theorem sndE9 : ExtSound Try.prog E9 := addG_sound mixed ffok sndE8 (by
  intro p hp
  simp only [List.mem_cons, List.not_mem_nil, or_false] at hp
  rcases hp with rfl
  · exact okReadN)
theorem E9_none {f : Nat} (h : g9 f = none) (c : CallF) : E9 c f = none := plainExt_none h c
theorem eContains_9 (s : List UInt8) (c : UInt8) (h : Heap) : Den FF E9 79 [.str s, .str [c]] h = some (.val (.bool (s.contains c)), none) := den_plain (sp := tContains) h rfl (by rfl) (by first | (simp [V.plains, V.plain, bytesA_plains]; done) | rfl)
theorem eAwake24_9 (_ : Unit) (h : Heap) : Den FF E9 27 [] h = some (.val (.bool true), none) := den_plain (sp := tAwake) h rfl (by rfl) (by first | (simp [V.plains, V.plain, bytesA_plains]; done) | rfl)
theorem eAwake23_9 (_ : Unit) (h : Heap) : Den FF E9 11 [] h = some (.val (.bool true), none) := den_plain (sp := tAwake) h rfl (by rfl) (by first | (simp [V.plains, V.plain, bytesA_plains]; done) | rfl)
theorem eIn_9 (n lo hi : Int) (h : Heap) : Den FF E9 65 [.int .i64 n, .int .i64 lo, .int .i64 hi] h = some (.val (.bool (inB n lo hi)), none) := den_plain (sp := tIn) h rfl (by rfl) (by first | (simp [V.plains, V.plain, bytesA_plains]; done) | rfl)
theorem eTakes_9 (id op ino oth n m : Int) (nm tx : List UInt8) (h : Heap) : Den FF E9 54 [.agg [.int .i64 id, .int .i64 op, .int .i64 ino, .int .i64 oth, .int .i64 n, .int .i64 m, .str nm, .str tx]] h = some (.val (.tuple [.agg (takesF id op ino oth n m nm tx), .bool (isOp op)]), none) := den_plain (sp := tTakes) h rfl (by rfl) (by first | (simp [V.plains, V.plain, bytesA_plains]; done) | rfl)
theorem eWAttr_9 (a0 a1 a2 a3 a4 a5 : Int) (h : Heap) : Den FF E9 25 [.agg [.int .i64 a0, .int .i64 a1, .int .i64 a2, .int .i64 a3, .int .i64 a4, .int .i64 a5]] h = some (.val (.bool (attrB a0 a1 a2 a3 a4 a5)), none) := den_plain (sp := tAttr) h rfl (by rfl) (by first | (simp [V.plains, V.plain, bytesA_plains]; done) | rfl)
theorem eRAttr_9 (a0 a1 a2 a3 a4 a5 : Int) (h : Heap) : Den FF E9 24 [.agg [.int .i64 a0, .int .i64 a1, .int .i64 a2, .int .i64 a3, .int .i64 a4, .int .i64 a5]] h = some (.val (.bool (attrB a0 a1 a2 a3 a4 a5)), none) := den_plain (sp := tAttr) h rfl (by rfl) (by first | (simp [V.plains, V.plain, bytesA_plains]; done) | rfl)
theorem eNum1_9 (n : Int) (h : Heap) : Den FF E9 77 [.int .i64 n] h = some (.val (.bool (!numB n)), none) := den_plain (sp := tNum1) h rfl (by rfl) (by first | (simp [V.plains, V.plain, bytesA_plains]; done) | rfl)
theorem eRight_9 (id op ino oth n m : Int) (nm tx : List UInt8) (h : Heap) : Den FF E9 14 [.agg [.int .i64 id, .int .i64 op, .int .i64 ino, .int .i64 oth, .int .i64 n, .int .i64 m, .str nm, .str tx]] h = some (.val (.bool (rightR id op ino oth n m nm tx)), none) := den_plain (sp := tRight) h rfl (by rfl) (by first | (simp [V.plains, V.plain, bytesA_plains]; done) | rfl)
theorem eNumD_9 (n : Int) (h : Heap) : Den FF E9 48 [.int .i64 n] h = some (.val (.bool (numB n)), none) := den_plain (sp := tNumD) h rfl (by rfl) (by first | (simp [V.plains, V.plain, bytesA_plains]; done) | rfl)
theorem eBig_9 (n s : Int) (hc : 0 ≤ n ∧ n ≤ 9223372036854775807 ∧ 0 ≤ s ∧ s ≤ 8) (h : Heap) : Den FF E9 60 [.int .i64 n, .int .i64 s] h = some (.val (.str (bigF n s)), none) := den_plain (sp := tBig) h rfl (by exact if_pos hc) (by first | (simp [V.plains, V.plain, bytesA_plains]; done) | rfl)
theorem eNumber_9 (s : List UInt8) (a z : Int) (hc : 0 ≤ a ∧ a ≤ 1000000 ∧ 0 ≤ z ∧ z ≤ 4 ∧ s.length ≤ 1000000) (h : Heap) : Den FF E9 62 [.str s, .int .i64 a, .int .i64 z] h = some (.val ((if a.toNat + z.toNat ≤ s.length then .tuple [.int .i64 (numAt s a.toNat z.toNat), .bool true] else .tuple [.int .i64 0, .bool false])), none) := den_plain (sp := tNumber) h rfl (by exact if_pos hc) (by first | (simp [V.plains, V.plain, bytesA_plains]; done) | rfl)
theorem eCheck_9 (s : List UInt8) (h : Heap) : Den FF E9 66 [.str s] h = some (.val (.int .i64 (checkN s)), none) := den_plain (sp := tCheck) h rfl (by rfl) (by first | (simp [V.plains, V.plain, bytesA_plains]; done) | rfl)
theorem eRCheck_9 (s : List UInt8) (h : Heap) : Den FF E9 64 [.str s] h = some (.val (.int .i64 (checkN s)), none) := den_plain (sp := tCheck) h rfl (by rfl) (by first | (simp [V.plains, V.plain, bytesA_plains]; done) | rfl)
theorem eText_9 (s : List UInt8) (hc : s.length ≤ 1000000) (h : Heap) : Den FF E9 61 [.str s] h = some (.val (.str (textB s)), none) := den_plain (sp := tText) h rfl (by exact if_pos hc) (by first | (simp [V.plains, V.plain, bytesA_plains]; done) | rfl)
theorem ePart_9 (s : List UInt8) (a : Int) (hc : 0 ≤ a ∧ a ≤ 900000 ∧ s.length ≤ 900000) (h : Heap) : Den FF E9 63 [.str s, .int .i64 a] h = some (.val (partV s a.toNat), none) := den_plain (sp := tPart) h rfl (by exact if_pos hc) (by first | (simp [V.plains, V.plain, bytesA_plains]; done) | rfl)
theorem eRRight_9 (id op ino oth n m : Int) (nm tx : List UInt8) (h : Heap) : Den FF E9 12 [.agg [.int .i64 id, .int .i64 op, .int .i64 ino, .int .i64 oth, .int .i64 n, .int .i64 m, .str nm, .str tx]] h = some (.val (.bool (rightR id op ino oth n m nm tx)), none) := den_plain (sp := tRight) h rfl (by rfl) (by first | (simp [V.plains, V.plain, bytesA_plains]; done) | rfl)
theorem eNRight_9 (k i : Int) (nm : List UInt8) (h : Heap) : Den FF E9 20 [.agg [.int .i64 k, .int .i64 i, .str nm]] h = some (.val (.bool (rightN k i nm)), none) := den_plain (sp := tNRight) h rfl (by rfl) (by first | (simp [V.plains, V.plain, bytesA_plains]; done) | rfl)
theorem eRNRight_9 (k i : Int) (nm : List UInt8) (h : Heap) : Den FF E9 18 [.agg [.int .i64 k, .int .i64 i, .str nm]] h = some (.val (.bool (rightN k i nm)), none) := den_plain (sp := tNRight) h rfl (by rfl) (by first | (simp [V.plains, V.plain, bytesA_plains]; done) | rfl)
theorem eNoteB_9 (k i : Int) (nm : List UInt8) (hc : rightN k i nm = true) (h : Heap) : Den FF E9 22 [.agg [.int .i64 k, .int .i64 i, .str nm]] h = some (.val (.str (noteB k i nm)), none) := den_plain (sp := tNoteB) h rfl (by exact if_pos hc) (by first | (simp [V.plains, V.plain, bytesA_plains]; done) | rfl)
theorem ePutN_9 (k i : Int) (nm : List UInt8) (h : Heap) : Den FF E9 19 [.agg [.int .i64 k, .int .i64 i, .str nm]] h = some (.val (putN k i nm), none) := den_plain (sp := tPutN) h rfl (by rfl) (by first | (simp [V.plains, V.plain, bytesA_plains]; done) | rfl)
theorem eGetN_9 (s : List UInt8) (hc : s.length ≤ 100000) (h : Heap) : Den FF E9 21 [.str s] h = some (.val (getN s), none) := den_plain (sp := tGetN) h rfl (by exact if_pos hc) (by first | (simp [V.plains, V.plain, bytesA_plains]; done) | rfl)
theorem eReadN_9 (s : List UInt8) (hc : s.length ≤ 100000) (h : Heap) : Den FF E9 23 [.str s] h = some (.val (readN s), none) := den_plain (sp := tReadN) h rfl (by exact if_pos hc) (by first | (simp [V.plains, V.plain, bytesA_plains]; done) | rfl)

theorem getsN_app {k i : Int} {nm : List UInt8} (hR : rightN k i nm = true) :
    nP4 (noteB k i nm) = ([], false) ∧ nFirst (noteB k i nm) = 3 ∧ nK (noteB k i nm) = k ∧ nI (noteB k i nm) = i ∧ nNm (noteB k i nm) = nm := by
  obtain ⟨a1, a2, a3, a4, a5⟩ := nIs hR
  have e : noteB k i nm = bigF 3 1 ++ (bigF k 1 ++ (bigF i 4 ++ (textB nm ++ []))) := by simp only [noteB, List.append_nil]
  rw [e]
  have p1 : nP1 (bigF 3 1 ++ (bigF k 1 ++ (bigF i 4 ++ (textB nm ++ [])))) = (bigF k 1 ++ (bigF i 4 ++ (textB nm ++ [])), false) := rdS_app (big1_len 3)
  have f1 : nFirst (bigF 3 1 ++ (bigF k 1 ++ (bigF i 4 ++ (textB nm ++ [])))) = 3 := by
    unfold nFirst nP0; rw [rdV_app (big1_len 3), big_be1 (by decide) (by decide)]
  generalize (bigF 3 1 ++ (bigF k 1 ++ (bigF i 4 ++ (textB nm ++ [])))) = s at *
  have p2 : nP2 s = (bigF i 4 ++ (textB nm ++ []), false) := by rw [nP2, p1, rdS_app (big1_len _)]
  have o1 : nK s = k := by rw [nK, p1, rdV_app (big1_len _), big_be1 (by omega) (by omega)]
  have p3 : nP3 s = (textB nm ++ [], false) := by rw [nP3, p2, rdS_app (big4_len _)]
  have o2 : nI s = i := by rw [nI, p2, rdV_app (big4_len _), big_be4 (by omega) (by omega)]
  obtain ⟨t1, t2⟩ := txS_app (t := nm) (r := []) (by omega)
  exact ⟨by rw [nP4, p3, t1], f1, o1, o2, by rw [nNm, p3, t2]⟩
theorem getN_note {k i : Int} {nm : List UInt8} (hR : rightN k i nm = true) : getN (noteB k i nm) = .tuple [.agg [.int .i64 k, .int .i64 i, .str nm], .int .i64 0] := by
  obtain ⟨h1, h2, h3, h4, h5⟩ := getsN_app hR
  have hd : nDone (noteB k i nm) = true := by simp [nDone, h1, h2]
  have hr : nRight (noteB k i nm) = true := by simp only [nRight, h3, h4, h5, hR]
  simp only [getN, hd, hr, h3, h4, h5]
  rfl
theorem getN_back {s : List UInt8} (h : nDone s = true) : s = noteB (nK s) (nI s) (nNm s) := by
  simp only [nDone, Bool.and_eq_true, Bool.not_eq_true', beq_iff_eq] at h
  obtain ⟨hb, hn, hf⟩ := h
  obtain ⟨b3, e3⟩ := txS_ok (p := nP3 s) hb
  obtain ⟨b2, e2⟩ := rdS_ok (n := 4) (p := nP2 s) b3
  obtain ⟨b1, e1⟩ := rdS_ok (n := 1) (p := nP1 s) b2
  obtain ⟨b0, e0⟩ := rdS_ok (n := 1) (p := nP0 s) b1
  have hn' : (txS (nP3 s)).1 = [] := hn
  have f0 : ((rdV 1 (nP0 s) : Nat) : Int) = 3 := hf
  rw [hn', List.append_nil] at e3
  change (nP3 s).1 = textB (nNm s) at e3
  change (nP2 s).1 = bigF (nI s) 4 ++ (nP3 s).1 at e2
  change (nP1 s).1 = bigF (nK s) 1 ++ (nP2 s).1 at e1
  change s = bigF ((rdV 1 (nP0 s) : Nat) : Int) 1 ++ (nP1 s).1 at e0
  rw [f0, e1, e2, e3] at e0
  exact e0
theorem readN_note {k i : Int} {nm : List UInt8} (hR : rightN k i nm = true) : readN (noteB k i nm) = .tuple [.agg [.int .i64 k, .int .i64 i, .str nm], .bool true] := by
  obtain ⟨a1, a2, a3, a4, a5⟩ := nIs hR
  have hlen : (noteB k i nm).length = 8 + nm.length := by simp [noteB, bigF_length, textB_length]; omega
  generalize hs : noteB k i nm = s at *
  have e0 : s = bigF 3 1 ++ (bigF k 1 ++ (bigF i 4 ++ textB nm)) := by rw [← hs]; rfl
  have n1 : rNum s 2 = i := by
    have : s = (bigF 3 1 ++ bigF k 1) ++ (bigF i 4 ++ textB nm) := by rw [e0]; simp only [List.append_assoc]
    rw [rNum, this, numAt_app (by simp [bigF_length]) (big4_len _), big_be4 (by omega) (by omega)]
  have hA : mA s = nm.length := by
    have : s = (bigF 3 1 ++ (bigF k 1 ++ bigF i 4)) ++ (tobe 2 nm.length ++ nm) := by rw [e0]; simp only [List.append_assoc, textB]
    rw [mA, this, numAt_app (by simp [bigF_length]) (tobe_length _ _), tobe2_len _ (by omega)]
  have hN : mNm s = nm := by
    have : s = (bigF 3 1 ++ (bigF k 1 ++ (bigF i 4 ++ tobe 2 nm.length))) ++ (nm ++ []) := by rw [e0]; simp only [List.append_assoc, textB, List.append_nil]
    rw [mNm, hA, this, List.drop_left' (by simp [bigF_length, tobe_length]), List.take_left' rfl]
  have hO : rOp s = k := by
    have e1 : s.getD 1 0 = UInt8.ofNat k.toNat := by
      rw [e0]
      simp [bigF, tobe]
    rw [rOp, e1]
    obtain ⟨a, rfl⟩ : ∃ a : Nat, k = (a : Int) := ⟨k.toNat, by omega⟩
    simp only [Int.toNat_natCast, UInt8.toNat_ofNat']
    omega
  have hH : s.getD 0 0 = 3 := by rw [e0]; rfl
  have hF : mFit s = true := by
    have l1 : decide (6 ≤ s.length) = true := decide_eq_true (by omega)
    have l2 : decide (8 + nm.length ≤ s.length) = true := decide_eq_true (by omega)
    simp only [mFit, hH, hA, l1, l2]; rfl
  have hr : mRight s = true := by rw [mRight, n1, hO, hN, hR]
  have hS : mSame s = true := by rw [mSame, n1, hO, hN, hs]; simp
  simp only [readN, hF, hr, hS, n1, hO, hN]
  rfl
theorem bothN (s : List UInt8) : (∃ k i nm, getN s = .tuple [.agg [.int .i64 k, .int .i64 i, .str nm], .int .i64 0] ∧ readN s = .tuple [.agg [.int .i64 k, .int .i64 i, .str nm], .bool true]) ∨
    (getN s = .tuple [noNote, .int .i64 22] ∧ readN s = .tuple [noNote, .bool false]) := by
  cases hg : (nDone s && nRight s)
  · refine .inr ⟨by simp only [getN, hg]; rfl, ?_⟩
    cases hr : (mFit s && (mRight s && mSame s))
    · simp only [readN, hr]; rfl
    · exfalso
      simp only [Bool.and_eq_true] at hr
      obtain ⟨_, hr, hs⟩ := hr
      simp only [mSame, beq_iff_eq] at hs
      have h := getN_note hr
      rw [hs] at h
      simp only [getN, hg, Bool.false_eq_true, if_false, noNote] at h
      simp at h
  · simp only [Bool.and_eq_true] at hg
    have h := getN_back hg.1
    have h1 := getN_note hg.2
    have h2 := readN_note hg.2
    rw [← h] at h1 h2
    exact .inl ⟨_, _, _, h1, h2⟩
theorem putN_no {k i : Int} {nm : List UInt8} (h : rightN k i nm = false) : putN k i nm = .tuple [.str [], .int .i64 22] := by
  simp only [putN, h]; rfl
theorem putN_ok {k i : Int} {nm : List UInt8} (h : rightN k i nm = true) : putN k i nm = .tuple [.str (noteB k i nm), .int .i64 0] := by
  simp only [putN, h]; rfl

set_option maxHeartbeats 16000000 in
theorem lawNotices {h : Heap} (k i : Int) (nm s : List UInt8) :
    ∃ r oh, Den FF E9 5 [.agg [.int .i64 k, .int .i64 i, .str nm], .str s] h = some (r, oh) ∧ r = .val (.bool true) := by
  refine To.denE hxE9 (f := 5) (a := af5) rfl (E9_none rfl) (Nat.le_of_ble_eq_true rfl) ?_
  have k1 : (2000 < (nm.length : Int)) = (2000 < nm.length) := propext (by omega)
  have k3 : (2000 < (s.length : Int)) = (2000 < s.length) := propext (by omega)
  by_cases h1 : 2000 < nm.length
  · (repeat' (first | refine To.seq hxE9 ?_ | refine To.op0 hxE9 (by simp only [go_sem, eqs hxE9, reduceIte, Nat.reduceEqDiff, Nat.reduceAdd, Nat.reduceMul, Nat.reduceLT, Nat.reduceLeDiff, Int.reduceLT, Int.reduceLE, Int.reduceEq, reduceCtorEq, Int.reduceBEq, Int.reduceBNe, Int.reduceToNat, Nat.reduceSub, Nat.reduceDiv, Int.reduceNeg, Int.reduceAdd, Int.reduceSub, Int.reduceMul, Heap.gets, Heap.sets, Heap.get, bytesA_length, bytesA_one, bytesA_plains, List.take_of_length_le, List.drop_of_length_le, Nat.add_zero, V.one, Nat.reduceLeDiff, List.all_cons, List.all_nil, ne_eq, not_false_eq_true, Nat.zero_le, eAwake23_9 (), k1, h1]; rfl) ?_ | refine To.op1 hxE9 (by simp only [go_sem, eqs hxE9, reduceIte, Nat.reduceEqDiff, Nat.reduceAdd, Nat.reduceMul, Nat.reduceLT, Nat.reduceLeDiff, Int.reduceLT, Int.reduceLE, Int.reduceEq, reduceCtorEq, Int.reduceBEq, Int.reduceBNe, Int.reduceToNat, Nat.reduceSub, Nat.reduceDiv, Int.reduceNeg, Int.reduceAdd, Int.reduceSub, Int.reduceMul, Heap.gets, Heap.sets, Heap.get, bytesA_length, bytesA_one, bytesA_plains, List.take_of_length_le, List.drop_of_length_le, Nat.add_zero, V.one, Nat.reduceLeDiff, List.all_cons, List.all_nil, ne_eq, not_false_eq_true, Nat.zero_le, eAwake23_9 (), k1, h1]; rfl) ?_ | refine To.nop hxE9 ?_ | (refine To.condT hxE9 ?_ ?_; focus (simp only [go_sem, eqs hxE9, reduceIte, Nat.reduceEqDiff, Nat.reduceAdd, Nat.reduceMul, Nat.reduceLT, Nat.reduceLeDiff, Int.reduceLT, Int.reduceLE, Int.reduceEq, reduceCtorEq, Int.reduceBEq, Int.reduceBNe, Int.reduceToNat, Nat.reduceSub, Nat.reduceDiv, Int.reduceNeg, Int.reduceAdd, Int.reduceSub, Int.reduceMul, Heap.gets, Heap.sets, Heap.get, bytesA_length, bytesA_one, bytesA_plains, List.take_of_length_le, List.drop_of_length_le, Nat.add_zero, V.one, Nat.reduceLeDiff, List.all_cons, List.all_nil, ne_eq, not_false_eq_true, Nat.zero_le, eAwake23_9 (), k1, h1]; done)) | (refine To.condF hxE9 ?_ ?_; focus (simp only [go_sem, eqs hxE9, reduceIte, Nat.reduceEqDiff, Nat.reduceAdd, Nat.reduceMul, Nat.reduceLT, Nat.reduceLeDiff, Int.reduceLT, Int.reduceLE, Int.reduceEq, reduceCtorEq, Int.reduceBEq, Int.reduceBNe, Int.reduceToNat, Nat.reduceSub, Nat.reduceDiv, Int.reduceNeg, Int.reduceAdd, Int.reduceSub, Int.reduceMul, Heap.gets, Heap.sets, Heap.get, bytesA_length, bytesA_one, bytesA_plains, List.take_of_length_le, List.drop_of_length_le, Nat.add_zero, V.one, Nat.reduceLeDiff, List.all_cons, List.all_nil, ne_eq, not_false_eq_true, Nat.zero_le, eAwake23_9 (), k1, h1]; done)) | refine To.block hxE9 ?_ | refine To.scope hxE9 ?_ | refine To.ret hxE9 ?_ | refine To.exit hxE9 ?_ | refine To.skip hxE9 ?_ | refine To.label hxE9 ?_))
    refine ⟨_, _, fin1 (i := 4) rfl, ?_⟩
    simp only [go_sem, eqs hxE9, reduceIte, Nat.reduceEqDiff, Nat.reduceAdd, Nat.reduceMul, Nat.reduceLT, Nat.reduceLeDiff, Int.reduceLT, Int.reduceLE, Int.reduceEq, reduceCtorEq, Int.reduceBEq, Int.reduceBNe, Int.reduceToNat, Nat.reduceSub, Nat.reduceDiv, Int.reduceNeg, Int.reduceAdd, Int.reduceSub, Int.reduceMul]
  by_cases h3 : 2000 < s.length
  · (repeat' (first | refine To.seq hxE9 ?_ | refine To.op0 hxE9 (by simp only [go_sem, eqs hxE9, reduceIte, Nat.reduceEqDiff, Nat.reduceAdd, Nat.reduceMul, Nat.reduceLT, Nat.reduceLeDiff, Int.reduceLT, Int.reduceLE, Int.reduceEq, reduceCtorEq, Int.reduceBEq, Int.reduceBNe, Int.reduceToNat, Nat.reduceSub, Nat.reduceDiv, Int.reduceNeg, Int.reduceAdd, Int.reduceSub, Int.reduceMul, Heap.gets, Heap.sets, Heap.get, bytesA_length, bytesA_one, bytesA_plains, List.take_of_length_le, List.drop_of_length_le, Nat.add_zero, V.one, Nat.reduceLeDiff, List.all_cons, List.all_nil, ne_eq, not_false_eq_true, Nat.zero_le, eAwake23_9 (), k1, h1, k3, h3]; rfl) ?_ | refine To.op1 hxE9 (by simp only [go_sem, eqs hxE9, reduceIte, Nat.reduceEqDiff, Nat.reduceAdd, Nat.reduceMul, Nat.reduceLT, Nat.reduceLeDiff, Int.reduceLT, Int.reduceLE, Int.reduceEq, reduceCtorEq, Int.reduceBEq, Int.reduceBNe, Int.reduceToNat, Nat.reduceSub, Nat.reduceDiv, Int.reduceNeg, Int.reduceAdd, Int.reduceSub, Int.reduceMul, Heap.gets, Heap.sets, Heap.get, bytesA_length, bytesA_one, bytesA_plains, List.take_of_length_le, List.drop_of_length_le, Nat.add_zero, V.one, Nat.reduceLeDiff, List.all_cons, List.all_nil, ne_eq, not_false_eq_true, Nat.zero_le, eAwake23_9 (), k1, h1, k3, h3]; rfl) ?_ | refine To.nop hxE9 ?_ | (refine To.condT hxE9 ?_ ?_; focus (simp only [go_sem, eqs hxE9, reduceIte, Nat.reduceEqDiff, Nat.reduceAdd, Nat.reduceMul, Nat.reduceLT, Nat.reduceLeDiff, Int.reduceLT, Int.reduceLE, Int.reduceEq, reduceCtorEq, Int.reduceBEq, Int.reduceBNe, Int.reduceToNat, Nat.reduceSub, Nat.reduceDiv, Int.reduceNeg, Int.reduceAdd, Int.reduceSub, Int.reduceMul, Heap.gets, Heap.sets, Heap.get, bytesA_length, bytesA_one, bytesA_plains, List.take_of_length_le, List.drop_of_length_le, Nat.add_zero, V.one, Nat.reduceLeDiff, List.all_cons, List.all_nil, ne_eq, not_false_eq_true, Nat.zero_le, eAwake23_9 (), k1, h1, k3, h3]; done)) | (refine To.condF hxE9 ?_ ?_; focus (simp only [go_sem, eqs hxE9, reduceIte, Nat.reduceEqDiff, Nat.reduceAdd, Nat.reduceMul, Nat.reduceLT, Nat.reduceLeDiff, Int.reduceLT, Int.reduceLE, Int.reduceEq, reduceCtorEq, Int.reduceBEq, Int.reduceBNe, Int.reduceToNat, Nat.reduceSub, Nat.reduceDiv, Int.reduceNeg, Int.reduceAdd, Int.reduceSub, Int.reduceMul, Heap.gets, Heap.sets, Heap.get, bytesA_length, bytesA_one, bytesA_plains, List.take_of_length_le, List.drop_of_length_le, Nat.add_zero, V.one, Nat.reduceLeDiff, List.all_cons, List.all_nil, ne_eq, not_false_eq_true, Nat.zero_le, eAwake23_9 (), k1, h1, k3, h3]; done)) | refine To.block hxE9 ?_ | refine To.scope hxE9 ?_ | refine To.ret hxE9 ?_ | refine To.exit hxE9 ?_ | refine To.skip hxE9 ?_ | refine To.label hxE9 ?_))
    refine ⟨_, _, fin1 (i := 4) rfl, ?_⟩
    simp only [go_sem, eqs hxE9, reduceIte, Nat.reduceEqDiff, Nat.reduceAdd, Nat.reduceMul, Nat.reduceLT, Nat.reduceLeDiff, Int.reduceLT, Int.reduceLE, Int.reduceEq, reduceCtorEq, Int.reduceBEq, Int.reduceBNe, Int.reduceToNat, Nat.reduceSub, Nat.reduceDiv, Int.reduceNeg, Int.reduceAdd, Int.reduceSub, Int.reduceMul]
  have q1 := fun h => eRNRight_9 k i nm h
  have q2 := fun h => eNRight_9 k i nm h
  have q3 := fun h => ePutN_9 k i nm h
  have q4 := fun h => eGetN_9 s (by omega) h
  have q5 := fun h => eReadN_9 s (by omega) h
  cases hR : rightN k i nm
  · rw [hR] at q1 q2
    rw [putN_no hR] at q3
    rcases bothN s with ⟨k', i', nm', h4, h5⟩ | ⟨h4, h5⟩
    · rw [h4] at q4
      rw [h5] at q5
      (repeat' (first | refine To.seq hxE9 ?_ | refine To.op0 hxE9 (by simp only [go_sem, eqs hxE9, reduceIte, Nat.reduceEqDiff, Nat.reduceAdd, Nat.reduceMul, Nat.reduceLT, Nat.reduceLeDiff, Int.reduceLT, Int.reduceLE, Int.reduceEq, reduceCtorEq, Int.reduceBEq, Int.reduceBNe, Int.reduceToNat, Nat.reduceSub, Nat.reduceDiv, Int.reduceNeg, Int.reduceAdd, Int.reduceSub, Int.reduceMul, Heap.gets, Heap.sets, Heap.get, bytesA_length, bytesA_one, bytesA_plains, List.take_of_length_le, List.drop_of_length_le, Nat.add_zero, V.one, Nat.reduceLeDiff, List.all_cons, List.all_nil, ne_eq, not_false_eq_true, Nat.zero_le, eAwake23_9 (), k1, h1, k3, h3, q1, q2, q3, q4, q5, beq_self_eq_true, Bool.and_true]; rfl) ?_ | refine To.op1 hxE9 (by simp only [go_sem, eqs hxE9, reduceIte, Nat.reduceEqDiff, Nat.reduceAdd, Nat.reduceMul, Nat.reduceLT, Nat.reduceLeDiff, Int.reduceLT, Int.reduceLE, Int.reduceEq, reduceCtorEq, Int.reduceBEq, Int.reduceBNe, Int.reduceToNat, Nat.reduceSub, Nat.reduceDiv, Int.reduceNeg, Int.reduceAdd, Int.reduceSub, Int.reduceMul, Heap.gets, Heap.sets, Heap.get, bytesA_length, bytesA_one, bytesA_plains, List.take_of_length_le, List.drop_of_length_le, Nat.add_zero, V.one, Nat.reduceLeDiff, List.all_cons, List.all_nil, ne_eq, not_false_eq_true, Nat.zero_le, eAwake23_9 (), k1, h1, k3, h3, q1, q2, q3, q4, q5, beq_self_eq_true, Bool.and_true]; rfl) ?_ | refine To.nop hxE9 ?_ | (refine To.condT hxE9 ?_ ?_; focus (simp only [go_sem, eqs hxE9, reduceIte, Nat.reduceEqDiff, Nat.reduceAdd, Nat.reduceMul, Nat.reduceLT, Nat.reduceLeDiff, Int.reduceLT, Int.reduceLE, Int.reduceEq, reduceCtorEq, Int.reduceBEq, Int.reduceBNe, Int.reduceToNat, Nat.reduceSub, Nat.reduceDiv, Int.reduceNeg, Int.reduceAdd, Int.reduceSub, Int.reduceMul, Heap.gets, Heap.sets, Heap.get, bytesA_length, bytesA_one, bytesA_plains, List.take_of_length_le, List.drop_of_length_le, Nat.add_zero, V.one, Nat.reduceLeDiff, List.all_cons, List.all_nil, ne_eq, not_false_eq_true, Nat.zero_le, eAwake23_9 (), k1, h1, k3, h3, q1, q2, q3, q4, q5, beq_self_eq_true, Bool.and_true]; done)) | (refine To.condF hxE9 ?_ ?_; focus (simp only [go_sem, eqs hxE9, reduceIte, Nat.reduceEqDiff, Nat.reduceAdd, Nat.reduceMul, Nat.reduceLT, Nat.reduceLeDiff, Int.reduceLT, Int.reduceLE, Int.reduceEq, reduceCtorEq, Int.reduceBEq, Int.reduceBNe, Int.reduceToNat, Nat.reduceSub, Nat.reduceDiv, Int.reduceNeg, Int.reduceAdd, Int.reduceSub, Int.reduceMul, Heap.gets, Heap.sets, Heap.get, bytesA_length, bytesA_one, bytesA_plains, List.take_of_length_le, List.drop_of_length_le, Nat.add_zero, V.one, Nat.reduceLeDiff, List.all_cons, List.all_nil, ne_eq, not_false_eq_true, Nat.zero_le, eAwake23_9 (), k1, h1, k3, h3, q1, q2, q3, q4, q5, beq_self_eq_true, Bool.and_true]; done)) | refine To.block hxE9 ?_ | refine To.scope hxE9 ?_ | refine To.ret hxE9 ?_ | refine To.exit hxE9 ?_ | refine To.skip hxE9 ?_ | refine To.label hxE9 ?_))
      refine ⟨_, _, fin1 (i := 4) rfl, ?_⟩
      simp only [go_sem, eqs hxE9, reduceIte, Nat.reduceEqDiff, Nat.reduceAdd, Nat.reduceMul, Nat.reduceLT, Nat.reduceLeDiff, Int.reduceLT, Int.reduceLE, Int.reduceEq, reduceCtorEq, Int.reduceBEq, Int.reduceBNe, Int.reduceToNat, Nat.reduceSub, Nat.reduceDiv, Int.reduceNeg, Int.reduceAdd, Int.reduceSub, Int.reduceMul]
    · rw [h4] at q4
      rw [h5] at q5
      unfold noNote at q4 q5
      (repeat' (first | refine To.seq hxE9 ?_ | refine To.op0 hxE9 (by simp only [go_sem, eqs hxE9, reduceIte, Nat.reduceEqDiff, Nat.reduceAdd, Nat.reduceMul, Nat.reduceLT, Nat.reduceLeDiff, Int.reduceLT, Int.reduceLE, Int.reduceEq, reduceCtorEq, Int.reduceBEq, Int.reduceBNe, Int.reduceToNat, Nat.reduceSub, Nat.reduceDiv, Int.reduceNeg, Int.reduceAdd, Int.reduceSub, Int.reduceMul, Heap.gets, Heap.sets, Heap.get, bytesA_length, bytesA_one, bytesA_plains, List.take_of_length_le, List.drop_of_length_le, Nat.add_zero, V.one, Nat.reduceLeDiff, List.all_cons, List.all_nil, ne_eq, not_false_eq_true, Nat.zero_le, eAwake23_9 (), k1, h1, k3, h3, q1, q2, q3, q4, q5, beq_self_eq_true, Bool.and_true]; rfl) ?_ | refine To.op1 hxE9 (by simp only [go_sem, eqs hxE9, reduceIte, Nat.reduceEqDiff, Nat.reduceAdd, Nat.reduceMul, Nat.reduceLT, Nat.reduceLeDiff, Int.reduceLT, Int.reduceLE, Int.reduceEq, reduceCtorEq, Int.reduceBEq, Int.reduceBNe, Int.reduceToNat, Nat.reduceSub, Nat.reduceDiv, Int.reduceNeg, Int.reduceAdd, Int.reduceSub, Int.reduceMul, Heap.gets, Heap.sets, Heap.get, bytesA_length, bytesA_one, bytesA_plains, List.take_of_length_le, List.drop_of_length_le, Nat.add_zero, V.one, Nat.reduceLeDiff, List.all_cons, List.all_nil, ne_eq, not_false_eq_true, Nat.zero_le, eAwake23_9 (), k1, h1, k3, h3, q1, q2, q3, q4, q5, beq_self_eq_true, Bool.and_true]; rfl) ?_ | refine To.nop hxE9 ?_ | (refine To.condT hxE9 ?_ ?_; focus (simp only [go_sem, eqs hxE9, reduceIte, Nat.reduceEqDiff, Nat.reduceAdd, Nat.reduceMul, Nat.reduceLT, Nat.reduceLeDiff, Int.reduceLT, Int.reduceLE, Int.reduceEq, reduceCtorEq, Int.reduceBEq, Int.reduceBNe, Int.reduceToNat, Nat.reduceSub, Nat.reduceDiv, Int.reduceNeg, Int.reduceAdd, Int.reduceSub, Int.reduceMul, Heap.gets, Heap.sets, Heap.get, bytesA_length, bytesA_one, bytesA_plains, List.take_of_length_le, List.drop_of_length_le, Nat.add_zero, V.one, Nat.reduceLeDiff, List.all_cons, List.all_nil, ne_eq, not_false_eq_true, Nat.zero_le, eAwake23_9 (), k1, h1, k3, h3, q1, q2, q3, q4, q5, beq_self_eq_true, Bool.and_true]; done)) | (refine To.condF hxE9 ?_ ?_; focus (simp only [go_sem, eqs hxE9, reduceIte, Nat.reduceEqDiff, Nat.reduceAdd, Nat.reduceMul, Nat.reduceLT, Nat.reduceLeDiff, Int.reduceLT, Int.reduceLE, Int.reduceEq, reduceCtorEq, Int.reduceBEq, Int.reduceBNe, Int.reduceToNat, Nat.reduceSub, Nat.reduceDiv, Int.reduceNeg, Int.reduceAdd, Int.reduceSub, Int.reduceMul, Heap.gets, Heap.sets, Heap.get, bytesA_length, bytesA_one, bytesA_plains, List.take_of_length_le, List.drop_of_length_le, Nat.add_zero, V.one, Nat.reduceLeDiff, List.all_cons, List.all_nil, ne_eq, not_false_eq_true, Nat.zero_le, eAwake23_9 (), k1, h1, k3, h3, q1, q2, q3, q4, q5, beq_self_eq_true, Bool.and_true]; done)) | refine To.block hxE9 ?_ | refine To.scope hxE9 ?_ | refine To.ret hxE9 ?_ | refine To.exit hxE9 ?_ | refine To.skip hxE9 ?_ | refine To.label hxE9 ?_))
      refine ⟨_, _, fin1 (i := 4) rfl, ?_⟩
      simp only [go_sem, eqs hxE9, reduceIte, Nat.reduceEqDiff, Nat.reduceAdd, Nat.reduceMul, Nat.reduceLT, Nat.reduceLeDiff, Int.reduceLT, Int.reduceLE, Int.reduceEq, reduceCtorEq, Int.reduceBEq, Int.reduceBNe, Int.reduceToNat, Nat.reduceSub, Nat.reduceDiv, Int.reduceNeg, Int.reduceAdd, Int.reduceSub, Int.reduceMul]
  · rw [hR] at q1 q2
    rw [putN_ok hR] at q3
    have q6 := fun h => eNoteB_9 k i nm hR h
    have a5 := (nIs hR).nm1
    have q7 := fun h => eGetN_9 (noteB k i nm) (by simp [noteB, bigF_length, textB_length]; omega) h
    rw [getN_note hR] at q7
    generalize noteB k i nm = t at *
    rcases bothN s with ⟨k', i', nm', h4, h5⟩ | ⟨h4, h5⟩
    · rw [h4] at q4
      rw [h5] at q5
      (repeat' (first | refine To.seq hxE9 ?_ | refine To.op0 hxE9 (by simp only [go_sem, eqs hxE9, reduceIte, Nat.reduceEqDiff, Nat.reduceAdd, Nat.reduceMul, Nat.reduceLT, Nat.reduceLeDiff, Int.reduceLT, Int.reduceLE, Int.reduceEq, reduceCtorEq, Int.reduceBEq, Int.reduceBNe, Int.reduceToNat, Nat.reduceSub, Nat.reduceDiv, Int.reduceNeg, Int.reduceAdd, Int.reduceSub, Int.reduceMul, Heap.gets, Heap.sets, Heap.get, bytesA_length, bytesA_one, bytesA_plains, List.take_of_length_le, List.drop_of_length_le, Nat.add_zero, V.one, Nat.reduceLeDiff, List.all_cons, List.all_nil, ne_eq, not_false_eq_true, Nat.zero_le, eAwake23_9 (), k1, h1, k3, h3, q1, q2, q3, q7, q4, q5, q6, beq_self_eq_true, Bool.and_true]; rfl) ?_ | refine To.op1 hxE9 (by simp only [go_sem, eqs hxE9, reduceIte, Nat.reduceEqDiff, Nat.reduceAdd, Nat.reduceMul, Nat.reduceLT, Nat.reduceLeDiff, Int.reduceLT, Int.reduceLE, Int.reduceEq, reduceCtorEq, Int.reduceBEq, Int.reduceBNe, Int.reduceToNat, Nat.reduceSub, Nat.reduceDiv, Int.reduceNeg, Int.reduceAdd, Int.reduceSub, Int.reduceMul, Heap.gets, Heap.sets, Heap.get, bytesA_length, bytesA_one, bytesA_plains, List.take_of_length_le, List.drop_of_length_le, Nat.add_zero, V.one, Nat.reduceLeDiff, List.all_cons, List.all_nil, ne_eq, not_false_eq_true, Nat.zero_le, eAwake23_9 (), k1, h1, k3, h3, q1, q2, q3, q7, q4, q5, q6, beq_self_eq_true, Bool.and_true]; rfl) ?_ | refine To.nop hxE9 ?_ | (refine To.condT hxE9 ?_ ?_; focus (simp only [go_sem, eqs hxE9, reduceIte, Nat.reduceEqDiff, Nat.reduceAdd, Nat.reduceMul, Nat.reduceLT, Nat.reduceLeDiff, Int.reduceLT, Int.reduceLE, Int.reduceEq, reduceCtorEq, Int.reduceBEq, Int.reduceBNe, Int.reduceToNat, Nat.reduceSub, Nat.reduceDiv, Int.reduceNeg, Int.reduceAdd, Int.reduceSub, Int.reduceMul, Heap.gets, Heap.sets, Heap.get, bytesA_length, bytesA_one, bytesA_plains, List.take_of_length_le, List.drop_of_length_le, Nat.add_zero, V.one, Nat.reduceLeDiff, List.all_cons, List.all_nil, ne_eq, not_false_eq_true, Nat.zero_le, eAwake23_9 (), k1, h1, k3, h3, q1, q2, q3, q7, q4, q5, q6, beq_self_eq_true, Bool.and_true]; done)) | (refine To.condF hxE9 ?_ ?_; focus (simp only [go_sem, eqs hxE9, reduceIte, Nat.reduceEqDiff, Nat.reduceAdd, Nat.reduceMul, Nat.reduceLT, Nat.reduceLeDiff, Int.reduceLT, Int.reduceLE, Int.reduceEq, reduceCtorEq, Int.reduceBEq, Int.reduceBNe, Int.reduceToNat, Nat.reduceSub, Nat.reduceDiv, Int.reduceNeg, Int.reduceAdd, Int.reduceSub, Int.reduceMul, Heap.gets, Heap.sets, Heap.get, bytesA_length, bytesA_one, bytesA_plains, List.take_of_length_le, List.drop_of_length_le, Nat.add_zero, V.one, Nat.reduceLeDiff, List.all_cons, List.all_nil, ne_eq, not_false_eq_true, Nat.zero_le, eAwake23_9 (), k1, h1, k3, h3, q1, q2, q3, q7, q4, q5, q6, beq_self_eq_true, Bool.and_true]; done)) | refine To.block hxE9 ?_ | refine To.scope hxE9 ?_ | refine To.ret hxE9 ?_ | refine To.exit hxE9 ?_ | refine To.skip hxE9 ?_ | refine To.label hxE9 ?_))
      refine ⟨_, _, fin1 (i := 4) rfl, ?_⟩
      simp only [go_sem, eqs hxE9, reduceIte, Nat.reduceEqDiff, Nat.reduceAdd, Nat.reduceMul, Nat.reduceLT, Nat.reduceLeDiff, Int.reduceLT, Int.reduceLE, Int.reduceEq, reduceCtorEq, Int.reduceBEq, Int.reduceBNe, Int.reduceToNat, Nat.reduceSub, Nat.reduceDiv, Int.reduceNeg, Int.reduceAdd, Int.reduceSub, Int.reduceMul]
    · rw [h4] at q4
      rw [h5] at q5
      unfold noNote at q4 q5
      (repeat' (first | refine To.seq hxE9 ?_ | refine To.op0 hxE9 (by simp only [go_sem, eqs hxE9, reduceIte, Nat.reduceEqDiff, Nat.reduceAdd, Nat.reduceMul, Nat.reduceLT, Nat.reduceLeDiff, Int.reduceLT, Int.reduceLE, Int.reduceEq, reduceCtorEq, Int.reduceBEq, Int.reduceBNe, Int.reduceToNat, Nat.reduceSub, Nat.reduceDiv, Int.reduceNeg, Int.reduceAdd, Int.reduceSub, Int.reduceMul, Heap.gets, Heap.sets, Heap.get, bytesA_length, bytesA_one, bytesA_plains, List.take_of_length_le, List.drop_of_length_le, Nat.add_zero, V.one, Nat.reduceLeDiff, List.all_cons, List.all_nil, ne_eq, not_false_eq_true, Nat.zero_le, eAwake23_9 (), k1, h1, k3, h3, q1, q2, q3, q7, q4, q5, q6, beq_self_eq_true, Bool.and_true]; rfl) ?_ | refine To.op1 hxE9 (by simp only [go_sem, eqs hxE9, reduceIte, Nat.reduceEqDiff, Nat.reduceAdd, Nat.reduceMul, Nat.reduceLT, Nat.reduceLeDiff, Int.reduceLT, Int.reduceLE, Int.reduceEq, reduceCtorEq, Int.reduceBEq, Int.reduceBNe, Int.reduceToNat, Nat.reduceSub, Nat.reduceDiv, Int.reduceNeg, Int.reduceAdd, Int.reduceSub, Int.reduceMul, Heap.gets, Heap.sets, Heap.get, bytesA_length, bytesA_one, bytesA_plains, List.take_of_length_le, List.drop_of_length_le, Nat.add_zero, V.one, Nat.reduceLeDiff, List.all_cons, List.all_nil, ne_eq, not_false_eq_true, Nat.zero_le, eAwake23_9 (), k1, h1, k3, h3, q1, q2, q3, q7, q4, q5, q6, beq_self_eq_true, Bool.and_true]; rfl) ?_ | refine To.nop hxE9 ?_ | (refine To.condT hxE9 ?_ ?_; focus (simp only [go_sem, eqs hxE9, reduceIte, Nat.reduceEqDiff, Nat.reduceAdd, Nat.reduceMul, Nat.reduceLT, Nat.reduceLeDiff, Int.reduceLT, Int.reduceLE, Int.reduceEq, reduceCtorEq, Int.reduceBEq, Int.reduceBNe, Int.reduceToNat, Nat.reduceSub, Nat.reduceDiv, Int.reduceNeg, Int.reduceAdd, Int.reduceSub, Int.reduceMul, Heap.gets, Heap.sets, Heap.get, bytesA_length, bytesA_one, bytesA_plains, List.take_of_length_le, List.drop_of_length_le, Nat.add_zero, V.one, Nat.reduceLeDiff, List.all_cons, List.all_nil, ne_eq, not_false_eq_true, Nat.zero_le, eAwake23_9 (), k1, h1, k3, h3, q1, q2, q3, q7, q4, q5, q6, beq_self_eq_true, Bool.and_true]; done)) | (refine To.condF hxE9 ?_ ?_; focus (simp only [go_sem, eqs hxE9, reduceIte, Nat.reduceEqDiff, Nat.reduceAdd, Nat.reduceMul, Nat.reduceLT, Nat.reduceLeDiff, Int.reduceLT, Int.reduceLE, Int.reduceEq, reduceCtorEq, Int.reduceBEq, Int.reduceBNe, Int.reduceToNat, Nat.reduceSub, Nat.reduceDiv, Int.reduceNeg, Int.reduceAdd, Int.reduceSub, Int.reduceMul, Heap.gets, Heap.sets, Heap.get, bytesA_length, bytesA_one, bytesA_plains, List.take_of_length_le, List.drop_of_length_le, Nat.add_zero, V.one, Nat.reduceLeDiff, List.all_cons, List.all_nil, ne_eq, not_false_eq_true, Nat.zero_le, eAwake23_9 (), k1, h1, k3, h3, q1, q2, q3, q7, q4, q5, q6, beq_self_eq_true, Bool.and_true]; done)) | refine To.block hxE9 ?_ | refine To.scope hxE9 ?_ | refine To.ret hxE9 ?_ | refine To.exit hxE9 ?_ | refine To.skip hxE9 ?_ | refine To.label hxE9 ?_))
      refine ⟨_, _, fin1 (i := 4) rfl, ?_⟩
      simp only [go_sem, eqs hxE9, reduceIte, Nat.reduceEqDiff, Nat.reduceAdd, Nat.reduceMul, Nat.reduceLT, Nat.reduceLeDiff, Int.reduceLT, Int.reduceLE, Int.reduceEq, reduceCtorEq, Int.reduceBEq, Int.reduceBNe, Int.reduceToNat, Nat.reduceSub, Nat.reduceDiv, Int.reduceNeg, Int.reduceAdd, Int.reduceSub, Int.reduceMul]
end Go.Proofs.Ytjbblfoefibeaaa

