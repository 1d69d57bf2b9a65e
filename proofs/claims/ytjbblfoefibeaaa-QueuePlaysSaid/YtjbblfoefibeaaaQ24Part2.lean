/- Own texts, joined: Q24WS, Q24WE, Q24WN, Q24WF, Q24QA, Q24QB, Q24QC, Q24QD, Q24QP. -/
import Derived.Test.YtjbblfoefibeaaaQ24Part1
/- Wire: the last row of the document's RightRequest, condition by condition. -/
namespace Go.Proofs.Ytjbblfoefibeaaa
open Go AM
set_option linter.unusedSimpArgs false
set_option linter.unusedVariables false
set_option maxRecDepth 100000
theorem tri (b z : Bool) : (b = true ∧ True) ∨ (b = false ∧ z = true) ∨ (b = false ∧ z = false) := by cases b <;> cases z <;> simp

set_option maxHeartbeats 4000000 in
theorem cut6 {S : Nat → V} {r : List AM.Obj} {e d : Nat} {id op ino oth n m : Int} {nm tx : List UInt8} {b6 B : Bool} {H : Heap}
    (hH : H = ⟨.cells .ex 25 0 [.int .i64 id, .int .i64 op, .int .i64 ino, .int .i64 oth, .int .i64 n, .int .i64 m, .str nm, .str tx] :: r, e, d⟩)
    (s1 : S 1 = .ptr 0 0) (sp : S 116 = .bool true) (si : S 120 = .bool (!b6))  (s6o : (op != 19) = !b6) (hB : B = ((!b6 || ino == 0))) :
    To FF E4 (.region [⟨some 121, .faddr 2 (.t 1), some (120, false)⟩, ⟨some 122, .load none (.t 121), some (120, false)⟩, ⟨some 123, .bin .eql (.t 122) (.k (.int .i64 0)), some (120, false)⟩, ⟨some 124, .pick (.t 120) (.k (.bool true)) (.t 123), some (116, true)⟩, ⟨some 125, .pick (.t 116) (.t 124) (.k (.bool false)), none⟩, ⟨some 2, .mv (.t 125), none⟩] false) S H (fun x S' h' => x = .norm ∧ S' 2 = .bool B ∧ h' = H) := by
  subst hH
  cases b6 <;> cases z : (ino == 0)
  all_goals
    (repeat' (first | refine To.op0 hxE4 (by simp only [go_sem, eqs hxE4, reduceIte, Nat.reduceEqDiff, Nat.reduceAdd, Nat.reduceMul, Nat.reduceLT, Nat.reduceLeDiff, Int.reduceBEq, Int.reduceBNe, Heap.gets, Heap.sets, Heap.get, bytesA_length, bytesA_one, bytesA_plains, List.take_of_length_le, List.drop_of_length_le, Nat.add_zero, V.one, Nat.reduceLeDiff, List.all_cons, List.all_nil, ne_eq, not_false_eq_true, Nat.zero_le, s1, si, s6o, sp, z, Bool.not_true, Bool.not_false]; rfl) ?_ | refine To.nop hxE4 ?_))
    refine ⟨rfl, ?_, rfl⟩
    rw [hB]
    simp only [go_sem, eqs hxE4, reduceIte, Nat.reduceEqDiff, Nat.reduceAdd, Nat.reduceMul, Nat.reduceLT, Nat.reduceLeDiff, Int.reduceBEq, Int.reduceBNe, z]

set_option maxHeartbeats 4000000 in
theorem cut5 {S : Nat → V} {r : List AM.Obj} {e d : Nat} {id op ino oth n m : Int} {nm tx : List UInt8} {b5 b6 B : Bool} {H : Heap}
    (hH : H = ⟨.cells .ex 25 0 [.int .i64 id, .int .i64 op, .int .i64 ino, .int .i64 oth, .int .i64 n, .int .i64 m, .str nm, .str tx] :: r, e, d⟩)
    (s1 : S 1 = .ptr 0 0) (sp : S 108 = .bool true) (si : S 110 = .bool b5)  (s6o : (op != 19) = !b6) (hB : B = ((b5 || m == 0) && ((!b6 || ino == 0)))) :
    To FF E4 (.region [⟨some 111, .faddr 5 (.t 1), some (110, false)⟩, ⟨some 112, .load none (.t 111), some (110, false)⟩, ⟨some 113, .bin .eql (.t 112) (.k (.int .i64 0)), some (110, false)⟩, ⟨some 114, .pick (.t 110) (.k (.bool true)) (.t 113), some (108, true)⟩, ⟨some 115, .pick (.t 108) (.t 114) (.k (.bool false)), none⟩, ⟨some 116, .mv (.t 115), none⟩, ⟨some 117, .faddr 1 (.t 1), some (116, true)⟩, ⟨some 118, .load none (.t 117), some (116, true)⟩, ⟨some 119, .bin .neq (.t 118) (.k (.int .i64 19)), some (116, true)⟩, ⟨some 120, .mv (.t 119), some (116, true)⟩, ⟨some 121, .faddr 2 (.t 1), some (120, false)⟩, ⟨some 122, .load none (.t 121), some (120, false)⟩, ⟨some 123, .bin .eql (.t 122) (.k (.int .i64 0)), some (120, false)⟩, ⟨some 124, .pick (.t 120) (.k (.bool true)) (.t 123), some (116, true)⟩, ⟨some 125, .pick (.t 116) (.t 124) (.k (.bool false)), none⟩, ⟨some 2, .mv (.t 125), none⟩] false) S H (fun x S' h' => x = .norm ∧ S' 2 = .bool B ∧ h' = H) := by
  subst hH
  rcases tri b5 (m == 0) with ⟨rfl, z⟩ | ⟨rfl, z⟩ | ⟨rfl, z⟩
  · (repeat' (first | refine To.op0 hxE4 (by simp only [go_sem, eqs hxE4, reduceIte, Nat.reduceEqDiff, Nat.reduceAdd, Nat.reduceMul, Nat.reduceLT, Nat.reduceLeDiff, Int.reduceBEq, Int.reduceBNe, Heap.gets, Heap.sets, Heap.get, bytesA_length, bytesA_one, bytesA_plains, List.take_of_length_le, List.drop_of_length_le, Nat.add_zero, V.one, Nat.reduceLeDiff, List.all_cons, List.all_nil, ne_eq, not_false_eq_true, Nat.zero_le, s1, si, s6o, sp]; rfl) ?_ | fail))
    exact cut6 (b6 := b6) rfl (by simp only [go_sem, eqs hxE4, reduceIte, Nat.reduceEqDiff, Nat.reduceAdd, Nat.reduceMul, Nat.reduceLT, Nat.reduceLeDiff, Int.reduceBEq, Int.reduceBNe, s1, si, s6o, sp]) (by simp only [go_sem, eqs hxE4, reduceIte, Nat.reduceEqDiff, Nat.reduceAdd, Nat.reduceMul, Nat.reduceLT, Nat.reduceLeDiff, Int.reduceBEq, Int.reduceBNe, s1, si, s6o, sp]) (by simp only [go_sem, eqs hxE4, reduceIte, Nat.reduceEqDiff, Nat.reduceAdd, Nat.reduceMul, Nat.reduceLT, Nat.reduceLeDiff, Int.reduceBEq, Int.reduceBNe, s1, si, s6o, sp]) s6o (by rw [hB]; simp only [Bool.true_or, Bool.true_and])
  · (repeat' (first | refine To.op0 hxE4 (by simp only [go_sem, eqs hxE4, reduceIte, Nat.reduceEqDiff, Nat.reduceAdd, Nat.reduceMul, Nat.reduceLT, Nat.reduceLeDiff, Int.reduceBEq, Int.reduceBNe, Heap.gets, Heap.sets, Heap.get, bytesA_length, bytesA_one, bytesA_plains, List.take_of_length_le, List.drop_of_length_le, Nat.add_zero, V.one, Nat.reduceLeDiff, List.all_cons, List.all_nil, ne_eq, not_false_eq_true, Nat.zero_le, s1, si, s6o, sp, z]; rfl) ?_ | fail))
    exact cut6 (b6 := b6) rfl (by simp only [go_sem, eqs hxE4, reduceIte, Nat.reduceEqDiff, Nat.reduceAdd, Nat.reduceMul, Nat.reduceLT, Nat.reduceLeDiff, Int.reduceBEq, Int.reduceBNe, s1, si, s6o, sp]) (by simp only [go_sem, eqs hxE4, reduceIte, Nat.reduceEqDiff, Nat.reduceAdd, Nat.reduceMul, Nat.reduceLT, Nat.reduceLeDiff, Int.reduceBEq, Int.reduceBNe, s1, si, s6o, sp]) (by simp only [go_sem, eqs hxE4, reduceIte, Nat.reduceEqDiff, Nat.reduceAdd, Nat.reduceMul, Nat.reduceLT, Nat.reduceLeDiff, Int.reduceBEq, Int.reduceBNe, s1, si, s6o, sp]) s6o (by rw [hB, z]; simp only [Bool.or_true, Bool.true_and])
  · (repeat' (first | refine To.op0 hxE4 (by simp only [go_sem, eqs hxE4, reduceIte, Nat.reduceEqDiff, Nat.reduceAdd, Nat.reduceMul, Nat.reduceLT, Nat.reduceLeDiff, Int.reduceBEq, Int.reduceBNe, Heap.gets, Heap.sets, Heap.get, bytesA_length, bytesA_one, bytesA_plains, List.take_of_length_le, List.drop_of_length_le, Nat.add_zero, V.one, Nat.reduceLeDiff, List.all_cons, List.all_nil, ne_eq, not_false_eq_true, Nat.zero_le, s1, si, s6o, sp, z]; rfl) ?_ | refine To.nop hxE4 ?_))
    refine ⟨rfl, ?_, rfl⟩
    rw [hB, z]
    simp only [go_sem, eqs hxE4, reduceIte, Nat.reduceEqDiff, Nat.reduceAdd, Nat.reduceMul, Nat.reduceLT, Nat.reduceLeDiff, Int.reduceBEq, Int.reduceBNe, Bool.false_and, Bool.or_self]

set_option maxHeartbeats 4000000 in
theorem cut4 {S : Nat → V} {r : List AM.Obj} {e d : Nat} {id op ino oth n m : Int} {nm tx : List UInt8} {b4 b5 b6 B : Bool} {H : Heap}
    (hH : H = ⟨.cells .ex 25 0 [.int .i64 id, .int .i64 op, .int .i64 ino, .int .i64 oth, .int .i64 n, .int .i64 m, .str nm, .str tx] :: r, e, d⟩)
    (s1 : S 1 = .ptr 0 0) (sp : S 100 = .bool true) (si : S 102 = .bool b4) (s7 : S 7 = .bool b5) (s6o : (op != 19) = !b6) (hB : B = ((b4 || n == 0) && ((b5 || m == 0) && ((!b6 || ino == 0))))) :
    To FF E4 (.region [⟨some 103, .faddr 4 (.t 1), some (102, false)⟩, ⟨some 104, .load none (.t 103), some (102, false)⟩, ⟨some 105, .bin .eql (.t 104) (.k (.int .i64 0)), some (102, false)⟩, ⟨some 106, .pick (.t 102) (.k (.bool true)) (.t 105), some (100, true)⟩, ⟨some 107, .pick (.t 100) (.t 106) (.k (.bool false)), none⟩, ⟨some 108, .mv (.t 107), none⟩, ⟨some 109, .mv (.t 7), some (108, true)⟩, ⟨some 110, .mv (.t 109), some (108, true)⟩, ⟨some 111, .faddr 5 (.t 1), some (110, false)⟩, ⟨some 112, .load none (.t 111), some (110, false)⟩, ⟨some 113, .bin .eql (.t 112) (.k (.int .i64 0)), some (110, false)⟩, ⟨some 114, .pick (.t 110) (.k (.bool true)) (.t 113), some (108, true)⟩, ⟨some 115, .pick (.t 108) (.t 114) (.k (.bool false)), none⟩, ⟨some 116, .mv (.t 115), none⟩, ⟨some 117, .faddr 1 (.t 1), some (116, true)⟩, ⟨some 118, .load none (.t 117), some (116, true)⟩, ⟨some 119, .bin .neq (.t 118) (.k (.int .i64 19)), some (116, true)⟩, ⟨some 120, .mv (.t 119), some (116, true)⟩, ⟨some 121, .faddr 2 (.t 1), some (120, false)⟩, ⟨some 122, .load none (.t 121), some (120, false)⟩, ⟨some 123, .bin .eql (.t 122) (.k (.int .i64 0)), some (120, false)⟩, ⟨some 124, .pick (.t 120) (.k (.bool true)) (.t 123), some (116, true)⟩, ⟨some 125, .pick (.t 116) (.t 124) (.k (.bool false)), none⟩, ⟨some 2, .mv (.t 125), none⟩] false) S H (fun x S' h' => x = .norm ∧ S' 2 = .bool B ∧ h' = H) := by
  subst hH
  rcases tri b4 (n == 0) with ⟨rfl, z⟩ | ⟨rfl, z⟩ | ⟨rfl, z⟩
  · (repeat' (first | refine To.op0 hxE4 (by simp only [go_sem, eqs hxE4, reduceIte, Nat.reduceEqDiff, Nat.reduceAdd, Nat.reduceMul, Nat.reduceLT, Nat.reduceLeDiff, Int.reduceBEq, Int.reduceBNe, Heap.gets, Heap.sets, Heap.get, bytesA_length, bytesA_one, bytesA_plains, List.take_of_length_le, List.drop_of_length_le, Nat.add_zero, V.one, Nat.reduceLeDiff, List.all_cons, List.all_nil, ne_eq, not_false_eq_true, Nat.zero_le, s1, si, s6o, sp, s7]; rfl) ?_ | fail))
    exact cut5 (b5 := b5) (b6 := b6) rfl (by simp only [go_sem, eqs hxE4, reduceIte, Nat.reduceEqDiff, Nat.reduceAdd, Nat.reduceMul, Nat.reduceLT, Nat.reduceLeDiff, Int.reduceBEq, Int.reduceBNe, s1, si, s6o, sp, s7]) (by simp only [go_sem, eqs hxE4, reduceIte, Nat.reduceEqDiff, Nat.reduceAdd, Nat.reduceMul, Nat.reduceLT, Nat.reduceLeDiff, Int.reduceBEq, Int.reduceBNe, s1, si, s6o, sp, s7]) (by simp only [go_sem, eqs hxE4, reduceIte, Nat.reduceEqDiff, Nat.reduceAdd, Nat.reduceMul, Nat.reduceLT, Nat.reduceLeDiff, Int.reduceBEq, Int.reduceBNe, s1, si, s6o, sp, s7]) s6o (by rw [hB]; simp only [Bool.true_or, Bool.true_and])
  · (repeat' (first | refine To.op0 hxE4 (by simp only [go_sem, eqs hxE4, reduceIte, Nat.reduceEqDiff, Nat.reduceAdd, Nat.reduceMul, Nat.reduceLT, Nat.reduceLeDiff, Int.reduceBEq, Int.reduceBNe, Heap.gets, Heap.sets, Heap.get, bytesA_length, bytesA_one, bytesA_plains, List.take_of_length_le, List.drop_of_length_le, Nat.add_zero, V.one, Nat.reduceLeDiff, List.all_cons, List.all_nil, ne_eq, not_false_eq_true, Nat.zero_le, s1, si, s6o, sp, s7, z]; rfl) ?_ | fail))
    exact cut5 (b5 := b5) (b6 := b6) rfl (by simp only [go_sem, eqs hxE4, reduceIte, Nat.reduceEqDiff, Nat.reduceAdd, Nat.reduceMul, Nat.reduceLT, Nat.reduceLeDiff, Int.reduceBEq, Int.reduceBNe, s1, si, s6o, sp, s7]) (by simp only [go_sem, eqs hxE4, reduceIte, Nat.reduceEqDiff, Nat.reduceAdd, Nat.reduceMul, Nat.reduceLT, Nat.reduceLeDiff, Int.reduceBEq, Int.reduceBNe, s1, si, s6o, sp, s7]) (by simp only [go_sem, eqs hxE4, reduceIte, Nat.reduceEqDiff, Nat.reduceAdd, Nat.reduceMul, Nat.reduceLT, Nat.reduceLeDiff, Int.reduceBEq, Int.reduceBNe, s1, si, s6o, sp, s7]) s6o (by rw [hB, z]; simp only [Bool.or_true, Bool.true_and])
  · (repeat' (first | refine To.op0 hxE4 (by simp only [go_sem, eqs hxE4, reduceIte, Nat.reduceEqDiff, Nat.reduceAdd, Nat.reduceMul, Nat.reduceLT, Nat.reduceLeDiff, Int.reduceBEq, Int.reduceBNe, Heap.gets, Heap.sets, Heap.get, bytesA_length, bytesA_one, bytesA_plains, List.take_of_length_le, List.drop_of_length_le, Nat.add_zero, V.one, Nat.reduceLeDiff, List.all_cons, List.all_nil, ne_eq, not_false_eq_true, Nat.zero_le, s1, si, s6o, sp, s7, z]; rfl) ?_ | refine To.nop hxE4 ?_))
    refine ⟨rfl, ?_, rfl⟩
    rw [hB, z]
    simp only [go_sem, eqs hxE4, reduceIte, Nat.reduceEqDiff, Nat.reduceAdd, Nat.reduceMul, Nat.reduceLT, Nat.reduceLeDiff, Int.reduceBEq, Int.reduceBNe, Bool.false_and, Bool.or_self]

set_option maxHeartbeats 4000000 in
theorem cut3 {S : Nat → V} {r : List AM.Obj} {e d : Nat} {id op ino oth n m : Int} {nm tx : List UInt8} {b3 b4 b5 b6 B : Bool} {H : Heap}
    (hH : H = ⟨.cells .ex 25 0 [.int .i64 id, .int .i64 op, .int .i64 ino, .int .i64 oth, .int .i64 n, .int .i64 m, .str nm, .str tx] :: r, e, d⟩)
    (s1 : S 1 = .ptr 0 0) (sp : S 92 = .bool true) (si : S 94 = .bool b3) (s6 : S 6 = .bool b4) (s7 : S 7 = .bool b5) (s6o : (op != 19) = !b6) (hB : B = ((b3 || oth == 0) && ((b4 || n == 0) && ((b5 || m == 0) && ((!b6 || ino == 0)))))) :
    To FF E4 (.region [⟨some 95, .faddr 3 (.t 1), some (94, false)⟩, ⟨some 96, .load none (.t 95), some (94, false)⟩, ⟨some 97, .bin .eql (.t 96) (.k (.int .i64 0)), some (94, false)⟩, ⟨some 98, .pick (.t 94) (.k (.bool true)) (.t 97), some (92, true)⟩, ⟨some 99, .pick (.t 92) (.t 98) (.k (.bool false)), none⟩, ⟨some 100, .mv (.t 99), none⟩, ⟨some 101, .mv (.t 6), some (100, true)⟩, ⟨some 102, .mv (.t 101), some (100, true)⟩, ⟨some 103, .faddr 4 (.t 1), some (102, false)⟩, ⟨some 104, .load none (.t 103), some (102, false)⟩, ⟨some 105, .bin .eql (.t 104) (.k (.int .i64 0)), some (102, false)⟩, ⟨some 106, .pick (.t 102) (.k (.bool true)) (.t 105), some (100, true)⟩, ⟨some 107, .pick (.t 100) (.t 106) (.k (.bool false)), none⟩, ⟨some 108, .mv (.t 107), none⟩, ⟨some 109, .mv (.t 7), some (108, true)⟩, ⟨some 110, .mv (.t 109), some (108, true)⟩, ⟨some 111, .faddr 5 (.t 1), some (110, false)⟩, ⟨some 112, .load none (.t 111), some (110, false)⟩, ⟨some 113, .bin .eql (.t 112) (.k (.int .i64 0)), some (110, false)⟩, ⟨some 114, .pick (.t 110) (.k (.bool true)) (.t 113), some (108, true)⟩, ⟨some 115, .pick (.t 108) (.t 114) (.k (.bool false)), none⟩, ⟨some 116, .mv (.t 115), none⟩, ⟨some 117, .faddr 1 (.t 1), some (116, true)⟩, ⟨some 118, .load none (.t 117), some (116, true)⟩, ⟨some 119, .bin .neq (.t 118) (.k (.int .i64 19)), some (116, true)⟩, ⟨some 120, .mv (.t 119), some (116, true)⟩, ⟨some 121, .faddr 2 (.t 1), some (120, false)⟩, ⟨some 122, .load none (.t 121), some (120, false)⟩, ⟨some 123, .bin .eql (.t 122) (.k (.int .i64 0)), some (120, false)⟩, ⟨some 124, .pick (.t 120) (.k (.bool true)) (.t 123), some (116, true)⟩, ⟨some 125, .pick (.t 116) (.t 124) (.k (.bool false)), none⟩, ⟨some 2, .mv (.t 125), none⟩] false) S H (fun x S' h' => x = .norm ∧ S' 2 = .bool B ∧ h' = H) := by
  subst hH
  rcases tri b3 (oth == 0) with ⟨rfl, z⟩ | ⟨rfl, z⟩ | ⟨rfl, z⟩
  · (repeat' (first | refine To.op0 hxE4 (by simp only [go_sem, eqs hxE4, reduceIte, Nat.reduceEqDiff, Nat.reduceAdd, Nat.reduceMul, Nat.reduceLT, Nat.reduceLeDiff, Int.reduceBEq, Int.reduceBNe, Heap.gets, Heap.sets, Heap.get, bytesA_length, bytesA_one, bytesA_plains, List.take_of_length_le, List.drop_of_length_le, Nat.add_zero, V.one, Nat.reduceLeDiff, List.all_cons, List.all_nil, ne_eq, not_false_eq_true, Nat.zero_le, s1, si, s6o, sp, s6, s7]; rfl) ?_ | fail))
    exact cut4 (b4 := b4) (b5 := b5) (b6 := b6) rfl (by simp only [go_sem, eqs hxE4, reduceIte, Nat.reduceEqDiff, Nat.reduceAdd, Nat.reduceMul, Nat.reduceLT, Nat.reduceLeDiff, Int.reduceBEq, Int.reduceBNe, s1, si, s6o, sp, s6, s7]) (by simp only [go_sem, eqs hxE4, reduceIte, Nat.reduceEqDiff, Nat.reduceAdd, Nat.reduceMul, Nat.reduceLT, Nat.reduceLeDiff, Int.reduceBEq, Int.reduceBNe, s1, si, s6o, sp, s6, s7]) (by simp only [go_sem, eqs hxE4, reduceIte, Nat.reduceEqDiff, Nat.reduceAdd, Nat.reduceMul, Nat.reduceLT, Nat.reduceLeDiff, Int.reduceBEq, Int.reduceBNe, s1, si, s6o, sp, s6, s7]) (by simp only [go_sem, eqs hxE4, reduceIte, Nat.reduceEqDiff, Nat.reduceAdd, Nat.reduceMul, Nat.reduceLT, Nat.reduceLeDiff, Int.reduceBEq, Int.reduceBNe, s1, si, s6o, sp, s6, s7]) s6o (by rw [hB]; simp only [Bool.true_or, Bool.true_and])
  · (repeat' (first | refine To.op0 hxE4 (by simp only [go_sem, eqs hxE4, reduceIte, Nat.reduceEqDiff, Nat.reduceAdd, Nat.reduceMul, Nat.reduceLT, Nat.reduceLeDiff, Int.reduceBEq, Int.reduceBNe, Heap.gets, Heap.sets, Heap.get, bytesA_length, bytesA_one, bytesA_plains, List.take_of_length_le, List.drop_of_length_le, Nat.add_zero, V.one, Nat.reduceLeDiff, List.all_cons, List.all_nil, ne_eq, not_false_eq_true, Nat.zero_le, s1, si, s6o, sp, s6, s7, z]; rfl) ?_ | fail))
    exact cut4 (b4 := b4) (b5 := b5) (b6 := b6) rfl (by simp only [go_sem, eqs hxE4, reduceIte, Nat.reduceEqDiff, Nat.reduceAdd, Nat.reduceMul, Nat.reduceLT, Nat.reduceLeDiff, Int.reduceBEq, Int.reduceBNe, s1, si, s6o, sp, s6, s7]) (by simp only [go_sem, eqs hxE4, reduceIte, Nat.reduceEqDiff, Nat.reduceAdd, Nat.reduceMul, Nat.reduceLT, Nat.reduceLeDiff, Int.reduceBEq, Int.reduceBNe, s1, si, s6o, sp, s6, s7]) (by simp only [go_sem, eqs hxE4, reduceIte, Nat.reduceEqDiff, Nat.reduceAdd, Nat.reduceMul, Nat.reduceLT, Nat.reduceLeDiff, Int.reduceBEq, Int.reduceBNe, s1, si, s6o, sp, s6, s7]) (by simp only [go_sem, eqs hxE4, reduceIte, Nat.reduceEqDiff, Nat.reduceAdd, Nat.reduceMul, Nat.reduceLT, Nat.reduceLeDiff, Int.reduceBEq, Int.reduceBNe, s1, si, s6o, sp, s6, s7]) s6o (by rw [hB, z]; simp only [Bool.or_true, Bool.true_and])
  · (repeat' (first | refine To.op0 hxE4 (by simp only [go_sem, eqs hxE4, reduceIte, Nat.reduceEqDiff, Nat.reduceAdd, Nat.reduceMul, Nat.reduceLT, Nat.reduceLeDiff, Int.reduceBEq, Int.reduceBNe, Heap.gets, Heap.sets, Heap.get, bytesA_length, bytesA_one, bytesA_plains, List.take_of_length_le, List.drop_of_length_le, Nat.add_zero, V.one, Nat.reduceLeDiff, List.all_cons, List.all_nil, ne_eq, not_false_eq_true, Nat.zero_le, s1, si, s6o, sp, s6, s7, z]; rfl) ?_ | refine To.nop hxE4 ?_))
    refine ⟨rfl, ?_, rfl⟩
    rw [hB, z]
    simp only [go_sem, eqs hxE4, reduceIte, Nat.reduceEqDiff, Nat.reduceAdd, Nat.reduceMul, Nat.reduceLT, Nat.reduceLeDiff, Int.reduceBEq, Int.reduceBNe, Bool.false_and, Bool.or_self]

set_option maxHeartbeats 4000000 in
theorem cut2 {S : Nat → V} {r : List AM.Obj} {e d : Nat} {id op ino oth n m : Int} {nm tx : List UInt8} {b2 b3 b4 b5 b6 B : Bool} {H : Heap}
    (hH : H = ⟨.cells .ex 25 0 [.int .i64 id, .int .i64 op, .int .i64 ino, .int .i64 oth, .int .i64 n, .int .i64 m, .str nm, .str tx] :: r, e, d⟩)
    (s1 : S 1 = .ptr 0 0) (sp : S 84 = .bool true) (si : S 86 = .bool b2) (s5 : S 5 = .bool b3) (s6 : S 6 = .bool b4) (s7 : S 7 = .bool b5) (s6o : (op != 19) = !b6) (hB : B = ((b2 || tx == []) && ((b3 || oth == 0) && ((b4 || n == 0) && ((b5 || m == 0) && ((!b6 || ino == 0))))))) :
    To FF E4 (.region [⟨some 87, .faddr 7 (.t 1), some (86, false)⟩, ⟨some 88, .load none (.t 87), some (86, false)⟩, ⟨some 89, .bin .eql (.t 88) (.k (.str [])), some (86, false)⟩, ⟨some 90, .pick (.t 86) (.k (.bool true)) (.t 89), some (84, true)⟩, ⟨some 91, .pick (.t 84) (.t 90) (.k (.bool false)), none⟩, ⟨some 92, .mv (.t 91), none⟩, ⟨some 93, .mv (.t 5), some (92, true)⟩, ⟨some 94, .mv (.t 93), some (92, true)⟩, ⟨some 95, .faddr 3 (.t 1), some (94, false)⟩, ⟨some 96, .load none (.t 95), some (94, false)⟩, ⟨some 97, .bin .eql (.t 96) (.k (.int .i64 0)), some (94, false)⟩, ⟨some 98, .pick (.t 94) (.k (.bool true)) (.t 97), some (92, true)⟩, ⟨some 99, .pick (.t 92) (.t 98) (.k (.bool false)), none⟩, ⟨some 100, .mv (.t 99), none⟩, ⟨some 101, .mv (.t 6), some (100, true)⟩, ⟨some 102, .mv (.t 101), some (100, true)⟩, ⟨some 103, .faddr 4 (.t 1), some (102, false)⟩, ⟨some 104, .load none (.t 103), some (102, false)⟩, ⟨some 105, .bin .eql (.t 104) (.k (.int .i64 0)), some (102, false)⟩, ⟨some 106, .pick (.t 102) (.k (.bool true)) (.t 105), some (100, true)⟩, ⟨some 107, .pick (.t 100) (.t 106) (.k (.bool false)), none⟩, ⟨some 108, .mv (.t 107), none⟩, ⟨some 109, .mv (.t 7), some (108, true)⟩, ⟨some 110, .mv (.t 109), some (108, true)⟩, ⟨some 111, .faddr 5 (.t 1), some (110, false)⟩, ⟨some 112, .load none (.t 111), some (110, false)⟩, ⟨some 113, .bin .eql (.t 112) (.k (.int .i64 0)), some (110, false)⟩, ⟨some 114, .pick (.t 110) (.k (.bool true)) (.t 113), some (108, true)⟩, ⟨some 115, .pick (.t 108) (.t 114) (.k (.bool false)), none⟩, ⟨some 116, .mv (.t 115), none⟩, ⟨some 117, .faddr 1 (.t 1), some (116, true)⟩, ⟨some 118, .load none (.t 117), some (116, true)⟩, ⟨some 119, .bin .neq (.t 118) (.k (.int .i64 19)), some (116, true)⟩, ⟨some 120, .mv (.t 119), some (116, true)⟩, ⟨some 121, .faddr 2 (.t 1), some (120, false)⟩, ⟨some 122, .load none (.t 121), some (120, false)⟩, ⟨some 123, .bin .eql (.t 122) (.k (.int .i64 0)), some (120, false)⟩, ⟨some 124, .pick (.t 120) (.k (.bool true)) (.t 123), some (116, true)⟩, ⟨some 125, .pick (.t 116) (.t 124) (.k (.bool false)), none⟩, ⟨some 2, .mv (.t 125), none⟩] false) S H (fun x S' h' => x = .norm ∧ S' 2 = .bool B ∧ h' = H) := by
  subst hH
  rcases tri b2 (tx == []) with ⟨rfl, z⟩ | ⟨rfl, z⟩ | ⟨rfl, z⟩
  · (repeat' (first | refine To.op0 hxE4 (by simp only [go_sem, eqs hxE4, reduceIte, Nat.reduceEqDiff, Nat.reduceAdd, Nat.reduceMul, Nat.reduceLT, Nat.reduceLeDiff, Int.reduceBEq, Int.reduceBNe, Heap.gets, Heap.sets, Heap.get, bytesA_length, bytesA_one, bytesA_plains, List.take_of_length_le, List.drop_of_length_le, Nat.add_zero, V.one, Nat.reduceLeDiff, List.all_cons, List.all_nil, ne_eq, not_false_eq_true, Nat.zero_le, s1, si, s6o, sp, s5, s6, s7]; rfl) ?_ | fail))
    exact cut3 (b3 := b3) (b4 := b4) (b5 := b5) (b6 := b6) rfl (by simp only [go_sem, eqs hxE4, reduceIte, Nat.reduceEqDiff, Nat.reduceAdd, Nat.reduceMul, Nat.reduceLT, Nat.reduceLeDiff, Int.reduceBEq, Int.reduceBNe, s1, si, s6o, sp, s5, s6, s7]) (by simp only [go_sem, eqs hxE4, reduceIte, Nat.reduceEqDiff, Nat.reduceAdd, Nat.reduceMul, Nat.reduceLT, Nat.reduceLeDiff, Int.reduceBEq, Int.reduceBNe, s1, si, s6o, sp, s5, s6, s7]) (by simp only [go_sem, eqs hxE4, reduceIte, Nat.reduceEqDiff, Nat.reduceAdd, Nat.reduceMul, Nat.reduceLT, Nat.reduceLeDiff, Int.reduceBEq, Int.reduceBNe, s1, si, s6o, sp, s5, s6, s7]) (by simp only [go_sem, eqs hxE4, reduceIte, Nat.reduceEqDiff, Nat.reduceAdd, Nat.reduceMul, Nat.reduceLT, Nat.reduceLeDiff, Int.reduceBEq, Int.reduceBNe, s1, si, s6o, sp, s5, s6, s7]) (by simp only [go_sem, eqs hxE4, reduceIte, Nat.reduceEqDiff, Nat.reduceAdd, Nat.reduceMul, Nat.reduceLT, Nat.reduceLeDiff, Int.reduceBEq, Int.reduceBNe, s1, si, s6o, sp, s5, s6, s7]) s6o (by rw [hB]; simp only [Bool.true_or, Bool.true_and])
  · (repeat' (first | refine To.op0 hxE4 (by simp only [go_sem, eqs hxE4, reduceIte, Nat.reduceEqDiff, Nat.reduceAdd, Nat.reduceMul, Nat.reduceLT, Nat.reduceLeDiff, Int.reduceBEq, Int.reduceBNe, Heap.gets, Heap.sets, Heap.get, bytesA_length, bytesA_one, bytesA_plains, List.take_of_length_le, List.drop_of_length_le, Nat.add_zero, V.one, Nat.reduceLeDiff, List.all_cons, List.all_nil, ne_eq, not_false_eq_true, Nat.zero_le, s1, si, s6o, sp, s5, s6, s7, z]; rfl) ?_ | fail))
    exact cut3 (b3 := b3) (b4 := b4) (b5 := b5) (b6 := b6) rfl (by simp only [go_sem, eqs hxE4, reduceIte, Nat.reduceEqDiff, Nat.reduceAdd, Nat.reduceMul, Nat.reduceLT, Nat.reduceLeDiff, Int.reduceBEq, Int.reduceBNe, s1, si, s6o, sp, s5, s6, s7]) (by simp only [go_sem, eqs hxE4, reduceIte, Nat.reduceEqDiff, Nat.reduceAdd, Nat.reduceMul, Nat.reduceLT, Nat.reduceLeDiff, Int.reduceBEq, Int.reduceBNe, s1, si, s6o, sp, s5, s6, s7]) (by simp only [go_sem, eqs hxE4, reduceIte, Nat.reduceEqDiff, Nat.reduceAdd, Nat.reduceMul, Nat.reduceLT, Nat.reduceLeDiff, Int.reduceBEq, Int.reduceBNe, s1, si, s6o, sp, s5, s6, s7]) (by simp only [go_sem, eqs hxE4, reduceIte, Nat.reduceEqDiff, Nat.reduceAdd, Nat.reduceMul, Nat.reduceLT, Nat.reduceLeDiff, Int.reduceBEq, Int.reduceBNe, s1, si, s6o, sp, s5, s6, s7]) (by simp only [go_sem, eqs hxE4, reduceIte, Nat.reduceEqDiff, Nat.reduceAdd, Nat.reduceMul, Nat.reduceLT, Nat.reduceLeDiff, Int.reduceBEq, Int.reduceBNe, s1, si, s6o, sp, s5, s6, s7]) s6o (by rw [hB, z]; simp only [Bool.or_true, Bool.true_and])
  · (repeat' (first | refine To.op0 hxE4 (by simp only [go_sem, eqs hxE4, reduceIte, Nat.reduceEqDiff, Nat.reduceAdd, Nat.reduceMul, Nat.reduceLT, Nat.reduceLeDiff, Int.reduceBEq, Int.reduceBNe, Heap.gets, Heap.sets, Heap.get, bytesA_length, bytesA_one, bytesA_plains, List.take_of_length_le, List.drop_of_length_le, Nat.add_zero, V.one, Nat.reduceLeDiff, List.all_cons, List.all_nil, ne_eq, not_false_eq_true, Nat.zero_le, s1, si, s6o, sp, s5, s6, s7, z]; rfl) ?_ | refine To.nop hxE4 ?_))
    refine ⟨rfl, ?_, rfl⟩
    rw [hB, z]
    simp only [go_sem, eqs hxE4, reduceIte, Nat.reduceEqDiff, Nat.reduceAdd, Nat.reduceMul, Nat.reduceLT, Nat.reduceLeDiff, Int.reduceBEq, Int.reduceBNe, Bool.false_and, Bool.or_self]

set_option maxHeartbeats 4000000 in
theorem cut1 {S : Nat → V} {r : List AM.Obj} {e d : Nat} {id op ino oth n m : Int} {nm tx : List UInt8} {b1 b2 b3 b4 b5 b6 B : Bool} {H : Heap}
    (hH : H = ⟨.cells .ex 25 0 [.int .i64 id, .int .i64 op, .int .i64 ino, .int .i64 oth, .int .i64 n, .int .i64 m, .str nm, .str tx] :: r, e, d⟩)
    (s1 : S 1 = .ptr 0 0) (si : S 79 = .bool b1) (s4 : S 4 = .bool b2) (s5 : S 5 = .bool b3) (s6 : S 6 = .bool b4) (s7 : S 7 = .bool b5) (s6o : (op != 19) = !b6) (hB : B = ((b1 || nm == []) && ((b2 || tx == []) && ((b3 || oth == 0) && ((b4 || n == 0) && ((b5 || m == 0) && ((!b6 || ino == 0)))))))) :
    To FF E4 (.region [⟨some 80, .faddr 6 (.t 1), some (79, false)⟩, ⟨some 81, .load none (.t 80), some (79, false)⟩, ⟨some 82, .bin .eql (.t 81) (.k (.str [])), some (79, false)⟩, ⟨some 83, .pick (.t 79) (.k (.bool true)) (.t 82), none⟩, ⟨some 84, .mv (.t 83), none⟩, ⟨some 85, .mv (.t 4), some (84, true)⟩, ⟨some 86, .mv (.t 85), some (84, true)⟩, ⟨some 87, .faddr 7 (.t 1), some (86, false)⟩, ⟨some 88, .load none (.t 87), some (86, false)⟩, ⟨some 89, .bin .eql (.t 88) (.k (.str [])), some (86, false)⟩, ⟨some 90, .pick (.t 86) (.k (.bool true)) (.t 89), some (84, true)⟩, ⟨some 91, .pick (.t 84) (.t 90) (.k (.bool false)), none⟩, ⟨some 92, .mv (.t 91), none⟩, ⟨some 93, .mv (.t 5), some (92, true)⟩, ⟨some 94, .mv (.t 93), some (92, true)⟩, ⟨some 95, .faddr 3 (.t 1), some (94, false)⟩, ⟨some 96, .load none (.t 95), some (94, false)⟩, ⟨some 97, .bin .eql (.t 96) (.k (.int .i64 0)), some (94, false)⟩, ⟨some 98, .pick (.t 94) (.k (.bool true)) (.t 97), some (92, true)⟩, ⟨some 99, .pick (.t 92) (.t 98) (.k (.bool false)), none⟩, ⟨some 100, .mv (.t 99), none⟩, ⟨some 101, .mv (.t 6), some (100, true)⟩, ⟨some 102, .mv (.t 101), some (100, true)⟩, ⟨some 103, .faddr 4 (.t 1), some (102, false)⟩, ⟨some 104, .load none (.t 103), some (102, false)⟩, ⟨some 105, .bin .eql (.t 104) (.k (.int .i64 0)), some (102, false)⟩, ⟨some 106, .pick (.t 102) (.k (.bool true)) (.t 105), some (100, true)⟩, ⟨some 107, .pick (.t 100) (.t 106) (.k (.bool false)), none⟩, ⟨some 108, .mv (.t 107), none⟩, ⟨some 109, .mv (.t 7), some (108, true)⟩, ⟨some 110, .mv (.t 109), some (108, true)⟩, ⟨some 111, .faddr 5 (.t 1), some (110, false)⟩, ⟨some 112, .load none (.t 111), some (110, false)⟩, ⟨some 113, .bin .eql (.t 112) (.k (.int .i64 0)), some (110, false)⟩, ⟨some 114, .pick (.t 110) (.k (.bool true)) (.t 113), some (108, true)⟩, ⟨some 115, .pick (.t 108) (.t 114) (.k (.bool false)), none⟩, ⟨some 116, .mv (.t 115), none⟩, ⟨some 117, .faddr 1 (.t 1), some (116, true)⟩, ⟨some 118, .load none (.t 117), some (116, true)⟩, ⟨some 119, .bin .neq (.t 118) (.k (.int .i64 19)), some (116, true)⟩, ⟨some 120, .mv (.t 119), some (116, true)⟩, ⟨some 121, .faddr 2 (.t 1), some (120, false)⟩, ⟨some 122, .load none (.t 121), some (120, false)⟩, ⟨some 123, .bin .eql (.t 122) (.k (.int .i64 0)), some (120, false)⟩, ⟨some 124, .pick (.t 120) (.k (.bool true)) (.t 123), some (116, true)⟩, ⟨some 125, .pick (.t 116) (.t 124) (.k (.bool false)), none⟩, ⟨some 2, .mv (.t 125), none⟩] false) S H (fun x S' h' => x = .norm ∧ S' 2 = .bool B ∧ h' = H) := by
  subst hH
  rcases tri b1 (nm == []) with ⟨rfl, z⟩ | ⟨rfl, z⟩ | ⟨rfl, z⟩
  · (repeat' (first | refine To.op0 hxE4 (by simp only [go_sem, eqs hxE4, reduceIte, Nat.reduceEqDiff, Nat.reduceAdd, Nat.reduceMul, Nat.reduceLT, Nat.reduceLeDiff, Int.reduceBEq, Int.reduceBNe, Heap.gets, Heap.sets, Heap.get, bytesA_length, bytesA_one, bytesA_plains, List.take_of_length_le, List.drop_of_length_le, Nat.add_zero, V.one, Nat.reduceLeDiff, List.all_cons, List.all_nil, ne_eq, not_false_eq_true, Nat.zero_le, s1, si, s6o, s4, s5, s6, s7]; rfl) ?_ | fail))
    exact cut2 (b2 := b2) (b3 := b3) (b4 := b4) (b5 := b5) (b6 := b6) rfl (by simp only [go_sem, eqs hxE4, reduceIte, Nat.reduceEqDiff, Nat.reduceAdd, Nat.reduceMul, Nat.reduceLT, Nat.reduceLeDiff, Int.reduceBEq, Int.reduceBNe, s1, si, s6o, s4, s5, s6, s7]) (by simp only [go_sem, eqs hxE4, reduceIte, Nat.reduceEqDiff, Nat.reduceAdd, Nat.reduceMul, Nat.reduceLT, Nat.reduceLeDiff, Int.reduceBEq, Int.reduceBNe, s1, si, s6o, s4, s5, s6, s7]) (by simp only [go_sem, eqs hxE4, reduceIte, Nat.reduceEqDiff, Nat.reduceAdd, Nat.reduceMul, Nat.reduceLT, Nat.reduceLeDiff, Int.reduceBEq, Int.reduceBNe, s1, si, s6o, s4, s5, s6, s7]) (by simp only [go_sem, eqs hxE4, reduceIte, Nat.reduceEqDiff, Nat.reduceAdd, Nat.reduceMul, Nat.reduceLT, Nat.reduceLeDiff, Int.reduceBEq, Int.reduceBNe, s1, si, s6o, s4, s5, s6, s7]) (by simp only [go_sem, eqs hxE4, reduceIte, Nat.reduceEqDiff, Nat.reduceAdd, Nat.reduceMul, Nat.reduceLT, Nat.reduceLeDiff, Int.reduceBEq, Int.reduceBNe, s1, si, s6o, s4, s5, s6, s7]) (by simp only [go_sem, eqs hxE4, reduceIte, Nat.reduceEqDiff, Nat.reduceAdd, Nat.reduceMul, Nat.reduceLT, Nat.reduceLeDiff, Int.reduceBEq, Int.reduceBNe, s1, si, s6o, s4, s5, s6, s7]) s6o (by rw [hB]; simp only [Bool.true_or, Bool.true_and])
  · (repeat' (first | refine To.op0 hxE4 (by simp only [go_sem, eqs hxE4, reduceIte, Nat.reduceEqDiff, Nat.reduceAdd, Nat.reduceMul, Nat.reduceLT, Nat.reduceLeDiff, Int.reduceBEq, Int.reduceBNe, Heap.gets, Heap.sets, Heap.get, bytesA_length, bytesA_one, bytesA_plains, List.take_of_length_le, List.drop_of_length_le, Nat.add_zero, V.one, Nat.reduceLeDiff, List.all_cons, List.all_nil, ne_eq, not_false_eq_true, Nat.zero_le, s1, si, s6o, s4, s5, s6, s7, z]; rfl) ?_ | fail))
    exact cut2 (b2 := b2) (b3 := b3) (b4 := b4) (b5 := b5) (b6 := b6) rfl (by simp only [go_sem, eqs hxE4, reduceIte, Nat.reduceEqDiff, Nat.reduceAdd, Nat.reduceMul, Nat.reduceLT, Nat.reduceLeDiff, Int.reduceBEq, Int.reduceBNe, s1, si, s6o, s4, s5, s6, s7]) (by simp only [go_sem, eqs hxE4, reduceIte, Nat.reduceEqDiff, Nat.reduceAdd, Nat.reduceMul, Nat.reduceLT, Nat.reduceLeDiff, Int.reduceBEq, Int.reduceBNe, s1, si, s6o, s4, s5, s6, s7]) (by simp only [go_sem, eqs hxE4, reduceIte, Nat.reduceEqDiff, Nat.reduceAdd, Nat.reduceMul, Nat.reduceLT, Nat.reduceLeDiff, Int.reduceBEq, Int.reduceBNe, s1, si, s6o, s4, s5, s6, s7]) (by simp only [go_sem, eqs hxE4, reduceIte, Nat.reduceEqDiff, Nat.reduceAdd, Nat.reduceMul, Nat.reduceLT, Nat.reduceLeDiff, Int.reduceBEq, Int.reduceBNe, s1, si, s6o, s4, s5, s6, s7]) (by simp only [go_sem, eqs hxE4, reduceIte, Nat.reduceEqDiff, Nat.reduceAdd, Nat.reduceMul, Nat.reduceLT, Nat.reduceLeDiff, Int.reduceBEq, Int.reduceBNe, s1, si, s6o, s4, s5, s6, s7]) (by simp only [go_sem, eqs hxE4, reduceIte, Nat.reduceEqDiff, Nat.reduceAdd, Nat.reduceMul, Nat.reduceLT, Nat.reduceLeDiff, Int.reduceBEq, Int.reduceBNe, s1, si, s6o, s4, s5, s6, s7]) s6o (by rw [hB, z]; simp only [Bool.or_true, Bool.true_and])
  · (repeat' (first | refine To.op0 hxE4 (by simp only [go_sem, eqs hxE4, reduceIte, Nat.reduceEqDiff, Nat.reduceAdd, Nat.reduceMul, Nat.reduceLT, Nat.reduceLeDiff, Int.reduceBEq, Int.reduceBNe, Heap.gets, Heap.sets, Heap.get, bytesA_length, bytesA_one, bytesA_plains, List.take_of_length_le, List.drop_of_length_le, Nat.add_zero, V.one, Nat.reduceLeDiff, List.all_cons, List.all_nil, ne_eq, not_false_eq_true, Nat.zero_le, s1, si, s6o, s4, s5, s6, s7, z]; rfl) ?_ | refine To.nop hxE4 ?_))
    refine ⟨rfl, ?_, rfl⟩
    rw [hB, z]
    simp only [go_sem, eqs hxE4, reduceIte, Nat.reduceEqDiff, Nat.reduceAdd, Nat.reduceMul, Nat.reduceLT, Nat.reduceLeDiff, Int.reduceBEq, Int.reduceBNe, Bool.false_and, Bool.or_self]
end Go.Proofs.Ytjbblfoefibeaaa

/- Wire: what requests the document says are right. -/
namespace Go.Proofs.Ytjbblfoefibeaaa
open Go AM
set_option linter.unusedSimpArgs false
set_option linter.unusedVariables false
set_option maxRecDepth 100000

def orB (a b : Bool) : Bool := a || b
def rightD (id op ino oth n m : Int) (nm tx : List UInt8) : Bool :=
  !decide (op < 1) && (!decide (19 < op) && (numB id && (numB ino && (numB oth && (numB n && (numB m && (!decide (512 < nm.length) && (!decide (512 < tx.length) &&
    ((opsName.contains op || nm == []) && ((opsText.contains op || tx == []) && ((opsOther.contains op || oth == 0) && ((opsN.contains op || n == 0) && ((opsM.contains op || m == 0) && (!(op == 19) || ino == 0))))))))))))))

theorem keepS_eq (l : List Int) (op : Int) (s : List UInt8) : (keepS l op s == s) = (l.contains op || s == []) := by
  unfold keepS
  cases l.contains op
  · cases s <;> rfl
  · simp
theorem keepI_eq (l : List Int) (op n : Int) : (keepI l op n == n) = (l.contains op || n == 0) := by
  unfold keepI
  cases l.contains op
  · simp only [Bool.false_eq_true, if_false, Bool.false_or]
    rw [Bool.eq_iff_iff, beq_iff_eq, beq_iff_eq]
    exact ⟨Eq.symm, Eq.symm⟩
  · simp
theorem rightD_eq (id op ino oth n m : Int) (nm tx : List UInt8) : rightD id op ino oth n m nm tx = rightR id op ino oth n m nm tx := by
  have h1 : ((if op = 19 then 0 else ino) == ino) = (!(op == 19) || ino == 0) := by
    by_cases h : op = 19
    · subst h
      simp only [if_true, beq_self_eq_true, Bool.not_true, Bool.false_or]
      rw [Bool.eq_iff_iff, beq_iff_eq, beq_iff_eq]
      exact ⟨Eq.symm, Eq.symm⟩
    · simp [h]
  have h2 : isOp op = (!decide (op < 1) && !decide (19 < op)) := by
    unfold isOp
    rw [Bool.eq_iff_iff]; simp
  have h3 : decide (nm.length ≤ 512) = !decide (512 < nm.length) := by rw [Bool.eq_iff_iff]; simp
  have h4 : decide (tx.length ≤ 512) = !decide (512 < tx.length) := by rw [Bool.eq_iff_iff]; simp
  unfold rightD rightR eqR
  rw [h1, h2, h3, h4, keepI_eq, keepI_eq, keepI_eq, keepS_eq, keepS_eq]
  simp only [List.all_cons, List.all_nil, Bool.and_true]
  generalize numB id = a1
  generalize numB ino = a2
  generalize numB oth = a3
  generalize numB n = a4
  generalize numB m = a5
  generalize decide (512 < nm.length) = a6
  generalize decide (512 < tx.length) = a7
  generalize (opsName.contains op || nm == []) = b1
  generalize (opsText.contains op || tx == []) = b2
  generalize (opsOther.contains op || oth == 0) = b3
  generalize (opsN.contains op || n == 0) = b4
  generalize (opsM.contains op || m == 0) = b5
  generalize (!(op == 19) || ino == 0) = b6
  generalize decide (op < 1) = c1
  generalize decide (19 < op) = c2
  rw [Bool.eq_iff_iff]
  simp only [Bool.and_eq_true, Bool.not_eq_true']
  constructor
  · rintro ⟨h1, h2, h3, h4, h5, h6, h7, h8, h9, h10, h11, h12, h13, h14, h15⟩
    exact ⟨⟨h1, h2⟩, ⟨h15, h12, h13, h14, h10, h11⟩, ⟨h3, h4, h5, h6, h7⟩, h8, h9⟩
  · rintro ⟨⟨h1, h2⟩, ⟨h15, h12, h13, h14, h10, h11⟩, ⟨h3, h4, h5, h6, h7⟩, h8, h9⟩
    exact ⟨h1, h2, h3, h4, h5, h6, h7, h8, h9, h10, h11, h12, h13, h14, h15⟩

theorem toImp {F : Nat → Option AF} {ext : ExtF} {c : AC} {S : Nat → V} {h : Heap} {Q Q2 : Ex → (Nat → V) → Heap → Prop} (h1 : To F ext c S h Q) (h2 : ∀ x S2 h2, Q x S2 h2 → Q2 x S2 h2) : To F ext c S h Q2 := by
  obtain ⟨x, S2, h3, e, q⟩ := h1
  exact ⟨x, S2, h3, e, h2 _ _ _ q⟩
def lit (l : List Int) : List V := l.map fun n => .int .i64 n

set_option maxHeartbeats 16000000 in
theorem okRRight : SpOk FF E4 12 tRight := by
  intro args v h hpl
  unfold tRight at h
  split at h
  · rename_i id op ino oth n m nm tx
    cases h
    refine ⟨rfl, _, (?_ : Den FF E4 12 [.agg [.int .i64 id, .int .i64 op, .int .i64 ino, .int .i64 oth, .int .i64 n, .int .i64 m, .str nm, .str tx]] H0 = some (.val (.bool (rightR id op ino oth n m nm tx)), none))⟩
    rw [← rightD_eq]
    refine To.den hxE4 (f := 12) (a := af12) rfl (E4_none rfl) (Nat.le_of_ble_eq_true rfl) ?_
    have g1 : decide ((512 : Int) < (nm.length : Int)) = decide (512 < nm.length) := decide_eq_decide.2 (by omega)
    have g2 : decide ((512 : Int) < (tx.length : Int)) = decide (512 < tx.length) := decide_eq_decide.2 (by omega)
    have q1 : ∀ X e d, Den FF E4 49 [.int .i64 op, .slice 1 0 8 1] ⟨[X, .cells .ex 3 0 [.int .i64 1, .int .i64 6, .int .i64 7, .int .i64 8, .int .i64 10, .int .i64 11, .int .i64 12, .int .i64 13]], e, d⟩ = some (.val (.bool (opsName.contains op)), none) := fun X e d => among_eq opsName rfl rfl rfl (by decide)
    have q2 : ∀ X e d, Den FF E4 49 [.int .i64 op, .slice 2 0 3 1] ⟨[X, .cells .ex 3 0 [.int .i64 1, .int .i64 6, .int .i64 7, .int .i64 8, .int .i64 10, .int .i64 11, .int .i64 12, .int .i64 13], .cells .ex 3 0 [.int .i64 8, .int .i64 13, .int .i64 15]], e, d⟩ = some (.val (.bool (opsText.contains op)), none) := fun X e d => among_eq opsText rfl rfl rfl (by decide)
    have q3 : ∀ X e d, Den FF E4 49 [.int .i64 op, .slice 3 0 2 1] ⟨[X, .cells .ex 3 0 [.int .i64 1, .int .i64 6, .int .i64 7, .int .i64 8, .int .i64 10, .int .i64 11, .int .i64 12, .int .i64 13], .cells .ex 3 0 [.int .i64 8, .int .i64 13, .int .i64 15], .cells .ex 3 0 [.int .i64 10, .int .i64 13]], e, d⟩ = some (.val (.bool (opsOther.contains op)), none) := fun X e d => among_eq opsOther rfl rfl rfl (by decide)
    have q4 : ∀ X e d, Den FF E4 49 [.int .i64 op, .slice 4 0 7 1] ⟨[X, .cells .ex 3 0 [.int .i64 1, .int .i64 6, .int .i64 7, .int .i64 8, .int .i64 10, .int .i64 11, .int .i64 12, .int .i64 13], .cells .ex 3 0 [.int .i64 8, .int .i64 13, .int .i64 15], .cells .ex 3 0 [.int .i64 10, .int .i64 13], .cells .ex 3 0 [.int .i64 3, .int .i64 4, .int .i64 5, .int .i64 6, .int .i64 7, .int .i64 14, .int .i64 15]], e, d⟩ = some (.val (.bool (opsN.contains op)), none) := fun X e d => among_eq opsN rfl rfl rfl (by decide)
    have q5 : ∀ X e d, Den FF E4 49 [.int .i64 op, .slice 5 0 4 1] ⟨[X, .cells .ex 3 0 [.int .i64 1, .int .i64 6, .int .i64 7, .int .i64 8, .int .i64 10, .int .i64 11, .int .i64 12, .int .i64 13], .cells .ex 3 0 [.int .i64 8, .int .i64 13, .int .i64 15], .cells .ex 3 0 [.int .i64 10, .int .i64 13], .cells .ex 3 0 [.int .i64 3, .int .i64 4, .int .i64 5, .int .i64 6, .int .i64 7, .int .i64 14, .int .i64 15], .cells .ex 3 0 [.int .i64 6, .int .i64 7, .int .i64 8, .int .i64 14]], e, d⟩ = some (.val (.bool (opsM.contains op)), none) := fun X e d => among_eq opsM rfl rfl rfl (by decide)
    cases c0 : decide (op < 1)
    rotate_left
    · (repeat' (first | refine To.seq hxE4 ?_ | refine To.op0 hxE4 (by simp only [go_sem, eqs hxE4, reduceIte, Nat.reduceEqDiff, Nat.reduceAdd, Nat.reduceMul, Nat.reduceLT, Nat.reduceLeDiff, Int.reduceBEq, Int.reduceBNe, Heap.gets, Heap.sets, Heap.get, bytesA_length, bytesA_one, bytesA_plains, List.take_of_length_le, List.drop_of_length_le, Nat.add_zero, V.one, Nat.reduceLeDiff, List.all_cons, List.all_nil, ne_eq, not_false_eq_true, Nat.zero_le, eNumD_4, g1, g2, c0]; rfl) ?_ | refine To.op1 hxE4 (by simp only [go_sem, eqs hxE4, reduceIte, Nat.reduceEqDiff, Nat.reduceAdd, Nat.reduceMul, Nat.reduceLT, Nat.reduceLeDiff, Int.reduceBEq, Int.reduceBNe, Heap.gets, Heap.sets, Heap.get, bytesA_length, bytesA_one, bytesA_plains, List.take_of_length_le, List.drop_of_length_le, Nat.add_zero, V.one, Nat.reduceLeDiff, List.all_cons, List.all_nil, ne_eq, not_false_eq_true, Nat.zero_le, eNumD_4, g1, g2, c0]; rfl) ?_ | refine To.nop hxE4 ?_ | (refine To.condT hxE4 ?_ ?_; focus (simp only [go_sem, eqs hxE4, reduceIte, Nat.reduceEqDiff, Nat.reduceAdd, Nat.reduceMul, Nat.reduceLT, Nat.reduceLeDiff, Int.reduceBEq, Int.reduceBNe, Heap.gets, Heap.sets, Heap.get, bytesA_length, bytesA_one, bytesA_plains, List.take_of_length_le, List.drop_of_length_le, Nat.add_zero, V.one, Nat.reduceLeDiff, List.all_cons, List.all_nil, ne_eq, not_false_eq_true, Nat.zero_le, eNumD_4, g1, g2, c0]; done)) | refine To.ret hxE4 ?_))
      simp only [andThen, outOf, go_sem, eqs hxE4, reduceIte, Nat.reduceEqDiff, Nat.reduceAdd, Nat.reduceMul, Nat.reduceLT, Nat.reduceLeDiff, Int.reduceBEq, Int.reduceBNe, Heap.gets, Heap.sets, Heap.get, bytesA_length, bytesA_one, bytesA_plains, List.take_of_length_le, List.drop_of_length_le, Nat.add_zero, V.one, Nat.reduceLeDiff, List.all_cons, List.all_nil, ne_eq, not_false_eq_true, Nat.zero_le, af12, rightD, eNumD_4, g1, g2, c0, Bool.false_and, Bool.true_and, Bool.and_false]
    cases c1 : decide (19 < op)
    rotate_left
    · (repeat' (first | refine To.seq hxE4 ?_ | refine To.op0 hxE4 (by simp only [go_sem, eqs hxE4, reduceIte, Nat.reduceEqDiff, Nat.reduceAdd, Nat.reduceMul, Nat.reduceLT, Nat.reduceLeDiff, Int.reduceBEq, Int.reduceBNe, Heap.gets, Heap.sets, Heap.get, bytesA_length, bytesA_one, bytesA_plains, List.take_of_length_le, List.drop_of_length_le, Nat.add_zero, V.one, Nat.reduceLeDiff, List.all_cons, List.all_nil, ne_eq, not_false_eq_true, Nat.zero_le, eNumD_4, g1, g2, c0, c1]; rfl) ?_ | refine To.op1 hxE4 (by simp only [go_sem, eqs hxE4, reduceIte, Nat.reduceEqDiff, Nat.reduceAdd, Nat.reduceMul, Nat.reduceLT, Nat.reduceLeDiff, Int.reduceBEq, Int.reduceBNe, Heap.gets, Heap.sets, Heap.get, bytesA_length, bytesA_one, bytesA_plains, List.take_of_length_le, List.drop_of_length_le, Nat.add_zero, V.one, Nat.reduceLeDiff, List.all_cons, List.all_nil, ne_eq, not_false_eq_true, Nat.zero_le, eNumD_4, g1, g2, c0, c1]; rfl) ?_ | refine To.nop hxE4 ?_ | (refine To.condT hxE4 ?_ ?_; focus (simp only [go_sem, eqs hxE4, reduceIte, Nat.reduceEqDiff, Nat.reduceAdd, Nat.reduceMul, Nat.reduceLT, Nat.reduceLeDiff, Int.reduceBEq, Int.reduceBNe, Heap.gets, Heap.sets, Heap.get, bytesA_length, bytesA_one, bytesA_plains, List.take_of_length_le, List.drop_of_length_le, Nat.add_zero, V.one, Nat.reduceLeDiff, List.all_cons, List.all_nil, ne_eq, not_false_eq_true, Nat.zero_le, eNumD_4, g1, g2, c0, c1]; done)) | refine To.ret hxE4 ?_))
      simp only [andThen, outOf, go_sem, eqs hxE4, reduceIte, Nat.reduceEqDiff, Nat.reduceAdd, Nat.reduceMul, Nat.reduceLT, Nat.reduceLeDiff, Int.reduceBEq, Int.reduceBNe, Heap.gets, Heap.sets, Heap.get, bytesA_length, bytesA_one, bytesA_plains, List.take_of_length_le, List.drop_of_length_le, Nat.add_zero, V.one, Nat.reduceLeDiff, List.all_cons, List.all_nil, ne_eq, not_false_eq_true, Nat.zero_le, af12, rightD, eNumD_4, g1, g2, c0, c1, Bool.false_and, Bool.true_and, Bool.and_false]
    cases c2 : numB id
    · (repeat' (first | refine To.seq hxE4 ?_ | refine To.op0 hxE4 (by simp only [go_sem, eqs hxE4, reduceIte, Nat.reduceEqDiff, Nat.reduceAdd, Nat.reduceMul, Nat.reduceLT, Nat.reduceLeDiff, Int.reduceBEq, Int.reduceBNe, Heap.gets, Heap.sets, Heap.get, bytesA_length, bytesA_one, bytesA_plains, List.take_of_length_le, List.drop_of_length_le, Nat.add_zero, V.one, Nat.reduceLeDiff, List.all_cons, List.all_nil, ne_eq, not_false_eq_true, Nat.zero_le, eNumD_4, g1, g2, c0, c1, c2]; rfl) ?_ | refine To.op1 hxE4 (by simp only [go_sem, eqs hxE4, reduceIte, Nat.reduceEqDiff, Nat.reduceAdd, Nat.reduceMul, Nat.reduceLT, Nat.reduceLeDiff, Int.reduceBEq, Int.reduceBNe, Heap.gets, Heap.sets, Heap.get, bytesA_length, bytesA_one, bytesA_plains, List.take_of_length_le, List.drop_of_length_le, Nat.add_zero, V.one, Nat.reduceLeDiff, List.all_cons, List.all_nil, ne_eq, not_false_eq_true, Nat.zero_le, eNumD_4, g1, g2, c0, c1, c2]; rfl) ?_ | refine To.nop hxE4 ?_ | (refine To.condT hxE4 ?_ ?_; focus (simp only [go_sem, eqs hxE4, reduceIte, Nat.reduceEqDiff, Nat.reduceAdd, Nat.reduceMul, Nat.reduceLT, Nat.reduceLeDiff, Int.reduceBEq, Int.reduceBNe, Heap.gets, Heap.sets, Heap.get, bytesA_length, bytesA_one, bytesA_plains, List.take_of_length_le, List.drop_of_length_le, Nat.add_zero, V.one, Nat.reduceLeDiff, List.all_cons, List.all_nil, ne_eq, not_false_eq_true, Nat.zero_le, eNumD_4, g1, g2, c0, c1, c2]; done)) | refine To.ret hxE4 ?_))
      simp only [andThen, outOf, go_sem, eqs hxE4, reduceIte, Nat.reduceEqDiff, Nat.reduceAdd, Nat.reduceMul, Nat.reduceLT, Nat.reduceLeDiff, Int.reduceBEq, Int.reduceBNe, Heap.gets, Heap.sets, Heap.get, bytesA_length, bytesA_one, bytesA_plains, List.take_of_length_le, List.drop_of_length_le, Nat.add_zero, V.one, Nat.reduceLeDiff, List.all_cons, List.all_nil, ne_eq, not_false_eq_true, Nat.zero_le, af12, rightD, eNumD_4, g1, g2, c0, c1, c2, Bool.false_and, Bool.true_and, Bool.and_false]
    cases c3 : numB ino
    · (repeat' (first | refine To.seq hxE4 ?_ | refine To.op0 hxE4 (by simp only [go_sem, eqs hxE4, reduceIte, Nat.reduceEqDiff, Nat.reduceAdd, Nat.reduceMul, Nat.reduceLT, Nat.reduceLeDiff, Int.reduceBEq, Int.reduceBNe, Heap.gets, Heap.sets, Heap.get, bytesA_length, bytesA_one, bytesA_plains, List.take_of_length_le, List.drop_of_length_le, Nat.add_zero, V.one, Nat.reduceLeDiff, List.all_cons, List.all_nil, ne_eq, not_false_eq_true, Nat.zero_le, eNumD_4, g1, g2, c0, c1, c2, c3]; rfl) ?_ | refine To.op1 hxE4 (by simp only [go_sem, eqs hxE4, reduceIte, Nat.reduceEqDiff, Nat.reduceAdd, Nat.reduceMul, Nat.reduceLT, Nat.reduceLeDiff, Int.reduceBEq, Int.reduceBNe, Heap.gets, Heap.sets, Heap.get, bytesA_length, bytesA_one, bytesA_plains, List.take_of_length_le, List.drop_of_length_le, Nat.add_zero, V.one, Nat.reduceLeDiff, List.all_cons, List.all_nil, ne_eq, not_false_eq_true, Nat.zero_le, eNumD_4, g1, g2, c0, c1, c2, c3]; rfl) ?_ | refine To.nop hxE4 ?_ | (refine To.condT hxE4 ?_ ?_; focus (simp only [go_sem, eqs hxE4, reduceIte, Nat.reduceEqDiff, Nat.reduceAdd, Nat.reduceMul, Nat.reduceLT, Nat.reduceLeDiff, Int.reduceBEq, Int.reduceBNe, Heap.gets, Heap.sets, Heap.get, bytesA_length, bytesA_one, bytesA_plains, List.take_of_length_le, List.drop_of_length_le, Nat.add_zero, V.one, Nat.reduceLeDiff, List.all_cons, List.all_nil, ne_eq, not_false_eq_true, Nat.zero_le, eNumD_4, g1, g2, c0, c1, c2, c3]; done)) | refine To.ret hxE4 ?_))
      simp only [andThen, outOf, go_sem, eqs hxE4, reduceIte, Nat.reduceEqDiff, Nat.reduceAdd, Nat.reduceMul, Nat.reduceLT, Nat.reduceLeDiff, Int.reduceBEq, Int.reduceBNe, Heap.gets, Heap.sets, Heap.get, bytesA_length, bytesA_one, bytesA_plains, List.take_of_length_le, List.drop_of_length_le, Nat.add_zero, V.one, Nat.reduceLeDiff, List.all_cons, List.all_nil, ne_eq, not_false_eq_true, Nat.zero_le, af12, rightD, eNumD_4, g1, g2, c0, c1, c2, c3, Bool.false_and, Bool.true_and, Bool.and_false]
    cases c4 : numB oth
    · (repeat' (first | refine To.seq hxE4 ?_ | refine To.op0 hxE4 (by simp only [go_sem, eqs hxE4, reduceIte, Nat.reduceEqDiff, Nat.reduceAdd, Nat.reduceMul, Nat.reduceLT, Nat.reduceLeDiff, Int.reduceBEq, Int.reduceBNe, Heap.gets, Heap.sets, Heap.get, bytesA_length, bytesA_one, bytesA_plains, List.take_of_length_le, List.drop_of_length_le, Nat.add_zero, V.one, Nat.reduceLeDiff, List.all_cons, List.all_nil, ne_eq, not_false_eq_true, Nat.zero_le, eNumD_4, g1, g2, c0, c1, c2, c3, c4]; rfl) ?_ | refine To.op1 hxE4 (by simp only [go_sem, eqs hxE4, reduceIte, Nat.reduceEqDiff, Nat.reduceAdd, Nat.reduceMul, Nat.reduceLT, Nat.reduceLeDiff, Int.reduceBEq, Int.reduceBNe, Heap.gets, Heap.sets, Heap.get, bytesA_length, bytesA_one, bytesA_plains, List.take_of_length_le, List.drop_of_length_le, Nat.add_zero, V.one, Nat.reduceLeDiff, List.all_cons, List.all_nil, ne_eq, not_false_eq_true, Nat.zero_le, eNumD_4, g1, g2, c0, c1, c2, c3, c4]; rfl) ?_ | refine To.nop hxE4 ?_ | (refine To.condT hxE4 ?_ ?_; focus (simp only [go_sem, eqs hxE4, reduceIte, Nat.reduceEqDiff, Nat.reduceAdd, Nat.reduceMul, Nat.reduceLT, Nat.reduceLeDiff, Int.reduceBEq, Int.reduceBNe, Heap.gets, Heap.sets, Heap.get, bytesA_length, bytesA_one, bytesA_plains, List.take_of_length_le, List.drop_of_length_le, Nat.add_zero, V.one, Nat.reduceLeDiff, List.all_cons, List.all_nil, ne_eq, not_false_eq_true, Nat.zero_le, eNumD_4, g1, g2, c0, c1, c2, c3, c4]; done)) | refine To.ret hxE4 ?_))
      simp only [andThen, outOf, go_sem, eqs hxE4, reduceIte, Nat.reduceEqDiff, Nat.reduceAdd, Nat.reduceMul, Nat.reduceLT, Nat.reduceLeDiff, Int.reduceBEq, Int.reduceBNe, Heap.gets, Heap.sets, Heap.get, bytesA_length, bytesA_one, bytesA_plains, List.take_of_length_le, List.drop_of_length_le, Nat.add_zero, V.one, Nat.reduceLeDiff, List.all_cons, List.all_nil, ne_eq, not_false_eq_true, Nat.zero_le, af12, rightD, eNumD_4, g1, g2, c0, c1, c2, c3, c4, Bool.false_and, Bool.true_and, Bool.and_false]
    cases c5 : numB n
    · (repeat' (first | refine To.seq hxE4 ?_ | refine To.op0 hxE4 (by simp only [go_sem, eqs hxE4, reduceIte, Nat.reduceEqDiff, Nat.reduceAdd, Nat.reduceMul, Nat.reduceLT, Nat.reduceLeDiff, Int.reduceBEq, Int.reduceBNe, Heap.gets, Heap.sets, Heap.get, bytesA_length, bytesA_one, bytesA_plains, List.take_of_length_le, List.drop_of_length_le, Nat.add_zero, V.one, Nat.reduceLeDiff, List.all_cons, List.all_nil, ne_eq, not_false_eq_true, Nat.zero_le, eNumD_4, g1, g2, c0, c1, c2, c3, c4, c5]; rfl) ?_ | refine To.op1 hxE4 (by simp only [go_sem, eqs hxE4, reduceIte, Nat.reduceEqDiff, Nat.reduceAdd, Nat.reduceMul, Nat.reduceLT, Nat.reduceLeDiff, Int.reduceBEq, Int.reduceBNe, Heap.gets, Heap.sets, Heap.get, bytesA_length, bytesA_one, bytesA_plains, List.take_of_length_le, List.drop_of_length_le, Nat.add_zero, V.one, Nat.reduceLeDiff, List.all_cons, List.all_nil, ne_eq, not_false_eq_true, Nat.zero_le, eNumD_4, g1, g2, c0, c1, c2, c3, c4, c5]; rfl) ?_ | refine To.nop hxE4 ?_ | (refine To.condT hxE4 ?_ ?_; focus (simp only [go_sem, eqs hxE4, reduceIte, Nat.reduceEqDiff, Nat.reduceAdd, Nat.reduceMul, Nat.reduceLT, Nat.reduceLeDiff, Int.reduceBEq, Int.reduceBNe, Heap.gets, Heap.sets, Heap.get, bytesA_length, bytesA_one, bytesA_plains, List.take_of_length_le, List.drop_of_length_le, Nat.add_zero, V.one, Nat.reduceLeDiff, List.all_cons, List.all_nil, ne_eq, not_false_eq_true, Nat.zero_le, eNumD_4, g1, g2, c0, c1, c2, c3, c4, c5]; done)) | refine To.ret hxE4 ?_))
      simp only [andThen, outOf, go_sem, eqs hxE4, reduceIte, Nat.reduceEqDiff, Nat.reduceAdd, Nat.reduceMul, Nat.reduceLT, Nat.reduceLeDiff, Int.reduceBEq, Int.reduceBNe, Heap.gets, Heap.sets, Heap.get, bytesA_length, bytesA_one, bytesA_plains, List.take_of_length_le, List.drop_of_length_le, Nat.add_zero, V.one, Nat.reduceLeDiff, List.all_cons, List.all_nil, ne_eq, not_false_eq_true, Nat.zero_le, af12, rightD, eNumD_4, g1, g2, c0, c1, c2, c3, c4, c5, Bool.false_and, Bool.true_and, Bool.and_false]
    cases c6 : numB m
    · (repeat' (first | refine To.seq hxE4 ?_ | refine To.op0 hxE4 (by simp only [go_sem, eqs hxE4, reduceIte, Nat.reduceEqDiff, Nat.reduceAdd, Nat.reduceMul, Nat.reduceLT, Nat.reduceLeDiff, Int.reduceBEq, Int.reduceBNe, Heap.gets, Heap.sets, Heap.get, bytesA_length, bytesA_one, bytesA_plains, List.take_of_length_le, List.drop_of_length_le, Nat.add_zero, V.one, Nat.reduceLeDiff, List.all_cons, List.all_nil, ne_eq, not_false_eq_true, Nat.zero_le, eNumD_4, g1, g2, c0, c1, c2, c3, c4, c5, c6]; rfl) ?_ | refine To.op1 hxE4 (by simp only [go_sem, eqs hxE4, reduceIte, Nat.reduceEqDiff, Nat.reduceAdd, Nat.reduceMul, Nat.reduceLT, Nat.reduceLeDiff, Int.reduceBEq, Int.reduceBNe, Heap.gets, Heap.sets, Heap.get, bytesA_length, bytesA_one, bytesA_plains, List.take_of_length_le, List.drop_of_length_le, Nat.add_zero, V.one, Nat.reduceLeDiff, List.all_cons, List.all_nil, ne_eq, not_false_eq_true, Nat.zero_le, eNumD_4, g1, g2, c0, c1, c2, c3, c4, c5, c6]; rfl) ?_ | refine To.nop hxE4 ?_ | (refine To.condT hxE4 ?_ ?_; focus (simp only [go_sem, eqs hxE4, reduceIte, Nat.reduceEqDiff, Nat.reduceAdd, Nat.reduceMul, Nat.reduceLT, Nat.reduceLeDiff, Int.reduceBEq, Int.reduceBNe, Heap.gets, Heap.sets, Heap.get, bytesA_length, bytesA_one, bytesA_plains, List.take_of_length_le, List.drop_of_length_le, Nat.add_zero, V.one, Nat.reduceLeDiff, List.all_cons, List.all_nil, ne_eq, not_false_eq_true, Nat.zero_le, eNumD_4, g1, g2, c0, c1, c2, c3, c4, c5, c6]; done)) | refine To.ret hxE4 ?_))
      simp only [andThen, outOf, go_sem, eqs hxE4, reduceIte, Nat.reduceEqDiff, Nat.reduceAdd, Nat.reduceMul, Nat.reduceLT, Nat.reduceLeDiff, Int.reduceBEq, Int.reduceBNe, Heap.gets, Heap.sets, Heap.get, bytesA_length, bytesA_one, bytesA_plains, List.take_of_length_le, List.drop_of_length_le, Nat.add_zero, V.one, Nat.reduceLeDiff, List.all_cons, List.all_nil, ne_eq, not_false_eq_true, Nat.zero_le, af12, rightD, eNumD_4, g1, g2, c0, c1, c2, c3, c4, c5, c6, Bool.false_and, Bool.true_and, Bool.and_false]
    cases c7 : decide (512 < nm.length)
    rotate_left
    · (repeat' (first | refine To.seq hxE4 ?_ | refine To.op0 hxE4 (by simp only [go_sem, eqs hxE4, reduceIte, Nat.reduceEqDiff, Nat.reduceAdd, Nat.reduceMul, Nat.reduceLT, Nat.reduceLeDiff, Int.reduceBEq, Int.reduceBNe, Heap.gets, Heap.sets, Heap.get, bytesA_length, bytesA_one, bytesA_plains, List.take_of_length_le, List.drop_of_length_le, Nat.add_zero, V.one, Nat.reduceLeDiff, List.all_cons, List.all_nil, ne_eq, not_false_eq_true, Nat.zero_le, eNumD_4, g1, g2, c0, c1, c2, c3, c4, c5, c6, c7]; rfl) ?_ | refine To.op1 hxE4 (by simp only [go_sem, eqs hxE4, reduceIte, Nat.reduceEqDiff, Nat.reduceAdd, Nat.reduceMul, Nat.reduceLT, Nat.reduceLeDiff, Int.reduceBEq, Int.reduceBNe, Heap.gets, Heap.sets, Heap.get, bytesA_length, bytesA_one, bytesA_plains, List.take_of_length_le, List.drop_of_length_le, Nat.add_zero, V.one, Nat.reduceLeDiff, List.all_cons, List.all_nil, ne_eq, not_false_eq_true, Nat.zero_le, eNumD_4, g1, g2, c0, c1, c2, c3, c4, c5, c6, c7]; rfl) ?_ | refine To.nop hxE4 ?_ | (refine To.condT hxE4 ?_ ?_; focus (simp only [go_sem, eqs hxE4, reduceIte, Nat.reduceEqDiff, Nat.reduceAdd, Nat.reduceMul, Nat.reduceLT, Nat.reduceLeDiff, Int.reduceBEq, Int.reduceBNe, Heap.gets, Heap.sets, Heap.get, bytesA_length, bytesA_one, bytesA_plains, List.take_of_length_le, List.drop_of_length_le, Nat.add_zero, V.one, Nat.reduceLeDiff, List.all_cons, List.all_nil, ne_eq, not_false_eq_true, Nat.zero_le, eNumD_4, g1, g2, c0, c1, c2, c3, c4, c5, c6, c7]; done)) | refine To.ret hxE4 ?_))
      simp only [andThen, outOf, go_sem, eqs hxE4, reduceIte, Nat.reduceEqDiff, Nat.reduceAdd, Nat.reduceMul, Nat.reduceLT, Nat.reduceLeDiff, Int.reduceBEq, Int.reduceBNe, Heap.gets, Heap.sets, Heap.get, bytesA_length, bytesA_one, bytesA_plains, List.take_of_length_le, List.drop_of_length_le, Nat.add_zero, V.one, Nat.reduceLeDiff, List.all_cons, List.all_nil, ne_eq, not_false_eq_true, Nat.zero_le, af12, rightD, eNumD_4, g1, g2, c0, c1, c2, c3, c4, c5, c6, c7, Bool.false_and, Bool.true_and, Bool.and_false]
    cases c8 : decide (512 < tx.length)
    rotate_left
    · (repeat' (first | refine To.seq hxE4 ?_ | refine To.op0 hxE4 (by simp only [go_sem, eqs hxE4, reduceIte, Nat.reduceEqDiff, Nat.reduceAdd, Nat.reduceMul, Nat.reduceLT, Nat.reduceLeDiff, Int.reduceBEq, Int.reduceBNe, Heap.gets, Heap.sets, Heap.get, bytesA_length, bytesA_one, bytesA_plains, List.take_of_length_le, List.drop_of_length_le, Nat.add_zero, V.one, Nat.reduceLeDiff, List.all_cons, List.all_nil, ne_eq, not_false_eq_true, Nat.zero_le, eNumD_4, g1, g2, c0, c1, c2, c3, c4, c5, c6, c7, c8]; rfl) ?_ | refine To.op1 hxE4 (by simp only [go_sem, eqs hxE4, reduceIte, Nat.reduceEqDiff, Nat.reduceAdd, Nat.reduceMul, Nat.reduceLT, Nat.reduceLeDiff, Int.reduceBEq, Int.reduceBNe, Heap.gets, Heap.sets, Heap.get, bytesA_length, bytesA_one, bytesA_plains, List.take_of_length_le, List.drop_of_length_le, Nat.add_zero, V.one, Nat.reduceLeDiff, List.all_cons, List.all_nil, ne_eq, not_false_eq_true, Nat.zero_le, eNumD_4, g1, g2, c0, c1, c2, c3, c4, c5, c6, c7, c8]; rfl) ?_ | refine To.nop hxE4 ?_ | (refine To.condT hxE4 ?_ ?_; focus (simp only [go_sem, eqs hxE4, reduceIte, Nat.reduceEqDiff, Nat.reduceAdd, Nat.reduceMul, Nat.reduceLT, Nat.reduceLeDiff, Int.reduceBEq, Int.reduceBNe, Heap.gets, Heap.sets, Heap.get, bytesA_length, bytesA_one, bytesA_plains, List.take_of_length_le, List.drop_of_length_le, Nat.add_zero, V.one, Nat.reduceLeDiff, List.all_cons, List.all_nil, ne_eq, not_false_eq_true, Nat.zero_le, eNumD_4, g1, g2, c0, c1, c2, c3, c4, c5, c6, c7, c8]; done)) | refine To.ret hxE4 ?_))
      simp only [andThen, outOf, go_sem, eqs hxE4, reduceIte, Nat.reduceEqDiff, Nat.reduceAdd, Nat.reduceMul, Nat.reduceLT, Nat.reduceLeDiff, Int.reduceBEq, Int.reduceBNe, Heap.gets, Heap.sets, Heap.get, bytesA_length, bytesA_one, bytesA_plains, List.take_of_length_le, List.drop_of_length_le, Nat.add_zero, V.one, Nat.reduceLeDiff, List.all_cons, List.all_nil, ne_eq, not_false_eq_true, Nat.zero_le, af12, rightD, eNumD_4, g1, g2, c0, c1, c2, c3, c4, c5, c6, c7, c8, Bool.false_and, Bool.true_and, Bool.and_false]
    have hall : rightD id op ino oth n m nm tx = ((opsName.contains op || nm == []) && ((opsText.contains op || tx == []) && ((opsOther.contains op || oth == 0) && ((opsN.contains op || n == 0) && ((opsM.contains op || m == 0) && (!(op == 19) || ino == 0)))))) := by
      simp only [rightD, c0, c1, c2, c3, c4, c5, c6, c7, c8, Bool.not_false, Bool.true_and]
    rw [hall]
    generalize opsName.contains op = b1 at *
    generalize opsText.contains op = b2 at *
    generalize opsOther.contains op = b3 at *
    generalize opsN.contains op = b4 at *
    generalize opsM.contains op = b5 at *
    (repeat' (first | refine To.seq hxE4 ?_ | refine To.op0 hxE4 (by simp only [go_sem, eqs hxE4, reduceIte, Nat.reduceEqDiff, Nat.reduceAdd, Nat.reduceMul, Nat.reduceLT, Nat.reduceLeDiff, Int.reduceBEq, Int.reduceBNe, Heap.gets, Heap.sets, Heap.get, bytesA_length, bytesA_one, bytesA_plains, List.take_of_length_le, List.drop_of_length_le, Nat.add_zero, V.one, Nat.reduceLeDiff, List.all_cons, List.all_nil, ne_eq, not_false_eq_true, Nat.zero_le, eNumD_4, g1, g2, c0, c1, c2, c3, c4, c5, c6, c7, c8, q1, q2, q3, q4, q5]; rfl) ?_ | refine To.op1 hxE4 (by simp only [go_sem, eqs hxE4, reduceIte, Nat.reduceEqDiff, Nat.reduceAdd, Nat.reduceMul, Nat.reduceLT, Nat.reduceLeDiff, Int.reduceBEq, Int.reduceBNe, Heap.gets, Heap.sets, Heap.get, bytesA_length, bytesA_one, bytesA_plains, List.take_of_length_le, List.drop_of_length_le, Nat.add_zero, V.one, Nat.reduceLeDiff, List.all_cons, List.all_nil, ne_eq, not_false_eq_true, Nat.zero_le, eNumD_4, g1, g2, c0, c1, c2, c3, c4, c5, c6, c7, c8, q1, q2, q3, q4, q5]; rfl) ?_ | refine To.nop hxE4 ?_ | (refine To.condF hxE4 ?_ ?_; focus (simp only [go_sem, eqs hxE4, reduceIte, Nat.reduceEqDiff, Nat.reduceAdd, Nat.reduceMul, Nat.reduceLT, Nat.reduceLeDiff, Int.reduceBEq, Int.reduceBNe, Heap.gets, Heap.sets, Heap.get, bytesA_length, bytesA_one, bytesA_plains, List.take_of_length_le, List.drop_of_length_le, Nat.add_zero, V.one, Nat.reduceLeDiff, List.all_cons, List.all_nil, ne_eq, not_false_eq_true, Nat.zero_le, eNumD_4, g1, g2, c0, c1, c2, c3, c4, c5, c6, c7, c8, q1, q2, q3, q4, q5]; done)) | refine To.skip hxE4 ?_))
    refine toImp (cut1 (b1 := b1) (b2 := b2) (b3 := b3) (b4 := b4) (b5 := b5) (b6 := (op == 19)) (B := _) rfl (by simp only [go_sem, eqs hxE4, reduceIte, Nat.reduceEqDiff, Nat.reduceAdd, Nat.reduceMul, Nat.reduceLT, Nat.reduceLeDiff, Int.reduceBEq, Int.reduceBNe]) (by simp only [go_sem, eqs hxE4, reduceIte, Nat.reduceEqDiff, Nat.reduceAdd, Nat.reduceMul, Nat.reduceLT, Nat.reduceLeDiff, Int.reduceBEq, Int.reduceBNe]) (by simp only [go_sem, eqs hxE4, reduceIte, Nat.reduceEqDiff, Nat.reduceAdd, Nat.reduceMul, Nat.reduceLT, Nat.reduceLeDiff, Int.reduceBEq, Int.reduceBNe]) (by simp only [go_sem, eqs hxE4, reduceIte, Nat.reduceEqDiff, Nat.reduceAdd, Nat.reduceMul, Nat.reduceLT, Nat.reduceLeDiff, Int.reduceBEq, Int.reduceBNe]) (by simp only [go_sem, eqs hxE4, reduceIte, Nat.reduceEqDiff, Nat.reduceAdd, Nat.reduceMul, Nat.reduceLT, Nat.reduceLeDiff, Int.reduceBEq, Int.reduceBNe]) (by simp only [go_sem, eqs hxE4, reduceIte, Nat.reduceEqDiff, Nat.reduceAdd, Nat.reduceMul, Nat.reduceLT, Nat.reduceLeDiff, Int.reduceBEq, Int.reduceBNe]) rfl rfl) ?_
    rintro x S2 h2 ⟨rfl, hv, rfl⟩
    simp only [andThen]
    (repeat' (first | refine To.ret hxE4 ?_))
    simp only [andThen, outOf, go_sem, eqs hxE4, reduceIte, Nat.reduceEqDiff, Nat.reduceAdd, Nat.reduceMul, Nat.reduceLT, Nat.reduceLeDiff, Int.reduceBEq, Int.reduceBNe, Heap.gets, Heap.sets, Heap.get, bytesA_length, bytesA_one, bytesA_plains, List.take_of_length_le, List.drop_of_length_le, Nat.add_zero, V.one, Nat.reduceLeDiff, List.all_cons, List.all_nil, ne_eq, not_false_eq_true, Nat.zero_le, af12, hv]
  · cases h
end Go.Proofs.Ytjbblfoefibeaaa

/- Wire: what notices are right. -/
namespace Go.Proofs.Ytjbblfoefibeaaa
open Go AM
set_option linter.unusedSimpArgs false
set_option linter.unusedVariables false
set_option maxRecDepth 100000

def rightN (k i : Int) (nm : List UInt8) : Bool := (decide (1 ≤ i) && decide (i ≤ 128)) && (((k == 1) && (nm == [])) || ((k == 2) && (checkN nm == 0)))
def tNRight : Ans
  | [.agg [.int .i64 k, .int .i64 i, .str nm]] => some (.bool (rightN k i nm))
  | _ => none
set_option maxHeartbeats 8000000 in
theorem NRight_den (k i : Int) (nm : List UInt8) : ∃ r oh, Den FF E4 20 [.agg [.int .i64 k, .int .i64 i, .str nm]] H0 = some (r, oh) ∧ r = .val (.bool (rightN k i nm)) ∧ oh = none := by
  refine To.denE hxE4 (f := 20) (a := af20) rfl (E4_none rfl) (Nat.le_of_ble_eq_true rfl) ?_
  have q := fun h => eCheck_4 nm h
  unfold rightN
  generalize checkN nm = cn at *
  cases a1 : decide (1 ≤ i)
  · (repeat' (first | refine To.seq hxE4 ?_ | refine To.op0 hxE4 (by simp only [go_sem, eqs hxE4, reduceIte, Nat.reduceEqDiff, Nat.reduceAdd, Nat.reduceMul, Nat.reduceLT, Nat.reduceLeDiff, Int.reduceBEq, Int.reduceBNe, Heap.gets, Heap.sets, Heap.get, bytesA_length, bytesA_one, bytesA_plains, List.take_of_length_le, List.drop_of_length_le, Nat.add_zero, V.one, Nat.reduceLeDiff, List.all_cons, List.all_nil, ne_eq, not_false_eq_true, Nat.zero_le, a1, eIn_4, inB, Bool.true_and, Bool.and_true, Bool.false_and, Bool.and_false]; rfl) ?_ | refine To.op1 hxE4 (by simp only [go_sem, eqs hxE4, reduceIte, Nat.reduceEqDiff, Nat.reduceAdd, Nat.reduceMul, Nat.reduceLT, Nat.reduceLeDiff, Int.reduceBEq, Int.reduceBNe, Heap.gets, Heap.sets, Heap.get, bytesA_length, bytesA_one, bytesA_plains, List.take_of_length_le, List.drop_of_length_le, Nat.add_zero, V.one, Nat.reduceLeDiff, List.all_cons, List.all_nil, ne_eq, not_false_eq_true, Nat.zero_le, a1, eIn_4, inB, Bool.true_and, Bool.and_true, Bool.false_and, Bool.and_false]; rfl) ?_ | refine To.nop hxE4 ?_ | (refine To.condT hxE4 ?_ ?_; focus (simp only [go_sem, eqs hxE4, reduceIte, Nat.reduceEqDiff, Nat.reduceAdd, Nat.reduceMul, Nat.reduceLT, Nat.reduceLeDiff, Int.reduceBEq, Int.reduceBNe, Heap.gets, Heap.sets, Heap.get, bytesA_length, bytesA_one, bytesA_plains, List.take_of_length_le, List.drop_of_length_le, Nat.add_zero, V.one, Nat.reduceLeDiff, List.all_cons, List.all_nil, ne_eq, not_false_eq_true, Nat.zero_le, a1, eIn_4, inB, Bool.true_and, Bool.and_true, Bool.false_and, Bool.and_false]; done)) | refine To.ret hxE4 ?_))
    refine ⟨_, _, fin1 (i := 2) rfl, ?_, ?_⟩
    · simp only [go_sem, eqs hxE4, reduceIte, Nat.reduceEqDiff, Nat.reduceAdd, Nat.reduceMul, Nat.reduceLT, Nat.reduceLeDiff, Int.reduceBEq, Int.reduceBNe, a1, Bool.false_and, Bool.true_and, Bool.or_false, Bool.or_true, Bool.true_or, Bool.false_or, Bool.and_false, Bool.and_true]
    · simp only [go_sem, eqs hxE4, reduceIte, Nat.reduceEqDiff, Nat.reduceAdd, Nat.reduceMul, Nat.reduceLT, Nat.reduceLeDiff, Int.reduceBEq, Int.reduceBNe]
  cases a2 : decide (i ≤ 128)
  · (repeat' (first | refine To.seq hxE4 ?_ | refine To.op0 hxE4 (by simp only [go_sem, eqs hxE4, reduceIte, Nat.reduceEqDiff, Nat.reduceAdd, Nat.reduceMul, Nat.reduceLT, Nat.reduceLeDiff, Int.reduceBEq, Int.reduceBNe, Heap.gets, Heap.sets, Heap.get, bytesA_length, bytesA_one, bytesA_plains, List.take_of_length_le, List.drop_of_length_le, Nat.add_zero, V.one, Nat.reduceLeDiff, List.all_cons, List.all_nil, ne_eq, not_false_eq_true, Nat.zero_le, a1, a2, eIn_4, inB, Bool.true_and, Bool.and_true, Bool.false_and, Bool.and_false]; rfl) ?_ | refine To.op1 hxE4 (by simp only [go_sem, eqs hxE4, reduceIte, Nat.reduceEqDiff, Nat.reduceAdd, Nat.reduceMul, Nat.reduceLT, Nat.reduceLeDiff, Int.reduceBEq, Int.reduceBNe, Heap.gets, Heap.sets, Heap.get, bytesA_length, bytesA_one, bytesA_plains, List.take_of_length_le, List.drop_of_length_le, Nat.add_zero, V.one, Nat.reduceLeDiff, List.all_cons, List.all_nil, ne_eq, not_false_eq_true, Nat.zero_le, a1, a2, eIn_4, inB, Bool.true_and, Bool.and_true, Bool.false_and, Bool.and_false]; rfl) ?_ | refine To.nop hxE4 ?_ | (refine To.condT hxE4 ?_ ?_; focus (simp only [go_sem, eqs hxE4, reduceIte, Nat.reduceEqDiff, Nat.reduceAdd, Nat.reduceMul, Nat.reduceLT, Nat.reduceLeDiff, Int.reduceBEq, Int.reduceBNe, Heap.gets, Heap.sets, Heap.get, bytesA_length, bytesA_one, bytesA_plains, List.take_of_length_le, List.drop_of_length_le, Nat.add_zero, V.one, Nat.reduceLeDiff, List.all_cons, List.all_nil, ne_eq, not_false_eq_true, Nat.zero_le, a1, a2, eIn_4, inB, Bool.true_and, Bool.and_true, Bool.false_and, Bool.and_false]; done)) | refine To.ret hxE4 ?_))
    refine ⟨_, _, fin1 (i := 2) rfl, ?_, ?_⟩
    · simp only [go_sem, eqs hxE4, reduceIte, Nat.reduceEqDiff, Nat.reduceAdd, Nat.reduceMul, Nat.reduceLT, Nat.reduceLeDiff, Int.reduceBEq, Int.reduceBNe, a1, a2, Bool.false_and, Bool.true_and, Bool.or_false, Bool.or_true, Bool.true_or, Bool.false_or, Bool.and_false, Bool.and_true]
    · simp only [go_sem, eqs hxE4, reduceIte, Nat.reduceEqDiff, Nat.reduceAdd, Nat.reduceMul, Nat.reduceLT, Nat.reduceLeDiff, Int.reduceBEq, Int.reduceBNe]
  cases b1 : (k == 1)
  · cases b3 : (k == 2)
    · (repeat' (first | refine To.seq hxE4 ?_ | refine To.op0 hxE4 (by simp only [go_sem, eqs hxE4, reduceIte, Nat.reduceEqDiff, Nat.reduceAdd, Nat.reduceMul, Nat.reduceLT, Nat.reduceLeDiff, Int.reduceBEq, Int.reduceBNe, Heap.gets, Heap.sets, Heap.get, bytesA_length, bytesA_one, bytesA_plains, List.take_of_length_le, List.drop_of_length_le, Nat.add_zero, V.one, Nat.reduceLeDiff, List.all_cons, List.all_nil, ne_eq, not_false_eq_true, Nat.zero_le, a1, a2, b1, b3, eIn_4, inB, Bool.true_and, Bool.and_true, Bool.false_and, Bool.and_false]; rfl) ?_ | refine To.op1 hxE4 (by simp only [go_sem, eqs hxE4, reduceIte, Nat.reduceEqDiff, Nat.reduceAdd, Nat.reduceMul, Nat.reduceLT, Nat.reduceLeDiff, Int.reduceBEq, Int.reduceBNe, Heap.gets, Heap.sets, Heap.get, bytesA_length, bytesA_one, bytesA_plains, List.take_of_length_le, List.drop_of_length_le, Nat.add_zero, V.one, Nat.reduceLeDiff, List.all_cons, List.all_nil, ne_eq, not_false_eq_true, Nat.zero_le, a1, a2, b1, b3, eIn_4, inB, Bool.true_and, Bool.and_true, Bool.false_and, Bool.and_false]; rfl) ?_ | refine To.nop hxE4 ?_ | (refine To.condF hxE4 ?_ ?_; focus (simp only [go_sem, eqs hxE4, reduceIte, Nat.reduceEqDiff, Nat.reduceAdd, Nat.reduceMul, Nat.reduceLT, Nat.reduceLeDiff, Int.reduceBEq, Int.reduceBNe, Heap.gets, Heap.sets, Heap.get, bytesA_length, bytesA_one, bytesA_plains, List.take_of_length_le, List.drop_of_length_le, Nat.add_zero, V.one, Nat.reduceLeDiff, List.all_cons, List.all_nil, ne_eq, not_false_eq_true, Nat.zero_le, a1, a2, b1, b3, eIn_4, inB, Bool.true_and, Bool.and_true, Bool.false_and, Bool.and_false]; done)) | refine To.ret hxE4 ?_ | refine To.skip hxE4 ?_))
      refine ⟨_, _, fin1 (i := 2) rfl, ?_, ?_⟩
      · simp only [go_sem, eqs hxE4, reduceIte, Nat.reduceEqDiff, Nat.reduceAdd, Nat.reduceMul, Nat.reduceLT, Nat.reduceLeDiff, Int.reduceBEq, Int.reduceBNe, a1, a2, b1, b3, Bool.false_and, Bool.true_and, Bool.or_false, Bool.or_true, Bool.true_or, Bool.false_or, Bool.and_false, Bool.and_true]
      · simp only [go_sem, eqs hxE4, reduceIte, Nat.reduceEqDiff, Nat.reduceAdd, Nat.reduceMul, Nat.reduceLT, Nat.reduceLeDiff, Int.reduceBEq, Int.reduceBNe]
    cases b4 : (cn == 0)
    · (repeat' (first | refine To.seq hxE4 ?_ | refine To.op0 hxE4 (by simp only [go_sem, eqs hxE4, reduceIte, Nat.reduceEqDiff, Nat.reduceAdd, Nat.reduceMul, Nat.reduceLT, Nat.reduceLeDiff, Int.reduceBEq, Int.reduceBNe, Heap.gets, Heap.sets, Heap.get, bytesA_length, bytesA_one, bytesA_plains, List.take_of_length_le, List.drop_of_length_le, Nat.add_zero, V.one, Nat.reduceLeDiff, List.all_cons, List.all_nil, ne_eq, not_false_eq_true, Nat.zero_le, a1, a2, b1, b3, b4, q, eIn_4, inB, Bool.true_and, Bool.and_true, Bool.false_and, Bool.and_false]; rfl) ?_ | refine To.op1 hxE4 (by simp only [go_sem, eqs hxE4, reduceIte, Nat.reduceEqDiff, Nat.reduceAdd, Nat.reduceMul, Nat.reduceLT, Nat.reduceLeDiff, Int.reduceBEq, Int.reduceBNe, Heap.gets, Heap.sets, Heap.get, bytesA_length, bytesA_one, bytesA_plains, List.take_of_length_le, List.drop_of_length_le, Nat.add_zero, V.one, Nat.reduceLeDiff, List.all_cons, List.all_nil, ne_eq, not_false_eq_true, Nat.zero_le, a1, a2, b1, b3, b4, q, eIn_4, inB, Bool.true_and, Bool.and_true, Bool.false_and, Bool.and_false]; rfl) ?_ | refine To.nop hxE4 ?_ | (refine To.condF hxE4 ?_ ?_; focus (simp only [go_sem, eqs hxE4, reduceIte, Nat.reduceEqDiff, Nat.reduceAdd, Nat.reduceMul, Nat.reduceLT, Nat.reduceLeDiff, Int.reduceBEq, Int.reduceBNe, Heap.gets, Heap.sets, Heap.get, bytesA_length, bytesA_one, bytesA_plains, List.take_of_length_le, List.drop_of_length_le, Nat.add_zero, V.one, Nat.reduceLeDiff, List.all_cons, List.all_nil, ne_eq, not_false_eq_true, Nat.zero_le, a1, a2, b1, b3, b4, q, eIn_4, inB, Bool.true_and, Bool.and_true, Bool.false_and, Bool.and_false]; done)) | refine To.ret hxE4 ?_ | refine To.skip hxE4 ?_))
      refine ⟨_, _, fin1 (i := 2) rfl, ?_, ?_⟩
      · simp only [go_sem, eqs hxE4, reduceIte, Nat.reduceEqDiff, Nat.reduceAdd, Nat.reduceMul, Nat.reduceLT, Nat.reduceLeDiff, Int.reduceBEq, Int.reduceBNe, a1, a2, b1, b3, b4, Bool.false_and, Bool.true_and, Bool.or_false, Bool.or_true, Bool.true_or, Bool.false_or, Bool.and_false, Bool.and_true]
      · simp only [go_sem, eqs hxE4, reduceIte, Nat.reduceEqDiff, Nat.reduceAdd, Nat.reduceMul, Nat.reduceLT, Nat.reduceLeDiff, Int.reduceBEq, Int.reduceBNe]
    · (repeat' (first | refine To.seq hxE4 ?_ | refine To.op0 hxE4 (by simp only [go_sem, eqs hxE4, reduceIte, Nat.reduceEqDiff, Nat.reduceAdd, Nat.reduceMul, Nat.reduceLT, Nat.reduceLeDiff, Int.reduceBEq, Int.reduceBNe, Heap.gets, Heap.sets, Heap.get, bytesA_length, bytesA_one, bytesA_plains, List.take_of_length_le, List.drop_of_length_le, Nat.add_zero, V.one, Nat.reduceLeDiff, List.all_cons, List.all_nil, ne_eq, not_false_eq_true, Nat.zero_le, a1, a2, b1, b3, b4, q, eIn_4, inB, Bool.true_and, Bool.and_true, Bool.false_and, Bool.and_false]; rfl) ?_ | refine To.op1 hxE4 (by simp only [go_sem, eqs hxE4, reduceIte, Nat.reduceEqDiff, Nat.reduceAdd, Nat.reduceMul, Nat.reduceLT, Nat.reduceLeDiff, Int.reduceBEq, Int.reduceBNe, Heap.gets, Heap.sets, Heap.get, bytesA_length, bytesA_one, bytesA_plains, List.take_of_length_le, List.drop_of_length_le, Nat.add_zero, V.one, Nat.reduceLeDiff, List.all_cons, List.all_nil, ne_eq, not_false_eq_true, Nat.zero_le, a1, a2, b1, b3, b4, q, eIn_4, inB, Bool.true_and, Bool.and_true, Bool.false_and, Bool.and_false]; rfl) ?_ | refine To.nop hxE4 ?_ | (refine To.condF hxE4 ?_ ?_; focus (simp only [go_sem, eqs hxE4, reduceIte, Nat.reduceEqDiff, Nat.reduceAdd, Nat.reduceMul, Nat.reduceLT, Nat.reduceLeDiff, Int.reduceBEq, Int.reduceBNe, Heap.gets, Heap.sets, Heap.get, bytesA_length, bytesA_one, bytesA_plains, List.take_of_length_le, List.drop_of_length_le, Nat.add_zero, V.one, Nat.reduceLeDiff, List.all_cons, List.all_nil, ne_eq, not_false_eq_true, Nat.zero_le, a1, a2, b1, b3, b4, q, eIn_4, inB, Bool.true_and, Bool.and_true, Bool.false_and, Bool.and_false]; done)) | refine To.ret hxE4 ?_ | refine To.skip hxE4 ?_))
      refine ⟨_, _, fin1 (i := 2) rfl, ?_, ?_⟩
      · simp only [go_sem, eqs hxE4, reduceIte, Nat.reduceEqDiff, Nat.reduceAdd, Nat.reduceMul, Nat.reduceLT, Nat.reduceLeDiff, Int.reduceBEq, Int.reduceBNe, a1, a2, b1, b3, b4, Bool.false_and, Bool.true_and, Bool.or_false, Bool.or_true, Bool.true_or, Bool.false_or, Bool.and_false, Bool.and_true]
      · simp only [go_sem, eqs hxE4, reduceIte, Nat.reduceEqDiff, Nat.reduceAdd, Nat.reduceMul, Nat.reduceLT, Nat.reduceLeDiff, Int.reduceBEq, Int.reduceBNe]
  · cases b2 : (nm == [])
    · cases b3 : (k == 2)
      · (repeat' (first | refine To.seq hxE4 ?_ | refine To.op0 hxE4 (by simp only [go_sem, eqs hxE4, reduceIte, Nat.reduceEqDiff, Nat.reduceAdd, Nat.reduceMul, Nat.reduceLT, Nat.reduceLeDiff, Int.reduceBEq, Int.reduceBNe, Heap.gets, Heap.sets, Heap.get, bytesA_length, bytesA_one, bytesA_plains, List.take_of_length_le, List.drop_of_length_le, Nat.add_zero, V.one, Nat.reduceLeDiff, List.all_cons, List.all_nil, ne_eq, not_false_eq_true, Nat.zero_le, a1, a2, b1, b2, b3, eIn_4, inB, Bool.true_and, Bool.and_true, Bool.false_and, Bool.and_false]; rfl) ?_ | refine To.op1 hxE4 (by simp only [go_sem, eqs hxE4, reduceIte, Nat.reduceEqDiff, Nat.reduceAdd, Nat.reduceMul, Nat.reduceLT, Nat.reduceLeDiff, Int.reduceBEq, Int.reduceBNe, Heap.gets, Heap.sets, Heap.get, bytesA_length, bytesA_one, bytesA_plains, List.take_of_length_le, List.drop_of_length_le, Nat.add_zero, V.one, Nat.reduceLeDiff, List.all_cons, List.all_nil, ne_eq, not_false_eq_true, Nat.zero_le, a1, a2, b1, b2, b3, eIn_4, inB, Bool.true_and, Bool.and_true, Bool.false_and, Bool.and_false]; rfl) ?_ | refine To.nop hxE4 ?_ | (refine To.condF hxE4 ?_ ?_; focus (simp only [go_sem, eqs hxE4, reduceIte, Nat.reduceEqDiff, Nat.reduceAdd, Nat.reduceMul, Nat.reduceLT, Nat.reduceLeDiff, Int.reduceBEq, Int.reduceBNe, Heap.gets, Heap.sets, Heap.get, bytesA_length, bytesA_one, bytesA_plains, List.take_of_length_le, List.drop_of_length_le, Nat.add_zero, V.one, Nat.reduceLeDiff, List.all_cons, List.all_nil, ne_eq, not_false_eq_true, Nat.zero_le, a1, a2, b1, b2, b3, eIn_4, inB, Bool.true_and, Bool.and_true, Bool.false_and, Bool.and_false]; done)) | refine To.ret hxE4 ?_ | refine To.skip hxE4 ?_))
        refine ⟨_, _, fin1 (i := 2) rfl, ?_, ?_⟩
        · simp only [go_sem, eqs hxE4, reduceIte, Nat.reduceEqDiff, Nat.reduceAdd, Nat.reduceMul, Nat.reduceLT, Nat.reduceLeDiff, Int.reduceBEq, Int.reduceBNe, a1, a2, b1, b2, b3, Bool.false_and, Bool.true_and, Bool.or_false, Bool.or_true, Bool.true_or, Bool.false_or, Bool.and_false, Bool.and_true]
        · simp only [go_sem, eqs hxE4, reduceIte, Nat.reduceEqDiff, Nat.reduceAdd, Nat.reduceMul, Nat.reduceLT, Nat.reduceLeDiff, Int.reduceBEq, Int.reduceBNe]
      cases b4 : (cn == 0)
      · (repeat' (first | refine To.seq hxE4 ?_ | refine To.op0 hxE4 (by simp only [go_sem, eqs hxE4, reduceIte, Nat.reduceEqDiff, Nat.reduceAdd, Nat.reduceMul, Nat.reduceLT, Nat.reduceLeDiff, Int.reduceBEq, Int.reduceBNe, Heap.gets, Heap.sets, Heap.get, bytesA_length, bytesA_one, bytesA_plains, List.take_of_length_le, List.drop_of_length_le, Nat.add_zero, V.one, Nat.reduceLeDiff, List.all_cons, List.all_nil, ne_eq, not_false_eq_true, Nat.zero_le, a1, a2, b1, b2, b3, b4, q, eIn_4, inB, Bool.true_and, Bool.and_true, Bool.false_and, Bool.and_false]; rfl) ?_ | refine To.op1 hxE4 (by simp only [go_sem, eqs hxE4, reduceIte, Nat.reduceEqDiff, Nat.reduceAdd, Nat.reduceMul, Nat.reduceLT, Nat.reduceLeDiff, Int.reduceBEq, Int.reduceBNe, Heap.gets, Heap.sets, Heap.get, bytesA_length, bytesA_one, bytesA_plains, List.take_of_length_le, List.drop_of_length_le, Nat.add_zero, V.one, Nat.reduceLeDiff, List.all_cons, List.all_nil, ne_eq, not_false_eq_true, Nat.zero_le, a1, a2, b1, b2, b3, b4, q, eIn_4, inB, Bool.true_and, Bool.and_true, Bool.false_and, Bool.and_false]; rfl) ?_ | refine To.nop hxE4 ?_ | (refine To.condF hxE4 ?_ ?_; focus (simp only [go_sem, eqs hxE4, reduceIte, Nat.reduceEqDiff, Nat.reduceAdd, Nat.reduceMul, Nat.reduceLT, Nat.reduceLeDiff, Int.reduceBEq, Int.reduceBNe, Heap.gets, Heap.sets, Heap.get, bytesA_length, bytesA_one, bytesA_plains, List.take_of_length_le, List.drop_of_length_le, Nat.add_zero, V.one, Nat.reduceLeDiff, List.all_cons, List.all_nil, ne_eq, not_false_eq_true, Nat.zero_le, a1, a2, b1, b2, b3, b4, q, eIn_4, inB, Bool.true_and, Bool.and_true, Bool.false_and, Bool.and_false]; done)) | refine To.ret hxE4 ?_ | refine To.skip hxE4 ?_))
        refine ⟨_, _, fin1 (i := 2) rfl, ?_, ?_⟩
        · simp only [go_sem, eqs hxE4, reduceIte, Nat.reduceEqDiff, Nat.reduceAdd, Nat.reduceMul, Nat.reduceLT, Nat.reduceLeDiff, Int.reduceBEq, Int.reduceBNe, a1, a2, b1, b2, b3, b4, Bool.false_and, Bool.true_and, Bool.or_false, Bool.or_true, Bool.true_or, Bool.false_or, Bool.and_false, Bool.and_true]
        · simp only [go_sem, eqs hxE4, reduceIte, Nat.reduceEqDiff, Nat.reduceAdd, Nat.reduceMul, Nat.reduceLT, Nat.reduceLeDiff, Int.reduceBEq, Int.reduceBNe]
      · (repeat' (first | refine To.seq hxE4 ?_ | refine To.op0 hxE4 (by simp only [go_sem, eqs hxE4, reduceIte, Nat.reduceEqDiff, Nat.reduceAdd, Nat.reduceMul, Nat.reduceLT, Nat.reduceLeDiff, Int.reduceBEq, Int.reduceBNe, Heap.gets, Heap.sets, Heap.get, bytesA_length, bytesA_one, bytesA_plains, List.take_of_length_le, List.drop_of_length_le, Nat.add_zero, V.one, Nat.reduceLeDiff, List.all_cons, List.all_nil, ne_eq, not_false_eq_true, Nat.zero_le, a1, a2, b1, b2, b3, b4, q, eIn_4, inB, Bool.true_and, Bool.and_true, Bool.false_and, Bool.and_false]; rfl) ?_ | refine To.op1 hxE4 (by simp only [go_sem, eqs hxE4, reduceIte, Nat.reduceEqDiff, Nat.reduceAdd, Nat.reduceMul, Nat.reduceLT, Nat.reduceLeDiff, Int.reduceBEq, Int.reduceBNe, Heap.gets, Heap.sets, Heap.get, bytesA_length, bytesA_one, bytesA_plains, List.take_of_length_le, List.drop_of_length_le, Nat.add_zero, V.one, Nat.reduceLeDiff, List.all_cons, List.all_nil, ne_eq, not_false_eq_true, Nat.zero_le, a1, a2, b1, b2, b3, b4, q, eIn_4, inB, Bool.true_and, Bool.and_true, Bool.false_and, Bool.and_false]; rfl) ?_ | refine To.nop hxE4 ?_ | (refine To.condF hxE4 ?_ ?_; focus (simp only [go_sem, eqs hxE4, reduceIte, Nat.reduceEqDiff, Nat.reduceAdd, Nat.reduceMul, Nat.reduceLT, Nat.reduceLeDiff, Int.reduceBEq, Int.reduceBNe, Heap.gets, Heap.sets, Heap.get, bytesA_length, bytesA_one, bytesA_plains, List.take_of_length_le, List.drop_of_length_le, Nat.add_zero, V.one, Nat.reduceLeDiff, List.all_cons, List.all_nil, ne_eq, not_false_eq_true, Nat.zero_le, a1, a2, b1, b2, b3, b4, q, eIn_4, inB, Bool.true_and, Bool.and_true, Bool.false_and, Bool.and_false]; done)) | refine To.ret hxE4 ?_ | refine To.skip hxE4 ?_))
        refine ⟨_, _, fin1 (i := 2) rfl, ?_, ?_⟩
        · simp only [go_sem, eqs hxE4, reduceIte, Nat.reduceEqDiff, Nat.reduceAdd, Nat.reduceMul, Nat.reduceLT, Nat.reduceLeDiff, Int.reduceBEq, Int.reduceBNe, a1, a2, b1, b2, b3, b4, Bool.false_and, Bool.true_and, Bool.or_false, Bool.or_true, Bool.true_or, Bool.false_or, Bool.and_false, Bool.and_true]
        · simp only [go_sem, eqs hxE4, reduceIte, Nat.reduceEqDiff, Nat.reduceAdd, Nat.reduceMul, Nat.reduceLT, Nat.reduceLeDiff, Int.reduceBEq, Int.reduceBNe]
    · (repeat' (first | refine To.seq hxE4 ?_ | refine To.op0 hxE4 (by simp only [go_sem, eqs hxE4, reduceIte, Nat.reduceEqDiff, Nat.reduceAdd, Nat.reduceMul, Nat.reduceLT, Nat.reduceLeDiff, Int.reduceBEq, Int.reduceBNe, Heap.gets, Heap.sets, Heap.get, bytesA_length, bytesA_one, bytesA_plains, List.take_of_length_le, List.drop_of_length_le, Nat.add_zero, V.one, Nat.reduceLeDiff, List.all_cons, List.all_nil, ne_eq, not_false_eq_true, Nat.zero_le, a1, a2, b1, b2, eIn_4, inB, Bool.true_and, Bool.and_true, Bool.false_and, Bool.and_false]; rfl) ?_ | refine To.op1 hxE4 (by simp only [go_sem, eqs hxE4, reduceIte, Nat.reduceEqDiff, Nat.reduceAdd, Nat.reduceMul, Nat.reduceLT, Nat.reduceLeDiff, Int.reduceBEq, Int.reduceBNe, Heap.gets, Heap.sets, Heap.get, bytesA_length, bytesA_one, bytesA_plains, List.take_of_length_le, List.drop_of_length_le, Nat.add_zero, V.one, Nat.reduceLeDiff, List.all_cons, List.all_nil, ne_eq, not_false_eq_true, Nat.zero_le, a1, a2, b1, b2, eIn_4, inB, Bool.true_and, Bool.and_true, Bool.false_and, Bool.and_false]; rfl) ?_ | refine To.nop hxE4 ?_ | (refine To.condF hxE4 ?_ ?_; focus (simp only [go_sem, eqs hxE4, reduceIte, Nat.reduceEqDiff, Nat.reduceAdd, Nat.reduceMul, Nat.reduceLT, Nat.reduceLeDiff, Int.reduceBEq, Int.reduceBNe, Heap.gets, Heap.sets, Heap.get, bytesA_length, bytesA_one, bytesA_plains, List.take_of_length_le, List.drop_of_length_le, Nat.add_zero, V.one, Nat.reduceLeDiff, List.all_cons, List.all_nil, ne_eq, not_false_eq_true, Nat.zero_le, a1, a2, b1, b2, eIn_4, inB, Bool.true_and, Bool.and_true, Bool.false_and, Bool.and_false]; done)) | refine To.ret hxE4 ?_ | refine To.skip hxE4 ?_))
      refine ⟨_, _, fin1 (i := 2) rfl, ?_, ?_⟩
      · simp only [go_sem, eqs hxE4, reduceIte, Nat.reduceEqDiff, Nat.reduceAdd, Nat.reduceMul, Nat.reduceLT, Nat.reduceLeDiff, Int.reduceBEq, Int.reduceBNe, a1, a2, b1, b2, Bool.false_and, Bool.true_and, Bool.or_false, Bool.or_true, Bool.true_or, Bool.false_or, Bool.and_false, Bool.and_true]
      · simp only [go_sem, eqs hxE4, reduceIte, Nat.reduceEqDiff, Nat.reduceAdd, Nat.reduceMul, Nat.reduceLT, Nat.reduceLeDiff, Int.reduceBEq, Int.reduceBNe]

theorem okNRight : SpOk FF E4 20 tNRight := by
  intro args v h hpl
  unfold tNRight at h
  split at h
  · cases h
    obtain ⟨r, oh, q, rfl, rfl⟩ := NRight_den _ _ _
    exact ⟨rfl, _, q⟩
  · cases h
set_option maxHeartbeats 8000000 in
theorem RNRight_den (k i : Int) (nm : List UInt8) : ∃ r oh, Den FF E4 18 [.agg [.int .i64 k, .int .i64 i, .str nm]] H0 = some (r, oh) ∧ r = .val (.bool (rightN k i nm)) ∧ oh = none := by
  refine To.denE hxE4 (f := 18) (a := af18) rfl (E4_none rfl) (Nat.le_of_ble_eq_true rfl) ?_
  have q := fun h => eRCheck_4 nm h
  unfold rightN
  generalize checkN nm = cn at *
  cases a1 : decide (1 ≤ i)
  · (repeat' (first | refine To.seq hxE4 ?_ | refine To.op0 hxE4 (by simp only [go_sem, eqs hxE4, reduceIte, Nat.reduceEqDiff, Nat.reduceAdd, Nat.reduceMul, Nat.reduceLT, Nat.reduceLeDiff, Int.reduceBEq, Int.reduceBNe, Heap.gets, Heap.sets, Heap.get, bytesA_length, bytesA_one, bytesA_plains, List.take_of_length_le, List.drop_of_length_le, Nat.add_zero, V.one, Nat.reduceLeDiff, List.all_cons, List.all_nil, ne_eq, not_false_eq_true, Nat.zero_le, a1, Bool.true_and, Bool.and_true, Bool.false_and, Bool.and_false]; rfl) ?_ | refine To.op1 hxE4 (by simp only [go_sem, eqs hxE4, reduceIte, Nat.reduceEqDiff, Nat.reduceAdd, Nat.reduceMul, Nat.reduceLT, Nat.reduceLeDiff, Int.reduceBEq, Int.reduceBNe, Heap.gets, Heap.sets, Heap.get, bytesA_length, bytesA_one, bytesA_plains, List.take_of_length_le, List.drop_of_length_le, Nat.add_zero, V.one, Nat.reduceLeDiff, List.all_cons, List.all_nil, ne_eq, not_false_eq_true, Nat.zero_le, a1, Bool.true_and, Bool.and_true, Bool.false_and, Bool.and_false]; rfl) ?_ | refine To.nop hxE4 ?_ | refine To.ret hxE4 ?_))
    refine ⟨_, _, fin1 (i := 2) rfl, ?_, ?_⟩
    · simp only [go_sem, eqs hxE4, reduceIte, Nat.reduceEqDiff, Nat.reduceAdd, Nat.reduceMul, Nat.reduceLT, Nat.reduceLeDiff, Int.reduceBEq, Int.reduceBNe, a1, Bool.false_and, Bool.true_and, Bool.or_false, Bool.or_true, Bool.true_or, Bool.false_or, Bool.and_false, Bool.and_true]
    · simp only [go_sem, eqs hxE4, reduceIte, Nat.reduceEqDiff, Nat.reduceAdd, Nat.reduceMul, Nat.reduceLT, Nat.reduceLeDiff, Int.reduceBEq, Int.reduceBNe]
  cases a2 : decide (i ≤ 128)
  · (repeat' (first | refine To.seq hxE4 ?_ | refine To.op0 hxE4 (by simp only [go_sem, eqs hxE4, reduceIte, Nat.reduceEqDiff, Nat.reduceAdd, Nat.reduceMul, Nat.reduceLT, Nat.reduceLeDiff, Int.reduceBEq, Int.reduceBNe, Heap.gets, Heap.sets, Heap.get, bytesA_length, bytesA_one, bytesA_plains, List.take_of_length_le, List.drop_of_length_le, Nat.add_zero, V.one, Nat.reduceLeDiff, List.all_cons, List.all_nil, ne_eq, not_false_eq_true, Nat.zero_le, a1, a2, Bool.true_and, Bool.and_true, Bool.false_and, Bool.and_false]; rfl) ?_ | refine To.op1 hxE4 (by simp only [go_sem, eqs hxE4, reduceIte, Nat.reduceEqDiff, Nat.reduceAdd, Nat.reduceMul, Nat.reduceLT, Nat.reduceLeDiff, Int.reduceBEq, Int.reduceBNe, Heap.gets, Heap.sets, Heap.get, bytesA_length, bytesA_one, bytesA_plains, List.take_of_length_le, List.drop_of_length_le, Nat.add_zero, V.one, Nat.reduceLeDiff, List.all_cons, List.all_nil, ne_eq, not_false_eq_true, Nat.zero_le, a1, a2, Bool.true_and, Bool.and_true, Bool.false_and, Bool.and_false]; rfl) ?_ | refine To.nop hxE4 ?_ | refine To.ret hxE4 ?_))
    refine ⟨_, _, fin1 (i := 2) rfl, ?_, ?_⟩
    · simp only [go_sem, eqs hxE4, reduceIte, Nat.reduceEqDiff, Nat.reduceAdd, Nat.reduceMul, Nat.reduceLT, Nat.reduceLeDiff, Int.reduceBEq, Int.reduceBNe, a1, a2, Bool.false_and, Bool.true_and, Bool.or_false, Bool.or_true, Bool.true_or, Bool.false_or, Bool.and_false, Bool.and_true]
    · simp only [go_sem, eqs hxE4, reduceIte, Nat.reduceEqDiff, Nat.reduceAdd, Nat.reduceMul, Nat.reduceLT, Nat.reduceLeDiff, Int.reduceBEq, Int.reduceBNe]
  cases b1 : (k == 1)
  · cases b3 : (k == 2)
    · (repeat' (first | refine To.seq hxE4 ?_ | refine To.op0 hxE4 (by simp only [go_sem, eqs hxE4, reduceIte, Nat.reduceEqDiff, Nat.reduceAdd, Nat.reduceMul, Nat.reduceLT, Nat.reduceLeDiff, Int.reduceBEq, Int.reduceBNe, Heap.gets, Heap.sets, Heap.get, bytesA_length, bytesA_one, bytesA_plains, List.take_of_length_le, List.drop_of_length_le, Nat.add_zero, V.one, Nat.reduceLeDiff, List.all_cons, List.all_nil, ne_eq, not_false_eq_true, Nat.zero_le, a1, a2, b1, b3, Bool.true_and, Bool.and_true, Bool.false_and, Bool.and_false]; rfl) ?_ | refine To.op1 hxE4 (by simp only [go_sem, eqs hxE4, reduceIte, Nat.reduceEqDiff, Nat.reduceAdd, Nat.reduceMul, Nat.reduceLT, Nat.reduceLeDiff, Int.reduceBEq, Int.reduceBNe, Heap.gets, Heap.sets, Heap.get, bytesA_length, bytesA_one, bytesA_plains, List.take_of_length_le, List.drop_of_length_le, Nat.add_zero, V.one, Nat.reduceLeDiff, List.all_cons, List.all_nil, ne_eq, not_false_eq_true, Nat.zero_le, a1, a2, b1, b3, Bool.true_and, Bool.and_true, Bool.false_and, Bool.and_false]; rfl) ?_ | refine To.nop hxE4 ?_ | refine To.ret hxE4 ?_))
      refine ⟨_, _, fin1 (i := 2) rfl, ?_, ?_⟩
      · simp only [go_sem, eqs hxE4, reduceIte, Nat.reduceEqDiff, Nat.reduceAdd, Nat.reduceMul, Nat.reduceLT, Nat.reduceLeDiff, Int.reduceBEq, Int.reduceBNe, a1, a2, b1, b3, Bool.false_and, Bool.true_and, Bool.or_false, Bool.or_true, Bool.true_or, Bool.false_or, Bool.and_false, Bool.and_true]
      · simp only [go_sem, eqs hxE4, reduceIte, Nat.reduceEqDiff, Nat.reduceAdd, Nat.reduceMul, Nat.reduceLT, Nat.reduceLeDiff, Int.reduceBEq, Int.reduceBNe]
    cases b4 : (cn == 0)
    · (repeat' (first | refine To.seq hxE4 ?_ | refine To.op0 hxE4 (by simp only [go_sem, eqs hxE4, reduceIte, Nat.reduceEqDiff, Nat.reduceAdd, Nat.reduceMul, Nat.reduceLT, Nat.reduceLeDiff, Int.reduceBEq, Int.reduceBNe, Heap.gets, Heap.sets, Heap.get, bytesA_length, bytesA_one, bytesA_plains, List.take_of_length_le, List.drop_of_length_le, Nat.add_zero, V.one, Nat.reduceLeDiff, List.all_cons, List.all_nil, ne_eq, not_false_eq_true, Nat.zero_le, a1, a2, b1, b3, b4, q, Bool.true_and, Bool.and_true, Bool.false_and, Bool.and_false]; rfl) ?_ | refine To.op1 hxE4 (by simp only [go_sem, eqs hxE4, reduceIte, Nat.reduceEqDiff, Nat.reduceAdd, Nat.reduceMul, Nat.reduceLT, Nat.reduceLeDiff, Int.reduceBEq, Int.reduceBNe, Heap.gets, Heap.sets, Heap.get, bytesA_length, bytesA_one, bytesA_plains, List.take_of_length_le, List.drop_of_length_le, Nat.add_zero, V.one, Nat.reduceLeDiff, List.all_cons, List.all_nil, ne_eq, not_false_eq_true, Nat.zero_le, a1, a2, b1, b3, b4, q, Bool.true_and, Bool.and_true, Bool.false_and, Bool.and_false]; rfl) ?_ | refine To.nop hxE4 ?_ | refine To.ret hxE4 ?_))
      refine ⟨_, _, fin1 (i := 2) rfl, ?_, ?_⟩
      · simp only [go_sem, eqs hxE4, reduceIte, Nat.reduceEqDiff, Nat.reduceAdd, Nat.reduceMul, Nat.reduceLT, Nat.reduceLeDiff, Int.reduceBEq, Int.reduceBNe, a1, a2, b1, b3, b4, Bool.false_and, Bool.true_and, Bool.or_false, Bool.or_true, Bool.true_or, Bool.false_or, Bool.and_false, Bool.and_true]
      · simp only [go_sem, eqs hxE4, reduceIte, Nat.reduceEqDiff, Nat.reduceAdd, Nat.reduceMul, Nat.reduceLT, Nat.reduceLeDiff, Int.reduceBEq, Int.reduceBNe]
    · (repeat' (first | refine To.seq hxE4 ?_ | refine To.op0 hxE4 (by simp only [go_sem, eqs hxE4, reduceIte, Nat.reduceEqDiff, Nat.reduceAdd, Nat.reduceMul, Nat.reduceLT, Nat.reduceLeDiff, Int.reduceBEq, Int.reduceBNe, Heap.gets, Heap.sets, Heap.get, bytesA_length, bytesA_one, bytesA_plains, List.take_of_length_le, List.drop_of_length_le, Nat.add_zero, V.one, Nat.reduceLeDiff, List.all_cons, List.all_nil, ne_eq, not_false_eq_true, Nat.zero_le, a1, a2, b1, b3, b4, q, Bool.true_and, Bool.and_true, Bool.false_and, Bool.and_false]; rfl) ?_ | refine To.op1 hxE4 (by simp only [go_sem, eqs hxE4, reduceIte, Nat.reduceEqDiff, Nat.reduceAdd, Nat.reduceMul, Nat.reduceLT, Nat.reduceLeDiff, Int.reduceBEq, Int.reduceBNe, Heap.gets, Heap.sets, Heap.get, bytesA_length, bytesA_one, bytesA_plains, List.take_of_length_le, List.drop_of_length_le, Nat.add_zero, V.one, Nat.reduceLeDiff, List.all_cons, List.all_nil, ne_eq, not_false_eq_true, Nat.zero_le, a1, a2, b1, b3, b4, q, Bool.true_and, Bool.and_true, Bool.false_and, Bool.and_false]; rfl) ?_ | refine To.nop hxE4 ?_ | refine To.ret hxE4 ?_))
      refine ⟨_, _, fin1 (i := 2) rfl, ?_, ?_⟩
      · simp only [go_sem, eqs hxE4, reduceIte, Nat.reduceEqDiff, Nat.reduceAdd, Nat.reduceMul, Nat.reduceLT, Nat.reduceLeDiff, Int.reduceBEq, Int.reduceBNe, a1, a2, b1, b3, b4, Bool.false_and, Bool.true_and, Bool.or_false, Bool.or_true, Bool.true_or, Bool.false_or, Bool.and_false, Bool.and_true]
      · simp only [go_sem, eqs hxE4, reduceIte, Nat.reduceEqDiff, Nat.reduceAdd, Nat.reduceMul, Nat.reduceLT, Nat.reduceLeDiff, Int.reduceBEq, Int.reduceBNe]
  · cases b2 : (nm == [])
    · cases b3 : (k == 2)
      · (repeat' (first | refine To.seq hxE4 ?_ | refine To.op0 hxE4 (by simp only [go_sem, eqs hxE4, reduceIte, Nat.reduceEqDiff, Nat.reduceAdd, Nat.reduceMul, Nat.reduceLT, Nat.reduceLeDiff, Int.reduceBEq, Int.reduceBNe, Heap.gets, Heap.sets, Heap.get, bytesA_length, bytesA_one, bytesA_plains, List.take_of_length_le, List.drop_of_length_le, Nat.add_zero, V.one, Nat.reduceLeDiff, List.all_cons, List.all_nil, ne_eq, not_false_eq_true, Nat.zero_le, a1, a2, b1, b2, b3, Bool.true_and, Bool.and_true, Bool.false_and, Bool.and_false]; rfl) ?_ | refine To.op1 hxE4 (by simp only [go_sem, eqs hxE4, reduceIte, Nat.reduceEqDiff, Nat.reduceAdd, Nat.reduceMul, Nat.reduceLT, Nat.reduceLeDiff, Int.reduceBEq, Int.reduceBNe, Heap.gets, Heap.sets, Heap.get, bytesA_length, bytesA_one, bytesA_plains, List.take_of_length_le, List.drop_of_length_le, Nat.add_zero, V.one, Nat.reduceLeDiff, List.all_cons, List.all_nil, ne_eq, not_false_eq_true, Nat.zero_le, a1, a2, b1, b2, b3, Bool.true_and, Bool.and_true, Bool.false_and, Bool.and_false]; rfl) ?_ | refine To.nop hxE4 ?_ | refine To.ret hxE4 ?_))
        refine ⟨_, _, fin1 (i := 2) rfl, ?_, ?_⟩
        · simp only [go_sem, eqs hxE4, reduceIte, Nat.reduceEqDiff, Nat.reduceAdd, Nat.reduceMul, Nat.reduceLT, Nat.reduceLeDiff, Int.reduceBEq, Int.reduceBNe, a1, a2, b1, b2, b3, Bool.false_and, Bool.true_and, Bool.or_false, Bool.or_true, Bool.true_or, Bool.false_or, Bool.and_false, Bool.and_true]
        · simp only [go_sem, eqs hxE4, reduceIte, Nat.reduceEqDiff, Nat.reduceAdd, Nat.reduceMul, Nat.reduceLT, Nat.reduceLeDiff, Int.reduceBEq, Int.reduceBNe]
      cases b4 : (cn == 0)
      · (repeat' (first | refine To.seq hxE4 ?_ | refine To.op0 hxE4 (by simp only [go_sem, eqs hxE4, reduceIte, Nat.reduceEqDiff, Nat.reduceAdd, Nat.reduceMul, Nat.reduceLT, Nat.reduceLeDiff, Int.reduceBEq, Int.reduceBNe, Heap.gets, Heap.sets, Heap.get, bytesA_length, bytesA_one, bytesA_plains, List.take_of_length_le, List.drop_of_length_le, Nat.add_zero, V.one, Nat.reduceLeDiff, List.all_cons, List.all_nil, ne_eq, not_false_eq_true, Nat.zero_le, a1, a2, b1, b2, b3, b4, q, Bool.true_and, Bool.and_true, Bool.false_and, Bool.and_false]; rfl) ?_ | refine To.op1 hxE4 (by simp only [go_sem, eqs hxE4, reduceIte, Nat.reduceEqDiff, Nat.reduceAdd, Nat.reduceMul, Nat.reduceLT, Nat.reduceLeDiff, Int.reduceBEq, Int.reduceBNe, Heap.gets, Heap.sets, Heap.get, bytesA_length, bytesA_one, bytesA_plains, List.take_of_length_le, List.drop_of_length_le, Nat.add_zero, V.one, Nat.reduceLeDiff, List.all_cons, List.all_nil, ne_eq, not_false_eq_true, Nat.zero_le, a1, a2, b1, b2, b3, b4, q, Bool.true_and, Bool.and_true, Bool.false_and, Bool.and_false]; rfl) ?_ | refine To.nop hxE4 ?_ | refine To.ret hxE4 ?_))
        refine ⟨_, _, fin1 (i := 2) rfl, ?_, ?_⟩
        · simp only [go_sem, eqs hxE4, reduceIte, Nat.reduceEqDiff, Nat.reduceAdd, Nat.reduceMul, Nat.reduceLT, Nat.reduceLeDiff, Int.reduceBEq, Int.reduceBNe, a1, a2, b1, b2, b3, b4, Bool.false_and, Bool.true_and, Bool.or_false, Bool.or_true, Bool.true_or, Bool.false_or, Bool.and_false, Bool.and_true]
        · simp only [go_sem, eqs hxE4, reduceIte, Nat.reduceEqDiff, Nat.reduceAdd, Nat.reduceMul, Nat.reduceLT, Nat.reduceLeDiff, Int.reduceBEq, Int.reduceBNe]
      · (repeat' (first | refine To.seq hxE4 ?_ | refine To.op0 hxE4 (by simp only [go_sem, eqs hxE4, reduceIte, Nat.reduceEqDiff, Nat.reduceAdd, Nat.reduceMul, Nat.reduceLT, Nat.reduceLeDiff, Int.reduceBEq, Int.reduceBNe, Heap.gets, Heap.sets, Heap.get, bytesA_length, bytesA_one, bytesA_plains, List.take_of_length_le, List.drop_of_length_le, Nat.add_zero, V.one, Nat.reduceLeDiff, List.all_cons, List.all_nil, ne_eq, not_false_eq_true, Nat.zero_le, a1, a2, b1, b2, b3, b4, q, Bool.true_and, Bool.and_true, Bool.false_and, Bool.and_false]; rfl) ?_ | refine To.op1 hxE4 (by simp only [go_sem, eqs hxE4, reduceIte, Nat.reduceEqDiff, Nat.reduceAdd, Nat.reduceMul, Nat.reduceLT, Nat.reduceLeDiff, Int.reduceBEq, Int.reduceBNe, Heap.gets, Heap.sets, Heap.get, bytesA_length, bytesA_one, bytesA_plains, List.take_of_length_le, List.drop_of_length_le, Nat.add_zero, V.one, Nat.reduceLeDiff, List.all_cons, List.all_nil, ne_eq, not_false_eq_true, Nat.zero_le, a1, a2, b1, b2, b3, b4, q, Bool.true_and, Bool.and_true, Bool.false_and, Bool.and_false]; rfl) ?_ | refine To.nop hxE4 ?_ | refine To.ret hxE4 ?_))
        refine ⟨_, _, fin1 (i := 2) rfl, ?_, ?_⟩
        · simp only [go_sem, eqs hxE4, reduceIte, Nat.reduceEqDiff, Nat.reduceAdd, Nat.reduceMul, Nat.reduceLT, Nat.reduceLeDiff, Int.reduceBEq, Int.reduceBNe, a1, a2, b1, b2, b3, b4, Bool.false_and, Bool.true_and, Bool.or_false, Bool.or_true, Bool.true_or, Bool.false_or, Bool.and_false, Bool.and_true]
        · simp only [go_sem, eqs hxE4, reduceIte, Nat.reduceEqDiff, Nat.reduceAdd, Nat.reduceMul, Nat.reduceLT, Nat.reduceLeDiff, Int.reduceBEq, Int.reduceBNe]
    · (repeat' (first | refine To.seq hxE4 ?_ | refine To.op0 hxE4 (by simp only [go_sem, eqs hxE4, reduceIte, Nat.reduceEqDiff, Nat.reduceAdd, Nat.reduceMul, Nat.reduceLT, Nat.reduceLeDiff, Int.reduceBEq, Int.reduceBNe, Heap.gets, Heap.sets, Heap.get, bytesA_length, bytesA_one, bytesA_plains, List.take_of_length_le, List.drop_of_length_le, Nat.add_zero, V.one, Nat.reduceLeDiff, List.all_cons, List.all_nil, ne_eq, not_false_eq_true, Nat.zero_le, a1, a2, b1, b2, Bool.true_and, Bool.and_true, Bool.false_and, Bool.and_false]; rfl) ?_ | refine To.op1 hxE4 (by simp only [go_sem, eqs hxE4, reduceIte, Nat.reduceEqDiff, Nat.reduceAdd, Nat.reduceMul, Nat.reduceLT, Nat.reduceLeDiff, Int.reduceBEq, Int.reduceBNe, Heap.gets, Heap.sets, Heap.get, bytesA_length, bytesA_one, bytesA_plains, List.take_of_length_le, List.drop_of_length_le, Nat.add_zero, V.one, Nat.reduceLeDiff, List.all_cons, List.all_nil, ne_eq, not_false_eq_true, Nat.zero_le, a1, a2, b1, b2, Bool.true_and, Bool.and_true, Bool.false_and, Bool.and_false]; rfl) ?_ | refine To.nop hxE4 ?_ | refine To.ret hxE4 ?_))
      refine ⟨_, _, fin1 (i := 2) rfl, ?_, ?_⟩
      · simp only [go_sem, eqs hxE4, reduceIte, Nat.reduceEqDiff, Nat.reduceAdd, Nat.reduceMul, Nat.reduceLT, Nat.reduceLeDiff, Int.reduceBEq, Int.reduceBNe, a1, a2, b1, b2, Bool.false_and, Bool.true_and, Bool.or_false, Bool.or_true, Bool.true_or, Bool.false_or, Bool.and_false, Bool.and_true]
      · simp only [go_sem, eqs hxE4, reduceIte, Nat.reduceEqDiff, Nat.reduceAdd, Nat.reduceMul, Nat.reduceLT, Nat.reduceLeDiff, Int.reduceBEq, Int.reduceBNe]

theorem okRNRight : SpOk FF E4 18 tNRight := by
  intro args v h hpl
  unfold tNRight at h
  split at h
  · cases h
    obtain ⟨r, oh, q, rfl, rfl⟩ := RNRight_den _ _ _
    exact ⟨rfl, _, q⟩
  · cases h
end Go.Proofs.Ytjbblfoefibeaaa

/- Wire: the document's texts, as bytes and back. -/
namespace Go.Proofs.Ytjbblfoefibeaaa
open Go AM
set_option linter.unusedSimpArgs false
set_option linter.unusedVariables false
set_option maxRecDepth 100000

def textB (s : List UInt8) : List UInt8 := tobe 2 s.length ++ s
def tText : Ans
  | [.str s] => if s.length ≤ 1000000 then some (.str (textB s)) else none
  | _ => none
theorem okText : SpOk FF E4 61 tText := by
  intro args v h hpl
  unfold tText at h
  split at h
  · rename_i s
    split at h
    · rename_i hc
      cases h
      refine ⟨rfl, _, (?_ : Den FF E4 61 [.str s] H0 = some (.val (.str (textB s)), none))⟩
      refine To.den hxE4 (f := 61) (a := af61) rfl (E4_none rfl) (Nat.le_of_ble_eq_true rfl) ?_
      have q : ∀ h, Den FF E4 60 [.int .i64 (s.length : Int), .int .i64 2] h = some (.val (.str (tobe 2 s.length)), none) := fun h => eBig_4 (s.length : Int) 2 ⟨by omega, by omega, by decide, by decide⟩ h
      have hl : (2 + s.length ≤ 9223372036854775807) = True := eq_true (by omega)
      (repeat' (first | refine To.seq hxE4 ?_ | refine To.op0 hxE4 (by simp only [go_sem, eqs hxE4, reduceIte, Nat.reduceEqDiff, Nat.reduceAdd, Nat.reduceMul, Nat.reduceLT, Nat.reduceLeDiff, Int.reduceBEq, Int.reduceBNe, q, tobe_length, hl]; rfl) ?_ | refine To.nop hxE4 ?_ | refine To.ret hxE4 ?_))
      simp only [andThen, outOf, go_sem, eqs hxE4, reduceIte, Nat.reduceEqDiff, Nat.reduceAdd, Nat.reduceMul, Nat.reduceLT, Nat.reduceLeDiff, Int.reduceBEq, Int.reduceBNe, af61, textB]
    · cases h
  · cases h

theorem fin3 {a : AF} {h : Heap} {S : Nat → V} {h' : Heap} {i j k : Nat} (hr : a.res = [.t i, .t j, .t k]) : finish a h (some (.ret, S, h')) = some (.val (.tuple [S i, S j, S k]), leave h h' (.tuple [S i, S j, S k])) := by
  simp only [finish, hr, resAll, resOne, resV]; rfl
/-- The text at a place. -/
def partV (s : List UInt8) (a : Nat) : V :=
  if a + 2 ≤ s.length then
    if a + 2 + numAt s a 2 ≤ s.length then .tuple [.str ((s.drop (a + 2)).take (numAt s a 2)), .int .i64 ((2 + numAt s a 2 : Nat) : Int), .bool true]
    else .tuple [.str [], .int .i64 0, .bool false]
  else .tuple [.str [], .int .i64 0, .bool false]
def tPart : Ans
  | [.str s, .int .i64 a] => if 0 ≤ a ∧ a ≤ 900000 ∧ s.length ≤ 900000 then some (partV s a.toNat) else none
  | _ => none
theorem part_den (s : List UInt8) (a : Nat) (ha : a ≤ 900000) (hs : s.length ≤ 900000) : ∃ r oh, Den FF E4 63 [.str s, .int .i64 (a : Int)] H0 = some (r, oh) ∧ r = .val (partV s a) ∧ oh = none := by
  refine To.denE hxE4 (f := 63) (a := af63) rfl (E4_none rfl) (Nat.le_of_ble_eq_true rfl) ?_
  have q := fun h => eNumber_4 s (a : Int) 2 ⟨by omega, by omega, by decide, by decide, by omega⟩ h
  simp only [Int.toNat_natCast, show Int.toNat 2 = 2 from rfl] at q
  unfold partV
  by_cases h1 : a + 2 ≤ s.length
  · simp only [if_pos h1] at q ⊢
    have hn : numAt s a 2 < 65536 := by
      have := be_lt ((s.drop a).take 2)
      rw [List.length_take, List.length_drop, Nat.min_eq_left (by omega)] at this
      exact this
    have w1 : IntKind.i64.wrap ((a : Int) + 2) = ((a + 2 : Nat) : Int) := by rw [wrap_i64 (by omega) (by omega)]; omega
    have w2 : IntKind.i64.wrap (((a + 2 : Nat) : Int) + ((numAt s a 2 : Nat) : Int)) = ((a + 2 + numAt s a 2 : Nat) : Int) := by rw [wrap_i64 (by omega) (by omega)]; omega
    have w3 : IntKind.i64.wrap (2 + ((numAt s a 2 : Nat) : Int)) = ((2 + numAt s a 2 : Nat) : Int) := by rw [wrap_i64 (by omega) (by omega)]; omega
    by_cases h2 : a + 2 + numAt s a 2 ≤ s.length
    · rw [if_pos h2]
      have d1 : decide ((s.length : Int) < ((a + 2 + numAt s a 2 : Nat) : Int)) = false := decide_eq_false (by omega)
      have hb : boundsA s.length s.length (some (.int .i64 ((a + 2 : Nat) : Int))) (some (.int .i64 ((a + 2 + numAt s a 2 : Nat) : Int))) = some (a + 2, a + 2 + numAt s a 2) := by
        simp only [boundsA, hiB, loB]
        rw [if_pos (by omega)]
        simp only [Int.toNat_natCast]
        rw [if_pos (by omega)]
      have hdt : List.drop (a + 2) (List.take (a + 2 + numAt s a 2) s) = List.take (numAt s a 2) (List.drop (a + 2) s) := by rw [List.drop_take, Nat.add_sub_cancel_left]
      (repeat' (first | refine To.seq hxE4 ?_ | refine To.op0 hxE4 (by simp only [go_sem, eqs hxE4, reduceIte, Nat.reduceEqDiff, Nat.reduceAdd, Nat.reduceMul, Nat.reduceLT, Nat.reduceLeDiff, Int.reduceBEq, Int.reduceBNe, q, w1, w2, w3, d1, hb]; rfl) ?_ | refine To.nop hxE4 ?_ | (refine To.condF hxE4 ?_ ?_; focus (simp only [go_sem, eqs hxE4, reduceIte, Nat.reduceEqDiff, Nat.reduceAdd, Nat.reduceMul, Nat.reduceLT, Nat.reduceLeDiff, Int.reduceBEq, Int.reduceBNe, q, w1, w2, w3, d1, hb]; done)) | refine To.ret hxE4 ?_ | refine To.skip hxE4 ?_))
      refine ⟨_, _, fin3 (i := 4) (j := 5) (k := 6) rfl, ?_, ?_⟩
      · simp only [go_sem, eqs hxE4, reduceIte, Nat.reduceEqDiff, Nat.reduceAdd, Nat.reduceMul, Nat.reduceLT, Nat.reduceLeDiff, Int.reduceBEq, Int.reduceBNe, hdt]
      · simp only [go_sem, eqs hxE4, reduceIte, Nat.reduceEqDiff, Nat.reduceAdd, Nat.reduceMul, Nat.reduceLT, Nat.reduceLeDiff, Int.reduceBEq, Int.reduceBNe]
    · rw [if_neg h2]
      have d1 : decide ((s.length : Int) < ((a + 2 + numAt s a 2 : Nat) : Int)) = true := decide_eq_true (by omega)
      (repeat' (first | refine To.seq hxE4 ?_ | refine To.op0 hxE4 (by simp only [go_sem, eqs hxE4, reduceIte, Nat.reduceEqDiff, Nat.reduceAdd, Nat.reduceMul, Nat.reduceLT, Nat.reduceLeDiff, Int.reduceBEq, Int.reduceBNe, q, w1, w2, w3, d1]; rfl) ?_ | refine To.nop hxE4 ?_ | (refine To.condT hxE4 ?_ ?_; focus (simp only [go_sem, eqs hxE4, reduceIte, Nat.reduceEqDiff, Nat.reduceAdd, Nat.reduceMul, Nat.reduceLT, Nat.reduceLeDiff, Int.reduceBEq, Int.reduceBNe, q, w1, w2, w3, d1]; done)) | refine To.ret hxE4 ?_))
      refine ⟨_, _, fin3 (i := 4) (j := 5) (k := 6) rfl, ?_, ?_⟩
      · simp only [go_sem, eqs hxE4, reduceIte, Nat.reduceEqDiff, Nat.reduceAdd, Nat.reduceMul, Nat.reduceLT, Nat.reduceLeDiff, Int.reduceBEq, Int.reduceBNe]
      · simp only [go_sem, eqs hxE4, reduceIte, Nat.reduceEqDiff, Nat.reduceAdd, Nat.reduceMul, Nat.reduceLT, Nat.reduceLeDiff, Int.reduceBEq, Int.reduceBNe]
  · simp only [if_neg h1] at q ⊢
    (repeat' (first | refine To.seq hxE4 ?_ | refine To.op0 hxE4 (by simp only [go_sem, eqs hxE4, reduceIte, Nat.reduceEqDiff, Nat.reduceAdd, Nat.reduceMul, Nat.reduceLT, Nat.reduceLeDiff, Int.reduceBEq, Int.reduceBNe, q]; rfl) ?_ | refine To.nop hxE4 ?_ | (refine To.condT hxE4 ?_ ?_; focus (simp only [go_sem, eqs hxE4, reduceIte, Nat.reduceEqDiff, Nat.reduceAdd, Nat.reduceMul, Nat.reduceLT, Nat.reduceLeDiff, Int.reduceBEq, Int.reduceBNe, q]; done)) | refine To.ret hxE4 ?_))
    refine ⟨_, _, fin3 (i := 4) (j := 5) (k := 6) rfl, ?_, ?_⟩
    · simp only [go_sem, eqs hxE4, reduceIte, Nat.reduceEqDiff, Nat.reduceAdd, Nat.reduceMul, Nat.reduceLT, Nat.reduceLeDiff, Int.reduceBEq, Int.reduceBNe]
    · simp only [go_sem, eqs hxE4, reduceIte, Nat.reduceEqDiff, Nat.reduceAdd, Nat.reduceMul, Nat.reduceLT, Nat.reduceLeDiff, Int.reduceBEq, Int.reduceBNe]
theorem partV_plain (s : List UInt8) (a : Nat) : (partV s a).plain = true := by
  unfold partV; split
  · split <;> rfl
  · rfl
theorem okPart : SpOk FF E4 63 tPart := by
  intro args v h hpl
  unfold tPart at h
  split at h
  · rename_i s a
    split at h
    · rename_i hc
      cases h
      obtain ⟨a, rfl⟩ : ∃ b : Nat, a = (b : Int) := ⟨a.toNat, by omega⟩
      obtain ⟨r, oh, q, rfl, rfl⟩ := part_den s a (by omega) (by omega)
      exact ⟨partV_plain _ _, _, q⟩
    · cases h
  · cases h
def g5 : Nat → Option Ans := addG g4 [(61, tText), (63, tPart), (12, tRight), (20, tNRight), (18, tNRight)]
def E5 : ExtF := plainExt g5
theorem hxE5 : ExtMono E5 := plainExt_mono g5
theorem sndE5 : ExtSound Try.prog E5 := addG_sound mixed ffok sndE4 (by
  intro p hp
  simp only [List.mem_cons, List.not_mem_nil, or_false] at hp
  rcases hp with rfl | rfl | rfl | rfl | rfl
  · exact okText
  · exact okPart
  · exact okRRight
  · exact okNRight
  · exact okRNRight)
theorem E5_none {f : Nat} (h : g5 f = none) (c : CallF) : E5 c f = none := plainExt_none h c
theorem eContains_5 (s : List UInt8) (c : UInt8) (h : Heap) : Den FF E5 79 [.str s, .str [c]] h = some (.val (.bool (s.contains c)), none) := den_plain (sp := tContains) h rfl (by rfl) (by first | (simp [V.plains, V.plain, bytesA_plains]; done) | rfl)
theorem eAwake24_5 (_ : Unit) (h : Heap) : Den FF E5 27 [] h = some (.val (.bool true), none) := den_plain (sp := tAwake) h rfl (by rfl) (by first | (simp [V.plains, V.plain, bytesA_plains]; done) | rfl)
theorem eAwake23_5 (_ : Unit) (h : Heap) : Den FF E5 11 [] h = some (.val (.bool true), none) := den_plain (sp := tAwake) h rfl (by rfl) (by first | (simp [V.plains, V.plain, bytesA_plains]; done) | rfl)
theorem eIn_5 (n lo hi : Int) (h : Heap) : Den FF E5 65 [.int .i64 n, .int .i64 lo, .int .i64 hi] h = some (.val (.bool (inB n lo hi)), none) := den_plain (sp := tIn) h rfl (by rfl) (by first | (simp [V.plains, V.plain, bytesA_plains]; done) | rfl)
theorem eTakes_5 (id op ino oth n m : Int) (nm tx : List UInt8) (h : Heap) : Den FF E5 54 [.agg [.int .i64 id, .int .i64 op, .int .i64 ino, .int .i64 oth, .int .i64 n, .int .i64 m, .str nm, .str tx]] h = some (.val (.tuple [.agg (takesF id op ino oth n m nm tx), .bool (isOp op)]), none) := den_plain (sp := tTakes) h rfl (by rfl) (by first | (simp [V.plains, V.plain, bytesA_plains]; done) | rfl)
theorem eWAttr_5 (a0 a1 a2 a3 a4 a5 : Int) (h : Heap) : Den FF E5 25 [.agg [.int .i64 a0, .int .i64 a1, .int .i64 a2, .int .i64 a3, .int .i64 a4, .int .i64 a5]] h = some (.val (.bool (attrB a0 a1 a2 a3 a4 a5)), none) := den_plain (sp := tAttr) h rfl (by rfl) (by first | (simp [V.plains, V.plain, bytesA_plains]; done) | rfl)
theorem eRAttr_5 (a0 a1 a2 a3 a4 a5 : Int) (h : Heap) : Den FF E5 24 [.agg [.int .i64 a0, .int .i64 a1, .int .i64 a2, .int .i64 a3, .int .i64 a4, .int .i64 a5]] h = some (.val (.bool (attrB a0 a1 a2 a3 a4 a5)), none) := den_plain (sp := tAttr) h rfl (by rfl) (by first | (simp [V.plains, V.plain, bytesA_plains]; done) | rfl)
theorem eNum1_5 (n : Int) (h : Heap) : Den FF E5 77 [.int .i64 n] h = some (.val (.bool (!numB n)), none) := den_plain (sp := tNum1) h rfl (by rfl) (by first | (simp [V.plains, V.plain, bytesA_plains]; done) | rfl)
theorem eRight_5 (id op ino oth n m : Int) (nm tx : List UInt8) (h : Heap) : Den FF E5 14 [.agg [.int .i64 id, .int .i64 op, .int .i64 ino, .int .i64 oth, .int .i64 n, .int .i64 m, .str nm, .str tx]] h = some (.val (.bool (rightR id op ino oth n m nm tx)), none) := den_plain (sp := tRight) h rfl (by rfl) (by first | (simp [V.plains, V.plain, bytesA_plains]; done) | rfl)
theorem eNumD_5 (n : Int) (h : Heap) : Den FF E5 48 [.int .i64 n] h = some (.val (.bool (numB n)), none) := den_plain (sp := tNumD) h rfl (by rfl) (by first | (simp [V.plains, V.plain, bytesA_plains]; done) | rfl)
theorem eBig_5 (n s : Int) (hc : 0 ≤ n ∧ n ≤ 9223372036854775807 ∧ 0 ≤ s ∧ s ≤ 8) (h : Heap) : Den FF E5 60 [.int .i64 n, .int .i64 s] h = some (.val (.str (bigF n s)), none) := den_plain (sp := tBig) h rfl (by exact if_pos hc) (by first | (simp [V.plains, V.plain, bytesA_plains]; done) | rfl)
theorem eNumber_5 (s : List UInt8) (a z : Int) (hc : 0 ≤ a ∧ a ≤ 1000000 ∧ 0 ≤ z ∧ z ≤ 4 ∧ s.length ≤ 1000000) (h : Heap) : Den FF E5 62 [.str s, .int .i64 a, .int .i64 z] h = some (.val ((if a.toNat + z.toNat ≤ s.length then .tuple [.int .i64 (numAt s a.toNat z.toNat), .bool true] else .tuple [.int .i64 0, .bool false])), none) := den_plain (sp := tNumber) h rfl (by exact if_pos hc) (by first | (simp [V.plains, V.plain, bytesA_plains]; done) | rfl)
theorem eCheck_5 (s : List UInt8) (h : Heap) : Den FF E5 66 [.str s] h = some (.val (.int .i64 (checkN s)), none) := den_plain (sp := tCheck) h rfl (by rfl) (by first | (simp [V.plains, V.plain, bytesA_plains]; done) | rfl)
theorem eRCheck_5 (s : List UInt8) (h : Heap) : Den FF E5 64 [.str s] h = some (.val (.int .i64 (checkN s)), none) := den_plain (sp := tCheck) h rfl (by rfl) (by first | (simp [V.plains, V.plain, bytesA_plains]; done) | rfl)
theorem eText_5 (s : List UInt8) (hc : s.length ≤ 1000000) (h : Heap) : Den FF E5 61 [.str s] h = some (.val (.str (textB s)), none) := den_plain (sp := tText) h rfl (by exact if_pos hc) (by first | (simp [V.plains, V.plain, bytesA_plains]; done) | rfl)
theorem ePart_5 (s : List UInt8) (a : Int) (hc : 0 ≤ a ∧ a ≤ 900000 ∧ s.length ≤ 900000) (h : Heap) : Den FF E5 63 [.str s, .int .i64 a] h = some (.val (partV s a.toNat), none) := den_plain (sp := tPart) h rfl (by exact if_pos hc) (by first | (simp [V.plains, V.plain, bytesA_plains]; done) | rfl)
theorem eRRight_5 (id op ino oth n m : Int) (nm tx : List UInt8) (h : Heap) : Den FF E5 12 [.agg [.int .i64 id, .int .i64 op, .int .i64 ino, .int .i64 oth, .int .i64 n, .int .i64 m, .str nm, .str tx]] h = some (.val (.bool (rightR id op ino oth n m nm tx)), none) := den_plain (sp := tRight) h rfl (by rfl) (by first | (simp [V.plains, V.plain, bytesA_plains]; done) | rfl)
theorem eNRight_5 (k i : Int) (nm : List UInt8) (h : Heap) : Den FF E5 20 [.agg [.int .i64 k, .int .i64 i, .str nm]] h = some (.val (.bool (rightN k i nm)), none) := den_plain (sp := tNRight) h rfl (by rfl) (by first | (simp [V.plains, V.plain, bytesA_plains]; done) | rfl)
theorem eRNRight_5 (k i : Int) (nm : List UInt8) (h : Heap) : Den FF E5 18 [.agg [.int .i64 k, .int .i64 i, .str nm]] h = some (.val (.bool (rightN k i nm)), none) := den_plain (sp := tNRight) h rfl (by rfl) (by first | (simp [V.plains, V.plain, bytesA_plains]; done) | rfl)
end Go.Proofs.Ytjbblfoefibeaaa

/- Queues: what a queue holds; its calls, one by one. -/
namespace Go.Proofs.Ytjbblfoefibeaaa
open Go AM
set_option linter.unusedSimpArgs false
set_option linter.unusedVariables false
set_option maxRecDepth 100000

theorem To.sel {F : Nat → Option AF} {ext : ExtF} (hx : ExtMono ext) {d : Option Nat} {snd : Option Opd} {ch : Opd} {z v : V} {ops : List AO} {S : Nat → V} {h h' : Heap} {Q : Ex → (Nat → V) → Heap → Prop}
    (hs : selA snd ch z S h = some (v, h')) (hk : To F ext (.region ops false) (putO S d v) h' Q) : To F ext (.sel d snd ch z ops) S h Q := by
  obtain ⟨x, S2, h2, e, q⟩ := hk
  exact ⟨x, S2, h2, by rw [eq_sel hx, hs]; exact e, q⟩

section
variable {α : Type}
theorem gs_ne {o : List α} {i j : Nat} {x : α} (h : i ≠ j) : (o.set i x)[j]? = o[j]? := List.getElem?_set_ne h
theorem gs_eq {o : List α} {i : Nat} {x : α} (h : i < o.length) : (o.set i x)[i]? = some x := List.getElem?_set_self h
theorem ga_lt {o r : List α} {j : Nat} (h : j < o.length) : (o ++ r)[j]? = o[j]? := List.getElem?_append_left h
theorem ga_0 {o r : List α} {n : Nat} (h : o.length = n) : (o ++ r)[n]? = r[0]? := by rw [List.getElem?_append_right (by omega), h, Nat.sub_self]
theorem ga_k {o r : List α} {n k : Nat} (h : o.length = n) : (o ++ r)[n + k]? = r[k]? := by rw [List.getElem?_append_right (by omega), h, Nat.add_sub_cancel_left]
theorem sa_lt {o r : List α} {i : Nat} {x : α} (h : i < o.length) : (o ++ r).set i x = o.set i x ++ r := List.set_append_left _ _ h
theorem sa_0 {o r : List α} {n : Nat} {x : α} (h : o.length = n) : (o ++ r).set n x = o ++ r.set 0 x := by rw [List.set_append_right _ _ (by omega), h, Nat.sub_self]
theorem sa_k {o r : List α} {n k : Nat} {x : α} (h : o.length = n) : (o ++ r).set (n + k) x = o ++ r.set k x := by rw [List.set_append_right _ _ (by omega), h, Nat.add_sub_cancel_left]
end

structure Rq where
  id : Int
  op : Int
  ino : Int
  oth : Int
  n : Int
  m : Int
  nm : List UInt8
  tx : List UInt8
structure Nt where
  k : Int
  i : Int
  nm : List UInt8
def Rq.cs (r : Rq) : List V := [.int .i64 r.id, .int .i64 r.op, .int .i64 r.ino, .int .i64 r.oth, .int .i64 r.n, .int .i64 r.m, .str r.nm, .str r.tx]
def Rq.v (r : Rq) : V := .agg r.cs
def Nt.cs (n : Nt) : List V := [.int .i64 n.k, .int .i64 n.i, .str n.nm]
def Nt.v (n : Nt) : V := .agg n.cs
def Nt.right (n : Nt) : Bool := rightN n.k n.i n.nm
def Rq.zero : Rq := ⟨0, 0, 0, 0, 0, 0, [], []⟩
def Nt.zero : Nt := ⟨0, 0, []⟩

theorem ne_of {o : List AM.Obj} {i j : Nat} {x y : AM.Obj} (hi : o[i]? = some x) (hj : o[j]? = some y) (h : x ≠ y) : i ≠ j := by
  intro e; subst e; rw [hi] at hj; cases hj; exact h rfl
def pqC (c1 c2 m1 m2 : Nat) (last : Int) (lost : Bool) : List V := [.chan c1, .chan c2, .map m1, .map m2, .int .i64 last, .bool lost]

/-- A queue and what it has. -/
structure PQ (o : List AM.Obj) (q c1 c2 m1 m2 : Nat) (rq ns : List V) (op wt : List (V × V)) (last : Int) (lost : Bool) : Prop where
  hq : o[q]? = some (.cells .ex 136 0 (pqC c1 c2 m1 m2 last lost))
  h1 : o[c1]? = some (.chan 8 rq)
  h2 : o[c2]? = some (.chan 16 ns)
  h3 : o[m1]? = some (.map op)
  h4 : o[m2]? = some (.map wt)
  hm : m1 ≠ m2

/-- The numbers of a queue's objects are apart, and there. -/
structure Ap (n q c1 c2 m1 m2 : Nat) : Prop where
  q1 : q ≠ c1
  q2 : q ≠ c2
  q3 : q ≠ m1
  q4 : q ≠ m2
  a1 : c1 ≠ q
  a2 : c1 ≠ c2
  a3 : c1 ≠ m1
  a4 : c1 ≠ m2
  b1 : c2 ≠ q
  b2 : c2 ≠ c1
  b3 : c2 ≠ m1
  b4 : c2 ≠ m2
  e1 : m1 ≠ q
  e2 : m1 ≠ c1
  e3 : m1 ≠ c2
  e4 : m1 ≠ m2
  f1 : m2 ≠ q
  f2 : m2 ≠ c1
  f3 : m2 ≠ c2
  f4 : m2 ≠ m1
  lq : q < n
  l1 : c1 < n
  l2 : c2 < n
  l3 : m1 < n
  l4 : m2 < n

section
variable {o o' o'' : List AM.Obj} {q c1 c2 m1 m2 : Nat} {rq ns : List V} {op wt : List (V × V)} {last : Int} {lost : Bool}
theorem PQ.ap (h : PQ o q c1 c2 m1 m2 rq ns op wt last lost) : Ap o.length q c1 c2 m1 m2 := by
  have a := ne_of h.hq h.h1 (by simp)
  have b := ne_of h.hq h.h2 (by simp)
  have c := ne_of h.hq h.h3 (by simp)
  have d := ne_of h.hq h.h4 (by simp)
  have e := ne_of h.h1 h.h2 (by simp)
  have f := ne_of h.h1 h.h3 (by simp)
  have g := ne_of h.h1 h.h4 (by simp)
  have i := ne_of h.h2 h.h3 (by simp)
  have j := ne_of h.h2 h.h4 (by simp)
  exact ⟨a, b, c, d, a.symm, e, f, g, b.symm, e.symm, i, j, c.symm, f.symm, i.symm, h.hm, d.symm, g.symm, j.symm, h.hm.symm, get_lt h.hq, get_lt h.h1, get_lt h.h2, get_lt h.h3, get_lt h.h4⟩
theorem PQ.c1' (h : PQ o q c1 c2 m1 m2 rq ns op wt last lost) (rq' : List V) : PQ (o.set c1 (.chan 8 rq')) q c1 c2 m1 m2 rq' ns op wt last lost := by
  have A := h.ap
  exact ⟨(gs_ne A.a1).trans h.hq, gs_eq A.l1, (gs_ne A.a2).trans h.h2, (gs_ne A.a3).trans h.h3, (gs_ne A.a4).trans h.h4, h.hm⟩
theorem PQ.c2' (h : PQ o q c1 c2 m1 m2 rq ns op wt last lost) (ns' : List V) : PQ (o.set c2 (.chan 16 ns')) q c1 c2 m1 m2 rq ns' op wt last lost := by
  have A := h.ap
  exact ⟨(gs_ne A.b1).trans h.hq, (gs_ne A.b2).trans h.h1, gs_eq A.l2, (gs_ne A.b3).trans h.h3, (gs_ne A.b4).trans h.h4, h.hm⟩
theorem PQ.m1' (h : PQ o q c1 c2 m1 m2 rq ns op wt last lost) (op' : List (V × V)) : PQ (o.set m1 (.map op')) q c1 c2 m1 m2 rq ns op' wt last lost := by
  have A := h.ap
  exact ⟨(gs_ne A.e1).trans h.hq, (gs_ne A.e2).trans h.h1, (gs_ne A.e3).trans h.h2, gs_eq A.l3, (gs_ne A.e4).trans h.h4, h.hm⟩
theorem PQ.m2' (h : PQ o q c1 c2 m1 m2 rq ns op wt last lost) (wt' : List (V × V)) : PQ (o.set m2 (.map wt')) q c1 c2 m1 m2 rq ns op wt' last lost := by
  have A := h.ap
  exact ⟨(gs_ne A.f1).trans h.hq, (gs_ne A.f2).trans h.h1, (gs_ne A.f3).trans h.h2, (gs_ne A.f4).trans h.h3, gs_eq A.l4, h.hm⟩
theorem PQ.q' (h : PQ o q c1 c2 m1 m2 rq ns op wt last lost) (last' : Int) (lost' : Bool) : PQ (o.set q (.cells .ex 136 0 (pqC c1 c2 m1 m2 last' lost'))) q c1 c2 m1 m2 rq ns op wt last' lost' := by
  have A := h.ap
  exact ⟨gs_eq A.lq, (gs_ne A.q1).trans h.h1, (gs_ne A.q2).trans h.h2, (gs_ne A.q3).trans h.h3, (gs_ne A.q4).trans h.h4, h.hm⟩
theorem PQ.of (h : PQ o q c1 c2 m1 m2 rq ns op wt last lost) (hk : ∀ x, x = q ∨ x = c1 ∨ x = c2 ∨ x = m1 ∨ x = m2 → o'[x]? = o[x]?) : PQ o' q c1 c2 m1 m2 rq ns op wt last lost :=
  ⟨(hk _ (.inl rfl)).trans h.hq, (hk _ (.inr (.inl rfl))).trans h.h1, (hk _ (.inr (.inr (.inl rfl)))).trans h.h2, (hk _ (.inr (.inr (.inr (.inl rfl))))).trans h.h3, (hk _ (.inr (.inr (.inr (.inr rfl))))).trans h.h4, h.hm⟩
theorem Ap.lt {n x : Nat} (A : Ap n q c1 c2 m1 m2) (h : x = q ∨ x = c1 ∨ x = c2 ∨ x = m1 ∨ x = m2) : x < n := by
  rcases h with rfl | rfl | rfl | rfl | rfl
  · exact A.lq
  · exact A.l1
  · exact A.l2
  · exact A.l3
  · exact A.l4
theorem PQ.app (h : PQ o q c1 c2 m1 m2 rq ns op wt last lost) (r : List AM.Obj) : PQ (o ++ r) q c1 c2 m1 m2 rq ns op wt last lost := by
  have A := h.ap
  exact h.of fun x hx => ga_lt (A.lt hx)
theorem PQ.take (h : PQ o q c1 c2 m1 m2 rq ns op wt last lost) {n : Nat} (A : Ap n q c1 c2 m1 m2) : PQ (o.take n) q c1 c2 m1 m2 rq ns op wt last lost :=
  h.of fun x hx => List.getElem?_take_of_lt (A.lt hx)
theorem PQ.old (h : PQ o q c1 c2 m1 m2 rq ns op wt last lost) {i : Nat} {y : AM.Obj} (hi : i ≠ q ∧ i ≠ c1 ∧ i ≠ c2 ∧ i ≠ m1 ∧ i ≠ m2) : PQ (o.set i y) q c1 c2 m1 m2 rq ns op wt last lost :=
  h.of fun x hx => gs_ne (by
    obtain ⟨a, b, c, d, e⟩ := hi
    rcases hx with rfl | rfl | rfl | rfl | rfl <;> assumption)
end

/-- All but a queue's own objects is as it was. -/
structure Qx (q c1 c2 m1 m2 : Nat) (o o' : List AM.Obj) : Prop where
  len : o.length ≤ o'.length
  get : ∀ x, x < o.length → x ≠ q → x ≠ c1 → x ≠ c2 → x ≠ m1 → x ≠ m2 → o'[x]? = o[x]?
section
variable {o o' o'' : List AM.Obj} {q c1 c2 m1 m2 : Nat}
theorem Qx.refl : Qx q c1 c2 m1 m2 o o := ⟨Nat.le_refl _, fun _ _ _ _ _ _ _ => rfl⟩
theorem Qx.trans (h : Qx q c1 c2 m1 m2 o o') (k : Qx q c1 c2 m1 m2 o' o'') : Qx q c1 c2 m1 m2 o o'' :=
  ⟨Nat.le_trans h.len k.len, fun x hx a b c d e => (k.get x (Nat.lt_of_lt_of_le hx h.len) a b c d e).trans (h.get x hx a b c d e)⟩
theorem Qx.set {i : Nat} {y : AM.Obj} (hi : i = q ∨ i = c1 ∨ i = c2 ∨ i = m1 ∨ i = m2) : Qx q c1 c2 m1 m2 o (o.set i y) := by
  refine ⟨by simp, fun x hx a b c d e => gs_ne ?_⟩
  rintro rfl
  rcases hi with h | h | h | h | h
  · exact a h
  · exact b h
  · exact c h
  · exact d h
  · exact e h
theorem Qx.app (r : List AM.Obj) : Qx q c1 c2 m1 m2 o (o ++ r) := ⟨by simp, fun x hx _ _ _ _ _ => ga_lt hx⟩
theorem Qx.new {i : Nat} {y : AM.Obj} (h : Qx q c1 c2 m1 m2 o o') (hi : o.length ≤ i) : Qx q c1 c2 m1 m2 o (o'.set i y) :=
  ⟨by simpa using h.len, fun x hx a b c d e => (gs_ne (by omega)).trans (h.get x hx a b c d e)⟩
theorem Qx.take (h : Qx q c1 c2 m1 m2 o o') : Qx q c1 c2 m1 m2 o (o'.take o.length) :=
  ⟨by rw [List.length_take]; have := h.len; omega, fun x hx a b c d e => (List.getElem?_take_of_lt hx).trans (h.get x hx a b c d e)⟩
end

theorem finQT {a : AF} {h : Heap} {S : Nat → V} {h' : Heap} {i n j l o : Nat} {cs : List V} (hr : a.res = [.c i (some n), .t j]) (hS : S i = .ptr l o) (hg : h'.gets l o n = some cs) :
    finish a h (some (.ret, S, h')) = some (.val (.tuple [.agg cs, S j]), leave h h' (.tuple [.agg cs, S j])) := by
  have e : Slots.get S i = .ptr l o := hS
  simp only [finish, hr, resAll, resOne, resV, e, hg, Option.map_some]; rfl
theorem leave_turn {o o1 r : List AM.Obj} {e d e' d' : Nat} {v : V} (h1 : o1.length = o.length) (he : o.length ≤ e') (hd : d' < o.length) (hv : v.plain = true) : leave ⟨o, e, d⟩ ⟨o1 ++ r, e', d'⟩ v = some ⟨o1, e, min d d'⟩ := by
  unfold leave
  rw [if_pos ⟨he, hv⟩]
  simp only
  rw [if_neg (by omega), List.take_left' h1]
theorem close_q {h' : Heap} {v : V} {o : List AM.Obj} {e d q c1 c2 m1 m2 : Nat} {rq ns : List V} {op wt : List (V × V)} {last : Int} {lost : Bool} (A : Ap o.length q c1 c2 m1 m2) (hP : PQ h'.o q c1 c2 m1 m2 rq ns op wt last lost) (hQ : Qx q c1 c2 m1 m2 o h'.o) (he : o.length ≤ h'.e) (hv : v.plain = true)
    (hd : h'.d < o.length ∨ PQ o q c1 c2 m1 m2 rq ns op wt last lost) : ∃ o' d', (leave ⟨o, e, d⟩ h' v).getD ⟨o, e, d⟩ = ⟨o', e, d'⟩ ∧ PQ o' q c1 c2 m1 m2 rq ns op wt last lost ∧ Qx q c1 c2 m1 m2 o o' := by
  unfold leave
  rw [if_pos ⟨he, hv⟩]
  by_cases hl : o.length ≤ h'.d
  · rw [if_pos hl]
    rcases hd with hd | hd
    · omega
    · exact ⟨o, d, rfl, hd, Qx.refl⟩
  · rw [if_neg hl]
    exact ⟨_, _, rfl, hP.take A, hQ.take⟩

theorem mapPut_new {k : Int} {x : V} : ∀ {es : List (V × V)}, (∀ e ∈ es, ∃ j, e.1 = .int .i64 j ∧ j ≠ k) → mapPut .i (.int .i64 k) x es = some (es ++ [(.int .i64 k, x)])
  | [], _ => rfl
  | (a, b) :: r, h => by
    obtain ⟨j, hj, hne⟩ := h _ List.mem_cons_self
    simp only at hj
    subst hj
    have hk : (k == j) = false := by simp; exact fun e => hne e.symm
    simp only [mapPut, eqK, if_true, hk, mapPut_new (fun e he => h e (List.mem_cons_of_mem _ he)), List.cons_append]

def Rq.at_ (r : Rq) (id : Int) : Rq := { r with id := id }
end Go.Proofs.Ytjbblfoefibeaaa

/- Queues: take, answer, cancel, hear, and what is told of a queue. -/
namespace Go.Proofs.Ytjbblfoefibeaaa
open Go AM
set_option linter.unusedSimpArgs false
set_option linter.unusedVariables false
set_option maxRecDepth 100000

def entW (l : List Int) : List (V × V) := l.map fun i => (.int .i64 i, .bool true)
def entO (l : List (Int × Int)) : List (V × V) := l.map fun i => (.int .i64 i.1, .int .i64 i.2)
theorem find_W (k : Int) : ∀ l : List Int, mapFind .i (.int .i64 k) (entW l) = some (if l.contains k = true then some (.bool true) else none)
  | [] => rfl
  | a :: l => by
    have e : entW (a :: l) = (.int .i64 a, .bool true) :: entW l := rfl
    rw [e]
    by_cases h : k = a
    · subst h; simp [mapFind, eqK]
    · have h1 : (k == a) = false := by simp [h]
      simp only [mapFind, eqK, if_true, h1, find_W k l]
      simp only [List.contains_cons, h1, Bool.false_or]
theorem drop_W (k : Int) : ∀ l : List Int, mapDrop .i (.int .i64 k) (entW l) = some (entW (l.erase k))
  | [] => rfl
  | a :: l => by
    have e : entW (a :: l) = (.int .i64 a, .bool true) :: entW l := rfl
    rw [e]
    by_cases h : k = a
    · subst h; simp [mapDrop, eqK]
    · have h1 : (k == a) = false := by simp [h]
      have h2 : (a == k) = false := by simp; exact fun e => h e.symm
      simp only [mapDrop, eqK, if_true, h1, drop_W k l, List.erase_cons, h2, Bool.false_eq_true, if_false]
      rfl
/-- What is led to by a number. -/
def lookO (k : Int) : List (Int × Int) → Option Int
  | [] => none
  | (a, b) :: l => if k = a then some b else lookO k l
def eraseO (k : Int) : List (Int × Int) → List (Int × Int)
  | [] => []
  | (a, b) :: l => if k = a then l else (a, b) :: eraseO k l
theorem find_O (k : Int) : ∀ l : List (Int × Int), mapFind .i (.int .i64 k) (entO l) = some ((lookO k l).map (V.int .i64))
  | [] => rfl
  | (a, b) :: l => by
    have e : entO ((a, b) :: l) = (.int .i64 a, .int .i64 b) :: entO l := rfl
    rw [e]
    by_cases h : k = a
    · subst h; simp [mapFind, eqK, lookO]
    · have h1 : (k == a) = false := by simp [h]
      simp only [mapFind, eqK, if_true, h1, find_O k l, lookO, if_neg h]
theorem drop_O (k : Int) : ∀ l : List (Int × Int), mapDrop .i (.int .i64 k) (entO l) = some (entO (eraseO k l))
  | [] => rfl
  | (a, b) :: l => by
    have e : entO ((a, b) :: l) = (.int .i64 a, .int .i64 b) :: entO l := rfl
    rw [e]
    by_cases h : k = a
    · subst h; simp [mapDrop, eqK, eraseO]
    · have h1 : (k == a) = false := by simp [h]
      simp only [mapDrop, eqK, if_true, h1, drop_O k l, eraseO, if_neg h]
      rfl

section
variable {o : List AM.Obj} {e d q c1 c2 m1 m2 : Nat} {rq ns : List V} {op wt : List (V × V)} {last : Int} {lost : Bool}

set_option maxHeartbeats 4000000 in
theorem next_nil (h : PQ o q c1 c2 m1 m2 [] ns op wt last lost) :
    ∃ v oh, Den FF E5 72 [.ptr q 0] ⟨o, e, d⟩ = some (v, oh) ∧ v = .val (.tuple [Rq.zero.v, .bool false]) ∧ oh = none := by
  refine To.denE hxE5 (f := 72) (a := af72) rfl (E5_none rfl) (Nat.le_of_ble_eq_true rfl) ?_
  have hP := h
  obtain ⟨hq, h1, h2, h3, h4, hm⟩ := h
  have A := hP.ap
  unfold pqC at hq
  (repeat' (first | refine To.seq hxE5 ?_ | refine To.op0 hxE5 (by simp only [go_sem, eqs hxE5, reduceIte, Nat.reduceEqDiff, Nat.reduceAdd, Nat.reduceMul, Nat.reduceLT, Nat.reduceLeDiff, Int.reduceBEq, Int.reduceBNe, Heap.gets, Heap.sets, Heap.get, bytesA_length, bytesA_one, bytesA_plains, List.take_of_length_le, List.drop_of_length_le, Nat.add_zero, V.one, Nat.reduceLeDiff, List.all_cons, List.all_nil, ne_eq, not_false_eq_true, Nat.zero_le, gs_ne, gs_eq, ga_lt, ga_0, ga_k, sa_lt, sa_0, sa_k, A.lq, A.l1, List.length_set, Heap.setMap, hq, h1]; rfl) ?_ | refine To.op1 hxE5 (by simp only [go_sem, eqs hxE5, reduceIte, Nat.reduceEqDiff, Nat.reduceAdd, Nat.reduceMul, Nat.reduceLT, Nat.reduceLeDiff, Int.reduceBEq, Int.reduceBNe, Heap.gets, Heap.sets, Heap.get, bytesA_length, bytesA_one, bytesA_plains, List.take_of_length_le, List.drop_of_length_le, Nat.add_zero, V.one, Nat.reduceLeDiff, List.all_cons, List.all_nil, ne_eq, not_false_eq_true, Nat.zero_le, gs_ne, gs_eq, ga_lt, ga_0, ga_k, sa_lt, sa_0, sa_k, A.lq, A.l1, List.length_set, Heap.setMap, hq, h1]; rfl) ?_ | refine To.sel hxE5 (by simp only [selA, go_sem, eqs hxE5, reduceIte, Nat.reduceEqDiff, Nat.reduceAdd, Nat.reduceMul, Nat.reduceLT, Nat.reduceLeDiff, Int.reduceBEq, Int.reduceBNe, Heap.gets, Heap.sets, Heap.get, bytesA_length, bytesA_one, bytesA_plains, List.take_of_length_le, List.drop_of_length_le, Nat.add_zero, V.one, Nat.reduceLeDiff, List.all_cons, List.all_nil, ne_eq, not_false_eq_true, Nat.zero_le, gs_ne, gs_eq, ga_lt, ga_0, ga_k, sa_lt, sa_0, sa_k, A.lq, A.l1, List.length_set, Heap.setMap, hq, h1]; rfl) ?_ | refine To.nop hxE5 ?_ | (refine To.condF hxE5 ?_ ?_; focus (simp only [go_sem, eqs hxE5, reduceIte, Nat.reduceEqDiff, Nat.reduceAdd, Nat.reduceMul, Nat.reduceLT, Nat.reduceLeDiff, Int.reduceBEq, Int.reduceBNe, Heap.gets, Heap.sets, Heap.get, bytesA_length, bytesA_one, bytesA_plains, List.take_of_length_le, List.drop_of_length_le, Nat.add_zero, V.one, Nat.reduceLeDiff, List.all_cons, List.all_nil, ne_eq, not_false_eq_true, Nat.zero_le, gs_ne, gs_eq, ga_lt, ga_0, ga_k, sa_lt, sa_0, sa_k, A.lq, A.l1, List.length_set, Heap.setMap, hq, h1]; done)) | refine To.block hxE5 ?_ | refine To.ret hxE5 ?_))
  refine ⟨_, _, finQT (i := 2) (n := 8) (j := 3) (l := o.length) (o := 0) rfl (by simp only [go_sem, eqs hxE5, reduceIte, Nat.reduceEqDiff, Nat.reduceAdd, Nat.reduceMul, Nat.reduceLT, Nat.reduceLeDiff, Int.reduceBEq, Int.reduceBNe]) (by simp only [go_sem, eqs hxE5, reduceIte, Nat.reduceEqDiff, Nat.reduceAdd, Nat.reduceMul, Nat.reduceLT, Nat.reduceLeDiff, Int.reduceBEq, Int.reduceBNe, Heap.gets, Heap.sets, Heap.get, bytesA_length, bytesA_one, bytesA_plains, List.take_of_length_le, List.drop_of_length_le, Nat.add_zero, V.one, Nat.reduceLeDiff, List.all_cons, List.all_nil, ne_eq, not_false_eq_true, Nat.zero_le]; rfl), ?_, ?_⟩
  · simp only [go_sem, eqs hxE5, reduceIte, Nat.reduceEqDiff, Nat.reduceAdd, Nat.reduceMul, Nat.reduceLT, Nat.reduceLeDiff, Int.reduceBEq, Int.reduceBNe]; rfl
  · simp only [go_sem, eqs hxE5, reduceIte, Nat.reduceEqDiff, Nat.reduceAdd, Nat.reduceMul, Nat.reduceLT, Nat.reduceLeDiff, Int.reduceBEq, Int.reduceBNe]
set_option maxHeartbeats 4000000 in
theorem next_cons {r : Rq} (h : PQ o q c1 c2 m1 m2 (r.v :: rq) ns op wt last lost) :
    ∃ v oh, Den FF E5 72 [.ptr q 0] ⟨o, e, d⟩ = some (v, oh) ∧ v = .val (.tuple [r.v, .bool true]) ∧ ∃ d', d' ≤ c1 ∧ oh = some ⟨o.set c1 (.chan 8 rq), e, d'⟩ := by
  refine To.denE hxE5 (f := 72) (a := af72) rfl (E5_none rfl) (Nat.le_of_ble_eq_true rfl) ?_
  have hP := h
  obtain ⟨hq, h1, h2, h3, h4, hm⟩ := h
  have A := hP.ap
  unfold pqC at hq
  unfold Rq.v Rq.cs at h1 ⊢
  (repeat' (first | refine To.seq hxE5 ?_ | refine To.op0 hxE5 (by simp only [go_sem, eqs hxE5, reduceIte, Nat.reduceEqDiff, Nat.reduceAdd, Nat.reduceMul, Nat.reduceLT, Nat.reduceLeDiff, Int.reduceBEq, Int.reduceBNe, Heap.gets, Heap.sets, Heap.get, bytesA_length, bytesA_one, bytesA_plains, List.take_of_length_le, List.drop_of_length_le, Nat.add_zero, V.one, Nat.reduceLeDiff, List.all_cons, List.all_nil, ne_eq, not_false_eq_true, Nat.zero_le, gs_ne, gs_eq, ga_lt, ga_0, ga_k, sa_lt, sa_0, sa_k, A.lq, A.l1, A.a1, List.length_set, Heap.setMap, hq, h1]; rfl) ?_ | refine To.op1 hxE5 (by simp only [go_sem, eqs hxE5, reduceIte, Nat.reduceEqDiff, Nat.reduceAdd, Nat.reduceMul, Nat.reduceLT, Nat.reduceLeDiff, Int.reduceBEq, Int.reduceBNe, Heap.gets, Heap.sets, Heap.get, bytesA_length, bytesA_one, bytesA_plains, List.take_of_length_le, List.drop_of_length_le, Nat.add_zero, V.one, Nat.reduceLeDiff, List.all_cons, List.all_nil, ne_eq, not_false_eq_true, Nat.zero_le, gs_ne, gs_eq, ga_lt, ga_0, ga_k, sa_lt, sa_0, sa_k, A.lq, A.l1, A.a1, List.length_set, Heap.setMap, hq, h1]; rfl) ?_ | refine To.sel hxE5 (by simp only [selA, go_sem, eqs hxE5, reduceIte, Nat.reduceEqDiff, Nat.reduceAdd, Nat.reduceMul, Nat.reduceLT, Nat.reduceLeDiff, Int.reduceBEq, Int.reduceBNe, Heap.gets, Heap.sets, Heap.get, bytesA_length, bytesA_one, bytesA_plains, List.take_of_length_le, List.drop_of_length_le, Nat.add_zero, V.one, Nat.reduceLeDiff, List.all_cons, List.all_nil, ne_eq, not_false_eq_true, Nat.zero_le, gs_ne, gs_eq, ga_lt, ga_0, ga_k, sa_lt, sa_0, sa_k, A.lq, A.l1, A.a1, List.length_set, Heap.setMap, hq, h1]; rfl) ?_ | refine To.nop hxE5 ?_ | (refine To.condT hxE5 ?_ ?_; focus (simp only [go_sem, eqs hxE5, reduceIte, Nat.reduceEqDiff, Nat.reduceAdd, Nat.reduceMul, Nat.reduceLT, Nat.reduceLeDiff, Int.reduceBEq, Int.reduceBNe, Heap.gets, Heap.sets, Heap.get, bytesA_length, bytesA_one, bytesA_plains, List.take_of_length_le, List.drop_of_length_le, Nat.add_zero, V.one, Nat.reduceLeDiff, List.all_cons, List.all_nil, ne_eq, not_false_eq_true, Nat.zero_le, gs_ne, gs_eq, ga_lt, ga_0, ga_k, sa_lt, sa_0, sa_k, A.lq, A.l1, A.a1, List.length_set, Heap.setMap, hq, h1]; done)) | refine To.block hxE5 ?_ | refine To.ret hxE5 ?_))
  refine ⟨_, _, finQT (i := 2) (n := 8) (j := 3) (l := o.length) (o := 0) rfl (by simp only [go_sem, eqs hxE5, reduceIte, Nat.reduceEqDiff, Nat.reduceAdd, Nat.reduceMul, Nat.reduceLT, Nat.reduceLeDiff, Int.reduceBEq, Int.reduceBNe]) (by simp only [go_sem, eqs hxE5, reduceIte, Nat.reduceEqDiff, Nat.reduceAdd, Nat.reduceMul, Nat.reduceLT, Nat.reduceLeDiff, Int.reduceBEq, Int.reduceBNe, Heap.gets, Heap.sets, Heap.get, bytesA_length, bytesA_one, bytesA_plains, List.take_of_length_le, List.drop_of_length_le, Nat.add_zero, V.one, Nat.reduceLeDiff, List.all_cons, List.all_nil, ne_eq, not_false_eq_true, Nat.zero_le, ga_0, ga_k, List.length_set]; rfl), ?_, ?_⟩
  · simp only [go_sem, eqs hxE5, reduceIte, Nat.reduceEqDiff, Nat.reduceAdd, Nat.reduceMul, Nat.reduceLT, Nat.reduceLeDiff, Int.reduceBEq, Int.reduceBNe]
  · have := A.l1
    rw [leave_turn (by simp) (Nat.le_refl _) (by omega) (by simp only [go_sem, eqs hxE5, reduceIte, Nat.reduceEqDiff, Nat.reduceAdd, Nat.reduceMul, Nat.reduceLT, Nat.reduceLeDiff, Int.reduceBEq, Int.reduceBNe])]
    exact ⟨_, by omega, rfl⟩

/-- What is taken: the first that waits still; the rest. -/
def takeF (W : List Int) : List Rq → Option Rq × List Rq
  | [] => (none, [])
  | r :: t => if W.contains r.id = true then (some r, t) else takeF W t
def takeVal : Option Rq → V
  | none => .tuple [Rq.zero.v, .bool false]
  | some r => .tuple [r.v, .bool true]
def takeW (W : List Int) : Option Rq → List Int
  | none => W
  | some r => W.erase r.id
def takeO (O : List (Int × Int)) : Option Rq → List (Int × Int)
  | none => O
  | some r => O ++ [(r.id, r.op)]

set_option maxHeartbeats 8000000 in
theorem take_q {L : List Rq} {W : List Int} {O : List (Int × Int)} (h : PQ o q c1 c2 m1 m2 (L.map Rq.v) ns (entO O) (entW W) last lost) (hO : ∀ r ∈ L, ∀ x ∈ O, x.1 ≠ r.id) :
    ∃ v oh, Den FF E5 31 [.ptr q 0] ⟨o, e, d⟩ = some (v, oh) ∧ v = .val (takeVal (takeF W L).1) ∧ ∃ o' d', oh.getD ⟨o, e, d⟩ = ⟨o', e, d'⟩ ∧
      PQ o' q c1 c2 m1 m2 ((takeF W L).2.map Rq.v) ns (entO (takeO O (takeF W L).1)) (entW (takeW W (takeF W L).1)) last lost ∧ Qx q c1 c2 m1 m2 o o' := by
  refine To.denE hxE5 (f := 31) (a := af31) rfl (E5_none rfl) (Nat.le_of_ble_eq_true rfl) ?_
  have hP := h
  have A := hP.ap
  (repeat' (first | refine To.seq hxE5 ?_ | refine To.op0 hxE5 (by simp only [go_sem, eqs hxE5, reduceIte, Nat.reduceEqDiff, Nat.reduceAdd, Nat.reduceMul, Nat.reduceLT, Nat.reduceLeDiff, Int.reduceBEq, Int.reduceBNe]; rfl) ?_ | refine To.op1 hxE5 (by simp only [go_sem, eqs hxE5, reduceIte, Nat.reduceEqDiff, Nat.reduceAdd, Nat.reduceMul, Nat.reduceLT, Nat.reduceLeDiff, Int.reduceBEq, Int.reduceBNe]; rfl) ?_ | refine To.nop hxE5 ?_ | (refine To.condF hxE5 ?_ ?_; focus (simp only [go_sem, eqs hxE5, reduceIte, Nat.reduceEqDiff, Nat.reduceAdd, Nat.reduceMul, Nat.reduceLT, Nat.reduceLeDiff, Int.reduceBEq, Int.reduceBNe]; done)) | refine To.block hxE5 ?_ | refine To.skip hxE5 ?_))
  refine To.loop hxE5 (fun k S h' => ∃ L' o' e' d', k = L'.length ∧ h' = ⟨o', e', d'⟩ ∧ takeF W L' = takeF W L ∧ (∀ r ∈ L', r ∈ L) ∧ (L' = L ∨ d' < o.length) ∧ PQ o' q c1 c2 m1 m2 (L'.map Rq.v) ns (entO O) (entW W) last lost ∧ Qx q c1 c2 m1 m2 o o' ∧ o.length ≤ e' ∧ o'[o.length]? = some (.cells .ex 23 0 [.int .i64 0, .int .i64 0, .int .i64 0, .int .i64 0, .int .i64 0, .int .i64 0, .str [], .str []]) ∧ S 0 = .ptr q 0 ∧ S 2 = .ptr o.length 0) ?_ L.length _ _ ?_
  · rintro k S _ ⟨L', o', e', d', rfl, rfl, hT, hM, hD, hP', hQ', he', hz, s0, s2⟩
    have A' := hP'.ap
    have hlen := hQ'.len
    have hl2 := get_lt hz
    have n1 : o.length ≠ q := by have := A.lq; omega
    cases L' with
    | nil =>
      obtain ⟨v, oh, q1, rfl, rfl⟩ := next_nil (e := e') (d := d') hP'
      unfold Rq.v Rq.cs Rq.zero at q1
      (repeat' (first | refine To.seq hxE5 ?_ | refine To.op0 hxE5 (by simp only [go_sem, eqs hxE5, reduceIte, Nat.reduceEqDiff, Nat.reduceAdd, Nat.reduceMul, Nat.reduceLT, Nat.reduceLeDiff, Int.reduceBEq, Int.reduceBNe, Heap.gets, Heap.sets, Heap.get, bytesA_length, bytesA_one, bytesA_plains, List.take_of_length_le, List.drop_of_length_le, Nat.add_zero, V.one, Nat.reduceLeDiff, List.all_cons, List.all_nil, ne_eq, not_false_eq_true, Nat.zero_le, gs_ne, gs_eq, ga_lt, ga_0, ga_k, sa_lt, sa_0, sa_k, s0, s2, q1, hl2, hz, List.length_set]; rfl) ?_ | refine To.op1 hxE5 (by simp only [go_sem, eqs hxE5, reduceIte, Nat.reduceEqDiff, Nat.reduceAdd, Nat.reduceMul, Nat.reduceLT, Nat.reduceLeDiff, Int.reduceBEq, Int.reduceBNe, Heap.gets, Heap.sets, Heap.get, bytesA_length, bytesA_one, bytesA_plains, List.take_of_length_le, List.drop_of_length_le, Nat.add_zero, V.one, Nat.reduceLeDiff, List.all_cons, List.all_nil, ne_eq, not_false_eq_true, Nat.zero_le, gs_ne, gs_eq, ga_lt, ga_0, ga_k, sa_lt, sa_0, sa_k, s0, s2, q1, hl2, hz, List.length_set]; rfl) ?_ | refine To.nop hxE5 ?_ | (refine To.condT hxE5 ?_ ?_; focus (simp only [go_sem, eqs hxE5, reduceIte, Nat.reduceEqDiff, Nat.reduceAdd, Nat.reduceMul, Nat.reduceLT, Nat.reduceLeDiff, Int.reduceBEq, Int.reduceBNe, Heap.gets, Heap.sets, Heap.get, bytesA_length, bytesA_one, bytesA_plains, List.take_of_length_le, List.drop_of_length_le, Nat.add_zero, V.one, Nat.reduceLeDiff, List.all_cons, List.all_nil, ne_eq, not_false_eq_true, Nat.zero_le, gs_ne, gs_eq, ga_lt, ga_0, ga_k, sa_lt, sa_0, sa_k, s0, s2, q1, hl2, hz, List.length_set]; done)) | refine To.block hxE5 ?_ | refine To.ret hxE5 ?_))
      refine ⟨_, _, finQT (i := 2) (n := 8) (j := 3) (l := o.length) (o := 0) rfl (by simp only [go_sem, eqs hxE5, reduceIte, Nat.reduceEqDiff, Nat.reduceAdd, Nat.reduceMul, Nat.reduceLT, Nat.reduceLeDiff, Int.reduceBEq, Int.reduceBNe, s2]) (by simp only [go_sem, eqs hxE5, reduceIte, Nat.reduceEqDiff, Nat.reduceAdd, Nat.reduceMul, Nat.reduceLT, Nat.reduceLeDiff, Int.reduceBEq, Int.reduceBNe, Heap.gets, Heap.sets, Heap.get, bytesA_length, bytesA_one, bytesA_plains, List.take_of_length_le, List.drop_of_length_le, Nat.add_zero, V.one, Nat.reduceLeDiff, List.all_cons, List.all_nil, ne_eq, not_false_eq_true, Nat.zero_le, ga_lt, gs_eq, hl2, List.length_set]; try rfl), ?_, ?_⟩
      · rw [← hT]; simp only [go_sem, eqs hxE5, reduceIte, Nat.reduceEqDiff, Nat.reduceAdd, Nat.reduceMul, Nat.reduceLT, Nat.reduceLeDiff, Int.reduceBEq, Int.reduceBNe, takeF, takeVal]; try rfl
      · rw [← hT]
        simp only [takeF, takeO, takeW]
        refine close_q A ((hP'.old ⟨n1, ?_, ?_, ?_, ?_⟩).app _) ((hQ'.new (Nat.le_refl _)).trans (Qx.app _)) ?_ ?_ ?_
        · have := A.l1; omega
        · have := A.l2; omega
        · have := A.l3; omega
        · have := A.l4; omega
        · simp only; omega
        · simp only [go_sem, eqs hxE5, reduceIte, Nat.reduceEqDiff, Nat.reduceAdd, Nat.reduceMul, Nat.reduceLT, Nat.reduceLeDiff, Int.reduceBEq, Int.reduceBNe]
        · rcases hD with rfl | hD
          · exact .inr h
          · exact .inl (by simp only; omega)
    | cons r t =>
      obtain ⟨v, oh, q1, rfl, d2, hd2, rfl⟩ := next_cons (e := e') (d := d') hP'
      have hP2 := hP'.c1' (t.map Rq.v)
      have hQ2 := hQ'.trans (Qx.set (o := o') (y := .chan 8 (t.map Rq.v)) (.inr (.inl rfl)))
      have hz2 : (o'.set c1 (.chan 8 (t.map Rq.v)))[o.length]? = _ := (gs_ne (by have := A.l1; omega)).trans hz
      have hlo : (o'.set c1 (.chan 8 (t.map Rq.v))).length = o'.length := by simp
      generalize o'.set c1 (.chan 8 (t.map Rq.v)) = o2 at *
      have B := hP2.ap
      obtain ⟨hq, h1, h2, h3, h4, hm⟩ := hP2
      have hl3 := get_lt hz2
      unfold pqC at hq
      have f1 := find_W r.id W
      unfold Rq.v Rq.cs at q1
      cases hc : W.contains r.id
      · rw [hc] at f1
        (repeat' (first | refine To.seq hxE5 ?_ | refine To.op0 hxE5 (by simp only [go_sem, eqs hxE5, reduceIte, Nat.reduceEqDiff, Nat.reduceAdd, Nat.reduceMul, Nat.reduceLT, Nat.reduceLeDiff, Int.reduceBEq, Int.reduceBNe, Heap.gets, Heap.sets, Heap.get, bytesA_length, bytesA_one, bytesA_plains, List.take_of_length_le, List.drop_of_length_le, Nat.add_zero, V.one, Nat.reduceLeDiff, List.all_cons, List.all_nil, ne_eq, not_false_eq_true, Nat.zero_le, gs_ne, gs_eq, ga_lt, ga_0, ga_k, sa_lt, sa_0, sa_k, s0, s2, q1, B.lq, B.l4, Heap.setMap, List.length_set, Heap.setMap, hq, h4, f1, V.key, Option.getD]; rfl) ?_ | refine To.op1 hxE5 (by simp only [go_sem, eqs hxE5, reduceIte, Nat.reduceEqDiff, Nat.reduceAdd, Nat.reduceMul, Nat.reduceLT, Nat.reduceLeDiff, Int.reduceBEq, Int.reduceBNe, Heap.gets, Heap.sets, Heap.get, bytesA_length, bytesA_one, bytesA_plains, List.take_of_length_le, List.drop_of_length_le, Nat.add_zero, V.one, Nat.reduceLeDiff, List.all_cons, List.all_nil, ne_eq, not_false_eq_true, Nat.zero_le, gs_ne, gs_eq, ga_lt, ga_0, ga_k, sa_lt, sa_0, sa_k, s0, s2, q1, B.lq, B.l4, Heap.setMap, List.length_set, Heap.setMap, hq, h4, f1, V.key, Option.getD]; rfl) ?_ | refine To.nop hxE5 ?_ | (refine To.condF hxE5 ?_ ?_; focus (simp only [go_sem, eqs hxE5, reduceIte, Nat.reduceEqDiff, Nat.reduceAdd, Nat.reduceMul, Nat.reduceLT, Nat.reduceLeDiff, Int.reduceBEq, Int.reduceBNe, Heap.gets, Heap.sets, Heap.get, bytesA_length, bytesA_one, bytesA_plains, List.take_of_length_le, List.drop_of_length_le, Nat.add_zero, V.one, Nat.reduceLeDiff, List.all_cons, List.all_nil, ne_eq, not_false_eq_true, Nat.zero_le, gs_ne, gs_eq, ga_lt, ga_0, ga_k, sa_lt, sa_0, sa_k, s0, s2, q1, B.lq, B.l4, Heap.setMap, List.length_set, Heap.setMap, hq, h4, f1, V.key, Option.getD]; done)) | refine To.block hxE5 ?_ | refine To.skip hxE5 ?_ | refine To.draw0 hxE5 ?_ | refine ToD.op0 (by simp only [go_sem, eqs hxE5, reduceIte, Nat.reduceEqDiff, Nat.reduceAdd, Nat.reduceMul, Nat.reduceLT, Nat.reduceLeDiff, Int.reduceBEq, Int.reduceBNe, Heap.gets, Heap.sets, Heap.get, bytesA_length, bytesA_one, bytesA_plains, List.take_of_length_le, List.drop_of_length_le, Nat.add_zero, V.one, Nat.reduceLeDiff, List.all_cons, List.all_nil, ne_eq, not_false_eq_true, Nat.zero_le, gs_ne, gs_eq, ga_lt, ga_0, ga_k, sa_lt, sa_0, sa_k, s0, s2, q1, B.lq, B.l4, Heap.setMap, List.length_set, Heap.setMap, hq, h4, f1, V.key, Option.getD]; rfl) (by simp only [put_some, put_none]; rfl) ?_ | refine ToD.nop ?_))
        try simp only [andThen, outOf]
        have hl1 := A.l1
        refine ⟨t.length, by simp, t, _, _, _, rfl, rfl, ?_, fun x hx => hM x (List.mem_cons_of_mem _ hx), .inr (by omega), (⟨hq, h1, h2, h3, h4, hm⟩ : PQ _ _ _ _ _ _ _ _ _ _ _ _).app _, hQ2.trans (Qx.app _), he', ?_, ?_⟩
        · rw [← hT, takeF, hc]; rfl
        · rw [ga_lt hl3]; exact hz2
        · simp only [go_sem, eqs hxE5, reduceIte, Nat.reduceEqDiff, Nat.reduceAdd, Nat.reduceMul, Nat.reduceLT, Nat.reduceLeDiff, Int.reduceBEq, Int.reduceBNe, s0, s2]
      · rw [hc] at f1
        have f2 := drop_W r.id W
        have n3 : m1 ≠ o.length := by have := A.l3; omega
        have n4 : m2 ≠ o.length := by have := A.l4; omega
        have f3 : mapPut .i (.int .i64 r.id) (.int .i64 r.op) (entO O) = some (entO O ++ [(.int .i64 r.id, .int .i64 r.op)]) := by
          refine mapPut_new fun x hx => ?_
          simp only [entO, List.mem_map] at hx
          obtain ⟨y, hy, rfl⟩ := hx
          exact ⟨_, rfl, hO r (hM _ List.mem_cons_self) y hy⟩
        (repeat' (first | refine To.seq hxE5 ?_ | refine To.op0 hxE5 (by simp only [go_sem, eqs hxE5, reduceIte, Nat.reduceEqDiff, Nat.reduceAdd, Nat.reduceMul, Nat.reduceLT, Nat.reduceLeDiff, Int.reduceBEq, Int.reduceBNe, Heap.gets, Heap.sets, Heap.get, bytesA_length, bytesA_one, bytesA_plains, List.take_of_length_le, List.drop_of_length_le, Nat.add_zero, V.one, Nat.reduceLeDiff, List.all_cons, List.all_nil, ne_eq, not_false_eq_true, Nat.zero_le, gs_ne, gs_eq, ga_lt, ga_0, ga_k, sa_lt, sa_0, sa_k, s0, s2, q1, B.lq, B.l3, B.l4, B.e4, B.f1, B.f4, n3, n4, hl3, Heap.setMap, List.length_set, Heap.setMap, hq, h3, h4, hz2, f1, f2, f3, V.key, Option.getD]; rfl) ?_ | refine To.op1 hxE5 (by simp only [go_sem, eqs hxE5, reduceIte, Nat.reduceEqDiff, Nat.reduceAdd, Nat.reduceMul, Nat.reduceLT, Nat.reduceLeDiff, Int.reduceBEq, Int.reduceBNe, Heap.gets, Heap.sets, Heap.get, bytesA_length, bytesA_one, bytesA_plains, List.take_of_length_le, List.drop_of_length_le, Nat.add_zero, V.one, Nat.reduceLeDiff, List.all_cons, List.all_nil, ne_eq, not_false_eq_true, Nat.zero_le, gs_ne, gs_eq, ga_lt, ga_0, ga_k, sa_lt, sa_0, sa_k, s0, s2, q1, B.lq, B.l3, B.l4, B.e4, B.f1, B.f4, n3, n4, hl3, Heap.setMap, List.length_set, Heap.setMap, hq, h3, h4, hz2, f1, f2, f3, V.key, Option.getD]; rfl) ?_ | refine To.nop hxE5 ?_ | (refine To.condT hxE5 ?_ ?_; focus (simp only [go_sem, eqs hxE5, reduceIte, Nat.reduceEqDiff, Nat.reduceAdd, Nat.reduceMul, Nat.reduceLT, Nat.reduceLeDiff, Int.reduceBEq, Int.reduceBNe, Heap.gets, Heap.sets, Heap.get, bytesA_length, bytesA_one, bytesA_plains, List.take_of_length_le, List.drop_of_length_le, Nat.add_zero, V.one, Nat.reduceLeDiff, List.all_cons, List.all_nil, ne_eq, not_false_eq_true, Nat.zero_le, gs_ne, gs_eq, ga_lt, ga_0, ga_k, sa_lt, sa_0, sa_k, s0, s2, q1, B.lq, B.l3, B.l4, B.e4, B.f1, B.f4, n3, n4, hl3, Heap.setMap, List.length_set, Heap.setMap, hq, h3, h4, hz2, f1, f2, f3, V.key, Option.getD]; done)) | (refine To.condF hxE5 ?_ ?_; focus (simp only [go_sem, eqs hxE5, reduceIte, Nat.reduceEqDiff, Nat.reduceAdd, Nat.reduceMul, Nat.reduceLT, Nat.reduceLeDiff, Int.reduceBEq, Int.reduceBNe, Heap.gets, Heap.sets, Heap.get, bytesA_length, bytesA_one, bytesA_plains, List.take_of_length_le, List.drop_of_length_le, Nat.add_zero, V.one, Nat.reduceLeDiff, List.all_cons, List.all_nil, ne_eq, not_false_eq_true, Nat.zero_le, gs_ne, gs_eq, ga_lt, ga_0, ga_k, sa_lt, sa_0, sa_k, s0, s2, q1, B.lq, B.l3, B.l4, B.e4, B.f1, B.f4, n3, n4, hl3, Heap.setMap, List.length_set, Heap.setMap, hq, h3, h4, hz2, f1, f2, f3, V.key, Option.getD]; done)) | refine To.block hxE5 ?_ | refine To.ret hxE5 ?_ | refine To.skip hxE5 ?_ | refine To.draw0 hxE5 ?_ | refine ToD.op0 (by simp only [go_sem, eqs hxE5, reduceIte, Nat.reduceEqDiff, Nat.reduceAdd, Nat.reduceMul, Nat.reduceLT, Nat.reduceLeDiff, Int.reduceBEq, Int.reduceBNe, Heap.gets, Heap.sets, Heap.get, bytesA_length, bytesA_one, bytesA_plains, List.take_of_length_le, List.drop_of_length_le, Nat.add_zero, V.one, Nat.reduceLeDiff, List.all_cons, List.all_nil, ne_eq, not_false_eq_true, Nat.zero_le, gs_ne, gs_eq, ga_lt, ga_0, ga_k, sa_lt, sa_0, sa_k, s0, s2, q1, B.lq, B.l3, B.l4, B.e4, B.f1, B.f4, n3, n4, hl3, Heap.setMap, List.length_set, Heap.setMap, hq, h3, h4, hz2, f1, f2, f3, V.key, Option.getD]; rfl) (by simp only [put_some, put_none]; rfl) ?_ | refine ToD.op1 (by simp only [go_sem, eqs hxE5, reduceIte, Nat.reduceEqDiff, Nat.reduceAdd, Nat.reduceMul, Nat.reduceLT, Nat.reduceLeDiff, Int.reduceBEq, Int.reduceBNe, Heap.gets, Heap.sets, Heap.get, bytesA_length, bytesA_one, bytesA_plains, List.take_of_length_le, List.drop_of_length_le, Nat.add_zero, V.one, Nat.reduceLeDiff, List.all_cons, List.all_nil, ne_eq, not_false_eq_true, Nat.zero_le, gs_ne, gs_eq, ga_lt, ga_0, ga_k, sa_lt, sa_0, sa_k, s0, s2, q1, B.lq, B.l3, B.l4, B.e4, B.f1, B.f4, n3, n4, hl3, Heap.setMap, List.length_set, Heap.setMap, hq, h3, h4, hz2, f1, f2, f3, V.key, Option.getD]; rfl) (by simp only [put_some, put_none]; rfl) (by simp only [KD.app, go_sem, eqs hxE5, reduceIte, Nat.reduceEqDiff, Nat.reduceAdd, Nat.reduceMul, Nat.reduceLT, Nat.reduceLeDiff, Int.reduceBEq, Int.reduceBNe, Heap.gets, Heap.sets, Heap.get, bytesA_length, bytesA_one, bytesA_plains, List.take_of_length_le, List.drop_of_length_le, Nat.add_zero, V.one, Nat.reduceLeDiff, List.all_cons, List.all_nil, ne_eq, not_false_eq_true, Nat.zero_le, gs_ne, gs_eq, ga_lt, ga_0, ga_k, sa_lt, sa_0, sa_k, s0, s2, q1, B.lq, B.l3, B.l4, B.e4, B.f1, B.f4, n3, n4, hl3, Heap.setMap, List.length_set, Heap.setMap, hq, h3, h4, hz2, f1, f2, f3, V.key, Option.getD]; rfl) ?_ | refine ToD.nop ?_))
        have hl1 := A.l1
        refine ⟨_, _, finQT (i := 2) (n := 8) (j := 3) (l := o.length) (o := 0) rfl (by simp only [go_sem, eqs hxE5, reduceIte, Nat.reduceEqDiff, Nat.reduceAdd, Nat.reduceMul, Nat.reduceLT, Nat.reduceLeDiff, Int.reduceBEq, Int.reduceBNe, s2]) (by simp only [go_sem, eqs hxE5, reduceIte, Nat.reduceEqDiff, Nat.reduceAdd, Nat.reduceMul, Nat.reduceLT, Nat.reduceLeDiff, Int.reduceBEq, Int.reduceBNe, Heap.gets, Heap.sets, Heap.get, bytesA_length, bytesA_one, bytesA_plains, List.take_of_length_le, List.drop_of_length_le, Nat.add_zero, V.one, Nat.reduceLeDiff, List.all_cons, List.all_nil, ne_eq, not_false_eq_true, Nat.zero_le, ga_lt, gs_eq, hl3, List.length_set]; try rfl), ?_, ?_⟩
        · rw [← hT, takeF, hc]; simp only [go_sem, eqs hxE5, reduceIte, Nat.reduceEqDiff, Nat.reduceAdd, Nat.reduceMul, Nat.reduceLT, Nat.reduceLeDiff, Int.reduceBEq, Int.reduceBNe, takeVal]; try rfl
        · rw [← hT, takeF, hc]
          simp only [takeO, takeW, if_true]
          refine close_q A ?_ ?_ ?_ ?_ (.inl ?_)
          · have h5 : PQ o2 q c1 c2 m1 m2 (t.map Rq.v) ns (entO O) (entW W) last lost := ⟨hq, h1, h2, h3, h4, hm⟩
            have h6 := ((h5.m2' (entW (W.erase r.id))).m1' (entO (O ++ [(r.id, r.op)]))).old (i := o.length) (y := .cells .ex 23 0 r.cs) ⟨n1, by omega, by have := A.l2; omega, by have := A.l3; omega, by have := A.l4; omega⟩
            have h7 := h6.app [.cells .ex 23 0 r.cs]
            simpa only [entO, List.map_append, List.map_cons, List.map_nil, Rq.cs] using h7
          · exact (((hQ2.trans (Qx.set (.inr (.inr (.inr (.inr rfl)))))).trans (Qx.set (.inr (.inr (.inr (.inl rfl)))))).new (Nat.le_refl _)).trans (Qx.app _)
          · exact he'
          · simp only [go_sem, eqs hxE5, reduceIte, Nat.reduceEqDiff, Nat.reduceAdd, Nat.reduceMul, Nat.reduceLT, Nat.reduceLeDiff, Int.reduceBEq, Int.reduceBNe]
          · simp only
            omega
  · refine ⟨L, _, _, _, rfl, rfl, rfl, fun r hr => hr, .inl rfl, hP.app _, Qx.app _, ?_, ?_, ?_⟩
    · exact Nat.le_refl _
    · rw [app_get0]
    · simp only [go_sem, eqs hxE5, reduceIte, Nat.reduceEqDiff, Nat.reduceAdd, Nat.reduceMul, Nat.reduceLT, Nat.reduceLeDiff, Int.reduceBEq, Int.reduceBNe]
end
end Go.Proofs.Ytjbblfoefibeaaa

/- Queues: answer, cancel, hear, lost, and the counts. -/
namespace Go.Proofs.Ytjbblfoefibeaaa
open Go AM
set_option linter.unusedSimpArgs false
set_option linter.unusedVariables false
set_option maxRecDepth 100000

section
variable {o : List AM.Obj} {e d q c1 c2 m1 m2 : Nat} {rq ns : List V} {op wt : List (V × V)} {last : Int} {lost : Bool}

def ansVal : Option Int → V
  | none => .tuple [.int .i64 0, .int .i64 22]
  | some x => .tuple [.int .i64 x, .int .i64 0]
set_option maxHeartbeats 4000000 in
theorem answer_q {O : List (Int × Int)} (k : Int) (h : PQ o q c1 c2 m1 m2 rq ns (entO O) wt last lost) :
    ∃ v oh, Den FF E5 32 [.ptr q 0, .int .i64 k] ⟨o, e, d⟩ = some (v, oh) ∧ v = .val (ansVal (lookO k O)) ∧ ∃ o' d', oh.getD ⟨o, e, d⟩ = ⟨o', e, d'⟩ ∧
      PQ o' q c1 c2 m1 m2 rq ns (entO (if (lookO k O).isSome = true then eraseO k O else O)) wt last lost ∧ Qx q c1 c2 m1 m2 o o' := by
  refine To.denE hxE5 (f := 32) (a := af32) rfl (E5_none rfl) (Nat.le_of_ble_eq_true rfl) ?_
  have hP := h
  obtain ⟨hq, h1, h2, h3, h4, hm⟩ := h
  have A := hP.ap
  have f1 := find_O k O
  have f2 := drop_O k O
  unfold pqC at hq
  cases hc : lookO k O with
  | none =>
    rw [hc] at f1
    (repeat' (first | refine To.seq hxE5 ?_ | refine To.op0 hxE5 (by simp only [go_sem, eqs hxE5, reduceIte, Nat.reduceEqDiff, Nat.reduceAdd, Nat.reduceMul, Nat.reduceLT, Nat.reduceLeDiff, Int.reduceBEq, Int.reduceBNe, Heap.gets, Heap.sets, Heap.get, bytesA_length, bytesA_one, bytesA_plains, List.take_of_length_le, List.drop_of_length_le, Nat.add_zero, V.one, Nat.reduceLeDiff, List.all_cons, List.all_nil, ne_eq, not_false_eq_true, Nat.zero_le, hq, h3, f1, V.key, Option.isSome_none, Option.isSome_some, Option.map_none, Option.map_some, Option.getD_none, Option.getD_some]; rfl) ?_ | refine To.nop hxE5 ?_ | (refine To.condT hxE5 ?_ ?_; focus (simp only [go_sem, eqs hxE5, reduceIte, Nat.reduceEqDiff, Nat.reduceAdd, Nat.reduceMul, Nat.reduceLT, Nat.reduceLeDiff, Int.reduceBEq, Int.reduceBNe, Heap.gets, Heap.sets, Heap.get, bytesA_length, bytesA_one, bytesA_plains, List.take_of_length_le, List.drop_of_length_le, Nat.add_zero, V.one, Nat.reduceLeDiff, List.all_cons, List.all_nil, ne_eq, not_false_eq_true, Nat.zero_le, hq, h3, f1, V.key, Option.isSome_none, Option.isSome_some, Option.map_none, Option.map_some, Option.getD_none, Option.getD_some]; done)) | (refine To.condF hxE5 ?_ ?_; focus (simp only [go_sem, eqs hxE5, reduceIte, Nat.reduceEqDiff, Nat.reduceAdd, Nat.reduceMul, Nat.reduceLT, Nat.reduceLeDiff, Int.reduceBEq, Int.reduceBNe, Heap.gets, Heap.sets, Heap.get, bytesA_length, bytesA_one, bytesA_plains, List.take_of_length_le, List.drop_of_length_le, Nat.add_zero, V.one, Nat.reduceLeDiff, List.all_cons, List.all_nil, ne_eq, not_false_eq_true, Nat.zero_le, hq, h3, f1, V.key, Option.isSome_none, Option.isSome_some, Option.map_none, Option.map_some, Option.getD_none, Option.getD_some]; done)) | refine To.ret hxE5 ?_ | refine To.skip hxE5 ?_))
    refine ⟨_, _, fin2 (i := 4) (j := 5) rfl, ?_, ?_⟩
    · simp only [go_sem, eqs hxE5, reduceIte, Nat.reduceEqDiff, Nat.reduceAdd, Nat.reduceMul, Nat.reduceLT, Nat.reduceLeDiff, Int.reduceBEq, Int.reduceBNe, ansVal]
    · refine close_q A ?_ Qx.refl (Nat.le_refl _) (by simp only [go_sem, eqs hxE5, reduceIte, Nat.reduceEqDiff, Nat.reduceAdd, Nat.reduceMul, Nat.reduceLT, Nat.reduceLeDiff, Int.reduceBEq, Int.reduceBNe]) (.inr ?_)
      · exact hP
      · exact hP
  | some x =>
    rw [hc] at f1
    (repeat' (first | refine To.seq hxE5 ?_ | refine To.op0 hxE5 (by simp only [go_sem, eqs hxE5, reduceIte, Nat.reduceEqDiff, Nat.reduceAdd, Nat.reduceMul, Nat.reduceLT, Nat.reduceLeDiff, Int.reduceBEq, Int.reduceBNe, Heap.gets, Heap.sets, Heap.get, bytesA_length, bytesA_one, bytesA_plains, List.take_of_length_le, List.drop_of_length_le, Nat.add_zero, V.one, Nat.reduceLeDiff, List.all_cons, List.all_nil, ne_eq, not_false_eq_true, Nat.zero_le, hq, h3, f1, f2, V.key, Option.isSome_none, Option.isSome_some, Option.map_none, Option.map_some, Option.getD_none, Option.getD_some, Heap.setMap]; rfl) ?_ | refine To.op1 hxE5 (by simp only [go_sem, eqs hxE5, reduceIte, Nat.reduceEqDiff, Nat.reduceAdd, Nat.reduceMul, Nat.reduceLT, Nat.reduceLeDiff, Int.reduceBEq, Int.reduceBNe, Heap.gets, Heap.sets, Heap.get, bytesA_length, bytesA_one, bytesA_plains, List.take_of_length_le, List.drop_of_length_le, Nat.add_zero, V.one, Nat.reduceLeDiff, List.all_cons, List.all_nil, ne_eq, not_false_eq_true, Nat.zero_le, hq, h3, f1, f2, V.key, Option.isSome_none, Option.isSome_some, Option.map_none, Option.map_some, Option.getD_none, Option.getD_some, Heap.setMap]; rfl) ?_ | refine To.nop hxE5 ?_ | (refine To.condF hxE5 ?_ ?_; focus (simp only [go_sem, eqs hxE5, reduceIte, Nat.reduceEqDiff, Nat.reduceAdd, Nat.reduceMul, Nat.reduceLT, Nat.reduceLeDiff, Int.reduceBEq, Int.reduceBNe, Heap.gets, Heap.sets, Heap.get, bytesA_length, bytesA_one, bytesA_plains, List.take_of_length_le, List.drop_of_length_le, Nat.add_zero, V.one, Nat.reduceLeDiff, List.all_cons, List.all_nil, ne_eq, not_false_eq_true, Nat.zero_le, hq, h3, f1, f2, V.key, Option.isSome_none, Option.isSome_some, Option.map_none, Option.map_some, Option.getD_none, Option.getD_some, Heap.setMap]; done)) | refine To.ret hxE5 ?_ | refine To.skip hxE5 ?_))
    refine ⟨_, _, fin2 (i := 4) (j := 5) rfl, ?_, ?_⟩
    · simp only [go_sem, eqs hxE5, reduceIte, Nat.reduceEqDiff, Nat.reduceAdd, Nat.reduceMul, Nat.reduceLT, Nat.reduceLeDiff, Int.reduceBEq, Int.reduceBNe, ansVal]
    · refine close_q A ?_ ?_ (Nat.le_refl _) (by simp only [go_sem, eqs hxE5, reduceIte, Nat.reduceEqDiff, Nat.reduceAdd, Nat.reduceMul, Nat.reduceLT, Nat.reduceLeDiff, Int.reduceBEq, Int.reduceBNe]) (.inl ?_)
      · exact hP.m1' _
      · exact Qx.set (.inr (.inr (.inr (.inl rfl))))
      · have := A.l3
        simp only
        omega

set_option maxHeartbeats 4000000 in
theorem cancel_q {O : List (Int × Int)} {W : List Int} (k : Int) (h : PQ o q c1 c2 m1 m2 rq ns (entO O) (entW W) last lost) :
    ∃ v oh, Den FF E5 33 [.ptr q 0, .int .i64 k] ⟨o, e, d⟩ = some (v, oh) ∧ v = .val (.int .i64 (if ((lookO k O).isSome || W.contains k) = true then 0 else 22)) ∧ ∃ o' d', oh.getD ⟨o, e, d⟩ = ⟨o', e, d'⟩ ∧
      PQ o' q c1 c2 m1 m2 rq ns (entO (eraseO k O)) (entW (W.erase k)) last lost ∧ Qx q c1 c2 m1 m2 o o' := by
  refine To.denE hxE5 (f := 33) (a := af33) rfl (E5_none rfl) (Nat.le_of_ble_eq_true rfl) ?_
  have hP := h
  obtain ⟨hq, h1, h2, h3, h4, hm⟩ := h
  have A := hP.ap
  have f1 := find_O k O
  have f2 := drop_O k O
  have f3 := find_W k W
  have f4 := drop_W k W
  unfold pqC at hq
  have fin : ∀ {o1 : List AM.Obj} {e1 d1 : Nat} {v : V}, o1 = (o.set m1 (.map (entO (eraseO k O)))).set m2 (.map (entW (W.erase k))) → o.length ≤ e1 → d1 < o.length → v.plain = true → ∃ o' d', (leave ⟨o, e, d⟩ ⟨o1, e1, d1⟩ v).getD ⟨o, e, d⟩ = ⟨o', e, d'⟩ ∧ PQ o' q c1 c2 m1 m2 rq ns (entO (eraseO k O)) (entW (W.erase k)) last lost ∧ Qx q c1 c2 m1 m2 o o' := by
    rintro o1 e1 d1 v rfl he hd hv
    exact close_q A ((hP.m1' _).m2' _) ((Qx.set (.inr (.inr (.inr (.inl rfl))))).trans (Qx.set (.inr (.inr (.inr (.inr rfl)))))) he hv (.inl hd)
  cases hc : lookO k O with
  | none =>
    rw [hc] at f1
    cases hw : W.contains k
    · rw [hw] at f3
      (repeat' (first | refine To.seq hxE5 ?_ | refine To.op0 hxE5 (by simp only [go_sem, eqs hxE5, reduceIte, Nat.reduceEqDiff, Nat.reduceAdd, Nat.reduceMul, Nat.reduceLT, Nat.reduceLeDiff, Int.reduceBEq, Int.reduceBNe, Heap.gets, Heap.sets, Heap.get, bytesA_length, bytesA_one, bytesA_plains, List.take_of_length_le, List.drop_of_length_le, Nat.add_zero, V.one, Nat.reduceLeDiff, List.all_cons, List.all_nil, ne_eq, not_false_eq_true, Nat.zero_le, gs_ne, hq, h3, h4, f1, f3, V.key, Option.isSome_none, Option.isSome_some, Option.map_none, Option.map_some, Option.getD_none, Option.getD_some]; rfl) ?_ | refine To.nop hxE5 ?_ | (refine To.condT hxE5 ?_ ?_; focus (simp only [go_sem, eqs hxE5, reduceIte, Nat.reduceEqDiff, Nat.reduceAdd, Nat.reduceMul, Nat.reduceLT, Nat.reduceLeDiff, Int.reduceBEq, Int.reduceBNe, Heap.gets, Heap.sets, Heap.get, bytesA_length, bytesA_one, bytesA_plains, List.take_of_length_le, List.drop_of_length_le, Nat.add_zero, V.one, Nat.reduceLeDiff, List.all_cons, List.all_nil, ne_eq, not_false_eq_true, Nat.zero_le, gs_ne, hq, h3, h4, f1, f3, V.key, Option.isSome_none, Option.isSome_some, Option.map_none, Option.map_some, Option.getD_none, Option.getD_some]; done)) | (refine To.condF hxE5 ?_ ?_; focus (simp only [go_sem, eqs hxE5, reduceIte, Nat.reduceEqDiff, Nat.reduceAdd, Nat.reduceMul, Nat.reduceLT, Nat.reduceLeDiff, Int.reduceBEq, Int.reduceBNe, Heap.gets, Heap.sets, Heap.get, bytesA_length, bytesA_one, bytesA_plains, List.take_of_length_le, List.drop_of_length_le, Nat.add_zero, V.one, Nat.reduceLeDiff, List.all_cons, List.all_nil, ne_eq, not_false_eq_true, Nat.zero_le, gs_ne, hq, h3, h4, f1, f3, V.key, Option.isSome_none, Option.isSome_some, Option.map_none, Option.map_some, Option.getD_none, Option.getD_some]; done)) | refine To.ret hxE5 ?_ | refine To.skip hxE5 ?_))
      refine ⟨_, _, fin1 (i := 4) rfl, ?_, ?_⟩
      · simp only [go_sem, eqs hxE5, reduceIte, Nat.reduceEqDiff, Nat.reduceAdd, Nat.reduceMul, Nat.reduceLT, Nat.reduceLeDiff, Int.reduceBEq, Int.reduceBNe]; try rfl
      · have e1 : eraseO k O = O := by
          have : ∀ l : List (Int × Int), lookO k l = none → eraseO k l = l := by
            intro l
            induction l with
            | nil => intro _; rfl
            | cons a l ih =>
              intro h
              obtain ⟨a, b⟩ := a
              simp only [lookO] at h
              split at h
              · cases h
              · rename_i hne
                simp only [eraseO, if_neg hne, ih h]
          exact this O hc
        have e2 : W.erase k = W := by
          apply List.erase_of_not_mem
          intro hm; rw [← List.contains_iff_mem, hw] at hm; cases hm
        rw [e1, e2]
        exact close_q A hP Qx.refl (Nat.le_refl _) (by simp only [go_sem, eqs hxE5, reduceIte, Nat.reduceEqDiff, Nat.reduceAdd, Nat.reduceMul, Nat.reduceLT, Nat.reduceLeDiff, Int.reduceBEq, Int.reduceBNe]) (.inr hP)
    · rw [hw] at f3
      (repeat' (first | refine To.seq hxE5 ?_ | refine To.op0 hxE5 (by simp only [go_sem, eqs hxE5, reduceIte, Nat.reduceEqDiff, Nat.reduceAdd, Nat.reduceMul, Nat.reduceLT, Nat.reduceLeDiff, Int.reduceBEq, Int.reduceBNe, Heap.gets, Heap.sets, Heap.get, bytesA_length, bytesA_one, bytesA_plains, List.take_of_length_le, List.drop_of_length_le, Nat.add_zero, V.one, Nat.reduceLeDiff, List.all_cons, List.all_nil, ne_eq, not_false_eq_true, Nat.zero_le, gs_ne, A.e1, A.e4, hq, h3, h4, f1, f2, f3, f4, V.key, Option.isSome_none, Option.isSome_some, Option.map_none, Option.map_some, Option.getD_none, Option.getD_some, Heap.setMap]; rfl) ?_ | refine To.op1 hxE5 (by simp only [go_sem, eqs hxE5, reduceIte, Nat.reduceEqDiff, Nat.reduceAdd, Nat.reduceMul, Nat.reduceLT, Nat.reduceLeDiff, Int.reduceBEq, Int.reduceBNe, Heap.gets, Heap.sets, Heap.get, bytesA_length, bytesA_one, bytesA_plains, List.take_of_length_le, List.drop_of_length_le, Nat.add_zero, V.one, Nat.reduceLeDiff, List.all_cons, List.all_nil, ne_eq, not_false_eq_true, Nat.zero_le, gs_ne, A.e1, A.e4, hq, h3, h4, f1, f2, f3, f4, V.key, Option.isSome_none, Option.isSome_some, Option.map_none, Option.map_some, Option.getD_none, Option.getD_some, Heap.setMap]; rfl) ?_ | refine To.nop hxE5 ?_ | (refine To.condF hxE5 ?_ ?_; focus (simp only [go_sem, eqs hxE5, reduceIte, Nat.reduceEqDiff, Nat.reduceAdd, Nat.reduceMul, Nat.reduceLT, Nat.reduceLeDiff, Int.reduceBEq, Int.reduceBNe, Heap.gets, Heap.sets, Heap.get, bytesA_length, bytesA_one, bytesA_plains, List.take_of_length_le, List.drop_of_length_le, Nat.add_zero, V.one, Nat.reduceLeDiff, List.all_cons, List.all_nil, ne_eq, not_false_eq_true, Nat.zero_le, gs_ne, A.e1, A.e4, hq, h3, h4, f1, f2, f3, f4, V.key, Option.isSome_none, Option.isSome_some, Option.map_none, Option.map_some, Option.getD_none, Option.getD_some, Heap.setMap]; done)) | refine To.ret hxE5 ?_ | refine To.skip hxE5 ?_))
      refine ⟨_, _, fin1 (i := 4) rfl, ?_, ?_⟩
      · simp only [go_sem, eqs hxE5, reduceIte, Nat.reduceEqDiff, Nat.reduceAdd, Nat.reduceMul, Nat.reduceLT, Nat.reduceLeDiff, Int.reduceBEq, Int.reduceBNe]; try rfl
      · refine fin rfl (Nat.le_refl _) ?_ (by simp only [go_sem, eqs hxE5, reduceIte, Nat.reduceEqDiff, Nat.reduceAdd, Nat.reduceMul, Nat.reduceLT, Nat.reduceLeDiff, Int.reduceBEq, Int.reduceBNe])
        have := A.l3
        omega
  | some x =>
    rw [hc] at f1
    (repeat' (first | refine To.seq hxE5 ?_ | refine To.op0 hxE5 (by simp only [go_sem, eqs hxE5, reduceIte, Nat.reduceEqDiff, Nat.reduceAdd, Nat.reduceMul, Nat.reduceLT, Nat.reduceLeDiff, Int.reduceBEq, Int.reduceBNe, Heap.gets, Heap.sets, Heap.get, bytesA_length, bytesA_one, bytesA_plains, List.take_of_length_le, List.drop_of_length_le, Nat.add_zero, V.one, Nat.reduceLeDiff, List.all_cons, List.all_nil, ne_eq, not_false_eq_true, Nat.zero_le, gs_ne, A.e1, A.e4, hq, h3, h4, f1, f2, f3, f4, V.key, Option.isSome_none, Option.isSome_some, Option.map_none, Option.map_some, Option.getD_none, Option.getD_some, Heap.setMap]; rfl) ?_ | refine To.op1 hxE5 (by simp only [go_sem, eqs hxE5, reduceIte, Nat.reduceEqDiff, Nat.reduceAdd, Nat.reduceMul, Nat.reduceLT, Nat.reduceLeDiff, Int.reduceBEq, Int.reduceBNe, Heap.gets, Heap.sets, Heap.get, bytesA_length, bytesA_one, bytesA_plains, List.take_of_length_le, List.drop_of_length_le, Nat.add_zero, V.one, Nat.reduceLeDiff, List.all_cons, List.all_nil, ne_eq, not_false_eq_true, Nat.zero_le, gs_ne, A.e1, A.e4, hq, h3, h4, f1, f2, f3, f4, V.key, Option.isSome_none, Option.isSome_some, Option.map_none, Option.map_some, Option.getD_none, Option.getD_some, Heap.setMap]; rfl) ?_ | refine To.nop hxE5 ?_ | (refine To.condF hxE5 ?_ ?_; focus (simp only [go_sem, eqs hxE5, reduceIte, Nat.reduceEqDiff, Nat.reduceAdd, Nat.reduceMul, Nat.reduceLT, Nat.reduceLeDiff, Int.reduceBEq, Int.reduceBNe, Heap.gets, Heap.sets, Heap.get, bytesA_length, bytesA_one, bytesA_plains, List.take_of_length_le, List.drop_of_length_le, Nat.add_zero, V.one, Nat.reduceLeDiff, List.all_cons, List.all_nil, ne_eq, not_false_eq_true, Nat.zero_le, gs_ne, A.e1, A.e4, hq, h3, h4, f1, f2, f3, f4, V.key, Option.isSome_none, Option.isSome_some, Option.map_none, Option.map_some, Option.getD_none, Option.getD_some, Heap.setMap]; done)) | refine To.ret hxE5 ?_ | refine To.skip hxE5 ?_))
    refine ⟨_, _, fin1 (i := 4) rfl, ?_, ?_⟩
    · simp only [go_sem, eqs hxE5, reduceIte, Nat.reduceEqDiff, Nat.reduceAdd, Nat.reduceMul, Nat.reduceLT, Nat.reduceLeDiff, Int.reduceBEq, Int.reduceBNe]; try rfl
    · refine fin rfl (Nat.le_refl _) ?_ (by simp only [go_sem, eqs hxE5, reduceIte, Nat.reduceEqDiff, Nat.reduceAdd, Nat.reduceMul, Nat.reduceLT, Nat.reduceLeDiff, Int.reduceBEq, Int.reduceBNe])
      have := A.l3
      omega

def hearVal : List Nt → V
  | [] => .tuple [Nt.zero.v, .bool false]
  | n :: _ => .tuple [n.v, .bool true]
set_option maxHeartbeats 4000000 in
theorem hear_q {N : List Nt} (h : PQ o q c1 c2 m1 m2 rq (N.map Nt.v) op wt last lost) :
    ∃ v oh, Den FF E5 46 [.ptr q 0] ⟨o, e, d⟩ = some (v, oh) ∧ v = .val (hearVal N) ∧ ∃ o' d', oh.getD ⟨o, e, d⟩ = ⟨o', e, d'⟩ ∧
      PQ o' q c1 c2 m1 m2 rq (N.tail.map Nt.v) op wt last lost ∧ Qx q c1 c2 m1 m2 o o' := by
  refine To.denE hxE5 (f := 46) (a := af46) rfl (E5_none rfl) (Nat.le_of_ble_eq_true rfl) ?_
  have hP := h
  obtain ⟨hq, h1, h2, h3, h4, hm⟩ := h
  have A := hP.ap
  unfold pqC at hq
  cases N with
  | nil =>
    simp only [List.map_nil] at h2
    (repeat' (first | refine To.seq hxE5 ?_ | refine To.op0 hxE5 (by simp only [go_sem, eqs hxE5, reduceIte, Nat.reduceEqDiff, Nat.reduceAdd, Nat.reduceMul, Nat.reduceLT, Nat.reduceLeDiff, Int.reduceBEq, Int.reduceBNe, Heap.gets, Heap.sets, Heap.get, bytesA_length, bytesA_one, bytesA_plains, List.take_of_length_le, List.drop_of_length_le, Nat.add_zero, V.one, Nat.reduceLeDiff, List.all_cons, List.all_nil, ne_eq, not_false_eq_true, Nat.zero_le, gs_ne, gs_eq, ga_lt, ga_0, ga_k, sa_lt, sa_0, sa_k, A.lq, A.l2, List.length_set, hq, h2]; rfl) ?_ | refine To.op1 hxE5 (by simp only [go_sem, eqs hxE5, reduceIte, Nat.reduceEqDiff, Nat.reduceAdd, Nat.reduceMul, Nat.reduceLT, Nat.reduceLeDiff, Int.reduceBEq, Int.reduceBNe, Heap.gets, Heap.sets, Heap.get, bytesA_length, bytesA_one, bytesA_plains, List.take_of_length_le, List.drop_of_length_le, Nat.add_zero, V.one, Nat.reduceLeDiff, List.all_cons, List.all_nil, ne_eq, not_false_eq_true, Nat.zero_le, gs_ne, gs_eq, ga_lt, ga_0, ga_k, sa_lt, sa_0, sa_k, A.lq, A.l2, List.length_set, hq, h2]; rfl) ?_ | refine To.sel hxE5 (by simp only [selA, go_sem, eqs hxE5, reduceIte, Nat.reduceEqDiff, Nat.reduceAdd, Nat.reduceMul, Nat.reduceLT, Nat.reduceLeDiff, Int.reduceBEq, Int.reduceBNe, Heap.gets, Heap.sets, Heap.get, bytesA_length, bytesA_one, bytesA_plains, List.take_of_length_le, List.drop_of_length_le, Nat.add_zero, V.one, Nat.reduceLeDiff, List.all_cons, List.all_nil, ne_eq, not_false_eq_true, Nat.zero_le, gs_ne, gs_eq, ga_lt, ga_0, ga_k, sa_lt, sa_0, sa_k, A.lq, A.l2, List.length_set, hq, h2]; rfl) ?_ | refine To.nop hxE5 ?_ | (refine To.condF hxE5 ?_ ?_; focus (simp only [go_sem, eqs hxE5, reduceIte, Nat.reduceEqDiff, Nat.reduceAdd, Nat.reduceMul, Nat.reduceLT, Nat.reduceLeDiff, Int.reduceBEq, Int.reduceBNe, Heap.gets, Heap.sets, Heap.get, bytesA_length, bytesA_one, bytesA_plains, List.take_of_length_le, List.drop_of_length_le, Nat.add_zero, V.one, Nat.reduceLeDiff, List.all_cons, List.all_nil, ne_eq, not_false_eq_true, Nat.zero_le, gs_ne, gs_eq, ga_lt, ga_0, ga_k, sa_lt, sa_0, sa_k, A.lq, A.l2, List.length_set, hq, h2]; done)) | refine To.block hxE5 ?_ | refine To.ret hxE5 ?_ | refine To.skip hxE5 ?_))
    refine ⟨_, _, finQT (i := 2) (n := 3) (j := 3) (l := o.length) (o := 0) rfl (by simp only [go_sem, eqs hxE5, reduceIte, Nat.reduceEqDiff, Nat.reduceAdd, Nat.reduceMul, Nat.reduceLT, Nat.reduceLeDiff, Int.reduceBEq, Int.reduceBNe]) (by simp only [go_sem, eqs hxE5, reduceIte, Nat.reduceEqDiff, Nat.reduceAdd, Nat.reduceMul, Nat.reduceLT, Nat.reduceLeDiff, Int.reduceBEq, Int.reduceBNe, Heap.gets, Heap.sets, Heap.get, bytesA_length, bytesA_one, bytesA_plains, List.take_of_length_le, List.drop_of_length_le, Nat.add_zero, V.one, Nat.reduceLeDiff, List.all_cons, List.all_nil, ne_eq, not_false_eq_true, Nat.zero_le]; try rfl), ?_, ?_⟩
    · simp only [go_sem, eqs hxE5, reduceIte, Nat.reduceEqDiff, Nat.reduceAdd, Nat.reduceMul, Nat.reduceLT, Nat.reduceLeDiff, Int.reduceBEq, Int.reduceBNe, hearVal]; try rfl
    · refine close_q A ?_ (Qx.app _) (Nat.le_refl _) (by simp only [go_sem, eqs hxE5, reduceIte, Nat.reduceEqDiff, Nat.reduceAdd, Nat.reduceMul, Nat.reduceLT, Nat.reduceLeDiff, Int.reduceBEq, Int.reduceBNe]) (.inr ?_)
      · exact hP.app _
      · exact hP
  | cons n N =>
    simp only [List.map_cons, Nt.v, Nt.cs] at h2
    (repeat' (first | refine To.seq hxE5 ?_ | refine To.op0 hxE5 (by simp only [go_sem, eqs hxE5, reduceIte, Nat.reduceEqDiff, Nat.reduceAdd, Nat.reduceMul, Nat.reduceLT, Nat.reduceLeDiff, Int.reduceBEq, Int.reduceBNe, Heap.gets, Heap.sets, Heap.get, bytesA_length, bytesA_one, bytesA_plains, List.take_of_length_le, List.drop_of_length_le, Nat.add_zero, V.one, Nat.reduceLeDiff, List.all_cons, List.all_nil, ne_eq, not_false_eq_true, Nat.zero_le, gs_ne, gs_eq, ga_lt, ga_0, ga_k, sa_lt, sa_0, sa_k, A.lq, A.l2, A.b1, List.length_set, hq, h2]; rfl) ?_ | refine To.op1 hxE5 (by simp only [go_sem, eqs hxE5, reduceIte, Nat.reduceEqDiff, Nat.reduceAdd, Nat.reduceMul, Nat.reduceLT, Nat.reduceLeDiff, Int.reduceBEq, Int.reduceBNe, Heap.gets, Heap.sets, Heap.get, bytesA_length, bytesA_one, bytesA_plains, List.take_of_length_le, List.drop_of_length_le, Nat.add_zero, V.one, Nat.reduceLeDiff, List.all_cons, List.all_nil, ne_eq, not_false_eq_true, Nat.zero_le, gs_ne, gs_eq, ga_lt, ga_0, ga_k, sa_lt, sa_0, sa_k, A.lq, A.l2, A.b1, List.length_set, hq, h2]; rfl) ?_ | refine To.sel hxE5 (by simp only [selA, go_sem, eqs hxE5, reduceIte, Nat.reduceEqDiff, Nat.reduceAdd, Nat.reduceMul, Nat.reduceLT, Nat.reduceLeDiff, Int.reduceBEq, Int.reduceBNe, Heap.gets, Heap.sets, Heap.get, bytesA_length, bytesA_one, bytesA_plains, List.take_of_length_le, List.drop_of_length_le, Nat.add_zero, V.one, Nat.reduceLeDiff, List.all_cons, List.all_nil, ne_eq, not_false_eq_true, Nat.zero_le, gs_ne, gs_eq, ga_lt, ga_0, ga_k, sa_lt, sa_0, sa_k, A.lq, A.l2, A.b1, List.length_set, hq, h2]; rfl) ?_ | refine To.nop hxE5 ?_ | (refine To.condT hxE5 ?_ ?_; focus (simp only [go_sem, eqs hxE5, reduceIte, Nat.reduceEqDiff, Nat.reduceAdd, Nat.reduceMul, Nat.reduceLT, Nat.reduceLeDiff, Int.reduceBEq, Int.reduceBNe, Heap.gets, Heap.sets, Heap.get, bytesA_length, bytesA_one, bytesA_plains, List.take_of_length_le, List.drop_of_length_le, Nat.add_zero, V.one, Nat.reduceLeDiff, List.all_cons, List.all_nil, ne_eq, not_false_eq_true, Nat.zero_le, gs_ne, gs_eq, ga_lt, ga_0, ga_k, sa_lt, sa_0, sa_k, A.lq, A.l2, A.b1, List.length_set, hq, h2]; done)) | (refine To.condF hxE5 ?_ ?_; focus (simp only [go_sem, eqs hxE5, reduceIte, Nat.reduceEqDiff, Nat.reduceAdd, Nat.reduceMul, Nat.reduceLT, Nat.reduceLeDiff, Int.reduceBEq, Int.reduceBNe, Heap.gets, Heap.sets, Heap.get, bytesA_length, bytesA_one, bytesA_plains, List.take_of_length_le, List.drop_of_length_le, Nat.add_zero, V.one, Nat.reduceLeDiff, List.all_cons, List.all_nil, ne_eq, not_false_eq_true, Nat.zero_le, gs_ne, gs_eq, ga_lt, ga_0, ga_k, sa_lt, sa_0, sa_k, A.lq, A.l2, A.b1, List.length_set, hq, h2]; done)) | refine To.block hxE5 ?_ | refine To.ret hxE5 ?_ | refine To.skip hxE5 ?_))
    refine ⟨_, _, finQT (i := 2) (n := 3) (j := 3) (l := o.length) (o := 0) rfl (by simp only [go_sem, eqs hxE5, reduceIte, Nat.reduceEqDiff, Nat.reduceAdd, Nat.reduceMul, Nat.reduceLT, Nat.reduceLeDiff, Int.reduceBEq, Int.reduceBNe]) (by simp only [go_sem, eqs hxE5, reduceIte, Nat.reduceEqDiff, Nat.reduceAdd, Nat.reduceMul, Nat.reduceLT, Nat.reduceLeDiff, Int.reduceBEq, Int.reduceBNe, Heap.gets, Heap.sets, Heap.get, bytesA_length, bytesA_one, bytesA_plains, List.take_of_length_le, List.drop_of_length_le, Nat.add_zero, V.one, Nat.reduceLeDiff, List.all_cons, List.all_nil, ne_eq, not_false_eq_true, Nat.zero_le, ga_0, ga_k, List.length_set]; try rfl), ?_, ?_⟩
    · simp only [go_sem, eqs hxE5, reduceIte, Nat.reduceEqDiff, Nat.reduceAdd, Nat.reduceMul, Nat.reduceLT, Nat.reduceLeDiff, Int.reduceBEq, Int.reduceBNe, hearVal]; try rfl
    · refine close_q A ?_ ?_ ?_ (by simp only [go_sem, eqs hxE5, reduceIte, Nat.reduceEqDiff, Nat.reduceAdd, Nat.reduceMul, Nat.reduceLT, Nat.reduceLeDiff, Int.reduceBEq, Int.reduceBNe]) (.inl ?_)
      · exact (hP.c2' _).app _
      · exact (Qx.set (.inr (.inr (.inl rfl)))).trans (Qx.app _)
      · exact Nat.le_refl _
      · have := A.l2
        simp only
        omega

set_option maxHeartbeats 4000000 in
theorem lost_q (h : PQ o q c1 c2 m1 m2 rq ns op wt last lost) :
    ∃ v oh, Den FF E5 38 [.ptr q 0] ⟨o, e, d⟩ = some (v, oh) ∧ v = .val (.bool lost) ∧ ∃ o' d', oh.getD ⟨o, e, d⟩ = ⟨o', e, d'⟩ ∧
      PQ o' q c1 c2 m1 m2 rq ns op wt last false ∧ Qx q c1 c2 m1 m2 o o' := by
  refine To.denE hxE5 (f := 38) (a := af38) rfl (E5_none rfl) (Nat.le_of_ble_eq_true rfl) ?_
  have hP := h
  obtain ⟨hq, h1, h2, h3, h4, hm⟩ := h
  have A := hP.ap
  unfold pqC at hq
  (repeat' (first | refine To.seq hxE5 ?_ | refine To.op0 hxE5 (by simp only [go_sem, eqs hxE5, reduceIte, Nat.reduceEqDiff, Nat.reduceAdd, Nat.reduceMul, Nat.reduceLT, Nat.reduceLeDiff, Int.reduceBEq, Int.reduceBNe, Heap.gets, Heap.sets, Heap.get, bytesA_length, bytesA_one, bytesA_plains, List.take_of_length_le, List.drop_of_length_le, Nat.add_zero, V.one, Nat.reduceLeDiff, List.all_cons, List.all_nil, ne_eq, not_false_eq_true, Nat.zero_le, hq]; rfl) ?_ | refine To.op1 hxE5 (by simp only [go_sem, eqs hxE5, reduceIte, Nat.reduceEqDiff, Nat.reduceAdd, Nat.reduceMul, Nat.reduceLT, Nat.reduceLeDiff, Int.reduceBEq, Int.reduceBNe, Heap.gets, Heap.sets, Heap.get, bytesA_length, bytesA_one, bytesA_plains, List.take_of_length_le, List.drop_of_length_le, Nat.add_zero, V.one, Nat.reduceLeDiff, List.all_cons, List.all_nil, ne_eq, not_false_eq_true, Nat.zero_le, hq]; rfl) ?_ | refine To.nop hxE5 ?_ | (refine To.condF hxE5 ?_ ?_; focus (simp only [go_sem, eqs hxE5, reduceIte, Nat.reduceEqDiff, Nat.reduceAdd, Nat.reduceMul, Nat.reduceLT, Nat.reduceLeDiff, Int.reduceBEq, Int.reduceBNe, Heap.gets, Heap.sets, Heap.get, bytesA_length, bytesA_one, bytesA_plains, List.take_of_length_le, List.drop_of_length_le, Nat.add_zero, V.one, Nat.reduceLeDiff, List.all_cons, List.all_nil, ne_eq, not_false_eq_true, Nat.zero_le, hq]; done)) | refine To.ret hxE5 ?_ | refine To.skip hxE5 ?_))
  refine ⟨_, _, fin1 (i := 2) rfl, ?_, ?_⟩
  · simp only [go_sem, eqs hxE5, reduceIte, Nat.reduceEqDiff, Nat.reduceAdd, Nat.reduceMul, Nat.reduceLT, Nat.reduceLeDiff, Int.reduceBEq, Int.reduceBNe]
  · refine close_q A ?_ ?_ (Nat.le_refl _) (by simp only [go_sem, eqs hxE5, reduceIte, Nat.reduceEqDiff, Nat.reduceAdd, Nat.reduceMul, Nat.reduceLT, Nat.reduceLeDiff, Int.reduceBEq, Int.reduceBNe]) (.inl ?_)
    · exact hP.q' _ _
    · exact Qx.set (.inl rfl)
    · have := A.lq
      simp only
      omega
theorem waits_q (h : PQ o q c1 c2 m1 m2 rq ns op wt last lost) : Den FF E5 35 [.ptr q 0] ⟨o, e, d⟩ = some (.val (.int .i64 (rq.length : Int)), none) := by
  have : ∃ v oh, Den FF E5 35 [.ptr q 0] ⟨o, e, d⟩ = some (v, oh) ∧ v = .val (.int .i64 (rq.length : Int)) ∧ oh = none := by
    refine To.denE hxE5 (f := 35) (a := af35) rfl (E5_none rfl) (Nat.le_of_ble_eq_true rfl) ?_
    obtain ⟨hq, h1, h2, h3, h4, hm⟩ := h
    unfold pqC at hq
    (repeat' (first | refine To.seq hxE5 ?_ | refine To.op0 hxE5 (by simp only [go_sem, eqs hxE5, reduceIte, Nat.reduceEqDiff, Nat.reduceAdd, Nat.reduceMul, Nat.reduceLT, Nat.reduceLeDiff, Int.reduceBEq, Int.reduceBNe, Heap.gets, Heap.sets, Heap.get, bytesA_length, bytesA_one, bytesA_plains, List.take_of_length_le, List.drop_of_length_le, Nat.add_zero, V.one, Nat.reduceLeDiff, List.all_cons, List.all_nil, ne_eq, not_false_eq_true, Nat.zero_le, hq, h1]; rfl) ?_ | refine To.nop hxE5 ?_ | (refine To.condF hxE5 ?_ ?_; focus (simp only [go_sem, eqs hxE5, reduceIte, Nat.reduceEqDiff, Nat.reduceAdd, Nat.reduceMul, Nat.reduceLT, Nat.reduceLeDiff, Int.reduceBEq, Int.reduceBNe, Heap.gets, Heap.sets, Heap.get, bytesA_length, bytesA_one, bytesA_plains, List.take_of_length_le, List.drop_of_length_le, Nat.add_zero, V.one, Nat.reduceLeDiff, List.all_cons, List.all_nil, ne_eq, not_false_eq_true, Nat.zero_le, hq, h1]; done)) | refine To.ret hxE5 ?_ | refine To.skip hxE5 ?_))
    refine ⟨_, _, fin1 (i := 2) rfl, ?_, ?_⟩
    · simp only [go_sem, eqs hxE5, reduceIte, Nat.reduceEqDiff, Nat.reduceAdd, Nat.reduceMul, Nat.reduceLT, Nat.reduceLeDiff, Int.reduceBEq, Int.reduceBNe]
    · rw [leave_plain (Kp.enter ⟨o, e, d⟩) (by simp only [go_sem, eqs hxE5, reduceIte, Nat.reduceEqDiff, Nat.reduceAdd, Nat.reduceMul, Nat.reduceLT, Nat.reduceLeDiff, Int.reduceBEq, Int.reduceBNe])]
  obtain ⟨v, oh, q, rfl, rfl⟩ := this
  exact q
theorem open_q (h : PQ o q c1 c2 m1 m2 rq ns op wt last lost) : Den FF E5 37 [.ptr q 0] ⟨o, e, d⟩ = some (.val (.int .i64 (op.length : Int)), none) := by
  have : ∃ v oh, Den FF E5 37 [.ptr q 0] ⟨o, e, d⟩ = some (v, oh) ∧ v = .val (.int .i64 (op.length : Int)) ∧ oh = none := by
    refine To.denE hxE5 (f := 37) (a := af37) rfl (E5_none rfl) (Nat.le_of_ble_eq_true rfl) ?_
    obtain ⟨hq, h1, h2, h3, h4, hm⟩ := h
    unfold pqC at hq
    (repeat' (first | refine To.seq hxE5 ?_ | refine To.op0 hxE5 (by simp only [go_sem, eqs hxE5, reduceIte, Nat.reduceEqDiff, Nat.reduceAdd, Nat.reduceMul, Nat.reduceLT, Nat.reduceLeDiff, Int.reduceBEq, Int.reduceBNe, Heap.gets, Heap.sets, Heap.get, bytesA_length, bytesA_one, bytesA_plains, List.take_of_length_le, List.drop_of_length_le, Nat.add_zero, V.one, Nat.reduceLeDiff, List.all_cons, List.all_nil, ne_eq, not_false_eq_true, Nat.zero_le, hq, h3]; rfl) ?_ | refine To.nop hxE5 ?_ | (refine To.condF hxE5 ?_ ?_; focus (simp only [go_sem, eqs hxE5, reduceIte, Nat.reduceEqDiff, Nat.reduceAdd, Nat.reduceMul, Nat.reduceLT, Nat.reduceLeDiff, Int.reduceBEq, Int.reduceBNe, Heap.gets, Heap.sets, Heap.get, bytesA_length, bytesA_one, bytesA_plains, List.take_of_length_le, List.drop_of_length_le, Nat.add_zero, V.one, Nat.reduceLeDiff, List.all_cons, List.all_nil, ne_eq, not_false_eq_true, Nat.zero_le, hq, h3]; done)) | refine To.ret hxE5 ?_ | refine To.skip hxE5 ?_))
    refine ⟨_, _, fin1 (i := 2) rfl, ?_, ?_⟩
    · simp only [go_sem, eqs hxE5, reduceIte, Nat.reduceEqDiff, Nat.reduceAdd, Nat.reduceMul, Nat.reduceLT, Nat.reduceLeDiff, Int.reduceBEq, Int.reduceBNe]
    · rw [leave_plain (Kp.enter ⟨o, e, d⟩) (by simp only [go_sem, eqs hxE5, reduceIte, Nat.reduceEqDiff, Nat.reduceAdd, Nat.reduceMul, Nat.reduceLT, Nat.reduceLeDiff, Int.reduceBEq, Int.reduceBNe])]
  obtain ⟨v, oh, q, rfl, rfl⟩ := this
  exact q
theorem notices_q (h : PQ o q c1 c2 m1 m2 rq ns op wt last lost) : Den FF E5 36 [.ptr q 0] ⟨o, e, d⟩ = some (.val (.int .i64 (ns.length : Int)), none) := by
  have : ∃ v oh, Den FF E5 36 [.ptr q 0] ⟨o, e, d⟩ = some (v, oh) ∧ v = .val (.int .i64 (ns.length : Int)) ∧ oh = none := by
    refine To.denE hxE5 (f := 36) (a := af36) rfl (E5_none rfl) (Nat.le_of_ble_eq_true rfl) ?_
    obtain ⟨hq, h1, h2, h3, h4, hm⟩ := h
    unfold pqC at hq
    (repeat' (first | refine To.seq hxE5 ?_ | refine To.op0 hxE5 (by simp only [go_sem, eqs hxE5, reduceIte, Nat.reduceEqDiff, Nat.reduceAdd, Nat.reduceMul, Nat.reduceLT, Nat.reduceLeDiff, Int.reduceBEq, Int.reduceBNe, Heap.gets, Heap.sets, Heap.get, bytesA_length, bytesA_one, bytesA_plains, List.take_of_length_le, List.drop_of_length_le, Nat.add_zero, V.one, Nat.reduceLeDiff, List.all_cons, List.all_nil, ne_eq, not_false_eq_true, Nat.zero_le, hq, h2]; rfl) ?_ | refine To.nop hxE5 ?_ | (refine To.condF hxE5 ?_ ?_; focus (simp only [go_sem, eqs hxE5, reduceIte, Nat.reduceEqDiff, Nat.reduceAdd, Nat.reduceMul, Nat.reduceLT, Nat.reduceLeDiff, Int.reduceBEq, Int.reduceBNe, Heap.gets, Heap.sets, Heap.get, bytesA_length, bytesA_one, bytesA_plains, List.take_of_length_le, List.drop_of_length_le, Nat.add_zero, V.one, Nat.reduceLeDiff, List.all_cons, List.all_nil, ne_eq, not_false_eq_true, Nat.zero_le, hq, h2]; done)) | refine To.ret hxE5 ?_ | refine To.skip hxE5 ?_))
    refine ⟨_, _, fin1 (i := 2) rfl, ?_, ?_⟩
    · simp only [go_sem, eqs hxE5, reduceIte, Nat.reduceEqDiff, Nat.reduceAdd, Nat.reduceMul, Nat.reduceLT, Nat.reduceLeDiff, Int.reduceBEq, Int.reduceBNe]
    · rw [leave_plain (Kp.enter ⟨o, e, d⟩) (by simp only [go_sem, eqs hxE5, reduceIte, Nat.reduceEqDiff, Nat.reduceAdd, Nat.reduceMul, Nat.reduceLT, Nat.reduceLeDiff, Int.reduceBEq, Int.reduceBNe])]
  obtain ⟨v, oh, q, rfl, rfl⟩ := this
  exact q

/-- A new queue. -/
theorem new_q : ∃ v oh, Den FF E5 29 [] ⟨o, e, d⟩ = some (v, oh) ∧ v = .val (.ptr (o.length + 4) 0) ∧ ∃ r e' d', oh = some ⟨o ++ r, e', d'⟩ ∧ r.length = 5 ∧
    PQ (o ++ r) (o.length + 4) o.length (o.length + 1) (o.length + 2) (o.length + 3) [] [] [] [] 0 false := by
  refine To.denE hxE5 (f := 29) (a := af29) rfl (E5_none rfl) (Nat.le_of_ble_eq_true rfl) ?_
  (repeat' (first | refine To.seq hxE5 ?_ | refine To.op0 hxE5 (by simp only [go_sem, eqs hxE5, reduceIte, Nat.reduceEqDiff, Nat.reduceAdd, Nat.reduceMul, Nat.reduceLT, Nat.reduceLeDiff, Int.reduceBEq, Int.reduceBNe, Heap.gets, Heap.sets, Heap.get, bytesA_length, bytesA_one, bytesA_plains, List.take_of_length_le, List.drop_of_length_le, Nat.add_zero, V.one, Nat.reduceLeDiff, List.all_cons, List.all_nil, ne_eq, not_false_eq_true, Nat.zero_le, sa_0, sa_k, ga_0, ga_k, newA, okL, Nat.add_sub_cancel_left, Nat.sub_self, List.contains_cons, Bool.or_true, List.replicate, Obj.only, V.onlys, V.only]; rfl) ?_ | refine To.nop hxE5 ?_ | refine To.ret hxE5 ?_ | refine ToD.op0 (by simp only [go_sem, eqs hxE5, reduceIte, Nat.reduceEqDiff, Nat.reduceAdd, Nat.reduceMul, Nat.reduceLT, Nat.reduceLeDiff, Int.reduceBEq, Int.reduceBNe, Heap.gets, Heap.sets, Heap.get, bytesA_length, bytesA_one, bytesA_plains, List.take_of_length_le, List.drop_of_length_le, Nat.add_zero, V.one, Nat.reduceLeDiff, List.all_cons, List.all_nil, ne_eq, not_false_eq_true, Nat.zero_le, sa_0, sa_k, ga_0, ga_k, newA, okL, Nat.add_sub_cancel_left, Nat.sub_self, List.contains_cons, Bool.or_true, List.replicate, Obj.only, V.onlys, V.only]; rfl) (by simp only [put_some, put_none]; rfl) ?_ | refine ToD.op1 (by simp only [go_sem, eqs hxE5, reduceIte, Nat.reduceEqDiff, Nat.reduceAdd, Nat.reduceMul, Nat.reduceLT, Nat.reduceLeDiff, Int.reduceBEq, Int.reduceBNe, Heap.gets, Heap.sets, Heap.get, bytesA_length, bytesA_one, bytesA_plains, List.take_of_length_le, List.drop_of_length_le, Nat.add_zero, V.one, Nat.reduceLeDiff, List.all_cons, List.all_nil, ne_eq, not_false_eq_true, Nat.zero_le, sa_0, sa_k, ga_0, ga_k, newA, okL, Nat.add_sub_cancel_left, Nat.sub_self, List.contains_cons, Bool.or_true, List.replicate, Obj.only, V.onlys, V.only]; rfl) (by simp only [put_some, put_none]; rfl) (by simp only [KD.app, go_sem, eqs hxE5, reduceIte, Nat.reduceEqDiff, Nat.reduceAdd, Nat.reduceMul, Nat.reduceLT, Nat.reduceLeDiff, Int.reduceBEq, Int.reduceBNe, Heap.gets, Heap.sets, Heap.get, bytesA_length, bytesA_one, bytesA_plains, List.take_of_length_le, List.drop_of_length_le, Nat.add_zero, V.one, Nat.reduceLeDiff, List.all_cons, List.all_nil, ne_eq, not_false_eq_true, Nat.zero_le, sa_0, sa_k, ga_0, ga_k, newA, okL, Nat.add_sub_cancel_left, Nat.sub_self, List.contains_cons, Bool.or_true, List.replicate, Obj.only, V.onlys, V.only]; rfl) ?_ | refine ToD.nop ?_ | refine To.draw hxE5 (by decide) ?_ | fail))
  refine ⟨_, _, fin1 (i := 0) rfl, ?_, ?_⟩
  · simp only [go_sem, eqs hxE5, reduceIte, Nat.reduceEqDiff, Nat.reduceAdd, Nat.reduceMul, Nat.reduceLT, Nat.reduceLeDiff, Int.reduceBEq, Int.reduceBNe]
  · rw [leave_some (by simp only [go_sem, eqs hxE5, reduceIte, Nat.reduceEqDiff, Nat.reduceAdd, Nat.reduceMul, Nat.reduceLT, Nat.reduceLeDiff, Int.reduceBEq, Int.reduceBNe])]
    refine ⟨_, _, _, rfl, rfl, ?_⟩
    refine ⟨by rw [ga_k rfl]; rfl, by rw [ga_0 rfl]; rfl, by rw [ga_k rfl]; rfl, by rw [ga_k rfl]; rfl, by rw [ga_k rfl]; rfl, by omega⟩
end
end Go.Proofs.Ytjbblfoefibeaaa

/- Queues: tell and drain. -/
namespace Go.Proofs.Ytjbblfoefibeaaa
open Go AM
set_option linter.unusedSimpArgs false
set_option linter.unusedVariables false
set_option maxRecDepth 100000

/-- A slice without elements, whatever it leads to. -/
def Empty (v : V) : Prop := v = .nils ∨ (∃ a, v = .zsl a) ∨ ∃ l o k e, v = .esl l o k e
theorem Empty.len {v : V} (h : Empty v) : lenLV v = some (.int .i64 0, none) := by
  obtain rfl | ⟨a, rfl⟩ | ⟨l, o, k, e, rfl⟩ := h <;> rfl
/-- Rows that nobody writes: a slice of an argument, or a part of one. -/
def RoRows (o : List AM.Obj) (v : V) (e : Nat) (xs : List (List V)) : Prop :=
  (Empty v ∧ xs = []) ∨ ∃ l off t all, v = .slice l off xs.length e ∧ o[l]? = some (AM.Obj.cells .ro t 0 all) ∧ ∀ k c, xs[k]? = some c → (all.drop (off + k * e)).take e = c ∧ off + k * e + e ≤ all.length ∧ 0 < e
theorem RoRows.len {o : List AM.Obj} {v : V} {e : Nat} {xs : List (List V)} (h : RoRows o v e xs) : lenLV v = some (.int .i64 (xs.length : Int), none) := by
  obtain ⟨h, rfl⟩ | ⟨l, off, t, all, rfl, _⟩ := h
  · exact h.len
  · rfl
theorem RoRows.idx {o : List AM.Obj} {v : V} {e : Nat} {xs : List (List V)} (h : RoRows o v e xs) {k : Nat} {c : List V} (hk : xs[k]? = some c) :
    ∃ l off t all, v = .slice l off xs.length e ∧ o[l]? = some (AM.Obj.cells .ro t 0 all) ∧ (all.drop (off + k * e)).take e = c ∧ (off + k * e + e ≤ all.length) = True := by
  obtain ⟨h, rfl⟩ | ⟨l, off, t, all, rfl, ho, hx⟩ := h
  · simp at hk
  · obtain ⟨a1, a2, a3⟩ := hx k c hk
    exact ⟨l, off, t, all, rfl, ho, a1, eq_true a2⟩
theorem RoRows.of {o o' : List AM.Obj} {v : V} {e : Nat} {xs : List (List V)} (h : RoRows o v e xs) (hk : ∀ (l t : Nat) (all : List V), o[l]? = some (AM.Obj.cells .ro t 0 all) → o'[l]? = some (AM.Obj.cells .ro t 0 all)) : RoRows o' v e xs := by
  obtain h | ⟨l, off, t, all, rfl, ho, hx⟩ := h
  · exact .inl h
  · exact .inr ⟨l, off, t, all, rfl, hk _ _ _ ho, hx⟩
theorem Qx.ro {q c1 c2 m1 m2 : Nat} {o o' : List AM.Obj} {rq ns : List V} {op wt : List (V × V)} {last : Int} {lost : Bool} (h : Qx q c1 c2 m1 m2 o o') (hP : PQ o q c1 c2 m1 m2 rq ns op wt last lost) (l t : Nat) (all : List V) (hl : o[l]? = some (AM.Obj.cells .ro t 0 all)) : o'[l]? = some (AM.Obj.cells .ro t 0 all) := by
  rw [h.get l (get_lt hl) (ne_of hl hP.hq (by simp)) (ne_of hl hP.h1 (by simp)) (ne_of hl hP.h2 (by simp)) (ne_of hl hP.h3 (by simp)) (ne_of hl hP.h4 (by simp))]
  exact hl

/-- One notice more is told: what waits, whether some were lost, how many got in. -/
def tell1 (s : List Nt × Bool × Nat) (n : Nt) : List Nt × Bool × Nat :=
  if n.right = true then (if s.1.length < 16 then (s.1 ++ [n], s.2.1, s.2.2 + 1) else (s.1, true, s.2.2)) else s
def tellF (l : List Nt) (N : List Nt) (lost : Bool) : List Nt × Bool × Nat := l.foldl tell1 (N, lost, 0)
theorem tell1_len (s : List Nt × Bool × Nat) (n : Nt) : (tell1 s n).2.2 ≤ s.2.2 + 1 := by
  unfold tell1; split
  · split <;> simp
  · simp
theorem tell_len : ∀ (l : List Nt) (s : List Nt × Bool × Nat), (l.foldl tell1 s).2.2 ≤ s.2.2 + l.length
  | [], s => by simp
  | n :: l, s => by
    have := tell_len l (tell1 s n)
    have := tell1_len s n
    simp only [List.foldl_cons, List.length_cons]; omega

section
variable {o : List AM.Obj} {e d q c1 c2 m1 m2 : Nat} {rq ns : List V} {op wt : List (V × V)} {last : Int} {lost : Bool}
set_option maxHeartbeats 8000000 in
theorem tell_q {v : V} {N l : List Nt} (h : PQ o q c1 c2 m1 m2 rq (N.map Nt.v) op wt last lost) (hv : RoRows o v 3 (l.map Nt.cs)) (hl : l.length ≤ 9223372036854775807) :
    ∃ r oh, Den FF E5 34 [.ptr q 0, v] ⟨o, e, d⟩ = some (r, oh) ∧ r = .val (.int .i64 (((tellF l N lost).2.2 : Nat) : Int)) ∧ ∃ o' d', oh.getD ⟨o, e, d⟩ = ⟨o', e, d'⟩ ∧
      PQ o' q c1 c2 m1 m2 rq ((tellF l N lost).1.map Nt.v) op wt last (tellF l N lost).2.1 ∧ Qx q c1 c2 m1 m2 o o' := by
  refine To.denE hxE5 (f := 34) (a := af34) rfl (E5_none rfl) (Nat.le_of_ble_eq_true rfl) ?_
  have hP := h
  have A := hP.ap
  have hlen := hv.len
  rw [List.length_map] at hlen
  (repeat' (first | refine To.seq hxE5 ?_ | refine To.op0 hxE5 (by simp only [go_sem, eqs hxE5, reduceIte, Nat.reduceEqDiff, Nat.reduceAdd, Nat.reduceMul, Nat.reduceLT, Nat.reduceLeDiff, Int.reduceLT, Int.reduceLE, Int.reduceEq, reduceCtorEq, Int.reduceBEq, Int.reduceBNe, hlen]; rfl) ?_ | refine To.nop hxE5 ?_ | (refine To.condF hxE5 ?_ ?_; focus (simp only [go_sem, eqs hxE5, reduceIte, Nat.reduceEqDiff, Nat.reduceAdd, Nat.reduceMul, Nat.reduceLT, Nat.reduceLeDiff, Int.reduceLT, Int.reduceLE, Int.reduceEq, reduceCtorEq, Int.reduceBEq, Int.reduceBNe, hlen]; done)) | refine To.block hxE5 ?_ | refine To.skip hxE5 ?_))
  refine To.loop hxE5 (fun k S h' => ∃ i o' e' d' s, i + k = l.length ∧ h' = ⟨o', e', d'⟩ ∧ s = (l.take i).foldl tell1 (N, lost, 0) ∧ PQ o' q c1 c2 m1 m2 rq (s.1.map Nt.v) op wt last s.2.1 ∧ Qx q c1 c2 m1 m2 o o' ∧ o.length ≤ e' ∧ (d' < o.length ∨ (s.1 = N ∧ s.2.1 = lost)) ∧ S 0 = .ptr q 0 ∧ S 5 = .int .i64 ((s.2.2 : Nat) : Int) ∧ S 10 = v ∧ S 11 = .int .i64 (l.length : Int) ∧ S 12 = .int .i64 (i : Int)) ?_ l.length _ _ ?_
  · rintro k S _ ⟨i, o', e', d', s, hk, rfl, hs, hP', hQ', he', hd', s0, s5, s10, s11, s12⟩
    have A' := hP'.ap
    have hle := hQ'.len
    by_cases hi : i < l.length
    · have hlt : decide ((i : Int) < (l.length : Int)) = true := by simp; omega
      obtain ⟨n, hn⟩ : ∃ n, l[i]? = some n := ⟨l[i], List.getElem?_eq_getElem hi⟩
      have hn2 : (l.map Nt.cs)[i]? = some n.cs := by rw [List.getElem?_map, hn]; rfl
      obtain ⟨x, off, t, all, rfl, hx, b1, b2⟩ := hv.idx hn2
      have hx' := hQ'.ro hP _ _ _ hx
      unfold Nt.cs at b1
      have hix : idxOf (l.map Nt.cs).length (.int .i64 (i : Int)) = some i := idxOf_nat (by simpa using hi)
      have w1 : IntKind.i64.wrap ((i : Int) + 1) = ((i + 1 : Nat) : Int) := by rw [wrap_i64 (by omega) (by omega)]; omega
      have hcl := tell_len (l.take i) (N, lost, 0)
      rw [← hs] at hcl
      have hcl2 : s.2.2 ≤ i := by simp only [List.length_take] at hcl; omega
      have w2 : IntKind.i64.wrap (((s.2.2 : Nat) : Int) + 1) = ((s.2.2 + 1 : Nat) : Int) := by rw [wrap_i64 (by omega) (by omega)]; omega
      have qN : ∀ h, Den FF E5 20 [.agg [.int .i64 n.k, .int .i64 n.i, .str n.nm]] h = some (.val (.bool n.right), none) := fun h => eNRight_5 n.k n.i n.nm h
      have hst : (l.take (i + 1)).foldl tell1 (N, lost, 0) = tell1 s n := by
        rw [List.take_add_one, hn, Option.toList_some, List.foldl_append, ← hs]; rfl
      obtain ⟨hq, h1, h2, h3, h4, hm⟩ := hP'
      unfold pqC at hq
      have hPn : PQ o' q c1 c2 m1 m2 rq (s.1.map Nt.v) op wt last s.2.1 := ⟨hq, h1, h2, h3, h4, hm⟩
      have hl2 := A'.l2
      cases hr : n.right
      · rw [hr] at qN
        (repeat' (first | refine To.seq hxE5 ?_ | refine To.op0 hxE5 (by simp only [go_sem, eqs hxE5, reduceIte, Nat.reduceEqDiff, Nat.reduceAdd, Nat.reduceMul, Nat.reduceLT, Nat.reduceLeDiff, Int.reduceLT, Int.reduceLE, Int.reduceEq, reduceCtorEq, Int.reduceBEq, Int.reduceBNe, Heap.gets, Heap.sets, Heap.get, bytesA_length, bytesA_one, bytesA_plains, List.take_of_length_le, List.drop_of_length_le, Nat.add_zero, V.one, Nat.reduceLeDiff, List.all_cons, List.all_nil, ne_eq, not_false_eq_true, Nat.zero_le, s0, s5, s10, s11, s12, hlt, hix, hx', b1, b2, w1, qN, ga_lt, ga_0, ga_k, sa_lt, sa_0, sa_k]; rfl) ?_ | refine To.op1 hxE5 (by simp only [go_sem, eqs hxE5, reduceIte, Nat.reduceEqDiff, Nat.reduceAdd, Nat.reduceMul, Nat.reduceLT, Nat.reduceLeDiff, Int.reduceLT, Int.reduceLE, Int.reduceEq, reduceCtorEq, Int.reduceBEq, Int.reduceBNe, Heap.gets, Heap.sets, Heap.get, bytesA_length, bytesA_one, bytesA_plains, List.take_of_length_le, List.drop_of_length_le, Nat.add_zero, V.one, Nat.reduceLeDiff, List.all_cons, List.all_nil, ne_eq, not_false_eq_true, Nat.zero_le, s0, s5, s10, s11, s12, hlt, hix, hx', b1, b2, w1, qN, ga_lt, ga_0, ga_k, sa_lt, sa_0, sa_k]; rfl) ?_ | refine To.nop hxE5 ?_ | (refine To.condT hxE5 ?_ ?_; focus (simp only [go_sem, eqs hxE5, reduceIte, Nat.reduceEqDiff, Nat.reduceAdd, Nat.reduceMul, Nat.reduceLT, Nat.reduceLeDiff, Int.reduceLT, Int.reduceLE, Int.reduceEq, reduceCtorEq, Int.reduceBEq, Int.reduceBNe, Heap.gets, Heap.sets, Heap.get, bytesA_length, bytesA_one, bytesA_plains, List.take_of_length_le, List.drop_of_length_le, Nat.add_zero, V.one, Nat.reduceLeDiff, List.all_cons, List.all_nil, ne_eq, not_false_eq_true, Nat.zero_le, s0, s5, s10, s11, s12, hlt, hix, hx', b1, b2, w1, qN, ga_lt, ga_0, ga_k, sa_lt, sa_0, sa_k]; done)) | refine To.block hxE5 ?_ | refine To.exit hxE5 ?_ | refine To.skip hxE5 ?_))
        try simp only [andThen, outOf]
        refine ⟨k - 1, by omega, i + 1, _, _, _, tell1 s n, by omega, rfl, hst.symm, ?_, hQ'.trans (Qx.app _), he', ?_, ?_⟩
        · unfold tell1; rw [hr]; exact hPn.app _
        · unfold tell1; rw [hr]; rcases hd' with h | h
          · exact .inl (by omega)
          · exact .inr h
        · unfold tell1; rw [hr]; simp only [go_sem, eqs hxE5, reduceIte, Nat.reduceEqDiff, Nat.reduceAdd, Nat.reduceMul, Nat.reduceLT, Nat.reduceLeDiff, Int.reduceLT, Int.reduceLE, Int.reduceEq, reduceCtorEq, Int.reduceBEq, Int.reduceBNe, s0, s5, s10, s11]
      · rw [hr] at qN
        by_cases h16 : s.1.length < 16
        · have h16' : (s.1.map Nt.v).length < 16 := by simpa using h16
          (repeat' (first | refine To.seq hxE5 ?_ | refine To.op0 hxE5 (by simp only [go_sem, eqs hxE5, reduceIte, Nat.reduceEqDiff, Nat.reduceAdd, Nat.reduceMul, Nat.reduceLT, Nat.reduceLeDiff, Int.reduceLT, Int.reduceLE, Int.reduceEq, reduceCtorEq, Int.reduceBEq, Int.reduceBNe, Heap.gets, Heap.sets, Heap.get, bytesA_length, bytesA_one, bytesA_plains, List.take_of_length_le, List.drop_of_length_le, Nat.add_zero, V.one, Nat.reduceLeDiff, List.all_cons, List.all_nil, ne_eq, not_false_eq_true, Nat.zero_le, s0, s5, s10, s11, s12, hlt, hix, hx', b1, b2, w1, w2, qN, h16', gs_ne, gs_eq, ga_lt, ga_0, ga_k, sa_lt, sa_0, sa_k, hq, h2, A'.lq, A'.l2, A'.q2, A'.b1, List.length_set]; rfl) ?_ | refine To.op1 hxE5 (by simp only [go_sem, eqs hxE5, reduceIte, Nat.reduceEqDiff, Nat.reduceAdd, Nat.reduceMul, Nat.reduceLT, Nat.reduceLeDiff, Int.reduceLT, Int.reduceLE, Int.reduceEq, reduceCtorEq, Int.reduceBEq, Int.reduceBNe, Heap.gets, Heap.sets, Heap.get, bytesA_length, bytesA_one, bytesA_plains, List.take_of_length_le, List.drop_of_length_le, Nat.add_zero, V.one, Nat.reduceLeDiff, List.all_cons, List.all_nil, ne_eq, not_false_eq_true, Nat.zero_le, s0, s5, s10, s11, s12, hlt, hix, hx', b1, b2, w1, w2, qN, h16', gs_ne, gs_eq, ga_lt, ga_0, ga_k, sa_lt, sa_0, sa_k, hq, h2, A'.lq, A'.l2, A'.q2, A'.b1, List.length_set]; rfl) ?_ | refine To.sel hxE5 (by simp only [selA, go_sem, eqs hxE5, reduceIte, Nat.reduceEqDiff, Nat.reduceAdd, Nat.reduceMul, Nat.reduceLT, Nat.reduceLeDiff, Int.reduceLT, Int.reduceLE, Int.reduceEq, reduceCtorEq, Int.reduceBEq, Int.reduceBNe, Heap.gets, Heap.sets, Heap.get, bytesA_length, bytesA_one, bytesA_plains, List.take_of_length_le, List.drop_of_length_le, Nat.add_zero, V.one, Nat.reduceLeDiff, List.all_cons, List.all_nil, ne_eq, not_false_eq_true, Nat.zero_le, s0, s5, s10, s11, s12, hlt, hix, hx', b1, b2, w1, w2, qN, h16', gs_ne, gs_eq, ga_lt, ga_0, ga_k, sa_lt, sa_0, sa_k, hq, h2, A'.lq, A'.l2, A'.q2, A'.b1, List.length_set]; rfl) ?_ | refine To.nop hxE5 ?_ | (refine To.condT hxE5 ?_ ?_; focus (simp only [go_sem, eqs hxE5, reduceIte, Nat.reduceEqDiff, Nat.reduceAdd, Nat.reduceMul, Nat.reduceLT, Nat.reduceLeDiff, Int.reduceLT, Int.reduceLE, Int.reduceEq, reduceCtorEq, Int.reduceBEq, Int.reduceBNe, Heap.gets, Heap.sets, Heap.get, bytesA_length, bytesA_one, bytesA_plains, List.take_of_length_le, List.drop_of_length_le, Nat.add_zero, V.one, Nat.reduceLeDiff, List.all_cons, List.all_nil, ne_eq, not_false_eq_true, Nat.zero_le, s0, s5, s10, s11, s12, hlt, hix, hx', b1, b2, w1, w2, qN, h16', gs_ne, gs_eq, ga_lt, ga_0, ga_k, sa_lt, sa_0, sa_k, hq, h2, A'.lq, A'.l2, A'.q2, A'.b1, List.length_set]; done)) | (refine To.condF hxE5 ?_ ?_; focus (simp only [go_sem, eqs hxE5, reduceIte, Nat.reduceEqDiff, Nat.reduceAdd, Nat.reduceMul, Nat.reduceLT, Nat.reduceLeDiff, Int.reduceLT, Int.reduceLE, Int.reduceEq, reduceCtorEq, Int.reduceBEq, Int.reduceBNe, Heap.gets, Heap.sets, Heap.get, bytesA_length, bytesA_one, bytesA_plains, List.take_of_length_le, List.drop_of_length_le, Nat.add_zero, V.one, Nat.reduceLeDiff, List.all_cons, List.all_nil, ne_eq, not_false_eq_true, Nat.zero_le, s0, s5, s10, s11, s12, hlt, hix, hx', b1, b2, w1, w2, qN, h16', gs_ne, gs_eq, ga_lt, ga_0, ga_k, sa_lt, sa_0, sa_k, hq, h2, A'.lq, A'.l2, A'.q2, A'.b1, List.length_set]; done)) | refine To.block hxE5 ?_ | refine To.skip hxE5 ?_))
          try simp only [andThen, outOf]
          have ht : tell1 s n = (s.1 ++ [n], s.2.1, s.2.2 + 1) := by unfold tell1; rw [hr, if_pos rfl, if_pos h16]
          refine ⟨k - 1, by omega, i + 1, _, _, _, tell1 s n, by omega, rfl, hst.symm, ?_, ?_, he', ?_, ?_⟩
          · rw [ht, List.map_append]
            exact (hPn.c2' _).app _
          · exact (hQ'.trans (Qx.set (.inr (.inr (.inl rfl))))).trans (Qx.app _)
          · refine .inl ?_
            have := A.l2
            omega
          · rw [ht]; simp only [go_sem, eqs hxE5, reduceIte, Nat.reduceEqDiff, Nat.reduceAdd, Nat.reduceMul, Nat.reduceLT, Nat.reduceLeDiff, Int.reduceLT, Int.reduceLE, Int.reduceEq, reduceCtorEq, Int.reduceBEq, Int.reduceBNe, s0, s5, s10, s11]
        · have h16' : ¬ (s.1.map Nt.v).length < 16 := by simpa using h16
          (repeat' (first | refine To.seq hxE5 ?_ | refine To.op0 hxE5 (by simp only [go_sem, eqs hxE5, reduceIte, Nat.reduceEqDiff, Nat.reduceAdd, Nat.reduceMul, Nat.reduceLT, Nat.reduceLeDiff, Int.reduceLT, Int.reduceLE, Int.reduceEq, reduceCtorEq, Int.reduceBEq, Int.reduceBNe, Heap.gets, Heap.sets, Heap.get, bytesA_length, bytesA_one, bytesA_plains, List.take_of_length_le, List.drop_of_length_le, Nat.add_zero, V.one, Nat.reduceLeDiff, List.all_cons, List.all_nil, ne_eq, not_false_eq_true, Nat.zero_le, s0, s5, s10, s11, s12, hlt, hix, hx', b1, b2, w1, w2, qN, h16', gs_ne, gs_eq, ga_lt, ga_0, ga_k, sa_lt, sa_0, sa_k, hq, h2, A'.lq, A'.l2, A'.q2, A'.b1, List.length_set]; rfl) ?_ | refine To.op1 hxE5 (by simp only [go_sem, eqs hxE5, reduceIte, Nat.reduceEqDiff, Nat.reduceAdd, Nat.reduceMul, Nat.reduceLT, Nat.reduceLeDiff, Int.reduceLT, Int.reduceLE, Int.reduceEq, reduceCtorEq, Int.reduceBEq, Int.reduceBNe, Heap.gets, Heap.sets, Heap.get, bytesA_length, bytesA_one, bytesA_plains, List.take_of_length_le, List.drop_of_length_le, Nat.add_zero, V.one, Nat.reduceLeDiff, List.all_cons, List.all_nil, ne_eq, not_false_eq_true, Nat.zero_le, s0, s5, s10, s11, s12, hlt, hix, hx', b1, b2, w1, w2, qN, h16', gs_ne, gs_eq, ga_lt, ga_0, ga_k, sa_lt, sa_0, sa_k, hq, h2, A'.lq, A'.l2, A'.q2, A'.b1, List.length_set]; rfl) ?_ | refine To.sel hxE5 (by simp only [selA, go_sem, eqs hxE5, reduceIte, Nat.reduceEqDiff, Nat.reduceAdd, Nat.reduceMul, Nat.reduceLT, Nat.reduceLeDiff, Int.reduceLT, Int.reduceLE, Int.reduceEq, reduceCtorEq, Int.reduceBEq, Int.reduceBNe, Heap.gets, Heap.sets, Heap.get, bytesA_length, bytesA_one, bytesA_plains, List.take_of_length_le, List.drop_of_length_le, Nat.add_zero, V.one, Nat.reduceLeDiff, List.all_cons, List.all_nil, ne_eq, not_false_eq_true, Nat.zero_le, s0, s5, s10, s11, s12, hlt, hix, hx', b1, b2, w1, w2, qN, h16', gs_ne, gs_eq, ga_lt, ga_0, ga_k, sa_lt, sa_0, sa_k, hq, h2, A'.lq, A'.l2, A'.q2, A'.b1, List.length_set]; rfl) ?_ | refine To.nop hxE5 ?_ | (refine To.condT hxE5 ?_ ?_; focus (simp only [go_sem, eqs hxE5, reduceIte, Nat.reduceEqDiff, Nat.reduceAdd, Nat.reduceMul, Nat.reduceLT, Nat.reduceLeDiff, Int.reduceLT, Int.reduceLE, Int.reduceEq, reduceCtorEq, Int.reduceBEq, Int.reduceBNe, Heap.gets, Heap.sets, Heap.get, bytesA_length, bytesA_one, bytesA_plains, List.take_of_length_le, List.drop_of_length_le, Nat.add_zero, V.one, Nat.reduceLeDiff, List.all_cons, List.all_nil, ne_eq, not_false_eq_true, Nat.zero_le, s0, s5, s10, s11, s12, hlt, hix, hx', b1, b2, w1, w2, qN, h16', gs_ne, gs_eq, ga_lt, ga_0, ga_k, sa_lt, sa_0, sa_k, hq, h2, A'.lq, A'.l2, A'.q2, A'.b1, List.length_set]; done)) | (refine To.condF hxE5 ?_ ?_; focus (simp only [go_sem, eqs hxE5, reduceIte, Nat.reduceEqDiff, Nat.reduceAdd, Nat.reduceMul, Nat.reduceLT, Nat.reduceLeDiff, Int.reduceLT, Int.reduceLE, Int.reduceEq, reduceCtorEq, Int.reduceBEq, Int.reduceBNe, Heap.gets, Heap.sets, Heap.get, bytesA_length, bytesA_one, bytesA_plains, List.take_of_length_le, List.drop_of_length_le, Nat.add_zero, V.one, Nat.reduceLeDiff, List.all_cons, List.all_nil, ne_eq, not_false_eq_true, Nat.zero_le, s0, s5, s10, s11, s12, hlt, hix, hx', b1, b2, w1, w2, qN, h16', gs_ne, gs_eq, ga_lt, ga_0, ga_k, sa_lt, sa_0, sa_k, hq, h2, A'.lq, A'.l2, A'.q2, A'.b1, List.length_set]; done)) | refine To.block hxE5 ?_ | refine To.skip hxE5 ?_))
          try simp only [andThen, outOf]
          have ht : tell1 s n = (s.1, true, s.2.2) := by unfold tell1; rw [hr, if_pos rfl, if_neg h16]
          refine ⟨k - 1, by omega, i + 1, _, _, _, tell1 s n, by omega, rfl, hst.symm, ?_, ?_, he', ?_, ?_⟩
          · rw [ht]
            exact (hPn.q' _ _).app _
          · exact (hQ'.trans (Qx.set (.inl rfl))).trans (Qx.app _)
          · refine .inl ?_
            have := A.lq
            omega
          · rw [ht]; simp only [go_sem, eqs hxE5, reduceIte, Nat.reduceEqDiff, Nat.reduceAdd, Nat.reduceMul, Nat.reduceLT, Nat.reduceLeDiff, Int.reduceLT, Int.reduceLE, Int.reduceEq, reduceCtorEq, Int.reduceBEq, Int.reduceBNe, s0, s5, s10, s11]
    · have hlt : decide ((i : Int) < (l.length : Int)) = false := by simp; omega
      have hil : l.take i = l := List.take_of_length_le (by omega)
      rw [hil] at hs
      have hs' : s = tellF l N lost := hs
      (repeat' (first | refine To.seq hxE5 ?_ | refine To.op0 hxE5 (by simp only [go_sem, eqs hxE5, reduceIte, Nat.reduceEqDiff, Nat.reduceAdd, Nat.reduceMul, Nat.reduceLT, Nat.reduceLeDiff, Int.reduceLT, Int.reduceLE, Int.reduceEq, reduceCtorEq, Int.reduceBEq, Int.reduceBNe, s0, s5, s10, s11, s12, hlt]; rfl) ?_ | refine To.nop hxE5 ?_ | (refine To.condF hxE5 ?_ ?_; focus (simp only [go_sem, eqs hxE5, reduceIte, Nat.reduceEqDiff, Nat.reduceAdd, Nat.reduceMul, Nat.reduceLT, Nat.reduceLeDiff, Int.reduceLT, Int.reduceLE, Int.reduceEq, reduceCtorEq, Int.reduceBEq, Int.reduceBNe, s0, s5, s10, s11, s12, hlt]; done)) | refine To.ret hxE5 ?_ | refine To.exit hxE5 ?_))
      refine ⟨_, _, fin1 (i := 4) rfl, ?_, ?_⟩
      · simp only [go_sem, eqs hxE5, reduceIte, Nat.reduceEqDiff, Nat.reduceAdd, Nat.reduceMul, Nat.reduceLT, Nat.reduceLeDiff, Int.reduceLT, Int.reduceLE, Int.reduceEq, reduceCtorEq, Int.reduceBEq, Int.reduceBNe, s5, hs']
      · rw [← hs']
        refine close_q A hP' hQ' he' (by simp only [go_sem, eqs hxE5, reduceIte, Nat.reduceEqDiff, Nat.reduceAdd, Nat.reduceMul, Nat.reduceLT, Nat.reduceLeDiff, Int.reduceLT, Int.reduceLE, Int.reduceEq, reduceCtorEq, Int.reduceBEq, Int.reduceBNe, s5]) ?_
        rcases hd' with h | ⟨h, h'⟩
        · exact .inl h
        · exact .inr (by rw [h, h']; exact hP)
  · refine ⟨0, o, _, _, (N, lost, 0), by omega, rfl, rfl, hP, Qx.refl, Nat.le_refl _, .inr ⟨rfl, rfl⟩, ?_⟩
    simp only [go_sem, eqs hxE5, reduceIte, Nat.reduceEqDiff, Nat.reduceAdd, Nat.reduceMul, Nat.reduceLT, Nat.reduceLeDiff, Int.reduceLT, Int.reduceLE, Int.reduceEq, reduceCtorEq, Int.reduceBEq, Int.reduceBNe]

/-- Rows that a call has made. -/
def GrRows (o : List AM.Obj) (v : V) (t e : Nat) (xs : List (List V)) : Prop :=
  (v = .nils ∧ xs = []) ∨ ∃ l, v = .slice l 0 xs.length e ∧ o[l]? = some (.cells .gr t 0 xs.flatten)

theorem room32 {n : Nat} (h : n ≤ 1000001) : roomOk n 32 = true := by
  exact decide_eq_true ⟨by unfold ok1; omega, by unfold ok1; omega⟩
theorem flat3 : ∀ l : List Nt, (l.map Nt.cs).flatten.length = l.length * 3
  | [] => rfl
  | n :: l => by
    have := flat3 l
    simp only [List.map_cons, List.flatten_cons, List.length_append, this, List.length_cons, Nt.cs, List.length_nil]
    omega
theorem NtFlat_one : ∀ l : List Nt, (l.map Nt.cs).flatten.all V.one = true := by
  intro l
  simp only [List.all_flatten, List.all_map, List.all_eq_true]
  intro x _
  rfl

/-- What drain has taken so far. -/
def DrV (o' : List AM.Obj) (m i : Nat) (v : V) (N : List Nt) : Prop := (i = 0 ∧ v = .nils) ∨ (0 < i ∧ ∃ l, m ≤ l ∧ v = .slice l 0 i 3 ∧ o'[l]? = some (.cells .gr 39 0 ((N.take i).map Nt.cs).flatten))
theorem drain_out {N : List Nt} {k : Int} {i e' d' : Nat} {o' : List AM.Obj} {v : V} {S : Nat → V} (h : PQ o q c1 c2 m1 m2 rq (N.map Nt.v) op wt last lost) (hP' : PQ o' q c1 c2 m1 m2 rq ((N.drop i).map Nt.v) op wt last lost) (hQ' : Qx q c1 c2 m1 m2 o o') (he' : o.length ≤ e') (hv : DrV o' o.length i v N) (hi : i ≤ N.length) (h4 : S 4 = v) (hk : k.toNat = i ∨ N.length ≤ k.toNat ∧ i = N.length) :
    ∃ v_1 oh, finish af39 ⟨o, e, d⟩ (some (.ret, S, ⟨o', e', d'⟩)) = some (v_1, oh) ∧ ∃ v o' e' d', v_1 = .val v ∧ oh.getD ⟨o, e, d⟩ = ⟨o', e', d'⟩ ∧ PQ o' q c1 c2 m1 m2 rq ((N.drop k.toNat).map Nt.v) op wt last lost ∧ Qx q c1 c2 m1 m2 o o' ∧ GrRows o' v 39 3 ((N.take k.toNat).map Nt.cs) := by
  refine ⟨_, _, fin1 (i := 4) rfl, ?_⟩
  have hdr : N.drop k.toNat = N.drop i ∧ N.take k.toNat = N.take i := by
    rcases hk with rfl | ⟨hk, rfl⟩
    · exact ⟨rfl, rfl⟩
    · rw [List.drop_of_length_le hk, List.drop_of_length_le (Nat.le_refl _), List.take_of_length_le hk, List.take_of_length_le (Nat.le_refl _)]; exact ⟨rfl, rfl⟩
  rw [hdr.1, hdr.2, h4]
  rcases hv with ⟨rfl, rfl⟩ | ⟨h0, l, hl, rfl, ho⟩
  · obtain ⟨o2, d2, g1, g2, g3⟩ := close_q (e := e) (d := d) (v := V.nils) (h' := ⟨o', e', d'⟩) h.ap hP' hQ' he' rfl (.inr (by simpa using h))
    exact ⟨_, _, _, _, rfl, g1, g2, g3, .inl ⟨rfl, by simp⟩⟩
  · rw [leave_some rfl]
    refine ⟨_, _, _, _, rfl, rfl, hP', hQ', .inr ⟨l, ?_, ho⟩⟩
    rw [List.length_map, List.length_take, Nat.min_eq_left hi]

set_option maxHeartbeats 8000000 in
theorem drain_q {N : List Nt} (k : Int) (h : PQ o q c1 c2 m1 m2 rq (N.map Nt.v) op wt last lost) (hN : N.length ≤ 1000000) :
    ∃ r oh, Den FF E5 39 [.ptr q 0, .int .i64 k] ⟨o, e, d⟩ = some (r, oh) ∧ ∃ v o' e' d', r = .val v ∧ oh.getD ⟨o, e, d⟩ = ⟨o', e', d'⟩ ∧
      PQ o' q c1 c2 m1 m2 rq ((N.drop k.toNat).map Nt.v) op wt last lost ∧ Qx q c1 c2 m1 m2 o o' ∧ GrRows o' v 39 3 ((N.take k.toNat).map Nt.cs) := by
  refine To.denE hxE5 (f := 39) (a := af39) rfl (E5_none rfl) (Nat.le_of_ble_eq_true rfl) ?_
  have hP := h
  have A := hP.ap
  (repeat' (first | refine To.seq hxE5 ?_ | refine To.op0 hxE5 (by simp only [go_sem, eqs hxE5, reduceIte, Nat.reduceEqDiff, Nat.reduceAdd, Nat.reduceMul, Nat.reduceLT, Nat.reduceLeDiff, Int.reduceLT, Int.reduceLE, Int.reduceEq, reduceCtorEq, Int.reduceBEq, Int.reduceBNe]; rfl) ?_ | refine To.nop hxE5 ?_ | refine To.block hxE5 ?_))
  refine To.loop hxE5 (fun m S h' => ∃ i o' e' d' v, i + m = N.length ∧ (i : Int) ≤ max k 0 ∧ h' = ⟨o', e', d'⟩ ∧ PQ o' q c1 c2 m1 m2 rq ((N.drop i).map Nt.v) op wt last lost ∧ Qx q c1 c2 m1 m2 o o' ∧ o.length ≤ e' ∧ DrV o' o.length i v N ∧ S 0 = .ptr q 0 ∧ S 1 = .int .i64 k ∧ S 5 = v) ?_ N.length _ _ ?_
  · rintro m S _ ⟨i, o', e', d', v, hm, hik, rfl, hP', hQ', he', hv, s0, s1, s5⟩
    have A' := hP'.ap
    have hle := hQ'.len
    have hlen : lenLV v = some (.int .i64 (i : Int), none) := by
      rcases hv with ⟨rfl, rfl⟩ | ⟨_, l, _, rfl, _⟩ <;> rfl
    by_cases hi : (i : Int) < k
    · have hlt : decide ((i : Int) < k) = true := decide_eq_true hi
      obtain ⟨r1, oh1, q1, rfl, o2, d2, hg, hP2, hQ2⟩ := hear_q (e := e') (d := d') hP'
      (repeat' (first | refine To.seq hxE5 ?_ | refine To.op0 hxE5 (by simp only [go_sem, eqs hxE5, reduceIte, Nat.reduceEqDiff, Nat.reduceAdd, Nat.reduceMul, Nat.reduceLT, Nat.reduceLeDiff, Int.reduceLT, Int.reduceLE, Int.reduceEq, reduceCtorEq, Int.reduceBEq, Int.reduceBNe, s0, s1, s5, hlen, hlt]; rfl) ?_ | refine To.nop hxE5 ?_ | (refine To.condT hxE5 ?_ ?_; focus (simp only [go_sem, eqs hxE5, reduceIte, Nat.reduceEqDiff, Nat.reduceAdd, Nat.reduceMul, Nat.reduceLT, Nat.reduceLeDiff, Int.reduceLT, Int.reduceLE, Int.reduceEq, reduceCtorEq, Int.reduceBEq, Int.reduceBNe, s0, s1, s5, hlen, hlt]; done)) | refine To.block hxE5 ?_ | refine To.skip hxE5 ?_))
      refine To.op hxE5 (by simp only [go_sem, eqs hxE5, reduceIte, Nat.reduceEqDiff, Nat.reduceAdd, Nat.reduceMul, Nat.reduceLT, Nat.reduceLeDiff, Int.reduceLT, Int.reduceLE, Int.reduceEq, reduceCtorEq, Int.reduceBEq, Int.reduceBNe, s0, q1]; rfl) ?_
      rw [hg]
      have hv2 : DrV o2 o.length i v N := by
        rcases hv with hv | ⟨h0, l, hl, rfl, ho⟩
        · exact .inl hv
        · refine .inr ⟨h0, l, hl, rfl, ?_⟩
          rw [hQ2.get l (get_lt ho) (ne_of ho hP'.hq (by simp)) (ne_of ho hP'.h1 (by simp)) (ne_of ho hP'.h2 (by simp)) (ne_of ho hP'.h3 (by simp)) (ne_of ho hP'.h4 (by simp)), ho]
      have hQ3 := hQ'.trans hQ2
      cases hn : N.drop i with
      | nil =>
        rw [hn] at hP2
        have hiN : N.length ≤ i := by rw [← List.drop_eq_nil_iff]; exact hn
        simp only [hearVal, Nt.zero, Nt.v, Nt.cs]
        (repeat' (first | refine To.seq hxE5 ?_ | refine To.op0 hxE5 (by simp only [go_sem, eqs hxE5, reduceIte, Nat.reduceEqDiff, Nat.reduceAdd, Nat.reduceMul, Nat.reduceLT, Nat.reduceLeDiff, Int.reduceLT, Int.reduceLE, Int.reduceEq, reduceCtorEq, Int.reduceBEq, Int.reduceBNe, Heap.gets, Heap.sets, Heap.get, bytesA_length, bytesA_one, bytesA_plains, List.take_of_length_le, List.drop_of_length_le, Nat.add_zero, V.one, Nat.reduceLeDiff, List.all_cons, List.all_nil, ne_eq, not_false_eq_true, Nat.zero_le, s0, s1, s5, ga_lt, ga_0, ga_k, sa_lt, sa_0, sa_k]; rfl) ?_ | refine To.op1 hxE5 (by simp only [go_sem, eqs hxE5, reduceIte, Nat.reduceEqDiff, Nat.reduceAdd, Nat.reduceMul, Nat.reduceLT, Nat.reduceLeDiff, Int.reduceLT, Int.reduceLE, Int.reduceEq, reduceCtorEq, Int.reduceBEq, Int.reduceBNe, Heap.gets, Heap.sets, Heap.get, bytesA_length, bytesA_one, bytesA_plains, List.take_of_length_le, List.drop_of_length_le, Nat.add_zero, V.one, Nat.reduceLeDiff, List.all_cons, List.all_nil, ne_eq, not_false_eq_true, Nat.zero_le, s0, s1, s5, ga_lt, ga_0, ga_k, sa_lt, sa_0, sa_k]; rfl) ?_ | refine To.nop hxE5 ?_ | (refine To.condT hxE5 ?_ ?_; focus (simp only [go_sem, eqs hxE5, reduceIte, Nat.reduceEqDiff, Nat.reduceAdd, Nat.reduceMul, Nat.reduceLT, Nat.reduceLeDiff, Int.reduceLT, Int.reduceLE, Int.reduceEq, reduceCtorEq, Int.reduceBEq, Int.reduceBNe, Heap.gets, Heap.sets, Heap.get, bytesA_length, bytesA_one, bytesA_plains, List.take_of_length_le, List.drop_of_length_le, Nat.add_zero, V.one, Nat.reduceLeDiff, List.all_cons, List.all_nil, ne_eq, not_false_eq_true, Nat.zero_le, s0, s1, s5, ga_lt, ga_0, ga_k, sa_lt, sa_0, sa_k]; done)) | refine To.ret hxE5 ?_ | refine To.exit hxE5 ?_))
        refine drain_out h (i := i) (v := v) ?_ (hQ3.trans (Qx.app _)) he' ?_ (by omega) (by simp only [go_sem, eqs hxE5, reduceIte, Nat.reduceEqDiff, Nat.reduceAdd, Nat.reduceMul, Nat.reduceLT, Nat.reduceLeDiff, Int.reduceLT, Int.reduceLE, Int.reduceEq, reduceCtorEq, Int.reduceBEq, Int.reduceBNe, s5]) (.inr ⟨by omega, by omega⟩)
        · rw [hn]; exact hP2.app _
        · rcases hv2 with hv | ⟨h0, l, hl, rfl, ho⟩
          · exact .inl hv
          · exact .inr ⟨h0, l, hl, rfl, app_old ho _⟩
      | cons n N' =>
        rw [hn] at hP2
        have hiN : i < N.length := by
          have := congrArg List.length hn
          simp only [List.length_drop, List.length_cons] at this; omega
        have hNi : N[i]? = some n := by
          have := congrArg (fun l => l[0]?) hn
          simpa [List.getElem?_drop] using this
        have hdN : N.drop (i + 1) = N' := by rw [← List.drop_drop, hn]; rfl
        have htk : ((N.take (i + 1)).map Nt.cs).flatten = ((N.take i).map Nt.cs).flatten ++ n.cs := by
          rw [List.take_add_one, hNi, Option.toList_some, List.map_append, List.flatten_append]; simp
        have ro := room32 (n := i + 1) (by omega)
        simp only [hearVal, Nt.v, Nt.cs]
        rcases hv2 with ⟨rfl, rfl⟩ | ⟨h0, l, hl, rfl, ho⟩
        · have r1 := room32 (n := 1) (by omega)
          (repeat' (first | refine To.seq hxE5 ?_ | refine To.op0 hxE5 (by simp only [go_sem, eqs hxE5, reduceIte, Nat.reduceEqDiff, Nat.reduceAdd, Nat.reduceMul, Nat.reduceLT, Nat.reduceLeDiff, Int.reduceLT, Int.reduceLE, Int.reduceEq, reduceCtorEq, Int.reduceBEq, Int.reduceBNe, Heap.gets, Heap.sets, Heap.get, bytesA_length, bytesA_one, bytesA_plains, List.take_of_length_le, List.drop_of_length_le, Nat.add_zero, V.one, Nat.reduceLeDiff, List.all_cons, List.all_nil, ne_eq, not_false_eq_true, Nat.zero_le, s0, s1, s5, ga_lt, ga_0, ga_k, sa_lt, sa_0, sa_k, r1]; rfl) ?_ | refine To.op1 hxE5 (by simp only [go_sem, eqs hxE5, reduceIte, Nat.reduceEqDiff, Nat.reduceAdd, Nat.reduceMul, Nat.reduceLT, Nat.reduceLeDiff, Int.reduceLT, Int.reduceLE, Int.reduceEq, reduceCtorEq, Int.reduceBEq, Int.reduceBNe, Heap.gets, Heap.sets, Heap.get, bytesA_length, bytesA_one, bytesA_plains, List.take_of_length_le, List.drop_of_length_le, Nat.add_zero, V.one, Nat.reduceLeDiff, List.all_cons, List.all_nil, ne_eq, not_false_eq_true, Nat.zero_le, s0, s1, s5, ga_lt, ga_0, ga_k, sa_lt, sa_0, sa_k, r1]; rfl) ?_ | refine To.nop hxE5 ?_ | (refine To.condF hxE5 ?_ ?_; focus (simp only [go_sem, eqs hxE5, reduceIte, Nat.reduceEqDiff, Nat.reduceAdd, Nat.reduceMul, Nat.reduceLT, Nat.reduceLeDiff, Int.reduceLT, Int.reduceLE, Int.reduceEq, reduceCtorEq, Int.reduceBEq, Int.reduceBNe, Heap.gets, Heap.sets, Heap.get, bytesA_length, bytesA_one, bytesA_plains, List.take_of_length_le, List.drop_of_length_le, Nat.add_zero, V.one, Nat.reduceLeDiff, List.all_cons, List.all_nil, ne_eq, not_false_eq_true, Nat.zero_le, s0, s1, s5, ga_lt, ga_0, ga_k, sa_lt, sa_0, sa_k, r1]; done)) | refine To.skip hxE5 ?_))
          simp only [andThen, outOf, Heap.new, List.append_assoc, List.cons_append, List.nil_append]
          refine ⟨m - 1, by omega, 1, _, _, _, .slice (o2.length + 2) 0 1 3, by omega, by omega, rfl, ?_, hQ3.trans (Qx.app _), he', ?_, ?_⟩
          · rw [hdN]; exact hP2.app _
          · refine .inr ⟨by decide, o2.length + 2, by have := hQ3.len; omega, rfl, ?_⟩
            rw [ga_k rfl, htk]
            simp [Nt.cs]
          · simp only [go_sem, eqs hxE5, reduceIte, Nat.reduceEqDiff, Nat.reduceAdd, Nat.reduceMul, Nat.reduceLT, Nat.reduceLeDiff, Int.reduceLT, Int.reduceLE, Int.reduceEq, reduceCtorEq, Int.reduceBEq, Int.reduceBNe, s0, s1]
        · have hlq := hP2.ap
          have n1 := ne_of ho hP2.hq (by simp)
          have a1 := fun (o9 : List AM.Obj) (e9 d9 : Nat) (h9 : o9[l]? = some (AM.Obj.cells .gr 39 0 ((N.take i).map Nt.cs).flatten)) => app_gr (o := o9) (e := e9) (d := d9) (s := 3) (b := 32) (k := i) (j := 1) (new := n.cs) h9 (by rw [flat3, List.length_take]; omega) (by decide) (by decide) ro
          have a2 := a1 (o2 ++ [.cells .ex 39 0 n.cs, .cells .ex 39 0 n.cs]) e' (min d2 o2.length) (app_old ho _)
          unfold Nt.cs at a2
          have hll := get_lt ho
          (repeat' (first | refine To.seq hxE5 ?_ | refine To.op0 hxE5 (by simp only [go_sem, eqs hxE5, reduceIte, Nat.reduceEqDiff, Nat.reduceAdd, Nat.reduceMul, Nat.reduceLT, Nat.reduceLeDiff, Int.reduceLT, Int.reduceLE, Int.reduceEq, reduceCtorEq, Int.reduceBEq, Int.reduceBNe, Heap.gets, Heap.sets, Heap.get, bytesA_length, bytesA_one, bytesA_plains, List.take_of_length_le, List.drop_of_length_le, Nat.add_zero, V.one, Nat.reduceLeDiff, List.all_cons, List.all_nil, ne_eq, not_false_eq_true, Nat.zero_le, s0, s1, s5, ga_lt, ga_0, ga_k, sa_lt, sa_0, sa_k, a2, hll]; rfl) ?_ | refine To.op1 hxE5 (by simp only [go_sem, eqs hxE5, reduceIte, Nat.reduceEqDiff, Nat.reduceAdd, Nat.reduceMul, Nat.reduceLT, Nat.reduceLeDiff, Int.reduceLT, Int.reduceLE, Int.reduceEq, reduceCtorEq, Int.reduceBEq, Int.reduceBNe, Heap.gets, Heap.sets, Heap.get, bytesA_length, bytesA_one, bytesA_plains, List.take_of_length_le, List.drop_of_length_le, Nat.add_zero, V.one, Nat.reduceLeDiff, List.all_cons, List.all_nil, ne_eq, not_false_eq_true, Nat.zero_le, s0, s1, s5, ga_lt, ga_0, ga_k, sa_lt, sa_0, sa_k, a2, hll]; rfl) ?_ | refine To.nop hxE5 ?_ | (refine To.condF hxE5 ?_ ?_; focus (simp only [go_sem, eqs hxE5, reduceIte, Nat.reduceEqDiff, Nat.reduceAdd, Nat.reduceMul, Nat.reduceLT, Nat.reduceLeDiff, Int.reduceLT, Int.reduceLE, Int.reduceEq, reduceCtorEq, Int.reduceBEq, Int.reduceBNe, Heap.gets, Heap.sets, Heap.get, bytesA_length, bytesA_one, bytesA_plains, List.take_of_length_le, List.drop_of_length_le, Nat.add_zero, V.one, Nat.reduceLeDiff, List.all_cons, List.all_nil, ne_eq, not_false_eq_true, Nat.zero_le, s0, s1, s5, ga_lt, ga_0, ga_k, sa_lt, sa_0, sa_k, a2, hll]; done)) | refine To.skip hxE5 ?_))
          simp only [andThen, outOf, Heap.new, List.append_assoc, List.cons_append, List.nil_append]
          refine ⟨m - 1, by omega, i + 1, _, _, _, .slice (o2.length + 2) 0 (i + 1) 3, by omega, by omega, rfl, ?_, (hQ3.new hl).trans (Qx.app _), he', ?_, ?_⟩
          · rw [hdN]; exact (hP2.old ⟨n1, ne_of ho hP2.h1 (by simp), ne_of ho hP2.h2 (by simp), ne_of ho hP2.h3 (by simp), ne_of ho hP2.h4 (by simp)⟩).app _
          · refine .inr ⟨by omega, o2.length + 2, by have := hQ3.len; omega, rfl, ?_⟩
            rw [ga_k (by simp), htk]
            rfl
          · simp only [go_sem, eqs hxE5, reduceIte, Nat.reduceEqDiff, Nat.reduceAdd, Nat.reduceMul, Nat.reduceLT, Nat.reduceLeDiff, Int.reduceLT, Int.reduceLE, Int.reduceEq, reduceCtorEq, Int.reduceBEq, Int.reduceBNe, s0, s1]
    · have hlt : decide ((i : Int) < k) = false := decide_eq_false hi
      (repeat' (first | refine To.seq hxE5 ?_ | refine To.op0 hxE5 (by simp only [go_sem, eqs hxE5, reduceIte, Nat.reduceEqDiff, Nat.reduceAdd, Nat.reduceMul, Nat.reduceLT, Nat.reduceLeDiff, Int.reduceLT, Int.reduceLE, Int.reduceEq, reduceCtorEq, Int.reduceBEq, Int.reduceBNe, s0, s1, s5, hlen, hlt]; rfl) ?_ | refine To.nop hxE5 ?_ | (refine To.condF hxE5 ?_ ?_; focus (simp only [go_sem, eqs hxE5, reduceIte, Nat.reduceEqDiff, Nat.reduceAdd, Nat.reduceMul, Nat.reduceLT, Nat.reduceLeDiff, Int.reduceLT, Int.reduceLE, Int.reduceEq, reduceCtorEq, Int.reduceBEq, Int.reduceBNe, s0, s1, s5, hlen, hlt]; done)) | refine To.ret hxE5 ?_ | refine To.exit hxE5 ?_))
      refine drain_out h (i := i) (v := v) hP' hQ' he' hv (by omega) (by simp only [go_sem, eqs hxE5, reduceIte, Nat.reduceEqDiff, Nat.reduceAdd, Nat.reduceMul, Nat.reduceLT, Nat.reduceLeDiff, Int.reduceLT, Int.reduceLE, Int.reduceEq, reduceCtorEq, Int.reduceBEq, Int.reduceBNe, s5]) (.inl (by omega))
  · refine ⟨0, o, _, _, .nils, by omega, by omega, rfl, by simpa using hP, Qx.refl, Nat.le_refl _, .inl ⟨rfl, rfl⟩, ?_⟩
    simp only [go_sem, eqs hxE5, reduceIte, Nat.reduceEqDiff, Nat.reduceAdd, Nat.reduceMul, Nat.reduceLT, Nat.reduceLeDiff, Int.reduceLT, Int.reduceLE, Int.reduceEq, reduceCtorEq, Int.reduceBEq, Int.reduceBNe]
end
end Go.Proofs.Ytjbblfoefibeaaa

/- Queues: put. -/
namespace Go.Proofs.Ytjbblfoefibeaaa
open Go AM
set_option linter.unusedSimpArgs false
set_option linter.unusedVariables false
set_option maxRecDepth 100000

def Rq.right (r : Rq) : Bool := rightR r.id r.op r.ino r.oth r.n r.m r.nm r.tx
section
variable {o : List AM.Obj} {e d q c1 c2 m1 m2 : Nat} {rq ns : List V} {op wt : List (V × V)} {last : Int} {lost : Bool}

theorem reqQ (h : Heap) (r : Rq) : Den FF E5 14 [.agg [.int .i64 r.id, .int .i64 r.op, .int .i64 r.ino, .int .i64 r.oth, .int .i64 r.n, .int .i64 r.m, .str r.nm, .str r.tx]] h = some (.val (.bool r.right), none) := eRight_5 r.id r.op r.ino r.oth r.n r.m r.nm r.tx h

set_option maxHeartbeats 8000000 in
theorem put_ok {r : Rq} (h : PQ o q c1 c2 m1 m2 rq ns op wt last lost) (hl0 : 0 ≤ last) (hl1 : last ≤ 9223372036854775806) (hr : (r.at_ (last + 1)).right = true) (h8 : rq.length < 8)
    (hW : ∀ x ∈ wt, ∃ j, x.1 = .int .i64 j ∧ j ≠ last + 1) :
    ∃ v oh, Den FF E5 30 [.ptr q 0, r.v] ⟨o, e, d⟩ = some (v, oh) ∧ v = .val (.tuple [.int .i64 (last + 1), .int .i64 0]) ∧ ∃ o' d', oh.getD ⟨o, e, d⟩ = ⟨o', e, d'⟩ ∧
      PQ o' q c1 c2 m1 m2 (rq ++ [(r.at_ (last + 1)).v]) ns op (wt ++ [(.int .i64 (last + 1), .bool true)]) (last + 1) lost ∧ Qx q c1 c2 m1 m2 o o' := by
  refine To.denE hxE5 (f := 30) (a := af30) rfl (E5_none rfl) (Nat.le_of_ble_eq_true rfl) ?_
  have hP := h
  obtain ⟨hq, h1, h2, h3, h4, hm⟩ := h
  have A := hP.ap
  have w1 : IntKind.i64.wrap (last + 1) = last + 1 := wrap_i64 (by omega) (by omega)
  have qR : ∀ h, Den FF E5 14 [.agg [.int .i64 (last + 1), .int .i64 r.op, .int .i64 r.ino, .int .i64 r.oth, .int .i64 r.n, .int .i64 r.m, .str r.nm, .str r.tx]] h = some (.val (.bool (r.at_ (last + 1)).right), none) := fun h => reqQ h (r.at_ (last + 1))
  rw [hr] at qR
  have mp := mapPut_new (x := .bool true) hW
  have hV : (V.agg (r.at_ (last + 1)).cs).plain = true := rfl
  have e1 : V.agg [.int .i64 (last + 1), .int .i64 r.op, .int .i64 r.ino, .int .i64 r.oth, .int .i64 r.n, .int .i64 r.m, .str r.nm, .str r.tx] = (r.at_ (last + 1)).v := rfl
  unfold pqC at hq
  (repeat' (first | refine To.seq hxE5 ?_ | refine To.op0 hxE5 (by simp only [go_sem, eqs hxE5, reduceIte, Nat.reduceEqDiff, Nat.reduceAdd, Nat.reduceMul, Nat.reduceLT, Nat.reduceLeDiff, Int.reduceBEq, Int.reduceBNe, Heap.gets, Heap.sets, Heap.get, bytesA_length, bytesA_one, bytesA_plains, List.take_of_length_le, List.drop_of_length_le, Nat.add_zero, V.one, Nat.reduceLeDiff, List.all_cons, List.all_nil, ne_eq, not_false_eq_true, Nat.zero_le, gs_ne, gs_eq, ga_lt, ga_0, ga_k, sa_lt, sa_0, sa_k, A.q1, A.q2, A.q3, A.q4, A.a1, A.a2, A.a3, A.a4, A.f1, A.f2, A.f3, A.f4, A.lq, A.l1, A.l4, List.length_set, Heap.setMap, hq, h1, h4, w1, qR, h8, mp, Rq.v, Rq.cs, Rq.at_]; rfl) ?_ | refine To.op1 hxE5 (by simp only [go_sem, eqs hxE5, reduceIte, Nat.reduceEqDiff, Nat.reduceAdd, Nat.reduceMul, Nat.reduceLT, Nat.reduceLeDiff, Int.reduceBEq, Int.reduceBNe, Heap.gets, Heap.sets, Heap.get, bytesA_length, bytesA_one, bytesA_plains, List.take_of_length_le, List.drop_of_length_le, Nat.add_zero, V.one, Nat.reduceLeDiff, List.all_cons, List.all_nil, ne_eq, not_false_eq_true, Nat.zero_le, gs_ne, gs_eq, ga_lt, ga_0, ga_k, sa_lt, sa_0, sa_k, A.q1, A.q2, A.q3, A.q4, A.a1, A.a2, A.a3, A.a4, A.f1, A.f2, A.f3, A.f4, A.lq, A.l1, A.l4, List.length_set, Heap.setMap, hq, h1, h4, w1, qR, h8, mp, Rq.v, Rq.cs, Rq.at_]; rfl) ?_ | refine To.sel hxE5 (by simp only [selA, go_sem, eqs hxE5, reduceIte, Nat.reduceEqDiff, Nat.reduceAdd, Nat.reduceMul, Nat.reduceLT, Nat.reduceLeDiff, Int.reduceBEq, Int.reduceBNe, Heap.gets, Heap.sets, Heap.get, bytesA_length, bytesA_one, bytesA_plains, List.take_of_length_le, List.drop_of_length_le, Nat.add_zero, V.one, Nat.reduceLeDiff, List.all_cons, List.all_nil, ne_eq, not_false_eq_true, Nat.zero_le, gs_ne, gs_eq, ga_lt, ga_0, ga_k, sa_lt, sa_0, sa_k, A.q1, A.q2, A.q3, A.q4, A.a1, A.a2, A.a3, A.a4, A.f1, A.f2, A.f3, A.f4, A.lq, A.l1, A.l4, List.length_set, Heap.setMap, hq, h1, h4, w1, qR, h8, mp, Rq.v, Rq.cs, Rq.at_]; rfl) ?_ | refine To.nop hxE5 ?_ | (refine To.condT hxE5 ?_ ?_; focus (simp only [go_sem, eqs hxE5, reduceIte, Nat.reduceEqDiff, Nat.reduceAdd, Nat.reduceMul, Nat.reduceLT, Nat.reduceLeDiff, Int.reduceBEq, Int.reduceBNe, Heap.gets, Heap.sets, Heap.get, bytesA_length, bytesA_one, bytesA_plains, List.take_of_length_le, List.drop_of_length_le, Nat.add_zero, V.one, Nat.reduceLeDiff, List.all_cons, List.all_nil, ne_eq, not_false_eq_true, Nat.zero_le, gs_ne, gs_eq, ga_lt, ga_0, ga_k, sa_lt, sa_0, sa_k, A.q1, A.q2, A.q3, A.q4, A.a1, A.a2, A.a3, A.a4, A.f1, A.f2, A.f3, A.f4, A.lq, A.l1, A.l4, List.length_set, Heap.setMap, hq, h1, h4, w1, qR, h8, mp, Rq.v, Rq.cs, Rq.at_]; done)) | (refine To.condF hxE5 ?_ ?_; focus (simp only [go_sem, eqs hxE5, reduceIte, Nat.reduceEqDiff, Nat.reduceAdd, Nat.reduceMul, Nat.reduceLT, Nat.reduceLeDiff, Int.reduceBEq, Int.reduceBNe, Heap.gets, Heap.sets, Heap.get, bytesA_length, bytesA_one, bytesA_plains, List.take_of_length_le, List.drop_of_length_le, Nat.add_zero, V.one, Nat.reduceLeDiff, List.all_cons, List.all_nil, ne_eq, not_false_eq_true, Nat.zero_le, gs_ne, gs_eq, ga_lt, ga_0, ga_k, sa_lt, sa_0, sa_k, A.q1, A.q2, A.q3, A.q4, A.a1, A.a2, A.a3, A.a4, A.f1, A.f2, A.f3, A.f4, A.lq, A.l1, A.l4, List.length_set, Heap.setMap, hq, h1, h4, w1, qR, h8, mp, Rq.v, Rq.cs, Rq.at_]; done)) | refine To.block hxE5 ?_ | refine To.ret hxE5 ?_ | refine To.skip hxE5 ?_ | refine To.draw0 hxE5 ?_ | refine ToD.op0 (by simp only [go_sem, eqs hxE5, reduceIte, Nat.reduceEqDiff, Nat.reduceAdd, Nat.reduceMul, Nat.reduceLT, Nat.reduceLeDiff, Int.reduceBEq, Int.reduceBNe, Heap.gets, Heap.sets, Heap.get, bytesA_length, bytesA_one, bytesA_plains, List.take_of_length_le, List.drop_of_length_le, Nat.add_zero, V.one, Nat.reduceLeDiff, List.all_cons, List.all_nil, ne_eq, not_false_eq_true, Nat.zero_le, gs_ne, gs_eq, ga_lt, ga_0, ga_k, sa_lt, sa_0, sa_k, A.q1, A.q2, A.q3, A.q4, A.a1, A.a2, A.a3, A.a4, A.f1, A.f2, A.f3, A.f4, A.lq, A.l1, A.l4, List.length_set, Heap.setMap, hq, h1, h4, w1, qR, h8, mp, Rq.v, Rq.cs, Rq.at_]; rfl) (by simp only [put_some, put_none]; rfl) ?_ | refine ToD.op1 (by simp only [go_sem, eqs hxE5, reduceIte, Nat.reduceEqDiff, Nat.reduceAdd, Nat.reduceMul, Nat.reduceLT, Nat.reduceLeDiff, Int.reduceBEq, Int.reduceBNe, Heap.gets, Heap.sets, Heap.get, bytesA_length, bytesA_one, bytesA_plains, List.take_of_length_le, List.drop_of_length_le, Nat.add_zero, V.one, Nat.reduceLeDiff, List.all_cons, List.all_nil, ne_eq, not_false_eq_true, Nat.zero_le, gs_ne, gs_eq, ga_lt, ga_0, ga_k, sa_lt, sa_0, sa_k, A.q1, A.q2, A.q3, A.q4, A.a1, A.a2, A.a3, A.a4, A.f1, A.f2, A.f3, A.f4, A.lq, A.l1, A.l4, List.length_set, Heap.setMap, hq, h1, h4, w1, qR, h8, mp, Rq.v, Rq.cs, Rq.at_]; rfl) (by simp only [put_some, put_none]; rfl) (by simp only [KD.app, go_sem, eqs hxE5, reduceIte, Nat.reduceEqDiff, Nat.reduceAdd, Nat.reduceMul, Nat.reduceLT, Nat.reduceLeDiff, Int.reduceBEq, Int.reduceBNe, Heap.gets, Heap.sets, Heap.get, bytesA_length, bytesA_one, bytesA_plains, List.take_of_length_le, List.drop_of_length_le, Nat.add_zero, V.one, Nat.reduceLeDiff, List.all_cons, List.all_nil, ne_eq, not_false_eq_true, Nat.zero_le, gs_ne, gs_eq, ga_lt, ga_0, ga_k, sa_lt, sa_0, sa_k, A.q1, A.q2, A.q3, A.q4, A.a1, A.a2, A.a3, A.a4, A.f1, A.f2, A.f3, A.f4, A.lq, A.l1, A.l4, List.length_set, Heap.setMap, hq, h1, h4, w1, qR, h8, mp, Rq.v, Rq.cs, Rq.at_]; rfl) ?_ | refine ToD.nop ?_))
  refine ⟨_, _, fin2 (i := 4) (j := 5) rfl, ?_, ?_⟩
  · simp only [go_sem, eqs hxE5, reduceIte, Nat.reduceEqDiff, Nat.reduceAdd, Nat.reduceMul, Nat.reduceLT, Nat.reduceLeDiff, Int.reduceBEq, Int.reduceBNe]
  · refine close_q A ?_ ?_ ?_ ?_ (.inl ?_)
    · exact ((hP.c1' _).q' _ _).m2' _ |>.app _
    · exact (((Qx.set (.inr (.inl rfl))).trans (Qx.set (.inl rfl))).trans (Qx.set (.inr (.inr (.inr (.inr rfl)))))).trans (Qx.app _)
    · exact Nat.le_refl _
    · simp only [go_sem, eqs hxE5, reduceIte, Nat.reduceEqDiff, Nat.reduceAdd, Nat.reduceMul, Nat.reduceLT, Nat.reduceLeDiff, Int.reduceBEq, Int.reduceBNe]
    · have := A.l1
      simp only
      omega

theorem put_no {r : Rq} (h : PQ o q c1 c2 m1 m2 rq ns op wt last lost) (hl0 : 0 ≤ last) (hl1 : last ≤ 9223372036854775806) (hr : (r.at_ (last + 1)).right = false) :
    ∃ v oh, Den FF E5 30 [.ptr q 0, r.v] ⟨o, e, d⟩ = some (v, oh) ∧ v = .val (.tuple [.int .i64 0, .int .i64 22]) ∧ oh = none := by
  refine To.denE hxE5 (f := 30) (a := af30) rfl (E5_none rfl) (Nat.le_of_ble_eq_true rfl) ?_
  have hP := h
  obtain ⟨hq, h1, h2, h3, h4, hm⟩ := h
  have A := hP.ap
  have w1 : IntKind.i64.wrap (last + 1) = last + 1 := wrap_i64 (by omega) (by omega)
  have qR : ∀ h, Den FF E5 14 [.agg [.int .i64 (last + 1), .int .i64 r.op, .int .i64 r.ino, .int .i64 r.oth, .int .i64 r.n, .int .i64 r.m, .str r.nm, .str r.tx]] h = some (.val (.bool (r.at_ (last + 1)).right), none) := fun h => reqQ h (r.at_ (last + 1))
  rw [hr] at qR
  unfold pqC at hq
  (repeat' (first | refine To.seq hxE5 ?_ | refine To.op0 hxE5 (by simp only [go_sem, eqs hxE5, reduceIte, Nat.reduceEqDiff, Nat.reduceAdd, Nat.reduceMul, Nat.reduceLT, Nat.reduceLeDiff, Int.reduceBEq, Int.reduceBNe, Heap.gets, Heap.sets, Heap.get, bytesA_length, bytesA_one, bytesA_plains, List.take_of_length_le, List.drop_of_length_le, Nat.add_zero, V.one, Nat.reduceLeDiff, List.all_cons, List.all_nil, ne_eq, not_false_eq_true, Nat.zero_le, gs_ne, gs_eq, ga_lt, ga_0, ga_k, sa_lt, sa_0, sa_k, A.lq, A.l1, List.length_set, Heap.setMap, hq, h1, w1, qR, Rq.v, Rq.cs, Rq.at_]; rfl) ?_ | refine To.op1 hxE5 (by simp only [go_sem, eqs hxE5, reduceIte, Nat.reduceEqDiff, Nat.reduceAdd, Nat.reduceMul, Nat.reduceLT, Nat.reduceLeDiff, Int.reduceBEq, Int.reduceBNe, Heap.gets, Heap.sets, Heap.get, bytesA_length, bytesA_one, bytesA_plains, List.take_of_length_le, List.drop_of_length_le, Nat.add_zero, V.one, Nat.reduceLeDiff, List.all_cons, List.all_nil, ne_eq, not_false_eq_true, Nat.zero_le, gs_ne, gs_eq, ga_lt, ga_0, ga_k, sa_lt, sa_0, sa_k, A.lq, A.l1, List.length_set, Heap.setMap, hq, h1, w1, qR, Rq.v, Rq.cs, Rq.at_]; rfl) ?_ | refine To.nop hxE5 ?_ | (refine To.condT hxE5 ?_ ?_; focus (simp only [go_sem, eqs hxE5, reduceIte, Nat.reduceEqDiff, Nat.reduceAdd, Nat.reduceMul, Nat.reduceLT, Nat.reduceLeDiff, Int.reduceBEq, Int.reduceBNe, Heap.gets, Heap.sets, Heap.get, bytesA_length, bytesA_one, bytesA_plains, List.take_of_length_le, List.drop_of_length_le, Nat.add_zero, V.one, Nat.reduceLeDiff, List.all_cons, List.all_nil, ne_eq, not_false_eq_true, Nat.zero_le, gs_ne, gs_eq, ga_lt, ga_0, ga_k, sa_lt, sa_0, sa_k, A.lq, A.l1, List.length_set, Heap.setMap, hq, h1, w1, qR, Rq.v, Rq.cs, Rq.at_]; done)) | (refine To.condF hxE5 ?_ ?_; focus (simp only [go_sem, eqs hxE5, reduceIte, Nat.reduceEqDiff, Nat.reduceAdd, Nat.reduceMul, Nat.reduceLT, Nat.reduceLeDiff, Int.reduceBEq, Int.reduceBNe, Heap.gets, Heap.sets, Heap.get, bytesA_length, bytesA_one, bytesA_plains, List.take_of_length_le, List.drop_of_length_le, Nat.add_zero, V.one, Nat.reduceLeDiff, List.all_cons, List.all_nil, ne_eq, not_false_eq_true, Nat.zero_le, gs_ne, gs_eq, ga_lt, ga_0, ga_k, sa_lt, sa_0, sa_k, A.lq, A.l1, List.length_set, Heap.setMap, hq, h1, w1, qR, Rq.v, Rq.cs, Rq.at_]; done)) | refine To.ret hxE5 ?_ | refine To.skip hxE5 ?_))
  refine ⟨_, _, fin2 (i := 4) (j := 5) rfl, ?_, ?_⟩
  · simp only [go_sem, eqs hxE5, reduceIte, Nat.reduceEqDiff, Nat.reduceAdd, Nat.reduceMul, Nat.reduceLT, Nat.reduceLeDiff, Int.reduceBEq, Int.reduceBNe]
  · simp only [go_sem, eqs hxE5, reduceIte, Nat.reduceEqDiff, Nat.reduceAdd, Nat.reduceMul, Nat.reduceLT, Nat.reduceLeDiff, Int.reduceBEq, Int.reduceBNe]
theorem put_full {r : Rq} (h : PQ o q c1 c2 m1 m2 rq ns op wt last lost) (hl0 : 0 ≤ last) (hl1 : last ≤ 9223372036854775806) (hr : (r.at_ (last + 1)).right = true) (h8 : ¬ rq.length < 8) :
    ∃ v oh, Den FF E5 30 [.ptr q 0, r.v] ⟨o, e, d⟩ = some (v, oh) ∧ v = .val (.tuple [.int .i64 0, .int .i64 11]) ∧ oh = none := by
  refine To.denE hxE5 (f := 30) (a := af30) rfl (E5_none rfl) (Nat.le_of_ble_eq_true rfl) ?_
  have hP := h
  obtain ⟨hq, h1, h2, h3, h4, hm⟩ := h
  have A := hP.ap
  have w1 : IntKind.i64.wrap (last + 1) = last + 1 := wrap_i64 (by omega) (by omega)
  have qR : ∀ h, Den FF E5 14 [.agg [.int .i64 (last + 1), .int .i64 r.op, .int .i64 r.ino, .int .i64 r.oth, .int .i64 r.n, .int .i64 r.m, .str r.nm, .str r.tx]] h = some (.val (.bool (r.at_ (last + 1)).right), none) := fun h => reqQ h (r.at_ (last + 1))
  rw [hr] at qR
  unfold pqC at hq
  (repeat' (first | refine To.seq hxE5 ?_ | refine To.op0 hxE5 (by simp only [go_sem, eqs hxE5, reduceIte, Nat.reduceEqDiff, Nat.reduceAdd, Nat.reduceMul, Nat.reduceLT, Nat.reduceLeDiff, Int.reduceBEq, Int.reduceBNe, Heap.gets, Heap.sets, Heap.get, bytesA_length, bytesA_one, bytesA_plains, List.take_of_length_le, List.drop_of_length_le, Nat.add_zero, V.one, Nat.reduceLeDiff, List.all_cons, List.all_nil, ne_eq, not_false_eq_true, Nat.zero_le, gs_ne, gs_eq, ga_lt, ga_0, ga_k, sa_lt, sa_0, sa_k, A.lq, A.l1, List.length_set, Heap.setMap, hq, h1, w1, qR, h8, Rq.v, Rq.cs, Rq.at_]; rfl) ?_ | refine To.op1 hxE5 (by simp only [go_sem, eqs hxE5, reduceIte, Nat.reduceEqDiff, Nat.reduceAdd, Nat.reduceMul, Nat.reduceLT, Nat.reduceLeDiff, Int.reduceBEq, Int.reduceBNe, Heap.gets, Heap.sets, Heap.get, bytesA_length, bytesA_one, bytesA_plains, List.take_of_length_le, List.drop_of_length_le, Nat.add_zero, V.one, Nat.reduceLeDiff, List.all_cons, List.all_nil, ne_eq, not_false_eq_true, Nat.zero_le, gs_ne, gs_eq, ga_lt, ga_0, ga_k, sa_lt, sa_0, sa_k, A.lq, A.l1, List.length_set, Heap.setMap, hq, h1, w1, qR, h8, Rq.v, Rq.cs, Rq.at_]; rfl) ?_ | refine To.sel hxE5 (by simp only [selA, go_sem, eqs hxE5, reduceIte, Nat.reduceEqDiff, Nat.reduceAdd, Nat.reduceMul, Nat.reduceLT, Nat.reduceLeDiff, Int.reduceBEq, Int.reduceBNe, Heap.gets, Heap.sets, Heap.get, bytesA_length, bytesA_one, bytesA_plains, List.take_of_length_le, List.drop_of_length_le, Nat.add_zero, V.one, Nat.reduceLeDiff, List.all_cons, List.all_nil, ne_eq, not_false_eq_true, Nat.zero_le, gs_ne, gs_eq, ga_lt, ga_0, ga_k, sa_lt, sa_0, sa_k, A.lq, A.l1, List.length_set, Heap.setMap, hq, h1, w1, qR, h8, Rq.v, Rq.cs, Rq.at_]; rfl) ?_ | refine To.nop hxE5 ?_ | (refine To.condF hxE5 ?_ ?_; focus (simp only [go_sem, eqs hxE5, reduceIte, Nat.reduceEqDiff, Nat.reduceAdd, Nat.reduceMul, Nat.reduceLT, Nat.reduceLeDiff, Int.reduceBEq, Int.reduceBNe, Heap.gets, Heap.sets, Heap.get, bytesA_length, bytesA_one, bytesA_plains, List.take_of_length_le, List.drop_of_length_le, Nat.add_zero, V.one, Nat.reduceLeDiff, List.all_cons, List.all_nil, ne_eq, not_false_eq_true, Nat.zero_le, gs_ne, gs_eq, ga_lt, ga_0, ga_k, sa_lt, sa_0, sa_k, A.lq, A.l1, List.length_set, Heap.setMap, hq, h1, w1, qR, h8, Rq.v, Rq.cs, Rq.at_]; done)) | refine To.block hxE5 ?_ | refine To.ret hxE5 ?_ | refine To.skip hxE5 ?_))
  refine ⟨_, _, fin2 (i := 4) (j := 5) rfl, ?_, ?_⟩
  · simp only [go_sem, eqs hxE5, reduceIte, Nat.reduceEqDiff, Nat.reduceAdd, Nat.reduceMul, Nat.reduceLT, Nat.reduceLeDiff, Int.reduceBEq, Int.reduceBNe]
  · simp only [go_sem, eqs hxE5, reduceIte, Nat.reduceEqDiff, Nat.reduceAdd, Nat.reduceMul, Nat.reduceLT, Nat.reduceLeDiff, Int.reduceBEq, Int.reduceBNe]
end
end Go.Proofs.Ytjbblfoefibeaaa

