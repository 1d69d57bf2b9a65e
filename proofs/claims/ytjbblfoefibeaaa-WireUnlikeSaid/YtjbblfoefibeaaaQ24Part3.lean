/- Own texts, joined: Q24WF, Q24WG, Q24RA, Q24RB, Q24DA, Q24DB, Q24DC, Q24DD, Q24DE, Q24DF. -/
import Derived.Test.YtjbblfoefibeaaaQ24Part2
/- Wire: the document's texts, as bytes and back. -/
namespace Go.Proofs.Ytjbblfoefibeaaa
open Go AM
set_option linter.unusedSimpArgs false
set_option linter.unusedVariables false
set_option maxRecDepth 100000

def textB (s : List UInt8) : List UInt8 := tobe 2 s.length ++ s
def tText : Ans
  | [.str s] => if s.length ≤ 1000000 then some (.str (textB s)) else none
  | _ => none
theorem okText : SpOk FF E4 61 tText := by
  intro args v h hpl
  unfold tText at h
  split at h
  · rename_i s
    split at h
    · rename_i hc
      cases h
      refine ⟨rfl, _, (?_ : Den FF E4 61 [.str s] H0 = some (.val (.str (textB s)), none))⟩
      refine To.den hxE4 (f := 61) (a := af61) rfl (E4_none rfl) (Nat.le_of_ble_eq_true rfl) ?_
      have q : ∀ h, Den FF E4 60 [.int .i64 (s.length : Int), .int .i64 2] h = some (.val (.str (tobe 2 s.length)), none) := fun h => eBig_4 (s.length : Int) 2 ⟨by omega, by omega, by decide, by decide⟩ h
      have hl : (2 + s.length ≤ 9223372036854775807) = True := eq_true (by omega)
      (repeat' (first | refine To.seq hxE4 ?_ | refine To.op0 hxE4 (by simp only [go_sem, eqs hxE4, reduceIte, Nat.reduceEqDiff, Nat.reduceAdd, Nat.reduceMul, Nat.reduceLT, Nat.reduceLeDiff, Int.reduceLT, Int.reduceLE, Int.reduceEq, reduceCtorEq, Int.reduceBEq, Int.reduceBNe, Int.reduceToNat, Nat.reduceSub, Nat.reduceDiv, Int.reduceNeg, Int.reduceAdd, Int.reduceSub, Int.reduceMul, q, tobe_length, hl]; rfl) ?_ | refine To.op1 hxE4 (by simp only [go_sem, eqs hxE4, reduceIte, Nat.reduceEqDiff, Nat.reduceAdd, Nat.reduceMul, Nat.reduceLT, Nat.reduceLeDiff, Int.reduceLT, Int.reduceLE, Int.reduceEq, reduceCtorEq, Int.reduceBEq, Int.reduceBNe, Int.reduceToNat, Nat.reduceSub, Nat.reduceDiv, Int.reduceNeg, Int.reduceAdd, Int.reduceSub, Int.reduceMul, q, tobe_length, hl]; rfl) ?_ | refine To.nop hxE4 ?_ | (refine To.condT hxE4 ?_ ?_; focus (simp only [go_sem, eqs hxE4, reduceIte, Nat.reduceEqDiff, Nat.reduceAdd, Nat.reduceMul, Nat.reduceLT, Nat.reduceLeDiff, Int.reduceLT, Int.reduceLE, Int.reduceEq, reduceCtorEq, Int.reduceBEq, Int.reduceBNe, Int.reduceToNat, Nat.reduceSub, Nat.reduceDiv, Int.reduceNeg, Int.reduceAdd, Int.reduceSub, Int.reduceMul, q, tobe_length, hl]; done)) | (refine To.condF hxE4 ?_ ?_; focus (simp only [go_sem, eqs hxE4, reduceIte, Nat.reduceEqDiff, Nat.reduceAdd, Nat.reduceMul, Nat.reduceLT, Nat.reduceLeDiff, Int.reduceLT, Int.reduceLE, Int.reduceEq, reduceCtorEq, Int.reduceBEq, Int.reduceBNe, Int.reduceToNat, Nat.reduceSub, Nat.reduceDiv, Int.reduceNeg, Int.reduceAdd, Int.reduceSub, Int.reduceMul, q, tobe_length, hl]; done)) | refine To.block hxE4 ?_ | refine To.scope hxE4 ?_ | refine To.ret hxE4 ?_ | refine To.exit hxE4 ?_ | refine To.skip hxE4 ?_ | refine To.label hxE4 ?_))
      simp only [andThen, outOf, go_sem, eqs hxE4, reduceIte, Nat.reduceEqDiff, Nat.reduceAdd, Nat.reduceMul, Nat.reduceLT, Nat.reduceLeDiff, Int.reduceLT, Int.reduceLE, Int.reduceEq, reduceCtorEq, Int.reduceBEq, Int.reduceBNe, Int.reduceToNat, Nat.reduceSub, Nat.reduceDiv, Int.reduceNeg, Int.reduceAdd, Int.reduceSub, Int.reduceMul, af61, textB]
    · cases h
  · cases h

theorem fin3 {a : AF} {h : Heap} {S : Nat → V} {h' : Heap} {i j k : Nat} (hr : a.res = [.t i, .t j, .t k]) : finish a h (some (.ret, S, h')) = some (.val (.tuple [S i, S j, S k]), leave h h' (.tuple [S i, S j, S k])) := by
  simp only [finish, hr, resAll, resOne, resV]; rfl
/-- The text at a place. -/
def partV (s : List UInt8) (a : Nat) : V :=
  if a + 2 ≤ s.length then
    if a + 2 + numAt s a 2 ≤ s.length then .tuple [.str ((s.drop (a + 2)).take (numAt s a 2)), .int .i64 ((2 + numAt s a 2 : Nat) : Int), .bool true]
    else .tuple [.str [], .int .i64 0, .bool false]
  else .tuple [.str [], .int .i64 0, .bool false]
def tPart : Ans
  | [.str s, .int .i64 a] => if 0 ≤ a ∧ a ≤ 900000 ∧ s.length ≤ 900000 then some (partV s a.toNat) else none
  | _ => none
theorem part_den (s : List UInt8) (a : Nat) (ha : a ≤ 900000) (hs : s.length ≤ 900000) : ∃ r oh, Den FF E4 63 [.str s, .int .i64 (a : Int)] H0 = some (r, oh) ∧ r = .val (partV s a) ∧ oh = none := by
  refine To.denE hxE4 (f := 63) (a := af63) rfl (E4_none rfl) (Nat.le_of_ble_eq_true rfl) ?_
  have q := fun h => eNumber_4 s (a : Int) 2 ⟨by omega, by omega, by decide, by decide, by omega⟩ h
  simp only [Int.toNat_natCast, show Int.toNat 2 = 2 from rfl] at q
  unfold partV
  by_cases h1 : a + 2 ≤ s.length
  · simp only [if_pos h1] at q ⊢
    have hn : numAt s a 2 < 65536 := by
      have := be_lt ((s.drop a).take 2)
      rw [List.length_take, List.length_drop, Nat.min_eq_left (by omega)] at this
      exact this
    have w1 : IntKind.i64.wrap ((a : Int) + 2) = ((a + 2 : Nat) : Int) := by rw [wrap_i64 (by omega) (by omega)]; omega
    have w2 : IntKind.i64.wrap (((a + 2 : Nat) : Int) + ((numAt s a 2 : Nat) : Int)) = ((a + 2 + numAt s a 2 : Nat) : Int) := by rw [wrap_i64 (by omega) (by omega)]; omega
    have w3 : IntKind.i64.wrap (2 + ((numAt s a 2 : Nat) : Int)) = ((2 + numAt s a 2 : Nat) : Int) := by rw [wrap_i64 (by omega) (by omega)]; omega
    by_cases h2 : a + 2 + numAt s a 2 ≤ s.length
    · rw [if_pos h2]
      have d1 : decide ((s.length : Int) < ((a + 2 + numAt s a 2 : Nat) : Int)) = false := decide_eq_false (by omega)
      have hb : boundsA s.length s.length (some (.int .i64 ((a + 2 : Nat) : Int))) (some (.int .i64 ((a + 2 + numAt s a 2 : Nat) : Int))) = some (a + 2, a + 2 + numAt s a 2) := by
        simp only [boundsA, hiB, loB]
        rw [if_pos (by omega)]
        simp only [Int.toNat_natCast]
        rw [if_pos (by omega)]
      have hdt : List.drop (a + 2) (List.take (a + 2 + numAt s a 2) s) = List.take (numAt s a 2) (List.drop (a + 2) s) := by rw [List.drop_take, Nat.add_sub_cancel_left]
      (repeat' (first | refine To.seq hxE4 ?_ | refine To.op0 hxE4 (by simp only [go_sem, eqs hxE4, reduceIte, Nat.reduceEqDiff, Nat.reduceAdd, Nat.reduceMul, Nat.reduceLT, Nat.reduceLeDiff, Int.reduceLT, Int.reduceLE, Int.reduceEq, reduceCtorEq, Int.reduceBEq, Int.reduceBNe, Int.reduceToNat, Nat.reduceSub, Nat.reduceDiv, Int.reduceNeg, Int.reduceAdd, Int.reduceSub, Int.reduceMul, q, w1, w2, w3, d1, hb]; rfl) ?_ | refine To.op1 hxE4 (by simp only [go_sem, eqs hxE4, reduceIte, Nat.reduceEqDiff, Nat.reduceAdd, Nat.reduceMul, Nat.reduceLT, Nat.reduceLeDiff, Int.reduceLT, Int.reduceLE, Int.reduceEq, reduceCtorEq, Int.reduceBEq, Int.reduceBNe, Int.reduceToNat, Nat.reduceSub, Nat.reduceDiv, Int.reduceNeg, Int.reduceAdd, Int.reduceSub, Int.reduceMul, q, w1, w2, w3, d1, hb]; rfl) ?_ | refine To.nop hxE4 ?_ | (refine To.condT hxE4 ?_ ?_; focus (simp only [go_sem, eqs hxE4, reduceIte, Nat.reduceEqDiff, Nat.reduceAdd, Nat.reduceMul, Nat.reduceLT, Nat.reduceLeDiff, Int.reduceLT, Int.reduceLE, Int.reduceEq, reduceCtorEq, Int.reduceBEq, Int.reduceBNe, Int.reduceToNat, Nat.reduceSub, Nat.reduceDiv, Int.reduceNeg, Int.reduceAdd, Int.reduceSub, Int.reduceMul, q, w1, w2, w3, d1, hb]; done)) | (refine To.condF hxE4 ?_ ?_; focus (simp only [go_sem, eqs hxE4, reduceIte, Nat.reduceEqDiff, Nat.reduceAdd, Nat.reduceMul, Nat.reduceLT, Nat.reduceLeDiff, Int.reduceLT, Int.reduceLE, Int.reduceEq, reduceCtorEq, Int.reduceBEq, Int.reduceBNe, Int.reduceToNat, Nat.reduceSub, Nat.reduceDiv, Int.reduceNeg, Int.reduceAdd, Int.reduceSub, Int.reduceMul, q, w1, w2, w3, d1, hb]; done)) | refine To.block hxE4 ?_ | refine To.scope hxE4 ?_ | refine To.ret hxE4 ?_ | refine To.exit hxE4 ?_ | refine To.skip hxE4 ?_ | refine To.label hxE4 ?_))
      refine ⟨_, _, fin3 (i := 4) (j := 5) (k := 6) rfl, ?_, ?_⟩
      · simp only [go_sem, eqs hxE4, reduceIte, Nat.reduceEqDiff, Nat.reduceAdd, Nat.reduceMul, Nat.reduceLT, Nat.reduceLeDiff, Int.reduceLT, Int.reduceLE, Int.reduceEq, reduceCtorEq, Int.reduceBEq, Int.reduceBNe, Int.reduceToNat, Nat.reduceSub, Nat.reduceDiv, Int.reduceNeg, Int.reduceAdd, Int.reduceSub, Int.reduceMul, hdt]
      · simp only [go_sem, eqs hxE4, reduceIte, Nat.reduceEqDiff, Nat.reduceAdd, Nat.reduceMul, Nat.reduceLT, Nat.reduceLeDiff, Int.reduceLT, Int.reduceLE, Int.reduceEq, reduceCtorEq, Int.reduceBEq, Int.reduceBNe, Int.reduceToNat, Nat.reduceSub, Nat.reduceDiv, Int.reduceNeg, Int.reduceAdd, Int.reduceSub, Int.reduceMul]
    · rw [if_neg h2]
      have d1 : decide ((s.length : Int) < ((a + 2 + numAt s a 2 : Nat) : Int)) = true := decide_eq_true (by omega)
      (repeat' (first | refine To.seq hxE4 ?_ | refine To.op0 hxE4 (by simp only [go_sem, eqs hxE4, reduceIte, Nat.reduceEqDiff, Nat.reduceAdd, Nat.reduceMul, Nat.reduceLT, Nat.reduceLeDiff, Int.reduceLT, Int.reduceLE, Int.reduceEq, reduceCtorEq, Int.reduceBEq, Int.reduceBNe, Int.reduceToNat, Nat.reduceSub, Nat.reduceDiv, Int.reduceNeg, Int.reduceAdd, Int.reduceSub, Int.reduceMul, q, w1, w2, w3, d1]; rfl) ?_ | refine To.op1 hxE4 (by simp only [go_sem, eqs hxE4, reduceIte, Nat.reduceEqDiff, Nat.reduceAdd, Nat.reduceMul, Nat.reduceLT, Nat.reduceLeDiff, Int.reduceLT, Int.reduceLE, Int.reduceEq, reduceCtorEq, Int.reduceBEq, Int.reduceBNe, Int.reduceToNat, Nat.reduceSub, Nat.reduceDiv, Int.reduceNeg, Int.reduceAdd, Int.reduceSub, Int.reduceMul, q, w1, w2, w3, d1]; rfl) ?_ | refine To.nop hxE4 ?_ | (refine To.condT hxE4 ?_ ?_; focus (simp only [go_sem, eqs hxE4, reduceIte, Nat.reduceEqDiff, Nat.reduceAdd, Nat.reduceMul, Nat.reduceLT, Nat.reduceLeDiff, Int.reduceLT, Int.reduceLE, Int.reduceEq, reduceCtorEq, Int.reduceBEq, Int.reduceBNe, Int.reduceToNat, Nat.reduceSub, Nat.reduceDiv, Int.reduceNeg, Int.reduceAdd, Int.reduceSub, Int.reduceMul, q, w1, w2, w3, d1]; done)) | (refine To.condF hxE4 ?_ ?_; focus (simp only [go_sem, eqs hxE4, reduceIte, Nat.reduceEqDiff, Nat.reduceAdd, Nat.reduceMul, Nat.reduceLT, Nat.reduceLeDiff, Int.reduceLT, Int.reduceLE, Int.reduceEq, reduceCtorEq, Int.reduceBEq, Int.reduceBNe, Int.reduceToNat, Nat.reduceSub, Nat.reduceDiv, Int.reduceNeg, Int.reduceAdd, Int.reduceSub, Int.reduceMul, q, w1, w2, w3, d1]; done)) | refine To.block hxE4 ?_ | refine To.scope hxE4 ?_ | refine To.ret hxE4 ?_ | refine To.exit hxE4 ?_ | refine To.skip hxE4 ?_ | refine To.label hxE4 ?_))
      refine ⟨_, _, fin3 (i := 4) (j := 5) (k := 6) rfl, ?_, ?_⟩
      · simp only [go_sem, eqs hxE4, reduceIte, Nat.reduceEqDiff, Nat.reduceAdd, Nat.reduceMul, Nat.reduceLT, Nat.reduceLeDiff, Int.reduceLT, Int.reduceLE, Int.reduceEq, reduceCtorEq, Int.reduceBEq, Int.reduceBNe, Int.reduceToNat, Nat.reduceSub, Nat.reduceDiv, Int.reduceNeg, Int.reduceAdd, Int.reduceSub, Int.reduceMul]
      · simp only [go_sem, eqs hxE4, reduceIte, Nat.reduceEqDiff, Nat.reduceAdd, Nat.reduceMul, Nat.reduceLT, Nat.reduceLeDiff, Int.reduceLT, Int.reduceLE, Int.reduceEq, reduceCtorEq, Int.reduceBEq, Int.reduceBNe, Int.reduceToNat, Nat.reduceSub, Nat.reduceDiv, Int.reduceNeg, Int.reduceAdd, Int.reduceSub, Int.reduceMul]
  · simp only [if_neg h1] at q ⊢
    (repeat' (first | refine To.seq hxE4 ?_ | refine To.op0 hxE4 (by simp only [go_sem, eqs hxE4, reduceIte, Nat.reduceEqDiff, Nat.reduceAdd, Nat.reduceMul, Nat.reduceLT, Nat.reduceLeDiff, Int.reduceLT, Int.reduceLE, Int.reduceEq, reduceCtorEq, Int.reduceBEq, Int.reduceBNe, Int.reduceToNat, Nat.reduceSub, Nat.reduceDiv, Int.reduceNeg, Int.reduceAdd, Int.reduceSub, Int.reduceMul, q]; rfl) ?_ | refine To.op1 hxE4 (by simp only [go_sem, eqs hxE4, reduceIte, Nat.reduceEqDiff, Nat.reduceAdd, Nat.reduceMul, Nat.reduceLT, Nat.reduceLeDiff, Int.reduceLT, Int.reduceLE, Int.reduceEq, reduceCtorEq, Int.reduceBEq, Int.reduceBNe, Int.reduceToNat, Nat.reduceSub, Nat.reduceDiv, Int.reduceNeg, Int.reduceAdd, Int.reduceSub, Int.reduceMul, q]; rfl) ?_ | refine To.nop hxE4 ?_ | (refine To.condT hxE4 ?_ ?_; focus (simp only [go_sem, eqs hxE4, reduceIte, Nat.reduceEqDiff, Nat.reduceAdd, Nat.reduceMul, Nat.reduceLT, Nat.reduceLeDiff, Int.reduceLT, Int.reduceLE, Int.reduceEq, reduceCtorEq, Int.reduceBEq, Int.reduceBNe, Int.reduceToNat, Nat.reduceSub, Nat.reduceDiv, Int.reduceNeg, Int.reduceAdd, Int.reduceSub, Int.reduceMul, q]; done)) | (refine To.condF hxE4 ?_ ?_; focus (simp only [go_sem, eqs hxE4, reduceIte, Nat.reduceEqDiff, Nat.reduceAdd, Nat.reduceMul, Nat.reduceLT, Nat.reduceLeDiff, Int.reduceLT, Int.reduceLE, Int.reduceEq, reduceCtorEq, Int.reduceBEq, Int.reduceBNe, Int.reduceToNat, Nat.reduceSub, Nat.reduceDiv, Int.reduceNeg, Int.reduceAdd, Int.reduceSub, Int.reduceMul, q]; done)) | refine To.block hxE4 ?_ | refine To.scope hxE4 ?_ | refine To.ret hxE4 ?_ | refine To.exit hxE4 ?_ | refine To.skip hxE4 ?_ | refine To.label hxE4 ?_))
    refine ⟨_, _, fin3 (i := 4) (j := 5) (k := 6) rfl, ?_, ?_⟩
    · simp only [go_sem, eqs hxE4, reduceIte, Nat.reduceEqDiff, Nat.reduceAdd, Nat.reduceMul, Nat.reduceLT, Nat.reduceLeDiff, Int.reduceLT, Int.reduceLE, Int.reduceEq, reduceCtorEq, Int.reduceBEq, Int.reduceBNe, Int.reduceToNat, Nat.reduceSub, Nat.reduceDiv, Int.reduceNeg, Int.reduceAdd, Int.reduceSub, Int.reduceMul]
    · simp only [go_sem, eqs hxE4, reduceIte, Nat.reduceEqDiff, Nat.reduceAdd, Nat.reduceMul, Nat.reduceLT, Nat.reduceLeDiff, Int.reduceLT, Int.reduceLE, Int.reduceEq, reduceCtorEq, Int.reduceBEq, Int.reduceBNe, Int.reduceToNat, Nat.reduceSub, Nat.reduceDiv, Int.reduceNeg, Int.reduceAdd, Int.reduceSub, Int.reduceMul]
theorem partV_plain (s : List UInt8) (a : Nat) : (partV s a).plain = true := by
  unfold partV; split
  · split <;> rfl
  · rfl
theorem okPart : SpOk FF E4 63 tPart := by
  intro args v h hpl
  unfold tPart at h
  split at h
  · rename_i s a
    split at h
    · rename_i hc
      cases h
      obtain ⟨a, rfl⟩ : ∃ b : Nat, a = (b : Int) := ⟨a.toNat, by omega⟩
      obtain ⟨r, oh, q, rfl, rfl⟩ := part_den s a (by omega) (by omega)
      exact ⟨partV_plain _ _, _, q⟩
    · cases h
  · cases h
def g5 : Nat → Option Ans := addG g4 [(61, tText), (63, tPart), (12, tRight)]
def E5 : ExtF := plainExt g5
theorem hxE5 : ExtMono E5 := plainExt_mono g5
theorem sndE5 : ExtSound Try.prog E5 := addG_sound mixed ffok sndE4 (by
  intro p hp
  simp only [List.mem_cons, List.not_mem_nil, or_false] at hp
  rcases hp with rfl | rfl | rfl
  · exact okText
  · exact okPart
  · exact okRRight)
theorem E5_none {f : Nat} (h : g5 f = none) (c : CallF) : E5 c f = none := plainExt_none h c
theorem eContains_5 (s : List UInt8) (c : UInt8) (h : Heap) : Den FF E5 79 [.str s, .str [c]] h = some (.val (.bool (s.contains c)), none) := den_plain (sp := tContains) h rfl (by rfl) (by first | (simp [V.plains, V.plain, bytesA_plains]; done) | rfl)
theorem eAwake24_5 (_ : Unit) (h : Heap) : Den FF E5 27 [] h = some (.val (.bool true), none) := den_plain (sp := tAwake) h rfl (by rfl) (by first | (simp [V.plains, V.plain, bytesA_plains]; done) | rfl)
theorem eAwake23_5 (_ : Unit) (h : Heap) : Den FF E5 11 [] h = some (.val (.bool true), none) := den_plain (sp := tAwake) h rfl (by rfl) (by first | (simp [V.plains, V.plain, bytesA_plains]; done) | rfl)
theorem eIn_5 (n lo hi : Int) (h : Heap) : Den FF E5 65 [.int .i64 n, .int .i64 lo, .int .i64 hi] h = some (.val (.bool (inB n lo hi)), none) := den_plain (sp := tIn) h rfl (by rfl) (by first | (simp [V.plains, V.plain, bytesA_plains]; done) | rfl)
theorem eTakes_5 (id op ino oth n m : Int) (nm tx : List UInt8) (h : Heap) : Den FF E5 54 [.agg [.int .i64 id, .int .i64 op, .int .i64 ino, .int .i64 oth, .int .i64 n, .int .i64 m, .str nm, .str tx]] h = some (.val (.tuple [.agg (takesF id op ino oth n m nm tx), .bool (isOp op)]), none) := den_plain (sp := tTakes) h rfl (by rfl) (by first | (simp [V.plains, V.plain, bytesA_plains]; done) | rfl)
theorem eWAttr_5 (a0 a1 a2 a3 a4 a5 : Int) (h : Heap) : Den FF E5 25 [.agg [.int .i64 a0, .int .i64 a1, .int .i64 a2, .int .i64 a3, .int .i64 a4, .int .i64 a5]] h = some (.val (.bool (attrB a0 a1 a2 a3 a4 a5)), none) := den_plain (sp := tAttr) h rfl (by rfl) (by first | (simp [V.plains, V.plain, bytesA_plains]; done) | rfl)
theorem eRAttr_5 (a0 a1 a2 a3 a4 a5 : Int) (h : Heap) : Den FF E5 24 [.agg [.int .i64 a0, .int .i64 a1, .int .i64 a2, .int .i64 a3, .int .i64 a4, .int .i64 a5]] h = some (.val (.bool (attrB a0 a1 a2 a3 a4 a5)), none) := den_plain (sp := tAttr) h rfl (by rfl) (by first | (simp [V.plains, V.plain, bytesA_plains]; done) | rfl)
theorem eNum1_5 (n : Int) (h : Heap) : Den FF E5 77 [.int .i64 n] h = some (.val (.bool (!numB n)), none) := den_plain (sp := tNum1) h rfl (by rfl) (by first | (simp [V.plains, V.plain, bytesA_plains]; done) | rfl)
theorem eRight_5 (id op ino oth n m : Int) (nm tx : List UInt8) (h : Heap) : Den FF E5 14 [.agg [.int .i64 id, .int .i64 op, .int .i64 ino, .int .i64 oth, .int .i64 n, .int .i64 m, .str nm, .str tx]] h = some (.val (.bool (rightR id op ino oth n m nm tx)), none) := den_plain (sp := tRight) h rfl (by rfl) (by first | (simp [V.plains, V.plain, bytesA_plains]; done) | rfl)
theorem eNumD_5 (n : Int) (h : Heap) : Den FF E5 48 [.int .i64 n] h = some (.val (.bool (numB n)), none) := den_plain (sp := tNumD) h rfl (by rfl) (by first | (simp [V.plains, V.plain, bytesA_plains]; done) | rfl)
theorem eBig_5 (n s : Int) (hc : 0 ≤ n ∧ n ≤ 9223372036854775807 ∧ 0 ≤ s ∧ s ≤ 8) (h : Heap) : Den FF E5 60 [.int .i64 n, .int .i64 s] h = some (.val (.str (bigF n s)), none) := den_plain (sp := tBig) h rfl (by exact if_pos hc) (by first | (simp [V.plains, V.plain, bytesA_plains]; done) | rfl)
theorem eNumber_5 (s : List UInt8) (a z : Int) (hc : 0 ≤ a ∧ a ≤ 1000000 ∧ 0 ≤ z ∧ z ≤ 4 ∧ s.length ≤ 1000000) (h : Heap) : Den FF E5 62 [.str s, .int .i64 a, .int .i64 z] h = some (.val ((if a.toNat + z.toNat ≤ s.length then .tuple [.int .i64 (numAt s a.toNat z.toNat), .bool true] else .tuple [.int .i64 0, .bool false])), none) := den_plain (sp := tNumber) h rfl (by exact if_pos hc) (by first | (simp [V.plains, V.plain, bytesA_plains]; done) | rfl)
theorem eText_5 (s : List UInt8) (hc : s.length ≤ 1000000) (h : Heap) : Den FF E5 61 [.str s] h = some (.val (.str (textB s)), none) := den_plain (sp := tText) h rfl (by exact if_pos hc) (by first | (simp [V.plains, V.plain, bytesA_plains]; done) | rfl)
theorem ePart_5 (s : List UInt8) (a : Int) (hc : 0 ≤ a ∧ a ≤ 900000 ∧ s.length ≤ 900000) (h : Heap) : Den FF E5 63 [.str s, .int .i64 a] h = some (.val (partV s a.toNat), none) := den_plain (sp := tPart) h rfl (by exact if_pos hc) (by first | (simp [V.plains, V.plain, bytesA_plains]; done) | rfl)
theorem eRRight_5 (id op ino oth n m : Int) (nm tx : List UInt8) (h : Heap) : Den FF E5 12 [.agg [.int .i64 id, .int .i64 op, .int .i64 ino, .int .i64 oth, .int .i64 n, .int .i64 m, .str nm, .str tx]] h = some (.val (.bool (rightR id op ino oth n m nm tx)), none) := den_plain (sp := tRight) h rfl (by rfl) (by first | (simp [V.plains, V.plain, bytesA_plains]; done) | rfl)
end Go.Proofs.Ytjbblfoefibeaaa

/- Wire: a request's bytes, as the document says. -/
namespace Go.Proofs.Ytjbblfoefibeaaa
open Go AM
set_option linter.unusedSimpArgs false
set_option linter.unusedVariables false
set_option maxRecDepth 100000

structure RightIs (id op ino oth n m : Int) (nm tx : List UInt8) : Prop where
  op0 : 1 ≤ op
  op1 : op ≤ 19
  id0 : 0 ≤ id
  id1 : id ≤ 4294967295
  ino0 : 0 ≤ ino
  ino1 : ino ≤ 4294967295
  oth0 : 0 ≤ oth
  oth1 : oth ≤ 4294967295
  n0 : 0 ≤ n
  n1 : n ≤ 4294967295
  m0 : 0 ≤ m
  m1 : m ≤ 4294967295
  nm1 : nm.length ≤ 512
  tx1 : tx.length ≤ 512
theorem rightIs {id op ino oth n m : Int} {nm tx : List UInt8} (h : rightR id op ino oth n m nm tx = true) : RightIs id op ino oth n m nm tx := by
  simp only [rightR, isOp, numB, inB, List.all_cons, List.all_nil, Bool.and_true, Bool.and_eq_true, decide_eq_true_eq] at h
  obtain ⟨⟨a, b⟩, _, ⟨⟨c1, c2⟩, ⟨c3, c4⟩, ⟨c5, c6⟩, ⟨c7, c8⟩, c9, c10⟩, e, f⟩ := h
  exact ⟨a, b, c1, c2, c3, c4, c5, c6, c7, c8, c9, c10, e, f⟩

def reqB (id op ino oth n m : Int) (nm tx : List UInt8) : List UInt8 :=
  bigF 1 1 ++ (bigF op 1 ++ (bigF id 4 ++ (bigF ino 4 ++ (bigF oth 4 ++ (bigF n 4 ++ (bigF m 4 ++ (textB nm ++ textB tx)))))))
def tReqB : Ans
  | [.agg [.int .i64 id, .int .i64 op, .int .i64 ino, .int .i64 oth, .int .i64 n, .int .i64 m, .str nm, .str tx]] => if rightR id op ino oth n m nm tx = true then some (.str (reqB id op ino oth n m nm tx)) else none
  | _ => none
theorem bigF_length (n s : Int) : (bigF n s).length = s.toNat := tobe_length _ _
theorem textB_length (s : List UInt8) : (textB s).length = 2 + s.length := by simp [textB, tobe_length]

set_option maxHeartbeats 4000000 in
theorem okReqB : SpOk FF E5 16 tReqB := by
  intro args v h hpl
  unfold tReqB at h
  split at h
  · rename_i id op ino oth n m nm tx
    split at h
    · rename_i hc
      cases h
      obtain ⟨a1, a2, a3, a4, a5, a6, a7, a8, a9, a10, a11, a12, a13, a14⟩ := rightIs hc
      refine ⟨rfl, _, (?_ : Den FF E5 16 [.agg [.int .i64 id, .int .i64 op, .int .i64 ino, .int .i64 oth, .int .i64 n, .int .i64 m, .str nm, .str tx]] H0 = some (.val (.str (reqB id op ino oth n m nm tx)), none))⟩
      refine To.den hxE5 (f := 16) (a := af16) rfl (E5_none rfl) (Nat.le_of_ble_eq_true rfl) ?_
      have q0 := fun h => eBig_5 1 1 (by decide) h
      have q1 := fun h => eBig_5 op 1 ⟨by omega, by omega, by decide, by decide⟩ h
      have q2 := fun h => eBig_5 id 4 ⟨by omega, by omega, by decide, by decide⟩ h
      have q3 := fun h => eBig_5 ino 4 ⟨by omega, by omega, by decide, by decide⟩ h
      have q4 := fun h => eBig_5 oth 4 ⟨by omega, by omega, by decide, by decide⟩ h
      have q5 := fun h => eBig_5 n 4 ⟨by omega, by omega, by decide, by decide⟩ h
      have q6 := fun h => eBig_5 m 4 ⟨by omega, by omega, by decide, by decide⟩ h
      have q7 := fun h => eText_5 nm (by omega) h
      have q8 := fun h => eText_5 tx (by omega) h
      have l1 : (22 + (2 + nm.length) ≤ 9223372036854775807) = True := eq_true (by omega)
      have l2 : (22 + (2 + nm.length + (2 + tx.length)) ≤ 9223372036854775807) = True := eq_true (by omega)
      have l3 : (22 + (2 + nm.length) + (2 + tx.length) ≤ 9223372036854775807) = True := eq_true (by omega)
      have l4 : (1 + (1 + (4 + (4 + (4 + (4 + (4 + (2 + nm.length))))))) + (2 + tx.length) ≤ 9223372036854775807) = True := eq_true (by omega)
      (repeat' (first | refine To.seq hxE5 ?_ | refine To.op0 hxE5 (by simp only [go_sem, eqs hxE5, reduceIte, Nat.reduceEqDiff, Nat.reduceAdd, Nat.reduceMul, Nat.reduceLT, Nat.reduceLeDiff, Int.reduceLT, Int.reduceLE, Int.reduceEq, reduceCtorEq, Int.reduceBEq, Int.reduceBNe, Int.reduceToNat, Nat.reduceSub, Nat.reduceDiv, Int.reduceNeg, Int.reduceAdd, Int.reduceSub, Int.reduceMul, Heap.gets, Heap.sets, Heap.get, bytesA_length, bytesA_one, bytesA_plains, List.take_of_length_le, List.drop_of_length_le, Nat.add_zero, V.one, Nat.reduceLeDiff, List.all_cons, List.all_nil, ne_eq, not_false_eq_true, Nat.zero_le, q0, q1, q2, q3, q4, q5, q6, q7, q8, bigF_length, textB_length, l1, l2, l3, l4]; rfl) ?_ | refine To.op1 hxE5 (by simp only [go_sem, eqs hxE5, reduceIte, Nat.reduceEqDiff, Nat.reduceAdd, Nat.reduceMul, Nat.reduceLT, Nat.reduceLeDiff, Int.reduceLT, Int.reduceLE, Int.reduceEq, reduceCtorEq, Int.reduceBEq, Int.reduceBNe, Int.reduceToNat, Nat.reduceSub, Nat.reduceDiv, Int.reduceNeg, Int.reduceAdd, Int.reduceSub, Int.reduceMul, Heap.gets, Heap.sets, Heap.get, bytesA_length, bytesA_one, bytesA_plains, List.take_of_length_le, List.drop_of_length_le, Nat.add_zero, V.one, Nat.reduceLeDiff, List.all_cons, List.all_nil, ne_eq, not_false_eq_true, Nat.zero_le, q0, q1, q2, q3, q4, q5, q6, q7, q8, bigF_length, textB_length, l1, l2, l3, l4]; rfl) ?_ | refine To.nop hxE5 ?_ | (refine To.condT hxE5 ?_ ?_; focus (simp only [go_sem, eqs hxE5, reduceIte, Nat.reduceEqDiff, Nat.reduceAdd, Nat.reduceMul, Nat.reduceLT, Nat.reduceLeDiff, Int.reduceLT, Int.reduceLE, Int.reduceEq, reduceCtorEq, Int.reduceBEq, Int.reduceBNe, Int.reduceToNat, Nat.reduceSub, Nat.reduceDiv, Int.reduceNeg, Int.reduceAdd, Int.reduceSub, Int.reduceMul, Heap.gets, Heap.sets, Heap.get, bytesA_length, bytesA_one, bytesA_plains, List.take_of_length_le, List.drop_of_length_le, Nat.add_zero, V.one, Nat.reduceLeDiff, List.all_cons, List.all_nil, ne_eq, not_false_eq_true, Nat.zero_le, q0, q1, q2, q3, q4, q5, q6, q7, q8, bigF_length, textB_length, l1, l2, l3, l4]; done)) | (refine To.condF hxE5 ?_ ?_; focus (simp only [go_sem, eqs hxE5, reduceIte, Nat.reduceEqDiff, Nat.reduceAdd, Nat.reduceMul, Nat.reduceLT, Nat.reduceLeDiff, Int.reduceLT, Int.reduceLE, Int.reduceEq, reduceCtorEq, Int.reduceBEq, Int.reduceBNe, Int.reduceToNat, Nat.reduceSub, Nat.reduceDiv, Int.reduceNeg, Int.reduceAdd, Int.reduceSub, Int.reduceMul, Heap.gets, Heap.sets, Heap.get, bytesA_length, bytesA_one, bytesA_plains, List.take_of_length_le, List.drop_of_length_le, Nat.add_zero, V.one, Nat.reduceLeDiff, List.all_cons, List.all_nil, ne_eq, not_false_eq_true, Nat.zero_le, q0, q1, q2, q3, q4, q5, q6, q7, q8, bigF_length, textB_length, l1, l2, l3, l4]; done)) | refine To.block hxE5 ?_ | refine To.scope hxE5 ?_ | refine To.ret hxE5 ?_ | refine To.exit hxE5 ?_ | refine To.skip hxE5 ?_ | refine To.label hxE5 ?_ | refine To.draw0 hxE5 ?_ | refine ToD.op0 (by simp only [go_sem, eqs hxE5, reduceIte, Nat.reduceEqDiff, Nat.reduceAdd, Nat.reduceMul, Nat.reduceLT, Nat.reduceLeDiff, Int.reduceLT, Int.reduceLE, Int.reduceEq, reduceCtorEq, Int.reduceBEq, Int.reduceBNe, Int.reduceToNat, Nat.reduceSub, Nat.reduceDiv, Int.reduceNeg, Int.reduceAdd, Int.reduceSub, Int.reduceMul, Heap.gets, Heap.sets, Heap.get, bytesA_length, bytesA_one, bytesA_plains, List.take_of_length_le, List.drop_of_length_le, Nat.add_zero, V.one, Nat.reduceLeDiff, List.all_cons, List.all_nil, ne_eq, not_false_eq_true, Nat.zero_le, q0, q1, q2, q3, q4, q5, q6, q7, q8, bigF_length, textB_length, l1, l2, l3, l4]; rfl) (by simp only [put_some, put_none]; rfl) ?_ | refine ToD.op1 (by simp only [go_sem, eqs hxE5, reduceIte, Nat.reduceEqDiff, Nat.reduceAdd, Nat.reduceMul, Nat.reduceLT, Nat.reduceLeDiff, Int.reduceLT, Int.reduceLE, Int.reduceEq, reduceCtorEq, Int.reduceBEq, Int.reduceBNe, Int.reduceToNat, Nat.reduceSub, Nat.reduceDiv, Int.reduceNeg, Int.reduceAdd, Int.reduceSub, Int.reduceMul, Heap.gets, Heap.sets, Heap.get, bytesA_length, bytesA_one, bytesA_plains, List.take_of_length_le, List.drop_of_length_le, Nat.add_zero, V.one, Nat.reduceLeDiff, List.all_cons, List.all_nil, ne_eq, not_false_eq_true, Nat.zero_le, q0, q1, q2, q3, q4, q5, q6, q7, q8, bigF_length, textB_length, l1, l2, l3, l4]; rfl) (by simp only [put_some, put_none]; rfl) (by simp only [KD.app, go_sem, eqs hxE5, reduceIte, Nat.reduceEqDiff, Nat.reduceAdd, Nat.reduceMul, Nat.reduceLT, Nat.reduceLeDiff, Int.reduceLT, Int.reduceLE, Int.reduceEq, reduceCtorEq, Int.reduceBEq, Int.reduceBNe, Int.reduceToNat, Nat.reduceSub, Nat.reduceDiv, Int.reduceNeg, Int.reduceAdd, Int.reduceSub, Int.reduceMul, Heap.gets, Heap.sets, Heap.get, bytesA_length, bytesA_one, bytesA_plains, List.take_of_length_le, List.drop_of_length_le, Nat.add_zero, V.one, Nat.reduceLeDiff, List.all_cons, List.all_nil, ne_eq, not_false_eq_true, Nat.zero_le, q0, q1, q2, q3, q4, q5, q6, q7, q8, bigF_length, textB_length, l1, l2, l3, l4]; rfl) ?_ | refine ToD.nop ?_ | refine To.draw hxE5 (by decide) ?_))
      simp only [andThen, outOf, go_sem, eqs hxE5, reduceIte, Nat.reduceEqDiff, Nat.reduceAdd, Nat.reduceMul, Nat.reduceLT, Nat.reduceLeDiff, Int.reduceLT, Int.reduceLE, Int.reduceEq, reduceCtorEq, Int.reduceBEq, Int.reduceBNe, Int.reduceToNat, Nat.reduceSub, Nat.reduceDiv, Int.reduceNeg, Int.reduceAdd, Int.reduceSub, Int.reduceMul, Heap.gets, Heap.sets, Heap.get, bytesA_length, bytesA_one, bytesA_plains, List.take_of_length_le, List.drop_of_length_le, Nat.add_zero, V.one, Nat.reduceLeDiff, List.all_cons, List.all_nil, ne_eq, not_false_eq_true, Nat.zero_le, af16, reqB, List.append_assoc]
    · cases h
  · cases h
end Go.Proofs.Ytjbblfoefibeaaa

/- Wire: what a writer writes. -/
namespace Go.Proofs.Ytjbblfoefibeaaa
open Go AM
set_option linter.unusedSimpArgs false
set_option linter.unusedVariables false
set_option maxRecDepth 100000

theorem leave_esc {h h' : Heap} {v : V} (he : h'.e < h.o.length) : leave h h' v = some ⟨h'.o, min h.e h'.e, min h.d h'.d⟩ := by
  unfold leave
  rw [if_neg (by omega)]

theorem leave_same {h h' : Heap} {v : V} (hd : h'.d < h.o.length) (hl : h'.o.length = h.o.length) : ∃ e d, leave h h' v = some ⟨h'.o, e, d⟩ := by
  unfold leave
  split
  · rw [if_neg (by omega), List.take_of_length_le (by omega)]
    exact ⟨_, _, rfl⟩
  · exact ⟨_, _, rfl⟩

theorem cc_nil {o : List AM.Obj} {e d w : Nat} {v : V} (hw : o[w]? = some (.cells .ex 105 0 [.nilp, v])) :
    ∃ r oh, Den FF E5 82 [.ptr w 0] ⟨o, e, d⟩ = some (r, oh) ∧ r = .val (.tuple []) ∧ ∃ e' d', oh = some ⟨o.set w (.cells .ex 105 0 [.ptr w 0, v]), e', d'⟩ ∧ e' ≤ w := by
  refine To.denE hxE5 (f := 82) (a := af82) rfl (E5_none rfl) (Nat.le_of_ble_eq_true rfl) ?_
  have hl := get_lt hw
  (repeat' (first | refine To.seq hxE5 ?_ | refine To.op0 hxE5 (by simp only [go_sem, eqs hxE5, reduceIte, Nat.reduceEqDiff, Nat.reduceAdd, Nat.reduceMul, Nat.reduceLT, Nat.reduceLeDiff, Int.reduceLT, Int.reduceLE, Int.reduceEq, reduceCtorEq, Int.reduceBEq, Int.reduceBNe, Int.reduceToNat, Nat.reduceSub, Nat.reduceDiv, Int.reduceNeg, Int.reduceAdd, Int.reduceSub, Int.reduceMul, Heap.gets, Heap.sets, Heap.get, bytesA_length, bytesA_one, bytesA_plains, List.take_of_length_le, List.drop_of_length_le, Nat.add_zero, V.one, Nat.reduceLeDiff, List.all_cons, List.all_nil, ne_eq, not_false_eq_true, Nat.zero_le, hw]; rfl) ?_ | refine To.op1 hxE5 (by simp only [go_sem, eqs hxE5, reduceIte, Nat.reduceEqDiff, Nat.reduceAdd, Nat.reduceMul, Nat.reduceLT, Nat.reduceLeDiff, Int.reduceLT, Int.reduceLE, Int.reduceEq, reduceCtorEq, Int.reduceBEq, Int.reduceBNe, Int.reduceToNat, Nat.reduceSub, Nat.reduceDiv, Int.reduceNeg, Int.reduceAdd, Int.reduceSub, Int.reduceMul, Heap.gets, Heap.sets, Heap.get, bytesA_length, bytesA_one, bytesA_plains, List.take_of_length_le, List.drop_of_length_le, Nat.add_zero, V.one, Nat.reduceLeDiff, List.all_cons, List.all_nil, ne_eq, not_false_eq_true, Nat.zero_le, hw]; rfl) ?_ | refine To.nop hxE5 ?_ | (refine To.condT hxE5 ?_ ?_; focus (simp only [go_sem, eqs hxE5, reduceIte, Nat.reduceEqDiff, Nat.reduceAdd, Nat.reduceMul, Nat.reduceLT, Nat.reduceLeDiff, Int.reduceLT, Int.reduceLE, Int.reduceEq, reduceCtorEq, Int.reduceBEq, Int.reduceBNe, Int.reduceToNat, Nat.reduceSub, Nat.reduceDiv, Int.reduceNeg, Int.reduceAdd, Int.reduceSub, Int.reduceMul, Heap.gets, Heap.sets, Heap.get, bytesA_length, bytesA_one, bytesA_plains, List.take_of_length_le, List.drop_of_length_le, Nat.add_zero, V.one, Nat.reduceLeDiff, List.all_cons, List.all_nil, ne_eq, not_false_eq_true, Nat.zero_le, hw]; done)) | (refine To.condF hxE5 ?_ ?_; focus (simp only [go_sem, eqs hxE5, reduceIte, Nat.reduceEqDiff, Nat.reduceAdd, Nat.reduceMul, Nat.reduceLT, Nat.reduceLeDiff, Int.reduceLT, Int.reduceLE, Int.reduceEq, reduceCtorEq, Int.reduceBEq, Int.reduceBNe, Int.reduceToNat, Nat.reduceSub, Nat.reduceDiv, Int.reduceNeg, Int.reduceAdd, Int.reduceSub, Int.reduceMul, Heap.gets, Heap.sets, Heap.get, bytesA_length, bytesA_one, bytesA_plains, List.take_of_length_le, List.drop_of_length_le, Nat.add_zero, V.one, Nat.reduceLeDiff, List.all_cons, List.all_nil, ne_eq, not_false_eq_true, Nat.zero_le, hw]; done)) | refine To.block hxE5 ?_ | refine To.scope hxE5 ?_ | refine To.ret hxE5 ?_ | refine To.exit hxE5 ?_ | refine To.skip hxE5 ?_ | refine To.label hxE5 ?_))
  refine ⟨_, _, fin0n rfl, rfl, _, _, leave_esc (by show min o.length w < o.length; omega), by simp only; omega⟩

theorem cc_ptr {o : List AM.Obj} {e d w : Nat} {v : V} (hw : o[w]? = some (.cells .ex 105 0 [.ptr w 0, v])) :
    ∃ r oh, Den FF E5 82 [.ptr w 0] ⟨o, e, d⟩ = some (r, oh) ∧ r = .val (.tuple []) ∧ oh = none := by
  refine To.denE hxE5 (f := 82) (a := af82) rfl (E5_none rfl) (Nat.le_of_ble_eq_true rfl) ?_
  have hl := get_lt hw
  (repeat' (first | refine To.seq hxE5 ?_ | refine To.op0 hxE5 (by simp only [go_sem, eqs hxE5, reduceIte, Nat.reduceEqDiff, Nat.reduceAdd, Nat.reduceMul, Nat.reduceLT, Nat.reduceLeDiff, Int.reduceLT, Int.reduceLE, Int.reduceEq, reduceCtorEq, Int.reduceBEq, Int.reduceBNe, Int.reduceToNat, Nat.reduceSub, Nat.reduceDiv, Int.reduceNeg, Int.reduceAdd, Int.reduceSub, Int.reduceMul, Heap.gets, Heap.sets, Heap.get, bytesA_length, bytesA_one, bytesA_plains, List.take_of_length_le, List.drop_of_length_le, Nat.add_zero, V.one, Nat.reduceLeDiff, List.all_cons, List.all_nil, ne_eq, not_false_eq_true, Nat.zero_le, hw]; rfl) ?_ | refine To.op1 hxE5 (by simp only [go_sem, eqs hxE5, reduceIte, Nat.reduceEqDiff, Nat.reduceAdd, Nat.reduceMul, Nat.reduceLT, Nat.reduceLeDiff, Int.reduceLT, Int.reduceLE, Int.reduceEq, reduceCtorEq, Int.reduceBEq, Int.reduceBNe, Int.reduceToNat, Nat.reduceSub, Nat.reduceDiv, Int.reduceNeg, Int.reduceAdd, Int.reduceSub, Int.reduceMul, Heap.gets, Heap.sets, Heap.get, bytesA_length, bytesA_one, bytesA_plains, List.take_of_length_le, List.drop_of_length_le, Nat.add_zero, V.one, Nat.reduceLeDiff, List.all_cons, List.all_nil, ne_eq, not_false_eq_true, Nat.zero_le, hw]; rfl) ?_ | refine To.nop hxE5 ?_ | (refine To.condT hxE5 ?_ ?_; focus (simp only [go_sem, eqs hxE5, reduceIte, Nat.reduceEqDiff, Nat.reduceAdd, Nat.reduceMul, Nat.reduceLT, Nat.reduceLeDiff, Int.reduceLT, Int.reduceLE, Int.reduceEq, reduceCtorEq, Int.reduceBEq, Int.reduceBNe, Int.reduceToNat, Nat.reduceSub, Nat.reduceDiv, Int.reduceNeg, Int.reduceAdd, Int.reduceSub, Int.reduceMul, Heap.gets, Heap.sets, Heap.get, bytesA_length, bytesA_one, bytesA_plains, List.take_of_length_le, List.drop_of_length_le, Nat.add_zero, V.one, Nat.reduceLeDiff, List.all_cons, List.all_nil, ne_eq, not_false_eq_true, Nat.zero_le, hw]; done)) | (refine To.condF hxE5 ?_ ?_; focus (simp only [go_sem, eqs hxE5, reduceIte, Nat.reduceEqDiff, Nat.reduceAdd, Nat.reduceMul, Nat.reduceLT, Nat.reduceLeDiff, Int.reduceLT, Int.reduceLE, Int.reduceEq, reduceCtorEq, Int.reduceBEq, Int.reduceBNe, Int.reduceToNat, Nat.reduceSub, Nat.reduceDiv, Int.reduceNeg, Int.reduceAdd, Int.reduceSub, Int.reduceMul, Heap.gets, Heap.sets, Heap.get, bytesA_length, bytesA_one, bytesA_plains, List.take_of_length_le, List.drop_of_length_le, Nat.add_zero, V.one, Nat.reduceLeDiff, List.all_cons, List.all_nil, ne_eq, not_false_eq_true, Nat.zero_le, hw]; done)) | refine To.block hxE5 ?_ | refine To.scope hxE5 ?_ | refine To.ret hxE5 ?_ | refine To.exit hxE5 ?_ | refine To.skip hxE5 ?_ | refine To.label hxE5 ?_))
  refine ⟨_, _, fin0n rfl, rfl, ?_⟩
  rw [leave_plain (Kp.enter ⟨o, e, d⟩) rfl]

/-- The bytes of a buffer. -/
def Buf (o : List AM.Obj) (v : V) (bs : List UInt8) : Prop :=
  (v = .nils ∧ bs = []) ∨ ∃ m, v = .slice m 0 bs.length 1 ∧ o[m]? = some (.cells .gr 5 0 (bytesA bs))
/-- A writer, and what it has. -/
def Wr (o : List AM.Obj) (w : Nat) (bs : List UInt8) : Prop :=
  ∃ p v, o[w]? = some (.cells .ex 105 0 [p, v]) ∧ (p = .nilp ∨ p = .ptr w 0) ∧ Buf o v bs
/-- All else stays. -/
def Ow (w : Nat) (o o' : List AM.Obj) : Prop :=
  o.length ≤ o'.length ∧ ∀ x ck t z cs, x ≠ w → o[x]? = some (.cells ck t z cs) → ck ≠ .gr → o'[x]? = some (.cells ck t z cs)
theorem Ow.trans {w : Nat} {a b c : List AM.Obj} (h : Ow w a b) (k : Ow w b c) : Ow w a c :=
  ⟨Nat.le_trans h.1 k.1, fun x ck t z cs hx ho hg => k.2 x ck t z cs hx (h.2 x ck t z cs hx ho hg) hg⟩
theorem Ow.refl (w : Nat) (o : List AM.Obj) : Ow w o o := ⟨Nat.le_refl _, fun _ _ _ _ _ _ h _ => h⟩
theorem Ow.set (w : Nat) (o : List AM.Obj) (y : AM.Obj) : Ow w o (o.set w y) :=
  ⟨by simp, fun x ck t z cs hx ho _ => by rw [List.getElem?_set_ne (Ne.symm hx)]; exact ho⟩
theorem Ow.app (w : Nat) (o r : List AM.Obj) : Ow w o (o ++ r) :=
  ⟨by simp, fun x ck t z cs hx ho _ => app_old ho r⟩
theorem Ow.dead {w m : Nat} {o : List AM.Obj} {t z : Nat} {cs : List V} (y : AM.Obj) (hm : o[m]? = some (.cells .gr t z cs)) : Ow w o (o.set m y) :=
  ⟨by simp, fun x ck t' z' cs' hx ho hg => by
    rw [List.getElem?_set_ne]
    · exact ho
    · intro h; subst h; rw [hm] at ho; cases ho; exact hg rfl⟩

theorem bytesA_snoc (bs : List UInt8) (b : UInt8) : bytesA bs ++ [.int .u8 (b.toNat : Int)] = bytesA (bs ++ [b]) := by simp [bytesA]
theorem room_ok {n : Nat} (h : n ≤ 100000000) : roomOk n 1 = true := by
  exact decide_eq_true ⟨by unfold ok1; omega, by unfold ok1; omega⟩

set_option maxHeartbeats 4000000 in
theorem wb_den {o : List AM.Obj} {e d w : Nat} {bs : List UInt8} {b : UInt8} (h : Wr o w bs) (hl : bs.length ≤ 1000000) :
    ∃ r oh, Den FF E5 74 [.ptr w 0, .int .u8 (b.toNat : Int)] ⟨o, e, d⟩ = some (r, oh) ∧ ∃ u, r = .val u ∧ ∃ o' e' d', oh = some ⟨o', e', d'⟩ ∧ Wr o' w (bs ++ [b]) ∧ Ow w o o' ∧ e' ≤ w := by
  refine To.denE hxE5 (f := 74) (a := af74) rfl (E5_none rfl) (Nat.le_of_ble_eq_true rfl) ?_
  obtain ⟨p, v, hw, hp, hb⟩ := h
  have hlw := get_lt hw
  rcases hp with rfl | rfl
  · obtain ⟨r, oh, q1, rfl, e1, d1, rfl, he1⟩ := cc_nil (e := o.length) (d := o.length) hw
    have gW : (o.set w (.cells .ex 105 0 [.ptr w 0, v]))[w]? = some (.cells .ex 105 0 [.ptr w 0, v]) := by simp [hlw]
    have hO := Ow.set w o (.cells .ex 105 0 [.ptr w 0, v])
    have hB : Buf (o.set w (.cells .ex 105 0 [.ptr w 0, v])) v bs := by
      rcases hb with h | ⟨m, rfl, hm⟩
      · exact .inl h
      · refine .inr ⟨m, rfl, ?_⟩
        rw [List.getElem?_set_ne]
        · exact hm
        · intro h; subst h; rw [hw] at hm; cases hm
    have hle : (o.set w (.cells .ex 105 0 [.ptr w 0, v])).length = o.length := by simp
    generalize (o.set w (.cells .ex 105 0 [.ptr w 0, v])) = o1 at *
    have gW' := fun r => app_old gW r
    rcases hB with ⟨rfl, rfl⟩ | ⟨m, rfl, hm⟩
    · (repeat' (first | refine To.seq hxE5 ?_ | refine To.op0 hxE5 (by simp only [go_sem, eqs hxE5, reduceIte, Nat.reduceEqDiff, Nat.reduceAdd, Nat.reduceMul, Nat.reduceLT, Nat.reduceLeDiff, Int.reduceLT, Int.reduceLE, Int.reduceEq, reduceCtorEq, Int.reduceBEq, Int.reduceBNe, Int.reduceToNat, Nat.reduceSub, Nat.reduceDiv, Int.reduceNeg, Int.reduceAdd, Int.reduceSub, Int.reduceMul, Heap.gets, Heap.sets, Heap.get, bytesA_length, bytesA_one, bytesA_plains, List.take_of_length_le, List.drop_of_length_le, Nat.add_zero, V.one, Nat.reduceLeDiff, List.all_cons, List.all_nil, ne_eq, not_false_eq_true, Nat.zero_le, q1, gW, gW']; rfl) ?_ | refine To.op1 hxE5 (by simp only [go_sem, eqs hxE5, reduceIte, Nat.reduceEqDiff, Nat.reduceAdd, Nat.reduceMul, Nat.reduceLT, Nat.reduceLeDiff, Int.reduceLT, Int.reduceLE, Int.reduceEq, reduceCtorEq, Int.reduceBEq, Int.reduceBNe, Int.reduceToNat, Nat.reduceSub, Nat.reduceDiv, Int.reduceNeg, Int.reduceAdd, Int.reduceSub, Int.reduceMul, Heap.gets, Heap.sets, Heap.get, bytesA_length, bytesA_one, bytesA_plains, List.take_of_length_le, List.drop_of_length_le, Nat.add_zero, V.one, Nat.reduceLeDiff, List.all_cons, List.all_nil, ne_eq, not_false_eq_true, Nat.zero_le, q1, gW, gW']; rfl) ?_ | refine To.nop hxE5 ?_ | (refine To.condT hxE5 ?_ ?_; focus (simp only [go_sem, eqs hxE5, reduceIte, Nat.reduceEqDiff, Nat.reduceAdd, Nat.reduceMul, Nat.reduceLT, Nat.reduceLeDiff, Int.reduceLT, Int.reduceLE, Int.reduceEq, reduceCtorEq, Int.reduceBEq, Int.reduceBNe, Int.reduceToNat, Nat.reduceSub, Nat.reduceDiv, Int.reduceNeg, Int.reduceAdd, Int.reduceSub, Int.reduceMul, Heap.gets, Heap.sets, Heap.get, bytesA_length, bytesA_one, bytesA_plains, List.take_of_length_le, List.drop_of_length_le, Nat.add_zero, V.one, Nat.reduceLeDiff, List.all_cons, List.all_nil, ne_eq, not_false_eq_true, Nat.zero_le, q1, gW, gW']; done)) | (refine To.condF hxE5 ?_ ?_; focus (simp only [go_sem, eqs hxE5, reduceIte, Nat.reduceEqDiff, Nat.reduceAdd, Nat.reduceMul, Nat.reduceLT, Nat.reduceLeDiff, Int.reduceLT, Int.reduceLE, Int.reduceEq, reduceCtorEq, Int.reduceBEq, Int.reduceBNe, Int.reduceToNat, Nat.reduceSub, Nat.reduceDiv, Int.reduceNeg, Int.reduceAdd, Int.reduceSub, Int.reduceMul, Heap.gets, Heap.sets, Heap.get, bytesA_length, bytesA_one, bytesA_plains, List.take_of_length_le, List.drop_of_length_le, Nat.add_zero, V.one, Nat.reduceLeDiff, List.all_cons, List.all_nil, ne_eq, not_false_eq_true, Nat.zero_le, q1, gW, gW']; done)) | refine To.block hxE5 ?_ | refine To.scope hxE5 ?_ | refine To.ret hxE5 ?_ | refine To.exit hxE5 ?_ | refine To.skip hxE5 ?_ | refine To.label hxE5 ?_))
      refine ⟨_, _, fin1 (i := 4) rfl, _, rfl, _, _, _, leave_esc (by simp only; omega), ?_, ?_, by simp only; omega⟩
      · refine ⟨.ptr w 0, _, by rw [List.getElem?_set_self (by simp; omega)]; rfl, .inr rfl, .inr ⟨o1.length + 1, rfl, ?_⟩⟩
        rw [List.getElem?_set_ne (by omega), app_getk]
        rfl
      · exact hO.trans ((Ow.app w o1 _).trans (Ow.set w _ _))
    · have hmw : m ≠ w := by intro h; subst h; rw [gW] at hm; cases hm
      have hm' := app_old hm [.cells .ex 5 0 [.int .u8 (b.toNat : Int)]]
      have a1 := app_gr (o := o1 ++ [.cells .ex 5 0 [.int .u8 (b.toNat : Int)]]) (e := e1) (d := d1) (s := 1) (b := 1) (k := bs.length) (j := 1) (new := [.int .u8 (b.toNat : Int)]) hm' (by simp [bytesA_length]) (by decide) (by decide) (room_ok (by omega))
      have g2 : ∀ r : List AM.Obj, (((o1 ++ [AM.Obj.cells .ex 5 0 [.int .u8 (b.toNat : Int)]]).set m .dead) ++ r)[w]? = some (.cells .ex 105 0 [.ptr w 0, .slice m 0 bs.length 1]) := fun r => app_old (set_other (gW' _) hmw) r
      (repeat' (first | refine To.seq hxE5 ?_ | refine To.op0 hxE5 (by simp only [go_sem, eqs hxE5, reduceIte, Nat.reduceEqDiff, Nat.reduceAdd, Nat.reduceMul, Nat.reduceLT, Nat.reduceLeDiff, Int.reduceLT, Int.reduceLE, Int.reduceEq, reduceCtorEq, Int.reduceBEq, Int.reduceBNe, Int.reduceToNat, Nat.reduceSub, Nat.reduceDiv, Int.reduceNeg, Int.reduceAdd, Int.reduceSub, Int.reduceMul, Heap.gets, Heap.sets, Heap.get, bytesA_length, bytesA_one, bytesA_plains, List.take_of_length_le, List.drop_of_length_le, Nat.add_zero, V.one, Nat.reduceLeDiff, List.all_cons, List.all_nil, ne_eq, not_false_eq_true, Nat.zero_le, q1, gW, gW', a1, g2]; rfl) ?_ | refine To.op1 hxE5 (by simp only [go_sem, eqs hxE5, reduceIte, Nat.reduceEqDiff, Nat.reduceAdd, Nat.reduceMul, Nat.reduceLT, Nat.reduceLeDiff, Int.reduceLT, Int.reduceLE, Int.reduceEq, reduceCtorEq, Int.reduceBEq, Int.reduceBNe, Int.reduceToNat, Nat.reduceSub, Nat.reduceDiv, Int.reduceNeg, Int.reduceAdd, Int.reduceSub, Int.reduceMul, Heap.gets, Heap.sets, Heap.get, bytesA_length, bytesA_one, bytesA_plains, List.take_of_length_le, List.drop_of_length_le, Nat.add_zero, V.one, Nat.reduceLeDiff, List.all_cons, List.all_nil, ne_eq, not_false_eq_true, Nat.zero_le, q1, gW, gW', a1, g2]; rfl) ?_ | refine To.nop hxE5 ?_ | (refine To.condT hxE5 ?_ ?_; focus (simp only [go_sem, eqs hxE5, reduceIte, Nat.reduceEqDiff, Nat.reduceAdd, Nat.reduceMul, Nat.reduceLT, Nat.reduceLeDiff, Int.reduceLT, Int.reduceLE, Int.reduceEq, reduceCtorEq, Int.reduceBEq, Int.reduceBNe, Int.reduceToNat, Nat.reduceSub, Nat.reduceDiv, Int.reduceNeg, Int.reduceAdd, Int.reduceSub, Int.reduceMul, Heap.gets, Heap.sets, Heap.get, bytesA_length, bytesA_one, bytesA_plains, List.take_of_length_le, List.drop_of_length_le, Nat.add_zero, V.one, Nat.reduceLeDiff, List.all_cons, List.all_nil, ne_eq, not_false_eq_true, Nat.zero_le, q1, gW, gW', a1, g2]; done)) | (refine To.condF hxE5 ?_ ?_; focus (simp only [go_sem, eqs hxE5, reduceIte, Nat.reduceEqDiff, Nat.reduceAdd, Nat.reduceMul, Nat.reduceLT, Nat.reduceLeDiff, Int.reduceLT, Int.reduceLE, Int.reduceEq, reduceCtorEq, Int.reduceBEq, Int.reduceBNe, Int.reduceToNat, Nat.reduceSub, Nat.reduceDiv, Int.reduceNeg, Int.reduceAdd, Int.reduceSub, Int.reduceMul, Heap.gets, Heap.sets, Heap.get, bytesA_length, bytesA_one, bytesA_plains, List.take_of_length_le, List.drop_of_length_le, Nat.add_zero, V.one, Nat.reduceLeDiff, List.all_cons, List.all_nil, ne_eq, not_false_eq_true, Nat.zero_le, q1, gW, gW', a1, g2]; done)) | refine To.block hxE5 ?_ | refine To.scope hxE5 ?_ | refine To.ret hxE5 ?_ | refine To.exit hxE5 ?_ | refine To.skip hxE5 ?_ | refine To.label hxE5 ?_))
      refine ⟨_, _, fin1 (i := 4) rfl, _, rfl, _, _, _, leave_esc (by simp only; omega), ?_, ?_, by simp only; omega⟩
      · refine ⟨.ptr w 0, _, by rw [List.getElem?_set_self (by simp; omega)], .inr rfl, .inr ⟨o1.length + 1, by simp, ?_⟩⟩
        rw [List.getElem?_set_ne (by omega), List.getElem?_append_right (by simp), bytesA_snoc]
        simp
      · exact hO.trans ((Ow.app w o1 _).trans ((Ow.dead _ hm').trans ((Ow.app w _ _).trans (Ow.set w _ _))))
  · have q1 : Den FF E5 82 [.ptr w 0] ⟨o, o.length, o.length⟩ = some (.val (.tuple []), none) := by
      obtain ⟨r, oh, q1, rfl, rfl⟩ := cc_ptr (e := o.length) (d := o.length) hw
      exact q1
    have gW := hw
    have hO := Ow.refl w o
    have hB := hb
    have gW' := fun r => app_old gW r
    have hle : o.length = o.length := rfl
    rcases hB with ⟨rfl, rfl⟩ | ⟨m, rfl, hm⟩
    · (repeat' (first | refine To.seq hxE5 ?_ | refine To.op0 hxE5 (by simp only [go_sem, eqs hxE5, reduceIte, Nat.reduceEqDiff, Nat.reduceAdd, Nat.reduceMul, Nat.reduceLT, Nat.reduceLeDiff, Int.reduceLT, Int.reduceLE, Int.reduceEq, reduceCtorEq, Int.reduceBEq, Int.reduceBNe, Int.reduceToNat, Nat.reduceSub, Nat.reduceDiv, Int.reduceNeg, Int.reduceAdd, Int.reduceSub, Int.reduceMul, Heap.gets, Heap.sets, Heap.get, bytesA_length, bytesA_one, bytesA_plains, List.take_of_length_le, List.drop_of_length_le, Nat.add_zero, V.one, Nat.reduceLeDiff, List.all_cons, List.all_nil, ne_eq, not_false_eq_true, Nat.zero_le, q1, gW, gW']; rfl) ?_ | refine To.op1 hxE5 (by simp only [go_sem, eqs hxE5, reduceIte, Nat.reduceEqDiff, Nat.reduceAdd, Nat.reduceMul, Nat.reduceLT, Nat.reduceLeDiff, Int.reduceLT, Int.reduceLE, Int.reduceEq, reduceCtorEq, Int.reduceBEq, Int.reduceBNe, Int.reduceToNat, Nat.reduceSub, Nat.reduceDiv, Int.reduceNeg, Int.reduceAdd, Int.reduceSub, Int.reduceMul, Heap.gets, Heap.sets, Heap.get, bytesA_length, bytesA_one, bytesA_plains, List.take_of_length_le, List.drop_of_length_le, Nat.add_zero, V.one, Nat.reduceLeDiff, List.all_cons, List.all_nil, ne_eq, not_false_eq_true, Nat.zero_le, q1, gW, gW']; rfl) ?_ | refine To.nop hxE5 ?_ | (refine To.condT hxE5 ?_ ?_; focus (simp only [go_sem, eqs hxE5, reduceIte, Nat.reduceEqDiff, Nat.reduceAdd, Nat.reduceMul, Nat.reduceLT, Nat.reduceLeDiff, Int.reduceLT, Int.reduceLE, Int.reduceEq, reduceCtorEq, Int.reduceBEq, Int.reduceBNe, Int.reduceToNat, Nat.reduceSub, Nat.reduceDiv, Int.reduceNeg, Int.reduceAdd, Int.reduceSub, Int.reduceMul, Heap.gets, Heap.sets, Heap.get, bytesA_length, bytesA_one, bytesA_plains, List.take_of_length_le, List.drop_of_length_le, Nat.add_zero, V.one, Nat.reduceLeDiff, List.all_cons, List.all_nil, ne_eq, not_false_eq_true, Nat.zero_le, q1, gW, gW']; done)) | (refine To.condF hxE5 ?_ ?_; focus (simp only [go_sem, eqs hxE5, reduceIte, Nat.reduceEqDiff, Nat.reduceAdd, Nat.reduceMul, Nat.reduceLT, Nat.reduceLeDiff, Int.reduceLT, Int.reduceLE, Int.reduceEq, reduceCtorEq, Int.reduceBEq, Int.reduceBNe, Int.reduceToNat, Nat.reduceSub, Nat.reduceDiv, Int.reduceNeg, Int.reduceAdd, Int.reduceSub, Int.reduceMul, Heap.gets, Heap.sets, Heap.get, bytesA_length, bytesA_one, bytesA_plains, List.take_of_length_le, List.drop_of_length_le, Nat.add_zero, V.one, Nat.reduceLeDiff, List.all_cons, List.all_nil, ne_eq, not_false_eq_true, Nat.zero_le, q1, gW, gW']; done)) | refine To.block hxE5 ?_ | refine To.scope hxE5 ?_ | refine To.ret hxE5 ?_ | refine To.exit hxE5 ?_ | refine To.skip hxE5 ?_ | refine To.label hxE5 ?_))
      refine ⟨_, _, fin1 (i := 4) rfl, _, rfl, _, _, _, leave_esc (by simp only; omega), ?_, ?_, by simp only; omega⟩
      · refine ⟨.ptr w 0, _, by rw [List.getElem?_set_self (by simp; omega)]; rfl, .inr rfl, .inr ⟨o.length + 1, rfl, ?_⟩⟩
        rw [List.getElem?_set_ne (by omega), app_getk]
        rfl
      · exact hO.trans ((Ow.app w o _).trans (Ow.set w _ _))
    · have hmw : m ≠ w := by intro h; subst h; rw [gW] at hm; cases hm
      have hm' := app_old hm [.cells .ex 5 0 [.int .u8 (b.toNat : Int)]]
      have a1 := app_gr (o := o ++ [.cells .ex 5 0 [.int .u8 (b.toNat : Int)]]) (e := o.length) (d := o.length) (s := 1) (b := 1) (k := bs.length) (j := 1) (new := [.int .u8 (b.toNat : Int)]) hm' (by simp [bytesA_length]) (by decide) (by decide) (room_ok (by omega))
      have g2 : ∀ r : List AM.Obj, (((o ++ [AM.Obj.cells .ex 5 0 [.int .u8 (b.toNat : Int)]]).set m .dead) ++ r)[w]? = some (.cells .ex 105 0 [.ptr w 0, .slice m 0 bs.length 1]) := fun r => app_old (set_other (gW' _) hmw) r
      (repeat' (first | refine To.seq hxE5 ?_ | refine To.op0 hxE5 (by simp only [go_sem, eqs hxE5, reduceIte, Nat.reduceEqDiff, Nat.reduceAdd, Nat.reduceMul, Nat.reduceLT, Nat.reduceLeDiff, Int.reduceLT, Int.reduceLE, Int.reduceEq, reduceCtorEq, Int.reduceBEq, Int.reduceBNe, Int.reduceToNat, Nat.reduceSub, Nat.reduceDiv, Int.reduceNeg, Int.reduceAdd, Int.reduceSub, Int.reduceMul, Heap.gets, Heap.sets, Heap.get, bytesA_length, bytesA_one, bytesA_plains, List.take_of_length_le, List.drop_of_length_le, Nat.add_zero, V.one, Nat.reduceLeDiff, List.all_cons, List.all_nil, ne_eq, not_false_eq_true, Nat.zero_le, q1, gW, gW', a1, g2]; rfl) ?_ | refine To.op1 hxE5 (by simp only [go_sem, eqs hxE5, reduceIte, Nat.reduceEqDiff, Nat.reduceAdd, Nat.reduceMul, Nat.reduceLT, Nat.reduceLeDiff, Int.reduceLT, Int.reduceLE, Int.reduceEq, reduceCtorEq, Int.reduceBEq, Int.reduceBNe, Int.reduceToNat, Nat.reduceSub, Nat.reduceDiv, Int.reduceNeg, Int.reduceAdd, Int.reduceSub, Int.reduceMul, Heap.gets, Heap.sets, Heap.get, bytesA_length, bytesA_one, bytesA_plains, List.take_of_length_le, List.drop_of_length_le, Nat.add_zero, V.one, Nat.reduceLeDiff, List.all_cons, List.all_nil, ne_eq, not_false_eq_true, Nat.zero_le, q1, gW, gW', a1, g2]; rfl) ?_ | refine To.nop hxE5 ?_ | (refine To.condT hxE5 ?_ ?_; focus (simp only [go_sem, eqs hxE5, reduceIte, Nat.reduceEqDiff, Nat.reduceAdd, Nat.reduceMul, Nat.reduceLT, Nat.reduceLeDiff, Int.reduceLT, Int.reduceLE, Int.reduceEq, reduceCtorEq, Int.reduceBEq, Int.reduceBNe, Int.reduceToNat, Nat.reduceSub, Nat.reduceDiv, Int.reduceNeg, Int.reduceAdd, Int.reduceSub, Int.reduceMul, Heap.gets, Heap.sets, Heap.get, bytesA_length, bytesA_one, bytesA_plains, List.take_of_length_le, List.drop_of_length_le, Nat.add_zero, V.one, Nat.reduceLeDiff, List.all_cons, List.all_nil, ne_eq, not_false_eq_true, Nat.zero_le, q1, gW, gW', a1, g2]; done)) | (refine To.condF hxE5 ?_ ?_; focus (simp only [go_sem, eqs hxE5, reduceIte, Nat.reduceEqDiff, Nat.reduceAdd, Nat.reduceMul, Nat.reduceLT, Nat.reduceLeDiff, Int.reduceLT, Int.reduceLE, Int.reduceEq, reduceCtorEq, Int.reduceBEq, Int.reduceBNe, Int.reduceToNat, Nat.reduceSub, Nat.reduceDiv, Int.reduceNeg, Int.reduceAdd, Int.reduceSub, Int.reduceMul, Heap.gets, Heap.sets, Heap.get, bytesA_length, bytesA_one, bytesA_plains, List.take_of_length_le, List.drop_of_length_le, Nat.add_zero, V.one, Nat.reduceLeDiff, List.all_cons, List.all_nil, ne_eq, not_false_eq_true, Nat.zero_le, q1, gW, gW', a1, g2]; done)) | refine To.block hxE5 ?_ | refine To.scope hxE5 ?_ | refine To.ret hxE5 ?_ | refine To.exit hxE5 ?_ | refine To.skip hxE5 ?_ | refine To.label hxE5 ?_))
      refine ⟨_, _, fin1 (i := 4) rfl, _, rfl, _, _, _, leave_esc (by simp only; omega), ?_, ?_, by simp only; omega⟩
      · refine ⟨.ptr w 0, _, by rw [List.getElem?_set_self (by simp; omega)], .inr rfl, .inr ⟨o.length + 1, by simp, ?_⟩⟩
        rw [List.getElem?_set_ne (by omega), List.getElem?_append_right (by simp), bytesA_snoc]
        simp
      · exact hO.trans ((Ow.app w o _).trans ((Ow.dead _ hm').trans ((Ow.app w _ _).trans (Ow.set w _ _))))

theorem bytesA_nil : bytesA [] = [] := rfl
theorem app0_gr {o : List AM.Obj} {e d m : Nat} {bs : List UInt8} (h : o[m]? = some (.cells .gr 5 0 (bytesA bs))) :
    appendA ⟨o, e, d⟩ 5 1 1 (.slice m 0 bs.length 1) 0 [] = some (.slice m 0 bs.length 1, none) := by
  simp only [appendA, h, bytesA_length]
  simp
theorem app0_nil {o : List AM.Obj} {e d : Nat} : appendA ⟨o, e, d⟩ 5 1 1 .nils 0 [] = some (.nils, none) := by
  simp only [appendA, if_true]

set_option maxHeartbeats 4000000 in
theorem ws_den {o : List AM.Obj} {e d w : Nat} {bs s : List UInt8} (h : Wr o w bs) (hne : bs ≠ []) (hl : bs.length ≤ 1000000) (hs : s.length ≤ 1000000) :
    ∃ r oh, Den FF E5 75 [.ptr w 0, .str s] ⟨o, e, d⟩ = some (r, oh) ∧ ∃ u, r = .val u ∧ ∃ o' e' d', oh = some ⟨o', e', d'⟩ ∧ Wr o' w (bs ++ s) ∧ Ow w o o' ∧ e' ≤ w := by
  refine To.denE hxE5 (f := 75) (a := af75) rfl (E5_none rfl) (Nat.le_of_ble_eq_true rfl) ?_
  obtain ⟨p, v, hw, hp, hb⟩ := h
  have hlw := get_lt hw
  rcases hp with rfl | rfl
  · obtain ⟨r, oh, q1, rfl, e1, d1, rfl, he1⟩ := cc_nil (e := o.length) (d := o.length) hw
    have gW : (o.set w (.cells .ex 105 0 [.ptr w 0, v]))[w]? = some (.cells .ex 105 0 [.ptr w 0, v]) := by simp [hlw]
    have hO := Ow.set w o (.cells .ex 105 0 [.ptr w 0, v])
    have hB : Buf (o.set w (.cells .ex 105 0 [.ptr w 0, v])) v bs := by
      rcases hb with h | ⟨m, rfl, hm⟩
      · exact .inl h
      · refine .inr ⟨m, rfl, ?_⟩
        rw [List.getElem?_set_ne]
        · exact hm
        · intro h; subst h; rw [hw] at hm; cases hm
    have hle : (o.set w (.cells .ex 105 0 [.ptr w 0, v])).length = o.length := by simp
    generalize (o.set w (.cells .ex 105 0 [.ptr w 0, v])) = o1 at *
    have gW' := fun r => app_old gW r
    by_cases hse : s = []
    · subst hse
      rcases hB with ⟨rfl, rfl⟩ | ⟨m, rfl, hm⟩
      · exact absurd rfl hne
      · have hmw : m ≠ w := by intro h; subst h; rw [gW] at hm; cases hm
        have a0 := app0_gr (o := o1) (e := e1) (d := d1) hm
        (repeat' (first | refine To.seq hxE5 ?_ | refine To.op0 hxE5 (by simp only [go_sem, eqs hxE5, reduceIte, Nat.reduceEqDiff, Nat.reduceAdd, Nat.reduceMul, Nat.reduceLT, Nat.reduceLeDiff, Int.reduceLT, Int.reduceLE, Int.reduceEq, reduceCtorEq, Int.reduceBEq, Int.reduceBNe, Int.reduceToNat, Nat.reduceSub, Nat.reduceDiv, Int.reduceNeg, Int.reduceAdd, Int.reduceSub, Int.reduceMul, Heap.gets, Heap.sets, Heap.get, bytesA_length, bytesA_one, bytesA_plains, List.take_of_length_le, List.drop_of_length_le, Nat.add_zero, V.one, Nat.reduceLeDiff, List.all_cons, List.all_nil, ne_eq, not_false_eq_true, Nat.zero_le, q1, gW, gW', a0, bytesA_nil]; rfl) ?_ | refine To.op1 hxE5 (by simp only [go_sem, eqs hxE5, reduceIte, Nat.reduceEqDiff, Nat.reduceAdd, Nat.reduceMul, Nat.reduceLT, Nat.reduceLeDiff, Int.reduceLT, Int.reduceLE, Int.reduceEq, reduceCtorEq, Int.reduceBEq, Int.reduceBNe, Int.reduceToNat, Nat.reduceSub, Nat.reduceDiv, Int.reduceNeg, Int.reduceAdd, Int.reduceSub, Int.reduceMul, Heap.gets, Heap.sets, Heap.get, bytesA_length, bytesA_one, bytesA_plains, List.take_of_length_le, List.drop_of_length_le, Nat.add_zero, V.one, Nat.reduceLeDiff, List.all_cons, List.all_nil, ne_eq, not_false_eq_true, Nat.zero_le, q1, gW, gW', a0, bytesA_nil]; rfl) ?_ | refine To.nop hxE5 ?_ | (refine To.condT hxE5 ?_ ?_; focus (simp only [go_sem, eqs hxE5, reduceIte, Nat.reduceEqDiff, Nat.reduceAdd, Nat.reduceMul, Nat.reduceLT, Nat.reduceLeDiff, Int.reduceLT, Int.reduceLE, Int.reduceEq, reduceCtorEq, Int.reduceBEq, Int.reduceBNe, Int.reduceToNat, Nat.reduceSub, Nat.reduceDiv, Int.reduceNeg, Int.reduceAdd, Int.reduceSub, Int.reduceMul, Heap.gets, Heap.sets, Heap.get, bytesA_length, bytesA_one, bytesA_plains, List.take_of_length_le, List.drop_of_length_le, Nat.add_zero, V.one, Nat.reduceLeDiff, List.all_cons, List.all_nil, ne_eq, not_false_eq_true, Nat.zero_le, q1, gW, gW', a0, bytesA_nil]; done)) | (refine To.condF hxE5 ?_ ?_; focus (simp only [go_sem, eqs hxE5, reduceIte, Nat.reduceEqDiff, Nat.reduceAdd, Nat.reduceMul, Nat.reduceLT, Nat.reduceLeDiff, Int.reduceLT, Int.reduceLE, Int.reduceEq, reduceCtorEq, Int.reduceBEq, Int.reduceBNe, Int.reduceToNat, Nat.reduceSub, Nat.reduceDiv, Int.reduceNeg, Int.reduceAdd, Int.reduceSub, Int.reduceMul, Heap.gets, Heap.sets, Heap.get, bytesA_length, bytesA_one, bytesA_plains, List.take_of_length_le, List.drop_of_length_le, Nat.add_zero, V.one, Nat.reduceLeDiff, List.all_cons, List.all_nil, ne_eq, not_false_eq_true, Nat.zero_le, q1, gW, gW', a0, bytesA_nil]; done)) | refine To.block hxE5 ?_ | refine To.scope hxE5 ?_ | refine To.ret hxE5 ?_ | refine To.exit hxE5 ?_ | refine To.skip hxE5 ?_ | refine To.label hxE5 ?_))
        refine ⟨_, _, fin2 (i := 4) (j := 5) rfl, _, rfl, _, _, _, leave_esc (by simp only; omega), ?_, ?_, by simp only; omega⟩
        · rw [List.append_nil]
          refine ⟨.ptr w 0, _, by (rw [List.getElem?_set_self (by omega)]; try rfl), .inr rfl, .inr ⟨m, rfl, ?_⟩⟩
          rw [List.getElem?_set_ne (Ne.symm hmw)]; exact hm
        · exact hO.trans (Ow.set w _ _)
    have hsp : 0 < s.length := List.length_pos_iff.2 hse
    rcases hB with ⟨rfl, rfl⟩ | ⟨m, rfl, hm⟩
    · exact absurd rfl hne
    · have hmw : m ≠ w := by intro h; subst h; rw [gW] at hm; cases hm
      have a1 := app_gr (o := o1) (e := e1) (d := d1) (s := 1) (b := 1) (k := bs.length) (j := s.length) (new := bytesA s) hm (by simp [bytesA_length]) hsp (by decide) (room_ok (by omega))
      have g2 : ∀ r : List AM.Obj, ((o1.set m .dead) ++ r)[w]? = some (.cells .ex 105 0 [.ptr w 0, .slice m 0 bs.length 1]) := fun r => app_old (set_other gW hmw) r
      (repeat' (first | refine To.seq hxE5 ?_ | refine To.op0 hxE5 (by simp only [go_sem, eqs hxE5, reduceIte, Nat.reduceEqDiff, Nat.reduceAdd, Nat.reduceMul, Nat.reduceLT, Nat.reduceLeDiff, Int.reduceLT, Int.reduceLE, Int.reduceEq, reduceCtorEq, Int.reduceBEq, Int.reduceBNe, Int.reduceToNat, Nat.reduceSub, Nat.reduceDiv, Int.reduceNeg, Int.reduceAdd, Int.reduceSub, Int.reduceMul, Heap.gets, Heap.sets, Heap.get, bytesA_length, bytesA_one, bytesA_plains, List.take_of_length_le, List.drop_of_length_le, Nat.add_zero, V.one, Nat.reduceLeDiff, List.all_cons, List.all_nil, ne_eq, not_false_eq_true, Nat.zero_le, q1, gW, gW', a1, g2]; rfl) ?_ | refine To.op1 hxE5 (by simp only [go_sem, eqs hxE5, reduceIte, Nat.reduceEqDiff, Nat.reduceAdd, Nat.reduceMul, Nat.reduceLT, Nat.reduceLeDiff, Int.reduceLT, Int.reduceLE, Int.reduceEq, reduceCtorEq, Int.reduceBEq, Int.reduceBNe, Int.reduceToNat, Nat.reduceSub, Nat.reduceDiv, Int.reduceNeg, Int.reduceAdd, Int.reduceSub, Int.reduceMul, Heap.gets, Heap.sets, Heap.get, bytesA_length, bytesA_one, bytesA_plains, List.take_of_length_le, List.drop_of_length_le, Nat.add_zero, V.one, Nat.reduceLeDiff, List.all_cons, List.all_nil, ne_eq, not_false_eq_true, Nat.zero_le, q1, gW, gW', a1, g2]; rfl) ?_ | refine To.nop hxE5 ?_ | (refine To.condT hxE5 ?_ ?_; focus (simp only [go_sem, eqs hxE5, reduceIte, Nat.reduceEqDiff, Nat.reduceAdd, Nat.reduceMul, Nat.reduceLT, Nat.reduceLeDiff, Int.reduceLT, Int.reduceLE, Int.reduceEq, reduceCtorEq, Int.reduceBEq, Int.reduceBNe, Int.reduceToNat, Nat.reduceSub, Nat.reduceDiv, Int.reduceNeg, Int.reduceAdd, Int.reduceSub, Int.reduceMul, Heap.gets, Heap.sets, Heap.get, bytesA_length, bytesA_one, bytesA_plains, List.take_of_length_le, List.drop_of_length_le, Nat.add_zero, V.one, Nat.reduceLeDiff, List.all_cons, List.all_nil, ne_eq, not_false_eq_true, Nat.zero_le, q1, gW, gW', a1, g2]; done)) | (refine To.condF hxE5 ?_ ?_; focus (simp only [go_sem, eqs hxE5, reduceIte, Nat.reduceEqDiff, Nat.reduceAdd, Nat.reduceMul, Nat.reduceLT, Nat.reduceLeDiff, Int.reduceLT, Int.reduceLE, Int.reduceEq, reduceCtorEq, Int.reduceBEq, Int.reduceBNe, Int.reduceToNat, Nat.reduceSub, Nat.reduceDiv, Int.reduceNeg, Int.reduceAdd, Int.reduceSub, Int.reduceMul, Heap.gets, Heap.sets, Heap.get, bytesA_length, bytesA_one, bytesA_plains, List.take_of_length_le, List.drop_of_length_le, Nat.add_zero, V.one, Nat.reduceLeDiff, List.all_cons, List.all_nil, ne_eq, not_false_eq_true, Nat.zero_le, q1, gW, gW', a1, g2]; done)) | refine To.block hxE5 ?_ | refine To.scope hxE5 ?_ | refine To.ret hxE5 ?_ | refine To.exit hxE5 ?_ | refine To.skip hxE5 ?_ | refine To.label hxE5 ?_))
      refine ⟨_, _, fin2 (i := 4) (j := 5) rfl, _, rfl, _, _, _, leave_esc (by simp only; omega), ?_, ?_, by simp only; omega⟩
      · refine ⟨.ptr w 0, _, by (rw [List.getElem?_set_self (by simp; omega)]; try rfl), .inr rfl, .inr ⟨o1.length, by simp, ?_⟩⟩
        rw [List.getElem?_set_ne (by omega), List.getElem?_append_right (by simp), ← bytesA_append]
        simp
      · exact hO.trans ((Ow.dead _ hm).trans ((Ow.app w _ _).trans (Ow.set w _ _)))
  · have q1 : Den FF E5 82 [.ptr w 0] ⟨o, o.length, o.length⟩ = some (.val (.tuple []), none) := by
      obtain ⟨r, oh, q1, rfl, rfl⟩ := cc_ptr (e := o.length) (d := o.length) hw
      exact q1
    have gW := hw
    have hO := Ow.refl w o
    have hB := hb
    have gW' := fun r => app_old gW r
    have hle : o.length = o.length := rfl
    by_cases hse : s = []
    · subst hse
      rcases hB with ⟨rfl, rfl⟩ | ⟨m, rfl, hm⟩
      · exact absurd rfl hne
      · have hmw : m ≠ w := by intro h; subst h; rw [gW] at hm; cases hm
        have a0 := app0_gr (o := o) (e := o.length) (d := o.length) hm
        (repeat' (first | refine To.seq hxE5 ?_ | refine To.op0 hxE5 (by simp only [go_sem, eqs hxE5, reduceIte, Nat.reduceEqDiff, Nat.reduceAdd, Nat.reduceMul, Nat.reduceLT, Nat.reduceLeDiff, Int.reduceLT, Int.reduceLE, Int.reduceEq, reduceCtorEq, Int.reduceBEq, Int.reduceBNe, Int.reduceToNat, Nat.reduceSub, Nat.reduceDiv, Int.reduceNeg, Int.reduceAdd, Int.reduceSub, Int.reduceMul, Heap.gets, Heap.sets, Heap.get, bytesA_length, bytesA_one, bytesA_plains, List.take_of_length_le, List.drop_of_length_le, Nat.add_zero, V.one, Nat.reduceLeDiff, List.all_cons, List.all_nil, ne_eq, not_false_eq_true, Nat.zero_le, q1, gW, gW', a0, bytesA_nil]; rfl) ?_ | refine To.op1 hxE5 (by simp only [go_sem, eqs hxE5, reduceIte, Nat.reduceEqDiff, Nat.reduceAdd, Nat.reduceMul, Nat.reduceLT, Nat.reduceLeDiff, Int.reduceLT, Int.reduceLE, Int.reduceEq, reduceCtorEq, Int.reduceBEq, Int.reduceBNe, Int.reduceToNat, Nat.reduceSub, Nat.reduceDiv, Int.reduceNeg, Int.reduceAdd, Int.reduceSub, Int.reduceMul, Heap.gets, Heap.sets, Heap.get, bytesA_length, bytesA_one, bytesA_plains, List.take_of_length_le, List.drop_of_length_le, Nat.add_zero, V.one, Nat.reduceLeDiff, List.all_cons, List.all_nil, ne_eq, not_false_eq_true, Nat.zero_le, q1, gW, gW', a0, bytesA_nil]; rfl) ?_ | refine To.nop hxE5 ?_ | (refine To.condT hxE5 ?_ ?_; focus (simp only [go_sem, eqs hxE5, reduceIte, Nat.reduceEqDiff, Nat.reduceAdd, Nat.reduceMul, Nat.reduceLT, Nat.reduceLeDiff, Int.reduceLT, Int.reduceLE, Int.reduceEq, reduceCtorEq, Int.reduceBEq, Int.reduceBNe, Int.reduceToNat, Nat.reduceSub, Nat.reduceDiv, Int.reduceNeg, Int.reduceAdd, Int.reduceSub, Int.reduceMul, Heap.gets, Heap.sets, Heap.get, bytesA_length, bytesA_one, bytesA_plains, List.take_of_length_le, List.drop_of_length_le, Nat.add_zero, V.one, Nat.reduceLeDiff, List.all_cons, List.all_nil, ne_eq, not_false_eq_true, Nat.zero_le, q1, gW, gW', a0, bytesA_nil]; done)) | (refine To.condF hxE5 ?_ ?_; focus (simp only [go_sem, eqs hxE5, reduceIte, Nat.reduceEqDiff, Nat.reduceAdd, Nat.reduceMul, Nat.reduceLT, Nat.reduceLeDiff, Int.reduceLT, Int.reduceLE, Int.reduceEq, reduceCtorEq, Int.reduceBEq, Int.reduceBNe, Int.reduceToNat, Nat.reduceSub, Nat.reduceDiv, Int.reduceNeg, Int.reduceAdd, Int.reduceSub, Int.reduceMul, Heap.gets, Heap.sets, Heap.get, bytesA_length, bytesA_one, bytesA_plains, List.take_of_length_le, List.drop_of_length_le, Nat.add_zero, V.one, Nat.reduceLeDiff, List.all_cons, List.all_nil, ne_eq, not_false_eq_true, Nat.zero_le, q1, gW, gW', a0, bytesA_nil]; done)) | refine To.block hxE5 ?_ | refine To.scope hxE5 ?_ | refine To.ret hxE5 ?_ | refine To.exit hxE5 ?_ | refine To.skip hxE5 ?_ | refine To.label hxE5 ?_))
        refine ⟨_, _, fin2 (i := 4) (j := 5) rfl, _, rfl, _, _, _, leave_esc (by simp only; omega), ?_, ?_, by simp only; omega⟩
        · rw [List.append_nil]
          refine ⟨.ptr w 0, _, by (rw [List.getElem?_set_self (by omega)]; try rfl), .inr rfl, .inr ⟨m, rfl, ?_⟩⟩
          rw [List.getElem?_set_ne (Ne.symm hmw)]; exact hm
        · exact hO.trans (Ow.set w _ _)
    have hsp : 0 < s.length := List.length_pos_iff.2 hse
    rcases hB with ⟨rfl, rfl⟩ | ⟨m, rfl, hm⟩
    · exact absurd rfl hne
    · have hmw : m ≠ w := by intro h; subst h; rw [gW] at hm; cases hm
      have a1 := app_gr (o := o) (e := o.length) (d := o.length) (s := 1) (b := 1) (k := bs.length) (j := s.length) (new := bytesA s) hm (by simp [bytesA_length]) hsp (by decide) (room_ok (by omega))
      have g2 : ∀ r : List AM.Obj, ((o.set m .dead) ++ r)[w]? = some (.cells .ex 105 0 [.ptr w 0, .slice m 0 bs.length 1]) := fun r => app_old (set_other gW hmw) r
      (repeat' (first | refine To.seq hxE5 ?_ | refine To.op0 hxE5 (by simp only [go_sem, eqs hxE5, reduceIte, Nat.reduceEqDiff, Nat.reduceAdd, Nat.reduceMul, Nat.reduceLT, Nat.reduceLeDiff, Int.reduceLT, Int.reduceLE, Int.reduceEq, reduceCtorEq, Int.reduceBEq, Int.reduceBNe, Int.reduceToNat, Nat.reduceSub, Nat.reduceDiv, Int.reduceNeg, Int.reduceAdd, Int.reduceSub, Int.reduceMul, Heap.gets, Heap.sets, Heap.get, bytesA_length, bytesA_one, bytesA_plains, List.take_of_length_le, List.drop_of_length_le, Nat.add_zero, V.one, Nat.reduceLeDiff, List.all_cons, List.all_nil, ne_eq, not_false_eq_true, Nat.zero_le, q1, gW, gW', a1, g2]; rfl) ?_ | refine To.op1 hxE5 (by simp only [go_sem, eqs hxE5, reduceIte, Nat.reduceEqDiff, Nat.reduceAdd, Nat.reduceMul, Nat.reduceLT, Nat.reduceLeDiff, Int.reduceLT, Int.reduceLE, Int.reduceEq, reduceCtorEq, Int.reduceBEq, Int.reduceBNe, Int.reduceToNat, Nat.reduceSub, Nat.reduceDiv, Int.reduceNeg, Int.reduceAdd, Int.reduceSub, Int.reduceMul, Heap.gets, Heap.sets, Heap.get, bytesA_length, bytesA_one, bytesA_plains, List.take_of_length_le, List.drop_of_length_le, Nat.add_zero, V.one, Nat.reduceLeDiff, List.all_cons, List.all_nil, ne_eq, not_false_eq_true, Nat.zero_le, q1, gW, gW', a1, g2]; rfl) ?_ | refine To.nop hxE5 ?_ | (refine To.condT hxE5 ?_ ?_; focus (simp only [go_sem, eqs hxE5, reduceIte, Nat.reduceEqDiff, Nat.reduceAdd, Nat.reduceMul, Nat.reduceLT, Nat.reduceLeDiff, Int.reduceLT, Int.reduceLE, Int.reduceEq, reduceCtorEq, Int.reduceBEq, Int.reduceBNe, Int.reduceToNat, Nat.reduceSub, Nat.reduceDiv, Int.reduceNeg, Int.reduceAdd, Int.reduceSub, Int.reduceMul, Heap.gets, Heap.sets, Heap.get, bytesA_length, bytesA_one, bytesA_plains, List.take_of_length_le, List.drop_of_length_le, Nat.add_zero, V.one, Nat.reduceLeDiff, List.all_cons, List.all_nil, ne_eq, not_false_eq_true, Nat.zero_le, q1, gW, gW', a1, g2]; done)) | (refine To.condF hxE5 ?_ ?_; focus (simp only [go_sem, eqs hxE5, reduceIte, Nat.reduceEqDiff, Nat.reduceAdd, Nat.reduceMul, Nat.reduceLT, Nat.reduceLeDiff, Int.reduceLT, Int.reduceLE, Int.reduceEq, reduceCtorEq, Int.reduceBEq, Int.reduceBNe, Int.reduceToNat, Nat.reduceSub, Nat.reduceDiv, Int.reduceNeg, Int.reduceAdd, Int.reduceSub, Int.reduceMul, Heap.gets, Heap.sets, Heap.get, bytesA_length, bytesA_one, bytesA_plains, List.take_of_length_le, List.drop_of_length_le, Nat.add_zero, V.one, Nat.reduceLeDiff, List.all_cons, List.all_nil, ne_eq, not_false_eq_true, Nat.zero_le, q1, gW, gW', a1, g2]; done)) | refine To.block hxE5 ?_ | refine To.scope hxE5 ?_ | refine To.ret hxE5 ?_ | refine To.exit hxE5 ?_ | refine To.skip hxE5 ?_ | refine To.label hxE5 ?_))
      refine ⟨_, _, fin2 (i := 4) (j := 5) rfl, _, rfl, _, _, _, leave_esc (by simp only; omega), ?_, ?_, by simp only; omega⟩
      · refine ⟨.ptr w 0, _, by (rw [List.getElem?_set_self (by simp; omega)]; try rfl), .inr rfl, .inr ⟨o.length, by simp, ?_⟩⟩
        rw [List.getElem?_set_ne (by omega), List.getElem?_append_right (by simp), ← bytesA_append]
        simp
      · exact hO.trans ((Ow.dead _ hm).trans ((Ow.app w _ _).trans (Ow.set w _ _)))

set_option maxHeartbeats 4000000 in
theorem bytes_den {o : List AM.Obj} {e d w : Nat} {bs : List UInt8} {n : Int} (size : Nat) {sz : Int} (hsz : sz = (size : Int)) (h : Wr o w bs) (hl : bs.length ≤ 900000) (h1 : 1 ≤ size) (h8 : size ≤ 8) :
    ∃ r oh, Den FF E5 50 [.ptr w 0, .int .i64 n, .int .i64 sz] ⟨o, e, d⟩ = some (r, oh) ∧ r = .val (.tuple []) ∧ ∃ o' e' d', oh = some ⟨o', e', d'⟩ ∧ Wr o' w (bs ++ tobeI size n) ∧ Ow w o o' ∧ e' ≤ w := by
  subst hsz
  refine To.denE hxE5 (f := 50) (a := af50) rfl (E5_none rfl) (Nat.le_of_ble_eq_true rfl) ?_
  have hlw : w < o.length := by obtain ⟨p, v, hw, _⟩ := h; exact get_lt hw
  have w0 : IntKind.i64.wrap ((size : Int) - 1) = (size : Int) - 1 := wrap_i64 (by omega) (by omega)
  (repeat' (first | refine To.seq hxE5 ?_ | refine To.op0 hxE5 (by simp only [go_sem, eqs hxE5, reduceIte, Nat.reduceEqDiff, Nat.reduceAdd, Nat.reduceMul, Nat.reduceLT, Nat.reduceLeDiff, Int.reduceLT, Int.reduceLE, Int.reduceEq, reduceCtorEq, Int.reduceBEq, Int.reduceBNe, Int.reduceToNat, Nat.reduceSub, Nat.reduceDiv, Int.reduceNeg, Int.reduceAdd, Int.reduceSub, Int.reduceMul, w0]; rfl) ?_ | refine To.op1 hxE5 (by simp only [go_sem, eqs hxE5, reduceIte, Nat.reduceEqDiff, Nat.reduceAdd, Nat.reduceMul, Nat.reduceLT, Nat.reduceLeDiff, Int.reduceLT, Int.reduceLE, Int.reduceEq, reduceCtorEq, Int.reduceBEq, Int.reduceBNe, Int.reduceToNat, Nat.reduceSub, Nat.reduceDiv, Int.reduceNeg, Int.reduceAdd, Int.reduceSub, Int.reduceMul, w0]; rfl) ?_ | refine To.nop hxE5 ?_ | (refine To.condT hxE5 ?_ ?_; focus (simp only [go_sem, eqs hxE5, reduceIte, Nat.reduceEqDiff, Nat.reduceAdd, Nat.reduceMul, Nat.reduceLT, Nat.reduceLeDiff, Int.reduceLT, Int.reduceLE, Int.reduceEq, reduceCtorEq, Int.reduceBEq, Int.reduceBNe, Int.reduceToNat, Nat.reduceSub, Nat.reduceDiv, Int.reduceNeg, Int.reduceAdd, Int.reduceSub, Int.reduceMul, w0]; done)) | (refine To.condF hxE5 ?_ ?_; focus (simp only [go_sem, eqs hxE5, reduceIte, Nat.reduceEqDiff, Nat.reduceAdd, Nat.reduceMul, Nat.reduceLT, Nat.reduceLeDiff, Int.reduceLT, Int.reduceLE, Int.reduceEq, reduceCtorEq, Int.reduceBEq, Int.reduceBNe, Int.reduceToNat, Nat.reduceSub, Nat.reduceDiv, Int.reduceNeg, Int.reduceAdd, Int.reduceSub, Int.reduceMul, w0]; done)) | refine To.block hxE5 ?_ | refine To.scope hxE5 ?_ | refine To.ret hxE5 ?_ | refine To.exit hxE5 ?_ | refine To.skip hxE5 ?_ | refine To.label hxE5 ?_ | refine To.draw0 hxE5 ?_ | refine ToD.op0 (by simp only [go_sem, eqs hxE5, reduceIte, Nat.reduceEqDiff, Nat.reduceAdd, Nat.reduceMul, Nat.reduceLT, Nat.reduceLeDiff, Int.reduceLT, Int.reduceLE, Int.reduceEq, reduceCtorEq, Int.reduceBEq, Int.reduceBNe, Int.reduceToNat, Nat.reduceSub, Nat.reduceDiv, Int.reduceNeg, Int.reduceAdd, Int.reduceSub, Int.reduceMul, w0]; rfl) (by simp only [put_some, put_none]; rfl) ?_ | refine ToD.op1 (by simp only [go_sem, eqs hxE5, reduceIte, Nat.reduceEqDiff, Nat.reduceAdd, Nat.reduceMul, Nat.reduceLT, Nat.reduceLeDiff, Int.reduceLT, Int.reduceLE, Int.reduceEq, reduceCtorEq, Int.reduceBEq, Int.reduceBNe, Int.reduceToNat, Nat.reduceSub, Nat.reduceDiv, Int.reduceNeg, Int.reduceAdd, Int.reduceSub, Int.reduceMul, w0]; rfl) (by simp only [put_some, put_none]; rfl) (by simp only [KD.app, go_sem, eqs hxE5, reduceIte, Nat.reduceEqDiff, Nat.reduceAdd, Nat.reduceMul, Nat.reduceLT, Nat.reduceLeDiff, Int.reduceLT, Int.reduceLE, Int.reduceEq, reduceCtorEq, Int.reduceBEq, Int.reduceBNe, Int.reduceToNat, Nat.reduceSub, Nat.reduceDiv, Int.reduceNeg, Int.reduceAdd, Int.reduceSub, Int.reduceMul, w0]; rfl) ?_ | refine ToD.nop ?_ | refine To.draw hxE5 (by decide) ?_))
  refine To.loop hxE5 (fun k S h' => ∃ j o' e' d', j + k = size ∧ h' = ⟨o', e', d'⟩ ∧ Wr o' w (bs ++ (tobeI size n).take j) ∧ Ow w o o' ∧ (0 < j → e' ≤ w) ∧ S 0 = .ptr w 0 ∧ S 1 = .int .i64 n ∧ S 6 = .int .i64 ((size : Int) - 1 - (j : Int))) ?_ size _ _ ?_
  · rintro k S _ ⟨j, o', e', d', hk, rfl, hW, hO, he, s0, s1, s6⟩
    by_cases hj : j < size
    · have hlt : decide (0 ≤ (size : Int) - 1 - (j : Int)) = true := by simp; omega
      have w1 : IntKind.i64.wrap ((size : Int) - 1 - (j : Int) - 1) = (size : Int) - 1 - ((j + 1 : Nat) : Int) := by rw [wrap_i64 (by omega) (by omega)]; omega
      have w2 : IntKind.i64.wrap (8 * ((size : Int) - 1 - (j : Int))) = 8 * ((size - 1 - j : Nat) : Int) := by rw [wrap_i64 (by omega) (by omega)]; omega
      have e1 := shr_i (n := n) (i := size - 1 - j) (by omega)
      have hb : IntKind.u8.wrap (n.fdiv (2 ^ (8 * (size - 1 - j)))) = ((byteAt n (size - 1 - j)).toNat : Int) := wrap_byte _
      have htl : ((tobeI size n).take j).length = j := by rw [List.length_take, tobeI_length]; omega
      obtain ⟨r, oh, q, u, rfl, o2, e2, d2, rfl, hW2, hO2, he2⟩ := wb_den (e := e') (d := d') (b := byteAt n (size - 1 - j)) hW (by simp [htl]; omega)
      (repeat' (first | refine To.seq hxE5 ?_ | refine To.op0 hxE5 (by simp only [go_sem, eqs hxE5, reduceIte, Nat.reduceEqDiff, Nat.reduceAdd, Nat.reduceMul, Nat.reduceLT, Nat.reduceLeDiff, Int.reduceLT, Int.reduceLE, Int.reduceEq, reduceCtorEq, Int.reduceBEq, Int.reduceBNe, Int.reduceToNat, Nat.reduceSub, Nat.reduceDiv, Int.reduceNeg, Int.reduceAdd, Int.reduceSub, Int.reduceMul, s0, s1, s6, hlt, w1, w2, e1, hb, q]; rfl) ?_ | refine To.op1 hxE5 (by simp only [go_sem, eqs hxE5, reduceIte, Nat.reduceEqDiff, Nat.reduceAdd, Nat.reduceMul, Nat.reduceLT, Nat.reduceLeDiff, Int.reduceLT, Int.reduceLE, Int.reduceEq, reduceCtorEq, Int.reduceBEq, Int.reduceBNe, Int.reduceToNat, Nat.reduceSub, Nat.reduceDiv, Int.reduceNeg, Int.reduceAdd, Int.reduceSub, Int.reduceMul, s0, s1, s6, hlt, w1, w2, e1, hb, q]; rfl) ?_ | refine To.nop hxE5 ?_ | (refine To.condT hxE5 ?_ ?_; focus (simp only [go_sem, eqs hxE5, reduceIte, Nat.reduceEqDiff, Nat.reduceAdd, Nat.reduceMul, Nat.reduceLT, Nat.reduceLeDiff, Int.reduceLT, Int.reduceLE, Int.reduceEq, reduceCtorEq, Int.reduceBEq, Int.reduceBNe, Int.reduceToNat, Nat.reduceSub, Nat.reduceDiv, Int.reduceNeg, Int.reduceAdd, Int.reduceSub, Int.reduceMul, s0, s1, s6, hlt, w1, w2, e1, hb, q]; done)) | (refine To.condF hxE5 ?_ ?_; focus (simp only [go_sem, eqs hxE5, reduceIte, Nat.reduceEqDiff, Nat.reduceAdd, Nat.reduceMul, Nat.reduceLT, Nat.reduceLeDiff, Int.reduceLT, Int.reduceLE, Int.reduceEq, reduceCtorEq, Int.reduceBEq, Int.reduceBNe, Int.reduceToNat, Nat.reduceSub, Nat.reduceDiv, Int.reduceNeg, Int.reduceAdd, Int.reduceSub, Int.reduceMul, s0, s1, s6, hlt, w1, w2, e1, hb, q]; done)) | refine To.block hxE5 ?_ | refine To.scope hxE5 ?_ | refine To.ret hxE5 ?_ | refine To.exit hxE5 ?_ | refine To.skip hxE5 ?_ | refine To.label hxE5 ?_ | refine To.draw0 hxE5 ?_ | refine ToD.op0 (by simp only [go_sem, eqs hxE5, reduceIte, Nat.reduceEqDiff, Nat.reduceAdd, Nat.reduceMul, Nat.reduceLT, Nat.reduceLeDiff, Int.reduceLT, Int.reduceLE, Int.reduceEq, reduceCtorEq, Int.reduceBEq, Int.reduceBNe, Int.reduceToNat, Nat.reduceSub, Nat.reduceDiv, Int.reduceNeg, Int.reduceAdd, Int.reduceSub, Int.reduceMul, s0, s1, s6, hlt, w1, w2, e1, hb, q]; rfl) (by simp only [put_some, put_none]; rfl) ?_ | refine ToD.op1 (by simp only [go_sem, eqs hxE5, reduceIte, Nat.reduceEqDiff, Nat.reduceAdd, Nat.reduceMul, Nat.reduceLT, Nat.reduceLeDiff, Int.reduceLT, Int.reduceLE, Int.reduceEq, reduceCtorEq, Int.reduceBEq, Int.reduceBNe, Int.reduceToNat, Nat.reduceSub, Nat.reduceDiv, Int.reduceNeg, Int.reduceAdd, Int.reduceSub, Int.reduceMul, s0, s1, s6, hlt, w1, w2, e1, hb, q]; rfl) (by simp only [put_some, put_none]; rfl) (by simp only [KD.app, go_sem, eqs hxE5, reduceIte, Nat.reduceEqDiff, Nat.reduceAdd, Nat.reduceMul, Nat.reduceLT, Nat.reduceLeDiff, Int.reduceLT, Int.reduceLE, Int.reduceEq, reduceCtorEq, Int.reduceBEq, Int.reduceBNe, Int.reduceToNat, Nat.reduceSub, Nat.reduceDiv, Int.reduceNeg, Int.reduceAdd, Int.reduceSub, Int.reduceMul, s0, s1, s6, hlt, w1, w2, e1, hb, q]; rfl) ?_ | refine ToD.nop ?_ | refine To.draw hxE5 (by decide) ?_))
      try simp only [andThen, outOf]
      refine ⟨k - 1, by omega, j + 1, o2, e2, d2, by omega, by first | rfl | trivial, ?_, hO.trans hO2, fun _ => he2, ?_⟩
      · rw [List.take_add_one, tobeI_get hj, ← List.append_assoc]
        exact hW2
      · simp only [go_sem, eqs hxE5, reduceIte, Nat.reduceEqDiff, Nat.reduceAdd, Nat.reduceMul, Nat.reduceLT, Nat.reduceLeDiff, Int.reduceLT, Int.reduceLE, Int.reduceEq, reduceCtorEq, Int.reduceBEq, Int.reduceBNe, Int.reduceToNat, Nat.reduceSub, Nat.reduceDiv, Int.reduceNeg, Int.reduceAdd, Int.reduceSub, Int.reduceMul, s0, s1]
    · have hlt : decide (0 ≤ (size : Int) - 1 - (j : Int)) = false := by simp; omega
      have hje : j = size := by omega
      subst hje
      rw [List.take_of_length_le (by rw [tobeI_length]; omega)] at hW
      (repeat' (first | refine To.seq hxE5 ?_ | refine To.op0 hxE5 (by simp only [go_sem, eqs hxE5, reduceIte, Nat.reduceEqDiff, Nat.reduceAdd, Nat.reduceMul, Nat.reduceLT, Nat.reduceLeDiff, Int.reduceLT, Int.reduceLE, Int.reduceEq, reduceCtorEq, Int.reduceBEq, Int.reduceBNe, Int.reduceToNat, Nat.reduceSub, Nat.reduceDiv, Int.reduceNeg, Int.reduceAdd, Int.reduceSub, Int.reduceMul, s0, s1, s6, hlt]; rfl) ?_ | refine To.op1 hxE5 (by simp only [go_sem, eqs hxE5, reduceIte, Nat.reduceEqDiff, Nat.reduceAdd, Nat.reduceMul, Nat.reduceLT, Nat.reduceLeDiff, Int.reduceLT, Int.reduceLE, Int.reduceEq, reduceCtorEq, Int.reduceBEq, Int.reduceBNe, Int.reduceToNat, Nat.reduceSub, Nat.reduceDiv, Int.reduceNeg, Int.reduceAdd, Int.reduceSub, Int.reduceMul, s0, s1, s6, hlt]; rfl) ?_ | refine To.nop hxE5 ?_ | (refine To.condT hxE5 ?_ ?_; focus (simp only [go_sem, eqs hxE5, reduceIte, Nat.reduceEqDiff, Nat.reduceAdd, Nat.reduceMul, Nat.reduceLT, Nat.reduceLeDiff, Int.reduceLT, Int.reduceLE, Int.reduceEq, reduceCtorEq, Int.reduceBEq, Int.reduceBNe, Int.reduceToNat, Nat.reduceSub, Nat.reduceDiv, Int.reduceNeg, Int.reduceAdd, Int.reduceSub, Int.reduceMul, s0, s1, s6, hlt]; done)) | (refine To.condF hxE5 ?_ ?_; focus (simp only [go_sem, eqs hxE5, reduceIte, Nat.reduceEqDiff, Nat.reduceAdd, Nat.reduceMul, Nat.reduceLT, Nat.reduceLeDiff, Int.reduceLT, Int.reduceLE, Int.reduceEq, reduceCtorEq, Int.reduceBEq, Int.reduceBNe, Int.reduceToNat, Nat.reduceSub, Nat.reduceDiv, Int.reduceNeg, Int.reduceAdd, Int.reduceSub, Int.reduceMul, s0, s1, s6, hlt]; done)) | refine To.block hxE5 ?_ | refine To.scope hxE5 ?_ | refine To.ret hxE5 ?_ | refine To.exit hxE5 ?_ | refine To.skip hxE5 ?_ | refine To.label hxE5 ?_ | refine To.draw0 hxE5 ?_ | refine ToD.op0 (by simp only [go_sem, eqs hxE5, reduceIte, Nat.reduceEqDiff, Nat.reduceAdd, Nat.reduceMul, Nat.reduceLT, Nat.reduceLeDiff, Int.reduceLT, Int.reduceLE, Int.reduceEq, reduceCtorEq, Int.reduceBEq, Int.reduceBNe, Int.reduceToNat, Nat.reduceSub, Nat.reduceDiv, Int.reduceNeg, Int.reduceAdd, Int.reduceSub, Int.reduceMul, s0, s1, s6, hlt]; rfl) (by simp only [put_some, put_none]; rfl) ?_ | refine ToD.op1 (by simp only [go_sem, eqs hxE5, reduceIte, Nat.reduceEqDiff, Nat.reduceAdd, Nat.reduceMul, Nat.reduceLT, Nat.reduceLeDiff, Int.reduceLT, Int.reduceLE, Int.reduceEq, reduceCtorEq, Int.reduceBEq, Int.reduceBNe, Int.reduceToNat, Nat.reduceSub, Nat.reduceDiv, Int.reduceNeg, Int.reduceAdd, Int.reduceSub, Int.reduceMul, s0, s1, s6, hlt]; rfl) (by simp only [put_some, put_none]; rfl) (by simp only [KD.app, go_sem, eqs hxE5, reduceIte, Nat.reduceEqDiff, Nat.reduceAdd, Nat.reduceMul, Nat.reduceLT, Nat.reduceLeDiff, Int.reduceLT, Int.reduceLE, Int.reduceEq, reduceCtorEq, Int.reduceBEq, Int.reduceBNe, Int.reduceToNat, Nat.reduceSub, Nat.reduceDiv, Int.reduceNeg, Int.reduceAdd, Int.reduceSub, Int.reduceMul, s0, s1, s6, hlt]; rfl) ?_ | refine ToD.nop ?_ | refine To.draw hxE5 (by decide) ?_))
      refine ⟨_, _, fin0n rfl, rfl, _, _, _, leave_esc (by have := he (by omega); simp only; omega), hW, hO, by have := he (by omega); simp only; omega⟩
  · refine ⟨0, o, o.length, o.length, by omega, by first | rfl | trivial, by rw [List.take_zero, List.append_nil]; exact h, Ow.refl w o, fun h => absurd h (by omega), ?_⟩
    simp only [go_sem, eqs hxE5, reduceIte, Nat.reduceEqDiff, Nat.reduceAdd, Nat.reduceMul, Nat.reduceLT, Nat.reduceLeDiff, Int.reduceLT, Int.reduceLE, Int.reduceEq, reduceCtorEq, Int.reduceBEq, Int.reduceBNe, Int.reduceToNat, Nat.reduceSub, Nat.reduceDiv, Int.reduceNeg, Int.reduceAdd, Int.reduceSub, Int.reduceMul]
    simp

def numsB (l : List Int) : List UInt8 := (l.map (tobeI 4)).flatten
theorem numsB_len (l : List Int) : (numsB l).length = 4 * l.length := by
  unfold numsB
  induction l with
  | nil => rfl
  | cons a r ih => simp only [List.map_cons, List.flatten_cons, List.length_append, tobeI_length, ih, List.length_cons]; omega
theorem numsB_snoc (l : List Int) (n : Int) : numsB (l ++ [n]) = numsB l ++ tobeI 4 n := by simp [numsB]

set_option maxHeartbeats 4000000 in
theorem numsw_den {o : List AM.Obj} {e d w x : Nat} {bs : List UInt8} {l : List Int} (h : Wr o w bs) (hl : bs.length ≤ 100000) (h0 : l ≠ []) (h8 : l.length ≤ 1000) (hx : o[x]? = some (.cells .ex 3 0 (l.map fun n => .int .i64 n))) :
    ∃ r oh, Den FF E5 51 [.ptr w 0, .slice x 0 l.length 1] ⟨o, e, d⟩ = some (r, oh) ∧ r = .val (.tuple []) ∧ ∃ o' e' d', oh = some ⟨o', e', d'⟩ ∧ Wr o' w (bs ++ numsB l) ∧ Ow w o o' ∧ e' ≤ w := by
  refine To.denE hxE5 (f := 51) (a := af51) rfl (E5_none rfl) (Nat.le_of_ble_eq_true rfl) ?_
  obtain ⟨hlw, hxw⟩ : w < o.length ∧ x ≠ w := by
    obtain ⟨p, v, hw, _⟩ := h
    refine ⟨get_lt hw, fun hh => ?_⟩
    subst hh; rw [hw] at hx; cases hx
  have hlp : 0 < l.length := List.length_pos_iff.2 h0
  (repeat' (first | refine To.seq hxE5 ?_ | refine To.op0 hxE5 (by simp only [go_sem, eqs hxE5, reduceIte, Nat.reduceEqDiff, Nat.reduceAdd, Nat.reduceMul, Nat.reduceLT, Nat.reduceLeDiff, Int.reduceLT, Int.reduceLE, Int.reduceEq, reduceCtorEq, Int.reduceBEq, Int.reduceBNe, Int.reduceToNat, Nat.reduceSub, Nat.reduceDiv, Int.reduceNeg, Int.reduceAdd, Int.reduceSub, Int.reduceMul]; rfl) ?_ | refine To.op1 hxE5 (by simp only [go_sem, eqs hxE5, reduceIte, Nat.reduceEqDiff, Nat.reduceAdd, Nat.reduceMul, Nat.reduceLT, Nat.reduceLeDiff, Int.reduceLT, Int.reduceLE, Int.reduceEq, reduceCtorEq, Int.reduceBEq, Int.reduceBNe, Int.reduceToNat, Nat.reduceSub, Nat.reduceDiv, Int.reduceNeg, Int.reduceAdd, Int.reduceSub, Int.reduceMul]; rfl) ?_ | refine To.nop hxE5 ?_ | (refine To.condT hxE5 ?_ ?_; focus (simp only [go_sem, eqs hxE5, reduceIte, Nat.reduceEqDiff, Nat.reduceAdd, Nat.reduceMul, Nat.reduceLT, Nat.reduceLeDiff, Int.reduceLT, Int.reduceLE, Int.reduceEq, reduceCtorEq, Int.reduceBEq, Int.reduceBNe, Int.reduceToNat, Nat.reduceSub, Nat.reduceDiv, Int.reduceNeg, Int.reduceAdd, Int.reduceSub, Int.reduceMul]; done)) | (refine To.condF hxE5 ?_ ?_; focus (simp only [go_sem, eqs hxE5, reduceIte, Nat.reduceEqDiff, Nat.reduceAdd, Nat.reduceMul, Nat.reduceLT, Nat.reduceLeDiff, Int.reduceLT, Int.reduceLE, Int.reduceEq, reduceCtorEq, Int.reduceBEq, Int.reduceBNe, Int.reduceToNat, Nat.reduceSub, Nat.reduceDiv, Int.reduceNeg, Int.reduceAdd, Int.reduceSub, Int.reduceMul]; done)) | refine To.block hxE5 ?_ | refine To.scope hxE5 ?_ | refine To.ret hxE5 ?_ | refine To.exit hxE5 ?_ | refine To.skip hxE5 ?_ | refine To.label hxE5 ?_))
  refine To.loop hxE5 (fun k S h' => ∃ j o' e' d', j + k = l.length ∧ h' = ⟨o', e', d'⟩ ∧ Wr o' w (bs ++ numsB (l.take j)) ∧ Ow w o o' ∧ (0 < j → e' ≤ w) ∧ S 0 = .ptr w 0 ∧ S 6 = .slice x 0 l.length 1 ∧ S 7 = .int .i64 (l.length : Int) ∧ S 8 = .int .i64 (j : Int)) ?_ l.length _ _ ?_
  · rintro k S _ ⟨j, o', e', d', hk, rfl, hW, hO, he, s0, s6, s7, s8⟩
    by_cases hj : j < l.length
    · have hlt : decide ((j : Int) < (l.length : Int)) = true := by simp; omega
      have w1 : IntKind.i64.wrap ((j : Int) + 1) = ((j + 1 : Nat) : Int) := by rw [wrap_i64 (by omega) (by omega)]; omega
      obtain ⟨n, hn⟩ : ∃ n, l[j]? = some n := ⟨l[j], List.getElem?_eq_getElem hj⟩
      have hix : idxOf l.length (.int .i64 (j : Int)) = some j := idxOf_nat hj
      have ho' := hO.2 x _ _ _ _ hxw hx (by decide)
      have g1 : ∀ e d, (⟨o', e, d⟩ : Heap).get x j = some (.int .i64 n) := fun e d => by
        simp only [Heap.get, ho', List.getElem?_map, hn, Option.map_some]
      have htl : (numsB (l.take j)).length ≤ 4 * l.length := by rw [numsB_len, List.length_take]; omega
      obtain ⟨r, oh, q, rfl, o2, e2, d2, rfl, hW2, hO2, he2⟩ := bytes_den (e := e') (d := d') (n := n) 4 (sz := 4) rfl hW (by simp; omega) (by decide) (by decide)
      (repeat' (first | refine To.seq hxE5 ?_ | refine To.op0 hxE5 (by simp only [go_sem, eqs hxE5, reduceIte, Nat.reduceEqDiff, Nat.reduceAdd, Nat.reduceMul, Nat.reduceLT, Nat.reduceLeDiff, Int.reduceLT, Int.reduceLE, Int.reduceEq, reduceCtorEq, Int.reduceBEq, Int.reduceBNe, Int.reduceToNat, Nat.reduceSub, Nat.reduceDiv, Int.reduceNeg, Int.reduceAdd, Int.reduceSub, Int.reduceMul, s0, s6, s7, s8, hlt, w1, hix, g1, Nat.mul_one, q]; rfl) ?_ | refine To.op1 hxE5 (by simp only [go_sem, eqs hxE5, reduceIte, Nat.reduceEqDiff, Nat.reduceAdd, Nat.reduceMul, Nat.reduceLT, Nat.reduceLeDiff, Int.reduceLT, Int.reduceLE, Int.reduceEq, reduceCtorEq, Int.reduceBEq, Int.reduceBNe, Int.reduceToNat, Nat.reduceSub, Nat.reduceDiv, Int.reduceNeg, Int.reduceAdd, Int.reduceSub, Int.reduceMul, s0, s6, s7, s8, hlt, w1, hix, g1, Nat.mul_one, q]; rfl) ?_ | refine To.nop hxE5 ?_ | (refine To.condT hxE5 ?_ ?_; focus (simp only [go_sem, eqs hxE5, reduceIte, Nat.reduceEqDiff, Nat.reduceAdd, Nat.reduceMul, Nat.reduceLT, Nat.reduceLeDiff, Int.reduceLT, Int.reduceLE, Int.reduceEq, reduceCtorEq, Int.reduceBEq, Int.reduceBNe, Int.reduceToNat, Nat.reduceSub, Nat.reduceDiv, Int.reduceNeg, Int.reduceAdd, Int.reduceSub, Int.reduceMul, s0, s6, s7, s8, hlt, w1, hix, g1, Nat.mul_one, q]; done)) | (refine To.condF hxE5 ?_ ?_; focus (simp only [go_sem, eqs hxE5, reduceIte, Nat.reduceEqDiff, Nat.reduceAdd, Nat.reduceMul, Nat.reduceLT, Nat.reduceLeDiff, Int.reduceLT, Int.reduceLE, Int.reduceEq, reduceCtorEq, Int.reduceBEq, Int.reduceBNe, Int.reduceToNat, Nat.reduceSub, Nat.reduceDiv, Int.reduceNeg, Int.reduceAdd, Int.reduceSub, Int.reduceMul, s0, s6, s7, s8, hlt, w1, hix, g1, Nat.mul_one, q]; done)) | refine To.block hxE5 ?_ | refine To.scope hxE5 ?_ | refine To.ret hxE5 ?_ | refine To.exit hxE5 ?_ | refine To.skip hxE5 ?_ | refine To.label hxE5 ?_))
      try simp only [andThen, outOf]
      refine ⟨k - 1, by omega, j + 1, o2, e2, d2, by omega, by first | rfl | trivial, ?_, hO.trans hO2, fun _ => he2, ?_⟩
      · rw [List.take_add_one, hn, Option.toList_some, numsB_snoc, ← List.append_assoc]
        exact hW2
      · simp only [go_sem, eqs hxE5, reduceIte, Nat.reduceEqDiff, Nat.reduceAdd, Nat.reduceMul, Nat.reduceLT, Nat.reduceLeDiff, Int.reduceLT, Int.reduceLE, Int.reduceEq, reduceCtorEq, Int.reduceBEq, Int.reduceBNe, Int.reduceToNat, Nat.reduceSub, Nat.reduceDiv, Int.reduceNeg, Int.reduceAdd, Int.reduceSub, Int.reduceMul, s0, s6, s7]
    · have hlt : decide ((j : Int) < (l.length : Int)) = false := by simp; omega
      have hje : j = l.length := by omega
      subst hje
      rw [List.take_of_length_le (Nat.le_refl _)] at hW
      (repeat' (first | refine To.seq hxE5 ?_ | refine To.op0 hxE5 (by simp only [go_sem, eqs hxE5, reduceIte, Nat.reduceEqDiff, Nat.reduceAdd, Nat.reduceMul, Nat.reduceLT, Nat.reduceLeDiff, Int.reduceLT, Int.reduceLE, Int.reduceEq, reduceCtorEq, Int.reduceBEq, Int.reduceBNe, Int.reduceToNat, Nat.reduceSub, Nat.reduceDiv, Int.reduceNeg, Int.reduceAdd, Int.reduceSub, Int.reduceMul, s0, s6, s7, s8, hlt]; rfl) ?_ | refine To.op1 hxE5 (by simp only [go_sem, eqs hxE5, reduceIte, Nat.reduceEqDiff, Nat.reduceAdd, Nat.reduceMul, Nat.reduceLT, Nat.reduceLeDiff, Int.reduceLT, Int.reduceLE, Int.reduceEq, reduceCtorEq, Int.reduceBEq, Int.reduceBNe, Int.reduceToNat, Nat.reduceSub, Nat.reduceDiv, Int.reduceNeg, Int.reduceAdd, Int.reduceSub, Int.reduceMul, s0, s6, s7, s8, hlt]; rfl) ?_ | refine To.nop hxE5 ?_ | (refine To.condT hxE5 ?_ ?_; focus (simp only [go_sem, eqs hxE5, reduceIte, Nat.reduceEqDiff, Nat.reduceAdd, Nat.reduceMul, Nat.reduceLT, Nat.reduceLeDiff, Int.reduceLT, Int.reduceLE, Int.reduceEq, reduceCtorEq, Int.reduceBEq, Int.reduceBNe, Int.reduceToNat, Nat.reduceSub, Nat.reduceDiv, Int.reduceNeg, Int.reduceAdd, Int.reduceSub, Int.reduceMul, s0, s6, s7, s8, hlt]; done)) | (refine To.condF hxE5 ?_ ?_; focus (simp only [go_sem, eqs hxE5, reduceIte, Nat.reduceEqDiff, Nat.reduceAdd, Nat.reduceMul, Nat.reduceLT, Nat.reduceLeDiff, Int.reduceLT, Int.reduceLE, Int.reduceEq, reduceCtorEq, Int.reduceBEq, Int.reduceBNe, Int.reduceToNat, Nat.reduceSub, Nat.reduceDiv, Int.reduceNeg, Int.reduceAdd, Int.reduceSub, Int.reduceMul, s0, s6, s7, s8, hlt]; done)) | refine To.block hxE5 ?_ | refine To.scope hxE5 ?_ | refine To.ret hxE5 ?_ | refine To.exit hxE5 ?_ | refine To.skip hxE5 ?_ | refine To.label hxE5 ?_))
      refine ⟨_, _, fin0n rfl, rfl, _, _, _, leave_esc (by have := he (by omega); simp only; omega), hW, hO, by have := he (by omega); simp only; omega⟩
  · refine ⟨0, o, o.length, o.length, by omega, by first | rfl | trivial, by simp only [List.take_zero]; exact (List.append_nil bs).symm ▸ h, Ow.refl w o, fun h => absurd h (by omega), ?_⟩
    simp only [go_sem, eqs hxE5, reduceIte, Nat.reduceEqDiff, Nat.reduceAdd, Nat.reduceMul, Nat.reduceLT, Nat.reduceLeDiff, Int.reduceLT, Int.reduceLE, Int.reduceEq, reduceCtorEq, Int.reduceBEq, Int.reduceBNe, Int.reduceToNat, Nat.reduceSub, Nat.reduceDiv, Int.reduceNeg, Int.reduceAdd, Int.reduceSub, Int.reduceMul]

set_option maxHeartbeats 4000000 in
theorem textw_den {o : List AM.Obj} {e d w : Nat} {bs s : List UInt8} (h : Wr o w bs) (hl : bs.length ≤ 100000) (hs : s.length ≤ 100000) :
    ∃ r oh, Den FF E5 52 [.ptr w 0, .str s] ⟨o, e, d⟩ = some (r, oh) ∧ r = .val (.tuple []) ∧ ∃ o' e' d', oh = some ⟨o', e', d'⟩ ∧ Wr o' w (bs ++ tobeI 2 (s.length : Int) ++ s) ∧ Ow w o o' ∧ e' ≤ w := by
  refine To.denE hxE5 (f := 52) (a := af52) rfl (E5_none rfl) (Nat.le_of_ble_eq_true rfl) ?_
  have hlw : w < o.length := by obtain ⟨p, v, hw, _⟩ := h; exact get_lt hw
  obtain ⟨r, oh, q, rfl, o1, e1, d1, rfl, hW1, hO1, he1⟩ := bytes_den (e := o.length) (d := o.length) (n := (s.length : Int)) 2 (sz := 2) rfl h (by omega) (by decide) (by decide)
  have hne : bs ++ tobeI 2 (s.length : Int) ≠ [] := by
    intro h
    have := congrArg List.length h
    simp [tobeI_length] at this
  obtain ⟨r2, oh2, q2, u, rfl, o2, e2, d2, rfl, hW2, hO2, he2⟩ := ws_den (e := e1) (d := d1) (s := s) hW1 hne (by simp [tobeI_length]; omega) (by omega)
  have hlo := hO1.1
  (repeat' (first | refine To.seq hxE5 ?_ | refine To.op0 hxE5 (by simp only [go_sem, eqs hxE5, reduceIte, Nat.reduceEqDiff, Nat.reduceAdd, Nat.reduceMul, Nat.reduceLT, Nat.reduceLeDiff, Int.reduceLT, Int.reduceLE, Int.reduceEq, reduceCtorEq, Int.reduceBEq, Int.reduceBNe, Int.reduceToNat, Nat.reduceSub, Nat.reduceDiv, Int.reduceNeg, Int.reduceAdd, Int.reduceSub, Int.reduceMul, q, q2]; rfl) ?_ | refine To.op1 hxE5 (by simp only [go_sem, eqs hxE5, reduceIte, Nat.reduceEqDiff, Nat.reduceAdd, Nat.reduceMul, Nat.reduceLT, Nat.reduceLeDiff, Int.reduceLT, Int.reduceLE, Int.reduceEq, reduceCtorEq, Int.reduceBEq, Int.reduceBNe, Int.reduceToNat, Nat.reduceSub, Nat.reduceDiv, Int.reduceNeg, Int.reduceAdd, Int.reduceSub, Int.reduceMul, q, q2]; rfl) ?_ | refine To.nop hxE5 ?_ | (refine To.condT hxE5 ?_ ?_; focus (simp only [go_sem, eqs hxE5, reduceIte, Nat.reduceEqDiff, Nat.reduceAdd, Nat.reduceMul, Nat.reduceLT, Nat.reduceLeDiff, Int.reduceLT, Int.reduceLE, Int.reduceEq, reduceCtorEq, Int.reduceBEq, Int.reduceBNe, Int.reduceToNat, Nat.reduceSub, Nat.reduceDiv, Int.reduceNeg, Int.reduceAdd, Int.reduceSub, Int.reduceMul, q, q2]; done)) | (refine To.condF hxE5 ?_ ?_; focus (simp only [go_sem, eqs hxE5, reduceIte, Nat.reduceEqDiff, Nat.reduceAdd, Nat.reduceMul, Nat.reduceLT, Nat.reduceLeDiff, Int.reduceLT, Int.reduceLE, Int.reduceEq, reduceCtorEq, Int.reduceBEq, Int.reduceBNe, Int.reduceToNat, Nat.reduceSub, Nat.reduceDiv, Int.reduceNeg, Int.reduceAdd, Int.reduceSub, Int.reduceMul, q, q2]; done)) | refine To.block hxE5 ?_ | refine To.scope hxE5 ?_ | refine To.ret hxE5 ?_ | refine To.exit hxE5 ?_ | refine To.skip hxE5 ?_ | refine To.label hxE5 ?_))
  refine ⟨_, _, fin0n rfl, rfl, _, _, _, leave_esc (by simp only; omega), hW2, hO1.trans hO2, by simp only; omega⟩

theorem strIn_b : ∀ l : List UInt8, strIn (bytesA l) = some l
  | [] => rfl
  | b :: l => by
    have e : bytesA (b :: l) = .int .u8 (b.toNat : Int) :: bytesA l := rfl
    rw [e]
    have := b.toNat_lt
    simp [strIn, strIn_b l]
    omega
theorem string_den {o : List AM.Obj} {e d w : Nat} {bs : List UInt8} (h : Wr o w bs) (hne : bs ≠ []) (hl : bs.length ≤ 1000000) :
    ∃ r oh, Den FF E5 53 [.ptr w 0] ⟨o, e, d⟩ = some (r, oh) ∧ r = .val (.str bs) ∧ ∃ o' e' d', oh = some ⟨o', e', d'⟩ := by
  refine To.denE hxE5 (f := 53) (a := af53) rfl (E5_none rfl) (Nat.le_of_ble_eq_true rfl) ?_
  obtain ⟨p, v, hw, hp, ⟨rfl, rfl⟩ | ⟨m, rfl, hm⟩⟩ := h
  · exact absurd rfl hne
  have hlw := get_lt hw
  have hlp : 0 < bs.length := List.length_pos_iff.2 hne
  have hh : (⟨o, o.length, o.length⟩ : Heap).holds m (bs.length * 1) = true := by
    simp only [Heap.holds, hm, bytesA_length]
    simp
  have hown : (⟨o, o.length, o.length⟩ : Heap).ownT m 5 = true := by
    simp only [Heap.ownT, hm]
    simp
  have hn0 : ¬ bs.length = 0 := by omega
  have hg : (⟨o, o.length, o.length⟩ : Heap).gets m 0 bs.length = some (bytesA bs) := by
    simp only [Heap.gets, hm, bytesA_length, List.drop_zero]
    first
      | (rw [if_neg hn0, if_pos (by omega), List.take_of_length_le (by rw [bytesA_length]; omega)])
      | (rw [if_pos (by omega), List.take_of_length_le (by rw [bytesA_length]; omega)])
  have hi : ((0 : Int) < (bs.length : Int)) = True := by simp; omega
  have hj : ((bs.length : Int) ≤ 9223372036854775807) = True := by simp; omega
  (repeat' (first | refine To.seq hxE5 ?_ | refine To.op0 hxE5 (by simp only [go_sem, eqs hxE5, reduceIte, Nat.reduceEqDiff, Nat.reduceAdd, Nat.reduceMul, Nat.reduceLT, Nat.reduceLeDiff, Int.reduceLT, Int.reduceLE, Int.reduceEq, reduceCtorEq, Int.reduceBEq, Int.reduceBNe, Int.reduceToNat, Nat.reduceSub, Nat.reduceDiv, Int.reduceNeg, Int.reduceAdd, Int.reduceSub, Int.reduceMul, Heap.gets, Heap.sets, Heap.get, bytesA_length, bytesA_one, bytesA_plains, List.take_of_length_le, List.drop_of_length_le, Nat.add_zero, V.one, Nat.reduceLeDiff, List.all_cons, List.all_nil, ne_eq, not_false_eq_true, Nat.zero_le, hw, hm, hh, hown, hn0, hg, hi, hj, Int.toNat_natCast, strIn_b]; rfl) ?_ | refine To.op1 hxE5 (by simp only [go_sem, eqs hxE5, reduceIte, Nat.reduceEqDiff, Nat.reduceAdd, Nat.reduceMul, Nat.reduceLT, Nat.reduceLeDiff, Int.reduceLT, Int.reduceLE, Int.reduceEq, reduceCtorEq, Int.reduceBEq, Int.reduceBNe, Int.reduceToNat, Nat.reduceSub, Nat.reduceDiv, Int.reduceNeg, Int.reduceAdd, Int.reduceSub, Int.reduceMul, Heap.gets, Heap.sets, Heap.get, bytesA_length, bytesA_one, bytesA_plains, List.take_of_length_le, List.drop_of_length_le, Nat.add_zero, V.one, Nat.reduceLeDiff, List.all_cons, List.all_nil, ne_eq, not_false_eq_true, Nat.zero_le, hw, hm, hh, hown, hn0, hg, hi, hj, Int.toNat_natCast, strIn_b]; rfl) ?_ | refine To.nop hxE5 ?_ | (refine To.condT hxE5 ?_ ?_; focus (simp only [go_sem, eqs hxE5, reduceIte, Nat.reduceEqDiff, Nat.reduceAdd, Nat.reduceMul, Nat.reduceLT, Nat.reduceLeDiff, Int.reduceLT, Int.reduceLE, Int.reduceEq, reduceCtorEq, Int.reduceBEq, Int.reduceBNe, Int.reduceToNat, Nat.reduceSub, Nat.reduceDiv, Int.reduceNeg, Int.reduceAdd, Int.reduceSub, Int.reduceMul, Heap.gets, Heap.sets, Heap.get, bytesA_length, bytesA_one, bytesA_plains, List.take_of_length_le, List.drop_of_length_le, Nat.add_zero, V.one, Nat.reduceLeDiff, List.all_cons, List.all_nil, ne_eq, not_false_eq_true, Nat.zero_le, hw, hm, hh, hown, hn0, hg, hi, hj, Int.toNat_natCast, strIn_b]; done)) | (refine To.condF hxE5 ?_ ?_; focus (simp only [go_sem, eqs hxE5, reduceIte, Nat.reduceEqDiff, Nat.reduceAdd, Nat.reduceMul, Nat.reduceLT, Nat.reduceLeDiff, Int.reduceLT, Int.reduceLE, Int.reduceEq, reduceCtorEq, Int.reduceBEq, Int.reduceBNe, Int.reduceToNat, Nat.reduceSub, Nat.reduceDiv, Int.reduceNeg, Int.reduceAdd, Int.reduceSub, Int.reduceMul, Heap.gets, Heap.sets, Heap.get, bytesA_length, bytesA_one, bytesA_plains, List.take_of_length_le, List.drop_of_length_le, Nat.add_zero, V.one, Nat.reduceLeDiff, List.all_cons, List.all_nil, ne_eq, not_false_eq_true, Nat.zero_le, hw, hm, hh, hown, hn0, hg, hi, hj, Int.toNat_natCast, strIn_b]; done)) | refine To.block hxE5 ?_ | refine To.scope hxE5 ?_ | refine To.ret hxE5 ?_ | refine To.exit hxE5 ?_ | refine To.skip hxE5 ?_ | refine To.label hxE5 ?_ | refine To.draw0 hxE5 ?_ | refine ToD.op0 (by simp only [go_sem, eqs hxE5, reduceIte, Nat.reduceEqDiff, Nat.reduceAdd, Nat.reduceMul, Nat.reduceLT, Nat.reduceLeDiff, Int.reduceLT, Int.reduceLE, Int.reduceEq, reduceCtorEq, Int.reduceBEq, Int.reduceBNe, Int.reduceToNat, Nat.reduceSub, Nat.reduceDiv, Int.reduceNeg, Int.reduceAdd, Int.reduceSub, Int.reduceMul, Heap.gets, Heap.sets, Heap.get, bytesA_length, bytesA_one, bytesA_plains, List.take_of_length_le, List.drop_of_length_le, Nat.add_zero, V.one, Nat.reduceLeDiff, List.all_cons, List.all_nil, ne_eq, not_false_eq_true, Nat.zero_le, hw, hm, hh, hown, hn0, hg, hi, hj, Int.toNat_natCast, strIn_b]; rfl) (by simp only [put_some, put_none]; rfl) ?_ | refine ToD.op1 (by simp only [go_sem, eqs hxE5, reduceIte, Nat.reduceEqDiff, Nat.reduceAdd, Nat.reduceMul, Nat.reduceLT, Nat.reduceLeDiff, Int.reduceLT, Int.reduceLE, Int.reduceEq, reduceCtorEq, Int.reduceBEq, Int.reduceBNe, Int.reduceToNat, Nat.reduceSub, Nat.reduceDiv, Int.reduceNeg, Int.reduceAdd, Int.reduceSub, Int.reduceMul, Heap.gets, Heap.sets, Heap.get, bytesA_length, bytesA_one, bytesA_plains, List.take_of_length_le, List.drop_of_length_le, Nat.add_zero, V.one, Nat.reduceLeDiff, List.all_cons, List.all_nil, ne_eq, not_false_eq_true, Nat.zero_le, hw, hm, hh, hown, hn0, hg, hi, hj, Int.toNat_natCast, strIn_b]; rfl) (by simp only [put_some, put_none]; rfl) (by simp only [KD.app, go_sem, eqs hxE5, reduceIte, Nat.reduceEqDiff, Nat.reduceAdd, Nat.reduceMul, Nat.reduceLT, Nat.reduceLeDiff, Int.reduceLT, Int.reduceLE, Int.reduceEq, reduceCtorEq, Int.reduceBEq, Int.reduceBNe, Int.reduceToNat, Nat.reduceSub, Nat.reduceDiv, Int.reduceNeg, Int.reduceAdd, Int.reduceSub, Int.reduceMul, Heap.gets, Heap.sets, Heap.get, bytesA_length, bytesA_one, bytesA_plains, List.take_of_length_le, List.drop_of_length_le, Nat.add_zero, V.one, Nat.reduceLeDiff, List.all_cons, List.all_nil, ne_eq, not_false_eq_true, Nat.zero_le, hw, hm, hh, hown, hn0, hg, hi, hj, Int.toNat_natCast, strIn_b]; rfl) ?_ | refine ToD.nop ?_ | refine To.draw hxE5 (by decide) ?_))
  obtain ⟨e9, d9, hlv⟩ := leave_same (h := ⟨o, e, d⟩) (h' := ⟨o.set m .dead, o.length, min o.length m⟩) (v := .str bs) (by have := get_lt hm; simp only; omega) (by simp)
  refine ⟨_, _, fin1 (i := 2) rfl, ?_, ?_⟩
  · simp only [go_sem, eqs hxE5, reduceIte, Nat.reduceEqDiff, Nat.reduceAdd, Nat.reduceMul, Nat.reduceLT, Nat.reduceLeDiff, Int.reduceLT, Int.reduceLE, Int.reduceEq, reduceCtorEq, Int.reduceBEq, Int.reduceBNe, Int.reduceToNat, Nat.reduceSub, Nat.reduceDiv, Int.reduceNeg, Int.reduceAdd, Int.reduceSub, Int.reduceMul]
  · exact ⟨_, _, _, by simpa only [go_sem, eqs hxE5, reduceIte, Nat.reduceEqDiff, Nat.reduceAdd, Nat.reduceMul, Nat.reduceLT, Nat.reduceLeDiff, Int.reduceLT, Int.reduceLE, Int.reduceEq, reduceCtorEq, Int.reduceBEq, Int.reduceBNe, Int.reduceToNat, Nat.reduceSub, Nat.reduceDiv, Int.reduceNeg, Int.reduceAdd, Int.reduceSub, Int.reduceMul] using hlv⟩
end Go.Proofs.Ytjbblfoefibeaaa

/- Wire: a request's bytes, as they are put. -/
namespace Go.Proofs.Ytjbblfoefibeaaa
open Go AM
set_option linter.unusedSimpArgs false
set_option linter.unusedVariables false
set_option maxRecDepth 100000

def putV (id op ino oth n m : Int) (nm tx : List UInt8) : V :=
  if rightR id op ino oth n m nm tx = true then .tuple [.str (reqB id op ino oth n m nm tx), .int .i64 0] else .tuple [.str [], .int .i64 22]
theorem tobeI_big (s : Nat) {n : Int} (h : 0 ≤ n) : tobeI s n = bigF n (s : Int) := by
  obtain ⟨a, rfl⟩ : ∃ a : Nat, n = (a : Int) := ⟨n.toNat, by omega⟩
  rw [tobeI_nat]; rfl
theorem reqB_eq {id op ino oth n m : Int} {nm tx : List UInt8} (h : RightIs id op ino oth n m nm tx) :
    [] ++ tobeI 1 1 ++ tobeI 1 op ++ numsB [id, ino, oth, n, m] ++ tobeI 2 (nm.length : Int) ++ nm ++ tobeI 2 (tx.length : Int) ++ tx = reqB id op ino oth n m nm tx := by
  obtain ⟨a1, a2, a3, a4, a5, a6, a7, a8, a9, a10, a11, a12, a13, a14⟩ := h
  rw [tobeI_big 1 (by omega), tobeI_big 1 (by omega), tobeI_nat, tobeI_nat]
  simp only [numsB, List.map_cons, List.map_nil, List.flatten_cons, List.flatten_nil, List.append_nil]
  rw [tobeI_big 4 a3, tobeI_big 4 a5, tobeI_big 4 a7, tobeI_big 4 a9, tobeI_big 4 a11]
  simp only [reqB, textB, List.nil_append, List.append_assoc]
  rfl

theorem Wr.app {o : List AM.Obj} {w : Nat} {bs : List UInt8} (h : Wr o w bs) (r : List AM.Obj) : Wr (o ++ r) w bs := by
  obtain ⟨p, v, hw, hp, hb⟩ := h
  refine ⟨p, v, app_old hw r, hp, ?_⟩
  rcases hb with h | ⟨m, hv, hm⟩
  · exact .inl h
  · exact .inr ⟨m, hv, app_old hm r⟩

set_option maxHeartbeats 4000000 in
theorem put_den (id op ino oth n m : Int) (nm tx : List UInt8) : ∃ r oh, Den FF E5 13 [.agg [.int .i64 id, .int .i64 op, .int .i64 ino, .int .i64 oth, .int .i64 n, .int .i64 m, .str nm, .str tx]] H0 = some (r, oh) ∧ r = .val (putV id op ino oth n m nm tx) ∧ oh = none := by
  refine To.denE hxE5 (f := 13) (a := af13) rfl (E5_none rfl) (Nat.le_of_ble_eq_true rfl) ?_
  unfold putV
  cases c0 : rightR id op ino oth n m nm tx
  · (repeat' (first | refine To.seq hxE5 ?_ | refine To.op0 hxE5 (by simp only [go_sem, eqs hxE5, reduceIte, Nat.reduceEqDiff, Nat.reduceAdd, Nat.reduceMul, Nat.reduceLT, Nat.reduceLeDiff, Int.reduceLT, Int.reduceLE, Int.reduceEq, reduceCtorEq, Int.reduceBEq, Int.reduceBNe, Int.reduceToNat, Nat.reduceSub, Nat.reduceDiv, Int.reduceNeg, Int.reduceAdd, Int.reduceSub, Int.reduceMul, Heap.gets, Heap.sets, Heap.get, bytesA_length, bytesA_one, bytesA_plains, List.take_of_length_le, List.drop_of_length_le, Nat.add_zero, V.one, Nat.reduceLeDiff, List.all_cons, List.all_nil, ne_eq, not_false_eq_true, Nat.zero_le, eRight_5, c0]; rfl) ?_ | refine To.op1 hxE5 (by simp only [go_sem, eqs hxE5, reduceIte, Nat.reduceEqDiff, Nat.reduceAdd, Nat.reduceMul, Nat.reduceLT, Nat.reduceLeDiff, Int.reduceLT, Int.reduceLE, Int.reduceEq, reduceCtorEq, Int.reduceBEq, Int.reduceBNe, Int.reduceToNat, Nat.reduceSub, Nat.reduceDiv, Int.reduceNeg, Int.reduceAdd, Int.reduceSub, Int.reduceMul, Heap.gets, Heap.sets, Heap.get, bytesA_length, bytesA_one, bytesA_plains, List.take_of_length_le, List.drop_of_length_le, Nat.add_zero, V.one, Nat.reduceLeDiff, List.all_cons, List.all_nil, ne_eq, not_false_eq_true, Nat.zero_le, eRight_5, c0]; rfl) ?_ | refine To.nop hxE5 ?_ | (refine To.condT hxE5 ?_ ?_; focus (simp only [go_sem, eqs hxE5, reduceIte, Nat.reduceEqDiff, Nat.reduceAdd, Nat.reduceMul, Nat.reduceLT, Nat.reduceLeDiff, Int.reduceLT, Int.reduceLE, Int.reduceEq, reduceCtorEq, Int.reduceBEq, Int.reduceBNe, Int.reduceToNat, Nat.reduceSub, Nat.reduceDiv, Int.reduceNeg, Int.reduceAdd, Int.reduceSub, Int.reduceMul, Heap.gets, Heap.sets, Heap.get, bytesA_length, bytesA_one, bytesA_plains, List.take_of_length_le, List.drop_of_length_le, Nat.add_zero, V.one, Nat.reduceLeDiff, List.all_cons, List.all_nil, ne_eq, not_false_eq_true, Nat.zero_le, eRight_5, c0]; done)) | (refine To.condF hxE5 ?_ ?_; focus (simp only [go_sem, eqs hxE5, reduceIte, Nat.reduceEqDiff, Nat.reduceAdd, Nat.reduceMul, Nat.reduceLT, Nat.reduceLeDiff, Int.reduceLT, Int.reduceLE, Int.reduceEq, reduceCtorEq, Int.reduceBEq, Int.reduceBNe, Int.reduceToNat, Nat.reduceSub, Nat.reduceDiv, Int.reduceNeg, Int.reduceAdd, Int.reduceSub, Int.reduceMul, Heap.gets, Heap.sets, Heap.get, bytesA_length, bytesA_one, bytesA_plains, List.take_of_length_le, List.drop_of_length_le, Nat.add_zero, V.one, Nat.reduceLeDiff, List.all_cons, List.all_nil, ne_eq, not_false_eq_true, Nat.zero_le, eRight_5, c0]; done)) | refine To.block hxE5 ?_ | refine To.scope hxE5 ?_ | refine To.ret hxE5 ?_ | refine To.exit hxE5 ?_ | refine To.skip hxE5 ?_ | refine To.label hxE5 ?_))
    refine ⟨_, _, fin2 (i := 2) (j := 3) rfl, ?_, ?_⟩
    · simp only [go_sem, eqs hxE5, reduceIte, Nat.reduceEqDiff, Nat.reduceAdd, Nat.reduceMul, Nat.reduceLT, Nat.reduceLeDiff, Int.reduceLT, Int.reduceLE, Int.reduceEq, reduceCtorEq, Int.reduceBEq, Int.reduceBNe, Int.reduceToNat, Nat.reduceSub, Nat.reduceDiv, Int.reduceNeg, Int.reduceAdd, Int.reduceSub, Int.reduceMul]
    · simp only [go_sem, eqs hxE5, reduceIte, Nat.reduceEqDiff, Nat.reduceAdd, Nat.reduceMul, Nat.reduceLT, Nat.reduceLeDiff, Int.reduceLT, Int.reduceLE, Int.reduceEq, reduceCtorEq, Int.reduceBEq, Int.reduceBNe, Int.reduceToNat, Nat.reduceSub, Nat.reduceDiv, Int.reduceNeg, Int.reduceAdd, Int.reduceSub, Int.reduceMul]
  have hR := rightIs c0
  obtain ⟨a1, a2, a3, a4, a5, a6, a7, a8, a9, a10, a11, a12, a13, a14⟩ := rightIs c0
  have hW0 : Wr [.cells .ex 23 0 [.int .i64 id, .int .i64 op, .int .i64 ino, .int .i64 oth, .int .i64 n, .int .i64 m, .str nm, .str tx], .cells .ex 105 0 [.nilp, .nils]] 1 [] := ⟨.nilp, .nils, rfl, .inl rfl, .inl ⟨rfl, rfl⟩⟩
  obtain ⟨r1, oh1, q1, rfl, o1, e1, d1, rfl, hW1, hO1, he1⟩ := bytes_den (e := 0) (d := 0) (n := 1) 1 (sz := 1) rfl hW0 (by simp) (by decide) (by decide)
  obtain ⟨r2, oh2, q2, rfl, o2, e2, d2, rfl, hW2, hO2, he2⟩ := bytes_den (e := e1) (d := d1) (n := op) 1 (sz := 1) rfl hW1 (by simp [tobeI_length]) (by decide) (by decide)
  have b1 := hO1.2 0 _ _ _ _ (by decide) rfl (by decide)
  have b2 := hO2.2 0 _ _ _ _ (by decide) b1 (by decide)
  obtain ⟨r3, oh3, q3, rfl, o3, e3, d3, rfl, hW3, hO3, he3⟩ := numsw_den (e := e2) (d := d2) (x := o2.length) (l := [id, ino, oth, n, m]) (hW2.app [.cells .ex 3 0 [.int .i64 id, .int .i64 ino, .int .i64 oth, .int .i64 n, .int .i64 m]]) (by simp [tobeI_length]) (by simp) (by simp) (by rw [app_get0]; rfl)
  simp only [List.length_cons, List.length_nil, Nat.zero_add, Nat.reduceAdd] at q3
  have b3 := hO3.2 0 _ _ _ _ (by decide) (app_old b2 _) (by decide)
  obtain ⟨r4, oh4, q4, rfl, o4, e4, d4, rfl, hW4, hO4, he4⟩ := textw_den (e := e3) (d := d3) (s := nm) hW3 (by simp [tobeI_length, numsB_len]) (by omega)
  have b4 := hO4.2 0 _ _ _ _ (by decide) b3 (by decide)
  obtain ⟨r5, oh5, q5, rfl, o5, e5, d5, rfl, hW5, hO5, he5⟩ := textw_den (e := e4) (d := d4) (s := tx) hW4 (by simp [tobeI_length, numsB_len]; omega) (by omega)
  rw [reqB_eq hR] at hW5
  obtain ⟨r6, oh6, q6, rfl, o6, e6, d6, rfl⟩ := string_den (e := e5) (d := d5) hW5 (by simp [reqB, bigF, tobe]) (by simp [reqB, bigF_length, textB_length]; omega)
  (repeat' (first | refine To.seq hxE5 ?_ | refine To.op0 hxE5 (by simp only [go_sem, eqs hxE5, reduceIte, Nat.reduceEqDiff, Nat.reduceAdd, Nat.reduceMul, Nat.reduceLT, Nat.reduceLeDiff, Int.reduceLT, Int.reduceLE, Int.reduceEq, reduceCtorEq, Int.reduceBEq, Int.reduceBNe, Int.reduceToNat, Nat.reduceSub, Nat.reduceDiv, Int.reduceNeg, Int.reduceAdd, Int.reduceSub, Int.reduceMul, Heap.gets, Heap.sets, Heap.get, bytesA_length, bytesA_one, bytesA_plains, List.take_of_length_le, List.drop_of_length_le, Nat.add_zero, V.one, Nat.reduceLeDiff, List.all_cons, List.all_nil, ne_eq, not_false_eq_true, Nat.zero_le, eRight_5, c0, q1, q2, q3, q4, q5, q6, b1, b2, b3, b4]; rfl) ?_ | refine To.op1 hxE5 (by simp only [go_sem, eqs hxE5, reduceIte, Nat.reduceEqDiff, Nat.reduceAdd, Nat.reduceMul, Nat.reduceLT, Nat.reduceLeDiff, Int.reduceLT, Int.reduceLE, Int.reduceEq, reduceCtorEq, Int.reduceBEq, Int.reduceBNe, Int.reduceToNat, Nat.reduceSub, Nat.reduceDiv, Int.reduceNeg, Int.reduceAdd, Int.reduceSub, Int.reduceMul, Heap.gets, Heap.sets, Heap.get, bytesA_length, bytesA_one, bytesA_plains, List.take_of_length_le, List.drop_of_length_le, Nat.add_zero, V.one, Nat.reduceLeDiff, List.all_cons, List.all_nil, ne_eq, not_false_eq_true, Nat.zero_le, eRight_5, c0, q1, q2, q3, q4, q5, q6, b1, b2, b3, b4]; rfl) ?_ | refine To.nop hxE5 ?_ | (refine To.condT hxE5 ?_ ?_; focus (simp only [go_sem, eqs hxE5, reduceIte, Nat.reduceEqDiff, Nat.reduceAdd, Nat.reduceMul, Nat.reduceLT, Nat.reduceLeDiff, Int.reduceLT, Int.reduceLE, Int.reduceEq, reduceCtorEq, Int.reduceBEq, Int.reduceBNe, Int.reduceToNat, Nat.reduceSub, Nat.reduceDiv, Int.reduceNeg, Int.reduceAdd, Int.reduceSub, Int.reduceMul, Heap.gets, Heap.sets, Heap.get, bytesA_length, bytesA_one, bytesA_plains, List.take_of_length_le, List.drop_of_length_le, Nat.add_zero, V.one, Nat.reduceLeDiff, List.all_cons, List.all_nil, ne_eq, not_false_eq_true, Nat.zero_le, eRight_5, c0, q1, q2, q3, q4, q5, q6, b1, b2, b3, b4]; done)) | (refine To.condF hxE5 ?_ ?_; focus (simp only [go_sem, eqs hxE5, reduceIte, Nat.reduceEqDiff, Nat.reduceAdd, Nat.reduceMul, Nat.reduceLT, Nat.reduceLeDiff, Int.reduceLT, Int.reduceLE, Int.reduceEq, reduceCtorEq, Int.reduceBEq, Int.reduceBNe, Int.reduceToNat, Nat.reduceSub, Nat.reduceDiv, Int.reduceNeg, Int.reduceAdd, Int.reduceSub, Int.reduceMul, Heap.gets, Heap.sets, Heap.get, bytesA_length, bytesA_one, bytesA_plains, List.take_of_length_le, List.drop_of_length_le, Nat.add_zero, V.one, Nat.reduceLeDiff, List.all_cons, List.all_nil, ne_eq, not_false_eq_true, Nat.zero_le, eRight_5, c0, q1, q2, q3, q4, q5, q6, b1, b2, b3, b4]; done)) | refine To.block hxE5 ?_ | refine To.scope hxE5 ?_ | refine To.ret hxE5 ?_ | refine To.exit hxE5 ?_ | refine To.skip hxE5 ?_ | refine To.label hxE5 ?_))
  refine ⟨_, _, fin2 (i := 2) (j := 3) rfl, ?_, ?_⟩
  · rw [if_pos rfl]; simp only [go_sem, eqs hxE5, reduceIte, Nat.reduceEqDiff, Nat.reduceAdd, Nat.reduceMul, Nat.reduceLT, Nat.reduceLeDiff, Int.reduceLT, Int.reduceLE, Int.reduceEq, reduceCtorEq, Int.reduceBEq, Int.reduceBNe, Int.reduceToNat, Nat.reduceSub, Nat.reduceDiv, Int.reduceNeg, Int.reduceAdd, Int.reduceSub, Int.reduceMul]
  · simp only [go_sem, eqs hxE5, reduceIte, Nat.reduceEqDiff, Nat.reduceAdd, Nat.reduceMul, Nat.reduceLT, Nat.reduceLeDiff, Int.reduceLT, Int.reduceLE, Int.reduceEq, reduceCtorEq, Int.reduceBEq, Int.reduceBNe, Int.reduceToNat, Nat.reduceSub, Nat.reduceDiv, Int.reduceNeg, Int.reduceAdd, Int.reduceSub, Int.reduceMul]
end Go.Proofs.Ytjbblfoefibeaaa

/- Wire: what a reader reads. -/
namespace Go.Proofs.Ytjbblfoefibeaaa
open Go AM
set_option linter.unusedSimpArgs false
set_option linter.unusedVariables false
set_option maxRecDepth 100000

def rdO (s : List UInt8) (b : Bool) : AM.Obj := .cells .ex 114 0 [.str s, .bool b]
def takeBad (n : Nat) (s : List UInt8) (b : Bool) : Bool := b || decide (s.length < n)
def takeT (n : Nat) (s : List UInt8) (b : Bool) : List UInt8 := if takeBad n s b = true then [] else s.take n
def takeR (n : Nat) (s : List UInt8) (b : Bool) : List UInt8 := if takeBad n s b = true then s else s.drop n

set_option maxHeartbeats 2000000 in
theorem take_den {o : List AM.Obj} {e d a n : Nat} {s : List UInt8} {b : Bool} (ho : o[a]? = some (rdO s b)) (hn : n ≤ 1000000) (hs : s.length ≤ 1000000) :
    ∃ r oh, Den FF E5 78 [.ptr a 0, .int .i64 (n : Int)] ⟨o, e, d⟩ = some (r, oh) ∧ r = .val (.str (takeT n s b)) ∧ ∃ d', oh = some ⟨o.set a (rdO (takeR n s b) (takeBad n s b)), e, d'⟩ ∧ d' ≤ a := by
  refine To.denE hxE5 (f := 78) (a := af78) rfl (E5_none rfl) (Nat.le_of_ble_eq_true rfl) ?_
  have hl := get_lt ho
  unfold rdO at *
  have hlt : decide ((s.length : Int) < (n : Int)) = decide (s.length < n) := decide_eq_decide.2 (by omega)
  cases b
  · cases c : decide (s.length < n)
    · have hc : ¬ s.length < n := of_decide_eq_false c
      have b1 : boundsA s.length s.length none (some (.int .i64 (n : Int))) = some (0, n) := by
        simp only [boundsA, hiB, loB]
        rw [if_pos (by omega)]
        simp
      have b2 : boundsA s.length s.length (some (.int .i64 (n : Int))) none = some (n, s.length) := by
        simp only [boundsA, hiB, loB]
        rw [if_pos (by omega)]
        simp
      (repeat' (first | refine To.seq hxE5 ?_ | refine To.op0 hxE5 (by simp only [go_sem, eqs hxE5, reduceIte, Nat.reduceEqDiff, Nat.reduceAdd, Nat.reduceMul, Nat.reduceLT, Nat.reduceLeDiff, Int.reduceLT, Int.reduceLE, Int.reduceEq, reduceCtorEq, Int.reduceBEq, Int.reduceBNe, Int.reduceToNat, Nat.reduceSub, Nat.reduceDiv, Int.reduceNeg, Int.reduceAdd, Int.reduceSub, Int.reduceMul, Heap.gets, Heap.sets, Heap.get, bytesA_length, bytesA_one, bytesA_plains, List.take_of_length_le, List.drop_of_length_le, Nat.add_zero, V.one, Nat.reduceLeDiff, List.all_cons, List.all_nil, ne_eq, not_false_eq_true, Nat.zero_le, ho, hlt, c, b1, b2]; rfl) ?_ | refine To.op1 hxE5 (by simp only [go_sem, eqs hxE5, reduceIte, Nat.reduceEqDiff, Nat.reduceAdd, Nat.reduceMul, Nat.reduceLT, Nat.reduceLeDiff, Int.reduceLT, Int.reduceLE, Int.reduceEq, reduceCtorEq, Int.reduceBEq, Int.reduceBNe, Int.reduceToNat, Nat.reduceSub, Nat.reduceDiv, Int.reduceNeg, Int.reduceAdd, Int.reduceSub, Int.reduceMul, Heap.gets, Heap.sets, Heap.get, bytesA_length, bytesA_one, bytesA_plains, List.take_of_length_le, List.drop_of_length_le, Nat.add_zero, V.one, Nat.reduceLeDiff, List.all_cons, List.all_nil, ne_eq, not_false_eq_true, Nat.zero_le, ho, hlt, c, b1, b2]; rfl) ?_ | refine To.nop hxE5 ?_ | (refine To.condT hxE5 ?_ ?_; focus (simp only [go_sem, eqs hxE5, reduceIte, Nat.reduceEqDiff, Nat.reduceAdd, Nat.reduceMul, Nat.reduceLT, Nat.reduceLeDiff, Int.reduceLT, Int.reduceLE, Int.reduceEq, reduceCtorEq, Int.reduceBEq, Int.reduceBNe, Int.reduceToNat, Nat.reduceSub, Nat.reduceDiv, Int.reduceNeg, Int.reduceAdd, Int.reduceSub, Int.reduceMul, Heap.gets, Heap.sets, Heap.get, bytesA_length, bytesA_one, bytesA_plains, List.take_of_length_le, List.drop_of_length_le, Nat.add_zero, V.one, Nat.reduceLeDiff, List.all_cons, List.all_nil, ne_eq, not_false_eq_true, Nat.zero_le, ho, hlt, c, b1, b2]; done)) | (refine To.condF hxE5 ?_ ?_; focus (simp only [go_sem, eqs hxE5, reduceIte, Nat.reduceEqDiff, Nat.reduceAdd, Nat.reduceMul, Nat.reduceLT, Nat.reduceLeDiff, Int.reduceLT, Int.reduceLE, Int.reduceEq, reduceCtorEq, Int.reduceBEq, Int.reduceBNe, Int.reduceToNat, Nat.reduceSub, Nat.reduceDiv, Int.reduceNeg, Int.reduceAdd, Int.reduceSub, Int.reduceMul, Heap.gets, Heap.sets, Heap.get, bytesA_length, bytesA_one, bytesA_plains, List.take_of_length_le, List.drop_of_length_le, Nat.add_zero, V.one, Nat.reduceLeDiff, List.all_cons, List.all_nil, ne_eq, not_false_eq_true, Nat.zero_le, ho, hlt, c, b1, b2]; done)) | refine To.block hxE5 ?_ | refine To.scope hxE5 ?_ | refine To.ret hxE5 ?_ | refine To.exit hxE5 ?_ | refine To.skip hxE5 ?_ | refine To.label hxE5 ?_))
      refine ⟨_, _, fin1 (i := 4) rfl, ?_, ?_⟩
      · simp only [go_sem, eqs hxE5, reduceIte, Nat.reduceEqDiff, Nat.reduceAdd, Nat.reduceMul, Nat.reduceLT, Nat.reduceLeDiff, Int.reduceLT, Int.reduceLE, Int.reduceEq, reduceCtorEq, Int.reduceBEq, Int.reduceBNe, Int.reduceToNat, Nat.reduceSub, Nat.reduceDiv, Int.reduceNeg, Int.reduceAdd, Int.reduceSub, Int.reduceMul, takeT, takeBad, c, Bool.false_or, List.drop_zero]
      · simp only [go_sem, eqs hxE5, reduceIte, Nat.reduceEqDiff, Nat.reduceAdd, Nat.reduceMul, Nat.reduceLT, Nat.reduceLeDiff, Int.reduceLT, Int.reduceLE, Int.reduceEq, reduceCtorEq, Int.reduceBEq, Int.reduceBNe, Int.reduceToNat, Nat.reduceSub, Nat.reduceDiv, Int.reduceNeg, Int.reduceAdd, Int.reduceSub, Int.reduceMul, takeR, takeBad, c, Bool.false_or, List.drop_zero, List.take_length]
        rw [if_neg (by omega), List.take_of_length_le (by simp)]; exact ⟨_, rfl, by omega⟩
    · (repeat' (first | refine To.seq hxE5 ?_ | refine To.op0 hxE5 (by simp only [go_sem, eqs hxE5, reduceIte, Nat.reduceEqDiff, Nat.reduceAdd, Nat.reduceMul, Nat.reduceLT, Nat.reduceLeDiff, Int.reduceLT, Int.reduceLE, Int.reduceEq, reduceCtorEq, Int.reduceBEq, Int.reduceBNe, Int.reduceToNat, Nat.reduceSub, Nat.reduceDiv, Int.reduceNeg, Int.reduceAdd, Int.reduceSub, Int.reduceMul, Heap.gets, Heap.sets, Heap.get, bytesA_length, bytesA_one, bytesA_plains, List.take_of_length_le, List.drop_of_length_le, Nat.add_zero, V.one, Nat.reduceLeDiff, List.all_cons, List.all_nil, ne_eq, not_false_eq_true, Nat.zero_le, ho, hlt, c]; rfl) ?_ | refine To.op1 hxE5 (by simp only [go_sem, eqs hxE5, reduceIte, Nat.reduceEqDiff, Nat.reduceAdd, Nat.reduceMul, Nat.reduceLT, Nat.reduceLeDiff, Int.reduceLT, Int.reduceLE, Int.reduceEq, reduceCtorEq, Int.reduceBEq, Int.reduceBNe, Int.reduceToNat, Nat.reduceSub, Nat.reduceDiv, Int.reduceNeg, Int.reduceAdd, Int.reduceSub, Int.reduceMul, Heap.gets, Heap.sets, Heap.get, bytesA_length, bytesA_one, bytesA_plains, List.take_of_length_le, List.drop_of_length_le, Nat.add_zero, V.one, Nat.reduceLeDiff, List.all_cons, List.all_nil, ne_eq, not_false_eq_true, Nat.zero_le, ho, hlt, c]; rfl) ?_ | refine To.nop hxE5 ?_ | (refine To.condT hxE5 ?_ ?_; focus (simp only [go_sem, eqs hxE5, reduceIte, Nat.reduceEqDiff, Nat.reduceAdd, Nat.reduceMul, Nat.reduceLT, Nat.reduceLeDiff, Int.reduceLT, Int.reduceLE, Int.reduceEq, reduceCtorEq, Int.reduceBEq, Int.reduceBNe, Int.reduceToNat, Nat.reduceSub, Nat.reduceDiv, Int.reduceNeg, Int.reduceAdd, Int.reduceSub, Int.reduceMul, Heap.gets, Heap.sets, Heap.get, bytesA_length, bytesA_one, bytesA_plains, List.take_of_length_le, List.drop_of_length_le, Nat.add_zero, V.one, Nat.reduceLeDiff, List.all_cons, List.all_nil, ne_eq, not_false_eq_true, Nat.zero_le, ho, hlt, c]; done)) | (refine To.condF hxE5 ?_ ?_; focus (simp only [go_sem, eqs hxE5, reduceIte, Nat.reduceEqDiff, Nat.reduceAdd, Nat.reduceMul, Nat.reduceLT, Nat.reduceLeDiff, Int.reduceLT, Int.reduceLE, Int.reduceEq, reduceCtorEq, Int.reduceBEq, Int.reduceBNe, Int.reduceToNat, Nat.reduceSub, Nat.reduceDiv, Int.reduceNeg, Int.reduceAdd, Int.reduceSub, Int.reduceMul, Heap.gets, Heap.sets, Heap.get, bytesA_length, bytesA_one, bytesA_plains, List.take_of_length_le, List.drop_of_length_le, Nat.add_zero, V.one, Nat.reduceLeDiff, List.all_cons, List.all_nil, ne_eq, not_false_eq_true, Nat.zero_le, ho, hlt, c]; done)) | refine To.block hxE5 ?_ | refine To.scope hxE5 ?_ | refine To.ret hxE5 ?_ | refine To.exit hxE5 ?_ | refine To.skip hxE5 ?_ | refine To.label hxE5 ?_))
      refine ⟨_, _, fin1 (i := 4) rfl, ?_, ?_⟩
      · simp only [go_sem, eqs hxE5, reduceIte, Nat.reduceEqDiff, Nat.reduceAdd, Nat.reduceMul, Nat.reduceLT, Nat.reduceLeDiff, Int.reduceLT, Int.reduceLE, Int.reduceEq, reduceCtorEq, Int.reduceBEq, Int.reduceBNe, Int.reduceToNat, Nat.reduceSub, Nat.reduceDiv, Int.reduceNeg, Int.reduceAdd, Int.reduceSub, Int.reduceMul, takeT, takeBad, c, Bool.false_or]
      · simp only [go_sem, eqs hxE5, reduceIte, Nat.reduceEqDiff, Nat.reduceAdd, Nat.reduceMul, Nat.reduceLT, Nat.reduceLeDiff, Int.reduceLT, Int.reduceLE, Int.reduceEq, reduceCtorEq, Int.reduceBEq, Int.reduceBNe, Int.reduceToNat, Nat.reduceSub, Nat.reduceDiv, Int.reduceNeg, Int.reduceAdd, Int.reduceSub, Int.reduceMul, takeR, takeBad, c, Bool.false_or]
        rw [if_neg (by omega), List.take_of_length_le (by simp)]; exact ⟨_, rfl, by omega⟩
  · (repeat' (first | refine To.seq hxE5 ?_ | refine To.op0 hxE5 (by simp only [go_sem, eqs hxE5, reduceIte, Nat.reduceEqDiff, Nat.reduceAdd, Nat.reduceMul, Nat.reduceLT, Nat.reduceLeDiff, Int.reduceLT, Int.reduceLE, Int.reduceEq, reduceCtorEq, Int.reduceBEq, Int.reduceBNe, Int.reduceToNat, Nat.reduceSub, Nat.reduceDiv, Int.reduceNeg, Int.reduceAdd, Int.reduceSub, Int.reduceMul, Heap.gets, Heap.sets, Heap.get, bytesA_length, bytesA_one, bytesA_plains, List.take_of_length_le, List.drop_of_length_le, Nat.add_zero, V.one, Nat.reduceLeDiff, List.all_cons, List.all_nil, ne_eq, not_false_eq_true, Nat.zero_le, ho, hlt]; rfl) ?_ | refine To.op1 hxE5 (by simp only [go_sem, eqs hxE5, reduceIte, Nat.reduceEqDiff, Nat.reduceAdd, Nat.reduceMul, Nat.reduceLT, Nat.reduceLeDiff, Int.reduceLT, Int.reduceLE, Int.reduceEq, reduceCtorEq, Int.reduceBEq, Int.reduceBNe, Int.reduceToNat, Nat.reduceSub, Nat.reduceDiv, Int.reduceNeg, Int.reduceAdd, Int.reduceSub, Int.reduceMul, Heap.gets, Heap.sets, Heap.get, bytesA_length, bytesA_one, bytesA_plains, List.take_of_length_le, List.drop_of_length_le, Nat.add_zero, V.one, Nat.reduceLeDiff, List.all_cons, List.all_nil, ne_eq, not_false_eq_true, Nat.zero_le, ho, hlt]; rfl) ?_ | refine To.nop hxE5 ?_ | (refine To.condT hxE5 ?_ ?_; focus (simp only [go_sem, eqs hxE5, reduceIte, Nat.reduceEqDiff, Nat.reduceAdd, Nat.reduceMul, Nat.reduceLT, Nat.reduceLeDiff, Int.reduceLT, Int.reduceLE, Int.reduceEq, reduceCtorEq, Int.reduceBEq, Int.reduceBNe, Int.reduceToNat, Nat.reduceSub, Nat.reduceDiv, Int.reduceNeg, Int.reduceAdd, Int.reduceSub, Int.reduceMul, Heap.gets, Heap.sets, Heap.get, bytesA_length, bytesA_one, bytesA_plains, List.take_of_length_le, List.drop_of_length_le, Nat.add_zero, V.one, Nat.reduceLeDiff, List.all_cons, List.all_nil, ne_eq, not_false_eq_true, Nat.zero_le, ho, hlt]; done)) | (refine To.condF hxE5 ?_ ?_; focus (simp only [go_sem, eqs hxE5, reduceIte, Nat.reduceEqDiff, Nat.reduceAdd, Nat.reduceMul, Nat.reduceLT, Nat.reduceLeDiff, Int.reduceLT, Int.reduceLE, Int.reduceEq, reduceCtorEq, Int.reduceBEq, Int.reduceBNe, Int.reduceToNat, Nat.reduceSub, Nat.reduceDiv, Int.reduceNeg, Int.reduceAdd, Int.reduceSub, Int.reduceMul, Heap.gets, Heap.sets, Heap.get, bytesA_length, bytesA_one, bytesA_plains, List.take_of_length_le, List.drop_of_length_le, Nat.add_zero, V.one, Nat.reduceLeDiff, List.all_cons, List.all_nil, ne_eq, not_false_eq_true, Nat.zero_le, ho, hlt]; done)) | refine To.block hxE5 ?_ | refine To.scope hxE5 ?_ | refine To.ret hxE5 ?_ | refine To.exit hxE5 ?_ | refine To.skip hxE5 ?_ | refine To.label hxE5 ?_))
    refine ⟨_, _, fin1 (i := 4) rfl, ?_, ?_⟩
    · simp only [go_sem, eqs hxE5, reduceIte, Nat.reduceEqDiff, Nat.reduceAdd, Nat.reduceMul, Nat.reduceLT, Nat.reduceLeDiff, Int.reduceLT, Int.reduceLE, Int.reduceEq, reduceCtorEq, Int.reduceBEq, Int.reduceBNe, Int.reduceToNat, Nat.reduceSub, Nat.reduceDiv, Int.reduceNeg, Int.reduceAdd, Int.reduceSub, Int.reduceMul, takeT, takeBad, Bool.true_or]
    · simp only [go_sem, eqs hxE5, reduceIte, Nat.reduceEqDiff, Nat.reduceAdd, Nat.reduceMul, Nat.reduceLT, Nat.reduceLeDiff, Int.reduceLT, Int.reduceLE, Int.reduceEq, reduceCtorEq, Int.reduceBEq, Int.reduceBNe, Int.reduceToNat, Nat.reduceSub, Nat.reduceDiv, Int.reduceNeg, Int.reduceAdd, Int.reduceSub, Int.reduceMul, takeR, takeBad, Bool.true_or]
      rw [if_neg (by omega), List.take_of_length_le (by simp)]; exact ⟨_, rfl, by omega⟩
end Go.Proofs.Ytjbblfoefibeaaa

/- Wire: the numbers that a reader reads. -/
namespace Go.Proofs.Ytjbblfoefibeaaa
open Go AM
set_option linter.unusedSimpArgs false
set_option linter.unusedVariables false
set_option maxRecDepth 100000

theorem takeT_length {n : Nat} {s : List UInt8} {b : Bool} : (takeT n s b).length ≤ n := by
  unfold takeT; split
  · simp
  · rw [List.length_take]; omega

set_option maxHeartbeats 4000000 in
theorem rnum_den {o : List AM.Obj} {e d a n : Nat} {z : Int} {s : List UInt8} {b : Bool} (hz : z = (n : Int)) (ho : o[a]? = some (rdO s b)) (hn : n ≤ 4) (hs : s.length ≤ 1000000) :
    ∃ r oh, Den FF E5 56 [.ptr a 0, .int .i64 z] ⟨o, e, d⟩ = some (r, oh) ∧ r = .val (.int .i64 ((be (takeT n s b) : Nat) : Int)) ∧ ∃ d', oh = some ⟨o.set a (rdO (takeR n s b) (takeBad n s b)), e, d'⟩ ∧ d' ≤ a := by
  subst hz
  refine To.denE hxE5 (f := 56) (a := af56) rfl (E5_none rfl) (Nat.le_of_ble_eq_true rfl) ?_
  obtain ⟨r, oh, q, rfl, d1, rfl, hd1⟩ := take_den (n := n) (e := o.length) (d := o.length) ho (by omega) hs
  have hl := get_lt ho
  have hT := takeT_length (n := n) (s := s) (b := b)
  (repeat' (first | refine To.seq hxE5 ?_ | refine To.op0 hxE5 (by simp only [go_sem, eqs hxE5, reduceIte, Nat.reduceEqDiff, Nat.reduceAdd, Nat.reduceMul, Nat.reduceLT, Nat.reduceLeDiff, Int.reduceLT, Int.reduceLE, Int.reduceEq, reduceCtorEq, Int.reduceBEq, Int.reduceBNe, Int.reduceToNat, Nat.reduceSub, Nat.reduceDiv, Int.reduceNeg, Int.reduceAdd, Int.reduceSub, Int.reduceMul, Heap.gets, Heap.sets, Heap.get, bytesA_length, bytesA_one, bytesA_plains, List.take_of_length_le, List.drop_of_length_le, Nat.add_zero, V.one, Nat.reduceLeDiff, List.all_cons, List.all_nil, ne_eq, not_false_eq_true, Nat.zero_le, q]; rfl) ?_ | refine To.op1 hxE5 (by simp only [go_sem, eqs hxE5, reduceIte, Nat.reduceEqDiff, Nat.reduceAdd, Nat.reduceMul, Nat.reduceLT, Nat.reduceLeDiff, Int.reduceLT, Int.reduceLE, Int.reduceEq, reduceCtorEq, Int.reduceBEq, Int.reduceBNe, Int.reduceToNat, Nat.reduceSub, Nat.reduceDiv, Int.reduceNeg, Int.reduceAdd, Int.reduceSub, Int.reduceMul, Heap.gets, Heap.sets, Heap.get, bytesA_length, bytesA_one, bytesA_plains, List.take_of_length_le, List.drop_of_length_le, Nat.add_zero, V.one, Nat.reduceLeDiff, List.all_cons, List.all_nil, ne_eq, not_false_eq_true, Nat.zero_le, q]; rfl) ?_ | refine To.nop hxE5 ?_ | (refine To.condT hxE5 ?_ ?_; focus (simp only [go_sem, eqs hxE5, reduceIte, Nat.reduceEqDiff, Nat.reduceAdd, Nat.reduceMul, Nat.reduceLT, Nat.reduceLeDiff, Int.reduceLT, Int.reduceLE, Int.reduceEq, reduceCtorEq, Int.reduceBEq, Int.reduceBNe, Int.reduceToNat, Nat.reduceSub, Nat.reduceDiv, Int.reduceNeg, Int.reduceAdd, Int.reduceSub, Int.reduceMul, Heap.gets, Heap.sets, Heap.get, bytesA_length, bytesA_one, bytesA_plains, List.take_of_length_le, List.drop_of_length_le, Nat.add_zero, V.one, Nat.reduceLeDiff, List.all_cons, List.all_nil, ne_eq, not_false_eq_true, Nat.zero_le, q]; done)) | (refine To.condF hxE5 ?_ ?_; focus (simp only [go_sem, eqs hxE5, reduceIte, Nat.reduceEqDiff, Nat.reduceAdd, Nat.reduceMul, Nat.reduceLT, Nat.reduceLeDiff, Int.reduceLT, Int.reduceLE, Int.reduceEq, reduceCtorEq, Int.reduceBEq, Int.reduceBNe, Int.reduceToNat, Nat.reduceSub, Nat.reduceDiv, Int.reduceNeg, Int.reduceAdd, Int.reduceSub, Int.reduceMul, Heap.gets, Heap.sets, Heap.get, bytesA_length, bytesA_one, bytesA_plains, List.take_of_length_le, List.drop_of_length_le, Nat.add_zero, V.one, Nat.reduceLeDiff, List.all_cons, List.all_nil, ne_eq, not_false_eq_true, Nat.zero_le, q]; done)) | refine To.block hxE5 ?_ | refine To.scope hxE5 ?_ | refine To.ret hxE5 ?_ | refine To.exit hxE5 ?_ | refine To.skip hxE5 ?_ | refine To.label hxE5 ?_))
  generalize takeT n s b = T at *
  generalize (rdO (takeR n s b) (takeBad n s b)) = X at *
  have hO : (o.set a X).length = o.length := by simp
  refine To.loop hxE5 (fun k S h' => ∃ i, i + k = T.length ∧ h' = ⟨o.set a X ++ [.cells .gr 5 0 (bytesA T)], o.length, d1⟩ ∧ S 5 = .int .i64 ((be (T.take i) : Nat) : Int) ∧ S 11 = .slice (o.set a X).length 0 T.length 1 ∧ S 12 = .int .i64 (T.length : Int) ∧ S 13 = .int .i64 (i : Int)) ?_ T.length _ _ ?_
  · rintro k S _ ⟨i, hk, rfl, s5, s11, s12, s13⟩
    by_cases hi : i < T.length
    · have hlt : decide ((i : Int) < (T.length : Int)) = true := by simp; omega
      obtain ⟨c, hc⟩ : ∃ c, T[i]? = some c := ⟨T[i], List.getElem?_eq_getElem hi⟩
      have hix : idxOf T.length (.int .i64 (i : Int)) = some i := idxOf_nat hi
      have g1 : ∀ e d, (⟨o.set a X ++ [.cells .gr 5 0 (bytesA T)], e, d⟩ : Heap).get (o.set a X).length i = some (.int .u8 (c.toNat : Int)) := fun e d => by
        simp only [Heap.get, app_get0, bytesA_get, hc, Option.map_some]
      have w1 : IntKind.i64.wrap ((i : Int) + 1) = ((i + 1 : Nat) : Int) := by rw [wrap_i64 (by omega) (by omega)]; omega
      have hbl : be (T.take i) < 256 ^ i := by
        have := be_lt (T.take i)
        rwa [List.length_take, Nat.min_eq_left (by omega)] at this
      have hpw : 256 ^ i ≤ 256 ^ 3 := Nat.pow_le_pow_right (by decide) (by omega)
      have e3 : (256 : Nat) ^ 3 = 16777216 := by decide
      have hc256 := c.toNat_lt
      have hsh := shl8_i (x := be (T.take i)) (by omega)
      have hor := or_add_i (a := be (T.take i)) (c := c.toNat) hc256 (by omega)
      have hw := wrap_i64 (n := (c.toNat : Int)) (by omega) (by omega)
      have htk : T.take (i + 1) = T.take i ++ [c] := by rw [List.take_add_one, hc]; rfl
      (repeat' (first | refine To.seq hxE5 ?_ | refine To.op0 hxE5 (by simp only [go_sem, eqs hxE5, reduceIte, Nat.reduceEqDiff, Nat.reduceAdd, Nat.reduceMul, Nat.reduceLT, Nat.reduceLeDiff, Int.reduceLT, Int.reduceLE, Int.reduceEq, reduceCtorEq, Int.reduceBEq, Int.reduceBNe, Int.reduceToNat, Nat.reduceSub, Nat.reduceDiv, Int.reduceNeg, Int.reduceAdd, Int.reduceSub, Int.reduceMul, s5, s11, s12, s13, hlt, hix, g1, Nat.mul_one, hsh, hor, hw, w1]; rfl) ?_ | refine To.op1 hxE5 (by simp only [go_sem, eqs hxE5, reduceIte, Nat.reduceEqDiff, Nat.reduceAdd, Nat.reduceMul, Nat.reduceLT, Nat.reduceLeDiff, Int.reduceLT, Int.reduceLE, Int.reduceEq, reduceCtorEq, Int.reduceBEq, Int.reduceBNe, Int.reduceToNat, Nat.reduceSub, Nat.reduceDiv, Int.reduceNeg, Int.reduceAdd, Int.reduceSub, Int.reduceMul, s5, s11, s12, s13, hlt, hix, g1, Nat.mul_one, hsh, hor, hw, w1]; rfl) ?_ | refine To.nop hxE5 ?_ | (refine To.condT hxE5 ?_ ?_; focus (simp only [go_sem, eqs hxE5, reduceIte, Nat.reduceEqDiff, Nat.reduceAdd, Nat.reduceMul, Nat.reduceLT, Nat.reduceLeDiff, Int.reduceLT, Int.reduceLE, Int.reduceEq, reduceCtorEq, Int.reduceBEq, Int.reduceBNe, Int.reduceToNat, Nat.reduceSub, Nat.reduceDiv, Int.reduceNeg, Int.reduceAdd, Int.reduceSub, Int.reduceMul, s5, s11, s12, s13, hlt, hix, g1, Nat.mul_one, hsh, hor, hw, w1]; done)) | (refine To.condF hxE5 ?_ ?_; focus (simp only [go_sem, eqs hxE5, reduceIte, Nat.reduceEqDiff, Nat.reduceAdd, Nat.reduceMul, Nat.reduceLT, Nat.reduceLeDiff, Int.reduceLT, Int.reduceLE, Int.reduceEq, reduceCtorEq, Int.reduceBEq, Int.reduceBNe, Int.reduceToNat, Nat.reduceSub, Nat.reduceDiv, Int.reduceNeg, Int.reduceAdd, Int.reduceSub, Int.reduceMul, s5, s11, s12, s13, hlt, hix, g1, Nat.mul_one, hsh, hor, hw, w1]; done)) | refine To.block hxE5 ?_ | refine To.scope hxE5 ?_ | refine To.ret hxE5 ?_ | refine To.exit hxE5 ?_ | refine To.skip hxE5 ?_ | refine To.label hxE5 ?_))
      try simp only [andThen, outOf]
      refine ⟨k - 1, by omega, i + 1, by omega, by first | rfl | trivial, ?_⟩
      rw [htk, be_snoc]
      simp only [go_sem, eqs hxE5, reduceIte, Nat.reduceEqDiff, Nat.reduceAdd, Nat.reduceMul, Nat.reduceLT, Nat.reduceLeDiff, Int.reduceLT, Int.reduceLE, Int.reduceEq, reduceCtorEq, Int.reduceBEq, Int.reduceBNe, Int.reduceToNat, Nat.reduceSub, Nat.reduceDiv, Int.reduceNeg, Int.reduceAdd, Int.reduceSub, Int.reduceMul, s11, s12]
    · have hlt : decide ((i : Int) < (T.length : Int)) = false := by simp; omega
      have hT2 : T.take i = T := List.take_of_length_le (by omega)
      rw [hT2] at s5
      (repeat' (first | refine To.seq hxE5 ?_ | refine To.op0 hxE5 (by simp only [go_sem, eqs hxE5, reduceIte, Nat.reduceEqDiff, Nat.reduceAdd, Nat.reduceMul, Nat.reduceLT, Nat.reduceLeDiff, Int.reduceLT, Int.reduceLE, Int.reduceEq, reduceCtorEq, Int.reduceBEq, Int.reduceBNe, Int.reduceToNat, Nat.reduceSub, Nat.reduceDiv, Int.reduceNeg, Int.reduceAdd, Int.reduceSub, Int.reduceMul, s5, s11, s12, s13, hlt]; rfl) ?_ | refine To.op1 hxE5 (by simp only [go_sem, eqs hxE5, reduceIte, Nat.reduceEqDiff, Nat.reduceAdd, Nat.reduceMul, Nat.reduceLT, Nat.reduceLeDiff, Int.reduceLT, Int.reduceLE, Int.reduceEq, reduceCtorEq, Int.reduceBEq, Int.reduceBNe, Int.reduceToNat, Nat.reduceSub, Nat.reduceDiv, Int.reduceNeg, Int.reduceAdd, Int.reduceSub, Int.reduceMul, s5, s11, s12, s13, hlt]; rfl) ?_ | refine To.nop hxE5 ?_ | (refine To.condT hxE5 ?_ ?_; focus (simp only [go_sem, eqs hxE5, reduceIte, Nat.reduceEqDiff, Nat.reduceAdd, Nat.reduceMul, Nat.reduceLT, Nat.reduceLeDiff, Int.reduceLT, Int.reduceLE, Int.reduceEq, reduceCtorEq, Int.reduceBEq, Int.reduceBNe, Int.reduceToNat, Nat.reduceSub, Nat.reduceDiv, Int.reduceNeg, Int.reduceAdd, Int.reduceSub, Int.reduceMul, s5, s11, s12, s13, hlt]; done)) | (refine To.condF hxE5 ?_ ?_; focus (simp only [go_sem, eqs hxE5, reduceIte, Nat.reduceEqDiff, Nat.reduceAdd, Nat.reduceMul, Nat.reduceLT, Nat.reduceLeDiff, Int.reduceLT, Int.reduceLE, Int.reduceEq, reduceCtorEq, Int.reduceBEq, Int.reduceBNe, Int.reduceToNat, Nat.reduceSub, Nat.reduceDiv, Int.reduceNeg, Int.reduceAdd, Int.reduceSub, Int.reduceMul, s5, s11, s12, s13, hlt]; done)) | refine To.block hxE5 ?_ | refine To.scope hxE5 ?_ | refine To.ret hxE5 ?_ | refine To.exit hxE5 ?_ | refine To.skip hxE5 ?_ | refine To.label hxE5 ?_))
      refine ⟨_, _, fin1 (i := 4) rfl, ?_, ?_⟩
      · simp only [go_sem, eqs hxE5, reduceIte, Nat.reduceEqDiff, Nat.reduceAdd, Nat.reduceMul, Nat.reduceLT, Nat.reduceLeDiff, Int.reduceLT, Int.reduceLE, Int.reduceEq, reduceCtorEq, Int.reduceBEq, Int.reduceBNe, Int.reduceToNat, Nat.reduceSub, Nat.reduceDiv, Int.reduceNeg, Int.reduceAdd, Int.reduceSub, Int.reduceMul, s5]
      · simp only [go_sem, eqs hxE5, reduceIte, Nat.reduceEqDiff, Nat.reduceAdd, Nat.reduceMul, Nat.reduceLT, Nat.reduceLeDiff, Int.reduceLT, Int.reduceLE, Int.reduceEq, reduceCtorEq, Int.reduceBEq, Int.reduceBNe, Int.reduceToNat, Nat.reduceSub, Nat.reduceDiv, Int.reduceNeg, Int.reduceAdd, Int.reduceSub, Int.reduceMul, s5]
        rw [if_neg (by omega), List.take_append_of_le_length (by omega), List.take_of_length_le (by omega)]
        exact ⟨_, rfl, by omega⟩
  · refine ⟨0, by omega, by first | rfl | trivial, ?_⟩
    simp only [go_sem, eqs hxE5, reduceIte, Nat.reduceEqDiff, Nat.reduceAdd, Nat.reduceMul, Nat.reduceLT, Nat.reduceLeDiff, Int.reduceLT, Int.reduceLE, Int.reduceEq, reduceCtorEq, Int.reduceBEq, Int.reduceBNe, Int.reduceToNat, Nat.reduceSub, Nat.reduceDiv, Int.reduceNeg, Int.reduceAdd, Int.reduceSub, Int.reduceMul]
    simp [be]
end Go.Proofs.Ytjbblfoefibeaaa

/- Wire: the texts that a reader reads. -/
namespace Go.Proofs.Ytjbblfoefibeaaa
open Go AM
set_option linter.unusedSimpArgs false
set_option linter.unusedVariables false
set_option maxRecDepth 100000

theorem takeR_length {n : Nat} {s : List UInt8} {b : Bool} : (takeR n s b).length ≤ s.length := by
  unfold takeR; split
  · exact Nat.le_refl _
  · simp
def lenN (s : List UInt8) (b : Bool) : Nat := be (takeT 2 s b)
def textT (s : List UInt8) (b : Bool) : List UInt8 := takeT (lenN s b) (takeR 2 s b) (takeBad 2 s b)
def textR (s : List UInt8) (b : Bool) : List UInt8 := takeR (lenN s b) (takeR 2 s b) (takeBad 2 s b)
def textBad (s : List UInt8) (b : Bool) : Bool := takeBad (lenN s b) (takeR 2 s b) (takeBad 2 s b)
theorem lenN_lt {s : List UInt8} {b : Bool} : lenN s b < 65536 := by
  have h := be_lt (takeT 2 s b)
  have h2 := Nat.pow_le_pow_right (n := 256) (by decide) (takeT_length (n := 2) (s := s) (b := b))
  exact Nat.lt_of_lt_of_le h h2

set_option maxHeartbeats 2000000 in
theorem rtext_den {o : List AM.Obj} {e d a : Nat} {s : List UInt8} {b : Bool} (ho : o[a]? = some (rdO s b)) (hs : s.length ≤ 1000000) :
    ∃ r oh, Den FF E5 58 [.ptr a 0] ⟨o, e, d⟩ = some (r, oh) ∧ r = .val (.str (textT s b)) ∧ ∃ d', oh = some ⟨o.set a (rdO (textR s b) (textBad s b)), e, d'⟩ ∧ d' ≤ a := by
  refine To.denE hxE5 (f := 58) (a := af58) rfl (E5_none rfl) (Nat.le_of_ble_eq_true rfl) ?_
  have hl := get_lt ho
  obtain ⟨r, oh, q, rfl, d1, rfl, hd1⟩ := rnum_den (n := 2) (z := 2) (e := o.length) (d := o.length) rfl ho (by decide) hs
  have ho1 : (o.set a (rdO (takeR 2 s b) (takeBad 2 s b)))[a]? = some (rdO (takeR 2 s b) (takeBad 2 s b)) := by simp [hl]
  have hn := lenN_lt (s := s) (b := b)
  obtain ⟨r2, oh2, q2, rfl, d2, rfl, hd2⟩ := take_den (n := lenN s b) (e := o.length) (d := d1) ho1 (by omega) (Nat.le_trans takeR_length hs)
  rw [List.set_set] at q2
  unfold lenN at q2
  (repeat' (first | refine To.seq hxE5 ?_ | refine To.op0 hxE5 (by simp only [go_sem, eqs hxE5, reduceIte, Nat.reduceEqDiff, Nat.reduceAdd, Nat.reduceMul, Nat.reduceLT, Nat.reduceLeDiff, Int.reduceLT, Int.reduceLE, Int.reduceEq, reduceCtorEq, Int.reduceBEq, Int.reduceBNe, Int.reduceToNat, Nat.reduceSub, Nat.reduceDiv, Int.reduceNeg, Int.reduceAdd, Int.reduceSub, Int.reduceMul, Heap.gets, Heap.sets, Heap.get, bytesA_length, bytesA_one, bytesA_plains, List.take_of_length_le, List.drop_of_length_le, Nat.add_zero, V.one, Nat.reduceLeDiff, List.all_cons, List.all_nil, ne_eq, not_false_eq_true, Nat.zero_le, q, q2]; rfl) ?_ | refine To.op1 hxE5 (by simp only [go_sem, eqs hxE5, reduceIte, Nat.reduceEqDiff, Nat.reduceAdd, Nat.reduceMul, Nat.reduceLT, Nat.reduceLeDiff, Int.reduceLT, Int.reduceLE, Int.reduceEq, reduceCtorEq, Int.reduceBEq, Int.reduceBNe, Int.reduceToNat, Nat.reduceSub, Nat.reduceDiv, Int.reduceNeg, Int.reduceAdd, Int.reduceSub, Int.reduceMul, Heap.gets, Heap.sets, Heap.get, bytesA_length, bytesA_one, bytesA_plains, List.take_of_length_le, List.drop_of_length_le, Nat.add_zero, V.one, Nat.reduceLeDiff, List.all_cons, List.all_nil, ne_eq, not_false_eq_true, Nat.zero_le, q, q2]; rfl) ?_ | refine To.nop hxE5 ?_ | (refine To.condT hxE5 ?_ ?_; focus (simp only [go_sem, eqs hxE5, reduceIte, Nat.reduceEqDiff, Nat.reduceAdd, Nat.reduceMul, Nat.reduceLT, Nat.reduceLeDiff, Int.reduceLT, Int.reduceLE, Int.reduceEq, reduceCtorEq, Int.reduceBEq, Int.reduceBNe, Int.reduceToNat, Nat.reduceSub, Nat.reduceDiv, Int.reduceNeg, Int.reduceAdd, Int.reduceSub, Int.reduceMul, Heap.gets, Heap.sets, Heap.get, bytesA_length, bytesA_one, bytesA_plains, List.take_of_length_le, List.drop_of_length_le, Nat.add_zero, V.one, Nat.reduceLeDiff, List.all_cons, List.all_nil, ne_eq, not_false_eq_true, Nat.zero_le, q, q2]; done)) | (refine To.condF hxE5 ?_ ?_; focus (simp only [go_sem, eqs hxE5, reduceIte, Nat.reduceEqDiff, Nat.reduceAdd, Nat.reduceMul, Nat.reduceLT, Nat.reduceLeDiff, Int.reduceLT, Int.reduceLE, Int.reduceEq, reduceCtorEq, Int.reduceBEq, Int.reduceBNe, Int.reduceToNat, Nat.reduceSub, Nat.reduceDiv, Int.reduceNeg, Int.reduceAdd, Int.reduceSub, Int.reduceMul, Heap.gets, Heap.sets, Heap.get, bytesA_length, bytesA_one, bytesA_plains, List.take_of_length_le, List.drop_of_length_le, Nat.add_zero, V.one, Nat.reduceLeDiff, List.all_cons, List.all_nil, ne_eq, not_false_eq_true, Nat.zero_le, q, q2]; done)) | refine To.block hxE5 ?_ | refine To.scope hxE5 ?_ | refine To.ret hxE5 ?_ | refine To.exit hxE5 ?_ | refine To.skip hxE5 ?_ | refine To.label hxE5 ?_))
  refine ⟨_, _, fin1 (i := 2) rfl, ?_, ?_⟩
  · simp only [go_sem, eqs hxE5, reduceIte, Nat.reduceEqDiff, Nat.reduceAdd, Nat.reduceMul, Nat.reduceLT, Nat.reduceLeDiff, Int.reduceLT, Int.reduceLE, Int.reduceEq, reduceCtorEq, Int.reduceBEq, Int.reduceBNe, Int.reduceToNat, Nat.reduceSub, Nat.reduceDiv, Int.reduceNeg, Int.reduceAdd, Int.reduceSub, Int.reduceMul, textT, lenN]
  · simp only [go_sem, eqs hxE5, reduceIte, Nat.reduceEqDiff, Nat.reduceAdd, Nat.reduceMul, Nat.reduceLT, Nat.reduceLeDiff, Int.reduceLT, Int.reduceLE, Int.reduceEq, reduceCtorEq, Int.reduceBEq, Int.reduceBNe, Int.reduceToNat, Nat.reduceSub, Nat.reduceDiv, Int.reduceNeg, Int.reduceAdd, Int.reduceSub, Int.reduceMul, textR, textBad, lenN]
    rw [if_neg (by omega), List.take_of_length_le (by simp)]
    exact ⟨_, rfl, by omega⟩

theorem rdone_den {o : List AM.Obj} {e d a : Nat} {s : List UInt8} {b : Bool} {x y : Int} (ho : o[a]? = some (rdO s b)) :
    ∃ r oh, Den FF E5 59 [.ptr a 0, .int .i64 x, .int .i64 y] ⟨o, e, d⟩ = some (r, oh) ∧ r = .val (.bool (!b && (s == [] && x == y))) ∧ oh = none := by
  refine To.denE hxE5 (f := 59) (a := af59) rfl (E5_none rfl) (Nat.le_of_ble_eq_true rfl) ?_
  have hl := get_lt ho
  unfold rdO at *
  cases b
  · cases c : (s == [])
    · (repeat' (first | refine To.seq hxE5 ?_ | refine To.op0 hxE5 (by simp only [go_sem, eqs hxE5, reduceIte, Nat.reduceEqDiff, Nat.reduceAdd, Nat.reduceMul, Nat.reduceLT, Nat.reduceLeDiff, Int.reduceLT, Int.reduceLE, Int.reduceEq, reduceCtorEq, Int.reduceBEq, Int.reduceBNe, Int.reduceToNat, Nat.reduceSub, Nat.reduceDiv, Int.reduceNeg, Int.reduceAdd, Int.reduceSub, Int.reduceMul, Heap.gets, Heap.sets, Heap.get, bytesA_length, bytesA_one, bytesA_plains, List.take_of_length_le, List.drop_of_length_le, Nat.add_zero, V.one, Nat.reduceLeDiff, List.all_cons, List.all_nil, ne_eq, not_false_eq_true, Nat.zero_le, ho, c]; rfl) ?_ | refine To.op1 hxE5 (by simp only [go_sem, eqs hxE5, reduceIte, Nat.reduceEqDiff, Nat.reduceAdd, Nat.reduceMul, Nat.reduceLT, Nat.reduceLeDiff, Int.reduceLT, Int.reduceLE, Int.reduceEq, reduceCtorEq, Int.reduceBEq, Int.reduceBNe, Int.reduceToNat, Nat.reduceSub, Nat.reduceDiv, Int.reduceNeg, Int.reduceAdd, Int.reduceSub, Int.reduceMul, Heap.gets, Heap.sets, Heap.get, bytesA_length, bytesA_one, bytesA_plains, List.take_of_length_le, List.drop_of_length_le, Nat.add_zero, V.one, Nat.reduceLeDiff, List.all_cons, List.all_nil, ne_eq, not_false_eq_true, Nat.zero_le, ho, c]; rfl) ?_ | refine To.nop hxE5 ?_ | (refine To.condT hxE5 ?_ ?_; focus (simp only [go_sem, eqs hxE5, reduceIte, Nat.reduceEqDiff, Nat.reduceAdd, Nat.reduceMul, Nat.reduceLT, Nat.reduceLeDiff, Int.reduceLT, Int.reduceLE, Int.reduceEq, reduceCtorEq, Int.reduceBEq, Int.reduceBNe, Int.reduceToNat, Nat.reduceSub, Nat.reduceDiv, Int.reduceNeg, Int.reduceAdd, Int.reduceSub, Int.reduceMul, Heap.gets, Heap.sets, Heap.get, bytesA_length, bytesA_one, bytesA_plains, List.take_of_length_le, List.drop_of_length_le, Nat.add_zero, V.one, Nat.reduceLeDiff, List.all_cons, List.all_nil, ne_eq, not_false_eq_true, Nat.zero_le, ho, c]; done)) | (refine To.condF hxE5 ?_ ?_; focus (simp only [go_sem, eqs hxE5, reduceIte, Nat.reduceEqDiff, Nat.reduceAdd, Nat.reduceMul, Nat.reduceLT, Nat.reduceLeDiff, Int.reduceLT, Int.reduceLE, Int.reduceEq, reduceCtorEq, Int.reduceBEq, Int.reduceBNe, Int.reduceToNat, Nat.reduceSub, Nat.reduceDiv, Int.reduceNeg, Int.reduceAdd, Int.reduceSub, Int.reduceMul, Heap.gets, Heap.sets, Heap.get, bytesA_length, bytesA_one, bytesA_plains, List.take_of_length_le, List.drop_of_length_le, Nat.add_zero, V.one, Nat.reduceLeDiff, List.all_cons, List.all_nil, ne_eq, not_false_eq_true, Nat.zero_le, ho, c]; done)) | refine To.block hxE5 ?_ | refine To.scope hxE5 ?_ | refine To.ret hxE5 ?_ | refine To.exit hxE5 ?_ | refine To.skip hxE5 ?_ | refine To.label hxE5 ?_))
      refine ⟨_, _, fin1 (i := 6) rfl, ?_, ?_⟩
      · simp only [go_sem, eqs hxE5, reduceIte, Nat.reduceEqDiff, Nat.reduceAdd, Nat.reduceMul, Nat.reduceLT, Nat.reduceLeDiff, Int.reduceLT, Int.reduceLE, Int.reduceEq, reduceCtorEq, Int.reduceBEq, Int.reduceBNe, Int.reduceToNat, Nat.reduceSub, Nat.reduceDiv, Int.reduceNeg, Int.reduceAdd, Int.reduceSub, Int.reduceMul, c, Bool.false_and]
      · rw [leave_plain (Kp.enter ⟨o, e, d⟩) (by simp only [go_sem, eqs hxE5, reduceIte, Nat.reduceEqDiff, Nat.reduceAdd, Nat.reduceMul, Nat.reduceLT, Nat.reduceLeDiff, Int.reduceLT, Int.reduceLE, Int.reduceEq, reduceCtorEq, Int.reduceBEq, Int.reduceBNe, Int.reduceToNat, Nat.reduceSub, Nat.reduceDiv, Int.reduceNeg, Int.reduceAdd, Int.reduceSub, Int.reduceMul])]
    · (repeat' (first | refine To.seq hxE5 ?_ | refine To.op0 hxE5 (by simp only [go_sem, eqs hxE5, reduceIte, Nat.reduceEqDiff, Nat.reduceAdd, Nat.reduceMul, Nat.reduceLT, Nat.reduceLeDiff, Int.reduceLT, Int.reduceLE, Int.reduceEq, reduceCtorEq, Int.reduceBEq, Int.reduceBNe, Int.reduceToNat, Nat.reduceSub, Nat.reduceDiv, Int.reduceNeg, Int.reduceAdd, Int.reduceSub, Int.reduceMul, Heap.gets, Heap.sets, Heap.get, bytesA_length, bytesA_one, bytesA_plains, List.take_of_length_le, List.drop_of_length_le, Nat.add_zero, V.one, Nat.reduceLeDiff, List.all_cons, List.all_nil, ne_eq, not_false_eq_true, Nat.zero_le, ho, c]; rfl) ?_ | refine To.op1 hxE5 (by simp only [go_sem, eqs hxE5, reduceIte, Nat.reduceEqDiff, Nat.reduceAdd, Nat.reduceMul, Nat.reduceLT, Nat.reduceLeDiff, Int.reduceLT, Int.reduceLE, Int.reduceEq, reduceCtorEq, Int.reduceBEq, Int.reduceBNe, Int.reduceToNat, Nat.reduceSub, Nat.reduceDiv, Int.reduceNeg, Int.reduceAdd, Int.reduceSub, Int.reduceMul, Heap.gets, Heap.sets, Heap.get, bytesA_length, bytesA_one, bytesA_plains, List.take_of_length_le, List.drop_of_length_le, Nat.add_zero, V.one, Nat.reduceLeDiff, List.all_cons, List.all_nil, ne_eq, not_false_eq_true, Nat.zero_le, ho, c]; rfl) ?_ | refine To.nop hxE5 ?_ | (refine To.condT hxE5 ?_ ?_; focus (simp only [go_sem, eqs hxE5, reduceIte, Nat.reduceEqDiff, Nat.reduceAdd, Nat.reduceMul, Nat.reduceLT, Nat.reduceLeDiff, Int.reduceLT, Int.reduceLE, Int.reduceEq, reduceCtorEq, Int.reduceBEq, Int.reduceBNe, Int.reduceToNat, Nat.reduceSub, Nat.reduceDiv, Int.reduceNeg, Int.reduceAdd, Int.reduceSub, Int.reduceMul, Heap.gets, Heap.sets, Heap.get, bytesA_length, bytesA_one, bytesA_plains, List.take_of_length_le, List.drop_of_length_le, Nat.add_zero, V.one, Nat.reduceLeDiff, List.all_cons, List.all_nil, ne_eq, not_false_eq_true, Nat.zero_le, ho, c]; done)) | (refine To.condF hxE5 ?_ ?_; focus (simp only [go_sem, eqs hxE5, reduceIte, Nat.reduceEqDiff, Nat.reduceAdd, Nat.reduceMul, Nat.reduceLT, Nat.reduceLeDiff, Int.reduceLT, Int.reduceLE, Int.reduceEq, reduceCtorEq, Int.reduceBEq, Int.reduceBNe, Int.reduceToNat, Nat.reduceSub, Nat.reduceDiv, Int.reduceNeg, Int.reduceAdd, Int.reduceSub, Int.reduceMul, Heap.gets, Heap.sets, Heap.get, bytesA_length, bytesA_one, bytesA_plains, List.take_of_length_le, List.drop_of_length_le, Nat.add_zero, V.one, Nat.reduceLeDiff, List.all_cons, List.all_nil, ne_eq, not_false_eq_true, Nat.zero_le, ho, c]; done)) | refine To.block hxE5 ?_ | refine To.scope hxE5 ?_ | refine To.ret hxE5 ?_ | refine To.exit hxE5 ?_ | refine To.skip hxE5 ?_ | refine To.label hxE5 ?_))
      refine ⟨_, _, fin1 (i := 6) rfl, ?_, ?_⟩
      · simp only [go_sem, eqs hxE5, reduceIte, Nat.reduceEqDiff, Nat.reduceAdd, Nat.reduceMul, Nat.reduceLT, Nat.reduceLeDiff, Int.reduceLT, Int.reduceLE, Int.reduceEq, reduceCtorEq, Int.reduceBEq, Int.reduceBNe, Int.reduceToNat, Nat.reduceSub, Nat.reduceDiv, Int.reduceNeg, Int.reduceAdd, Int.reduceSub, Int.reduceMul, c, Bool.false_and]
      · rw [leave_plain (Kp.enter ⟨o, e, d⟩) (by simp only [go_sem, eqs hxE5, reduceIte, Nat.reduceEqDiff, Nat.reduceAdd, Nat.reduceMul, Nat.reduceLT, Nat.reduceLeDiff, Int.reduceLT, Int.reduceLE, Int.reduceEq, reduceCtorEq, Int.reduceBEq, Int.reduceBNe, Int.reduceToNat, Nat.reduceSub, Nat.reduceDiv, Int.reduceNeg, Int.reduceAdd, Int.reduceSub, Int.reduceMul])]
  · (repeat' (first | refine To.seq hxE5 ?_ | refine To.op0 hxE5 (by simp only [go_sem, eqs hxE5, reduceIte, Nat.reduceEqDiff, Nat.reduceAdd, Nat.reduceMul, Nat.reduceLT, Nat.reduceLeDiff, Int.reduceLT, Int.reduceLE, Int.reduceEq, reduceCtorEq, Int.reduceBEq, Int.reduceBNe, Int.reduceToNat, Nat.reduceSub, Nat.reduceDiv, Int.reduceNeg, Int.reduceAdd, Int.reduceSub, Int.reduceMul, Heap.gets, Heap.sets, Heap.get, bytesA_length, bytesA_one, bytesA_plains, List.take_of_length_le, List.drop_of_length_le, Nat.add_zero, V.one, Nat.reduceLeDiff, List.all_cons, List.all_nil, ne_eq, not_false_eq_true, Nat.zero_le, ho]; rfl) ?_ | refine To.op1 hxE5 (by simp only [go_sem, eqs hxE5, reduceIte, Nat.reduceEqDiff, Nat.reduceAdd, Nat.reduceMul, Nat.reduceLT, Nat.reduceLeDiff, Int.reduceLT, Int.reduceLE, Int.reduceEq, reduceCtorEq, Int.reduceBEq, Int.reduceBNe, Int.reduceToNat, Nat.reduceSub, Nat.reduceDiv, Int.reduceNeg, Int.reduceAdd, Int.reduceSub, Int.reduceMul, Heap.gets, Heap.sets, Heap.get, bytesA_length, bytesA_one, bytesA_plains, List.take_of_length_le, List.drop_of_length_le, Nat.add_zero, V.one, Nat.reduceLeDiff, List.all_cons, List.all_nil, ne_eq, not_false_eq_true, Nat.zero_le, ho]; rfl) ?_ | refine To.nop hxE5 ?_ | (refine To.condT hxE5 ?_ ?_; focus (simp only [go_sem, eqs hxE5, reduceIte, Nat.reduceEqDiff, Nat.reduceAdd, Nat.reduceMul, Nat.reduceLT, Nat.reduceLeDiff, Int.reduceLT, Int.reduceLE, Int.reduceEq, reduceCtorEq, Int.reduceBEq, Int.reduceBNe, Int.reduceToNat, Nat.reduceSub, Nat.reduceDiv, Int.reduceNeg, Int.reduceAdd, Int.reduceSub, Int.reduceMul, Heap.gets, Heap.sets, Heap.get, bytesA_length, bytesA_one, bytesA_plains, List.take_of_length_le, List.drop_of_length_le, Nat.add_zero, V.one, Nat.reduceLeDiff, List.all_cons, List.all_nil, ne_eq, not_false_eq_true, Nat.zero_le, ho]; done)) | (refine To.condF hxE5 ?_ ?_; focus (simp only [go_sem, eqs hxE5, reduceIte, Nat.reduceEqDiff, Nat.reduceAdd, Nat.reduceMul, Nat.reduceLT, Nat.reduceLeDiff, Int.reduceLT, Int.reduceLE, Int.reduceEq, reduceCtorEq, Int.reduceBEq, Int.reduceBNe, Int.reduceToNat, Nat.reduceSub, Nat.reduceDiv, Int.reduceNeg, Int.reduceAdd, Int.reduceSub, Int.reduceMul, Heap.gets, Heap.sets, Heap.get, bytesA_length, bytesA_one, bytesA_plains, List.take_of_length_le, List.drop_of_length_le, Nat.add_zero, V.one, Nat.reduceLeDiff, List.all_cons, List.all_nil, ne_eq, not_false_eq_true, Nat.zero_le, ho]; done)) | refine To.block hxE5 ?_ | refine To.scope hxE5 ?_ | refine To.ret hxE5 ?_ | refine To.exit hxE5 ?_ | refine To.skip hxE5 ?_ | refine To.label hxE5 ?_))
    refine ⟨_, _, fin1 (i := 6) rfl, ?_, ?_⟩
    · simp only [go_sem, eqs hxE5, reduceIte, Nat.reduceEqDiff, Nat.reduceAdd, Nat.reduceMul, Nat.reduceLT, Nat.reduceLeDiff, Int.reduceLT, Int.reduceLE, Int.reduceEq, reduceCtorEq, Int.reduceBEq, Int.reduceBNe, Int.reduceToNat, Nat.reduceSub, Nat.reduceDiv, Int.reduceNeg, Int.reduceAdd, Int.reduceSub, Int.reduceMul, Bool.false_and]
    · rw [leave_plain (Kp.enter ⟨o, e, d⟩) (by simp only [go_sem, eqs hxE5, reduceIte, Nat.reduceEqDiff, Nat.reduceAdd, Nat.reduceMul, Nat.reduceLT, Nat.reduceLeDiff, Int.reduceLT, Int.reduceLE, Int.reduceEq, reduceCtorEq, Int.reduceBEq, Int.reduceBNe, Int.reduceToNat, Nat.reduceSub, Nat.reduceDiv, Int.reduceNeg, Int.reduceAdd, Int.reduceSub, Int.reduceMul])]
end Go.Proofs.Ytjbblfoefibeaaa

/- Wire: the numbers that a reader reads into places of a struct. -/
namespace Go.Proofs.Ytjbblfoefibeaaa
open Go AM
set_option linter.unusedSimpArgs false
set_option linter.unusedVariables false
set_option maxRecDepth 100000

/-- What is left to read, and whether it went wrong. -/
abbrev Rst := List UInt8 × Bool
def rdS (n : Nat) (p : Rst) : Rst := (takeR n p.1 p.2, takeBad n p.1 p.2)
def rdV (n : Nat) (p : Rst) : Nat := be (takeT n p.1 p.2)
def rdN : Nat → Rst → Rst
  | 0, p => p
  | j + 1, p => rdS 4 (rdN j p)
def fillN (offs : List Nat) (p : Rst) : Nat → List V → List V
  | 0, cs => cs
  | j + 1, cs => (fillN offs p j cs).set (offs.getD j 0) (.int .i64 ((rdV 4 (rdN j p) : Nat) : Int))
theorem fillN_length (offs : List Nat) (p : Rst) (cs : List V) : ∀ j, (fillN offs p j cs).length = cs.length
  | 0 => rfl
  | j + 1 => by rw [fillN, List.length_set, fillN_length offs p cs j]
theorem rdN_length (p : Rst) : ∀ j, (rdN j p).1.length ≤ p.1.length
  | 0 => Nat.le_refl _
  | j + 1 => Nat.le_trans takeR_length (rdN_length p j)
theorem set2 {α : Type} {o : List α} {a q : Nat} (h : a ≠ q) (A Q A' Q' : α) : (((o.set a A).set q Q).set a A').set q Q' = (o.set a A').set q Q' := by
  rw [List.set_comm _ _ (Ne.symm h), List.set_set, List.set_set]
theorem set_same {α : Type} {o : List α} {a : Nat} {x : α} (h : o[a]? = some x) : o.set a x = o := by
  apply List.ext_getElem?
  intro i
  rw [List.getElem?_set]
  split
  · rename_i hi; subst hi
    rw [if_pos (get_lt h), h]
  · rfl
def rdP (p : Rst) : AM.Obj := rdO p.1 p.2

set_option maxHeartbeats 4000000 in
theorem rnums_den {o : List AM.Obj} {e d a q x t t' : Nat} {p : Rst} {cs : List V} {offs : List Nat} (ho : o[a]? = some (rdP p)) (hq : o[q]? = some (.cells .ex t 0 cs)) (hx : o[x]? = some (.cells .ex t' 0 (offs.map fun f => .ptr q f)))
    (hoff : ∀ f ∈ offs, f < cs.length) (haq : a ≠ q) (hxa : x ≠ a) (hxq : x ≠ q) (hs : p.1.length ≤ 1000000) (hn : offs.length ≤ 1000) (h0 : 0 < offs.length) :
    ∃ r oh, Den FF E5 57 [.ptr a 0, .slice x 0 offs.length 1] ⟨o, e, d⟩ = some (r, oh) ∧ r = .val (.tuple []) ∧ ∃ d', oh = some ⟨(o.set a (rdP (rdN offs.length p))).set q (.cells .ex t 0 (fillN offs p offs.length cs)), e, d'⟩ ∧ d' ≤ d := by
  refine To.denE hxE5 (f := 57) (a := af57) rfl (E5_none rfl) (Nat.le_of_ble_eq_true rfl) ?_
  have hal := get_lt ho
  have hql := get_lt hq
  have hxl := get_lt hx
  (repeat' (first | refine To.seq hxE5 ?_ | refine To.op0 hxE5 (by simp only [go_sem, eqs hxE5, reduceIte, Nat.reduceEqDiff, Nat.reduceAdd, Nat.reduceMul, Nat.reduceLT, Nat.reduceLeDiff, Int.reduceLT, Int.reduceLE, Int.reduceEq, reduceCtorEq, Int.reduceBEq, Int.reduceBNe, Int.reduceToNat, Nat.reduceSub, Nat.reduceDiv, Int.reduceNeg, Int.reduceAdd, Int.reduceSub, Int.reduceMul]; rfl) ?_ | refine To.op1 hxE5 (by simp only [go_sem, eqs hxE5, reduceIte, Nat.reduceEqDiff, Nat.reduceAdd, Nat.reduceMul, Nat.reduceLT, Nat.reduceLeDiff, Int.reduceLT, Int.reduceLE, Int.reduceEq, reduceCtorEq, Int.reduceBEq, Int.reduceBNe, Int.reduceToNat, Nat.reduceSub, Nat.reduceDiv, Int.reduceNeg, Int.reduceAdd, Int.reduceSub, Int.reduceMul]; rfl) ?_ | refine To.nop hxE5 ?_ | (refine To.condT hxE5 ?_ ?_; focus (simp only [go_sem, eqs hxE5, reduceIte, Nat.reduceEqDiff, Nat.reduceAdd, Nat.reduceMul, Nat.reduceLT, Nat.reduceLeDiff, Int.reduceLT, Int.reduceLE, Int.reduceEq, reduceCtorEq, Int.reduceBEq, Int.reduceBNe, Int.reduceToNat, Nat.reduceSub, Nat.reduceDiv, Int.reduceNeg, Int.reduceAdd, Int.reduceSub, Int.reduceMul]; done)) | (refine To.condF hxE5 ?_ ?_; focus (simp only [go_sem, eqs hxE5, reduceIte, Nat.reduceEqDiff, Nat.reduceAdd, Nat.reduceMul, Nat.reduceLT, Nat.reduceLeDiff, Int.reduceLT, Int.reduceLE, Int.reduceEq, reduceCtorEq, Int.reduceBEq, Int.reduceBNe, Int.reduceToNat, Nat.reduceSub, Nat.reduceDiv, Int.reduceNeg, Int.reduceAdd, Int.reduceSub, Int.reduceMul]; done)) | refine To.block hxE5 ?_ | refine To.scope hxE5 ?_ | refine To.ret hxE5 ?_ | refine To.exit hxE5 ?_ | refine To.skip hxE5 ?_ | refine To.label hxE5 ?_))
  refine To.loop hxE5 (fun k S h' => ∃ i d1, i + k = offs.length ∧ h' = ⟨(o.set a (rdP (rdN i p))).set q (.cells .ex t 0 (fillN offs p i cs)), o.length, d1⟩ ∧ (0 < i → d1 < o.length) ∧ S 0 = .ptr a 0 ∧ S 6 = .slice x 0 offs.length 1 ∧ S 7 = .int .i64 (offs.length : Int) ∧ S 8 = .int .i64 (i : Int)) ?_ offs.length _ _ ?_
  · rintro k S _ ⟨i, d1, hk, rfl, hd, s0, s6, s7, s8⟩
    by_cases hi : i < offs.length
    · have hlt : decide ((i : Int) < (offs.length : Int)) = true := by simp; omega
      have w1 : IntKind.i64.wrap ((i : Int) + 1) = ((i + 1 : Nat) : Int) := by rw [wrap_i64 (by omega) (by omega)]; omega
      obtain ⟨f, hf⟩ : ∃ f, offs[i]? = some f := ⟨offs[i], List.getElem?_eq_getElem hi⟩
      have hix : idxOf offs.length (.int .i64 (i : Int)) = some i := idxOf_nat hi
      have hfl := hoff f (List.mem_of_getElem? hf)
      have g1 : ∀ A Q e d, (⟨(o.set a A).set q Q, e, d⟩ : Heap).get x i = some (.ptr q f) := fun A Q e d => by
        simp only [Heap.get]
        rw [List.getElem?_set_ne (Ne.symm hxq), List.getElem?_set_ne (Ne.symm hxa), hx]
        simp only [List.getElem?_map, hf, Option.map_some]
      have g2 : ∀ A, ((o.set a A).set q (.cells .ex t 0 (fillN offs p i cs)))[q]? = some (.cells .ex t 0 (fillN offs p i cs)) := fun A => by
        rw [List.getElem?_set_self (by simpa using hql)]
      have g3 : ((o.set a (rdP (rdN i p))).set q (.cells .ex t 0 (fillN offs p i cs)))[a]? = some (rdO (rdN i p).1 (rdN i p).2) := by
        rw [List.getElem?_set_ne (Ne.symm haq), List.getElem?_set_self hal]; rfl
      obtain ⟨r, oh, q1, rfl, d2, rfl, hd2⟩ := rnum_den (n := 4) (z := 4) (e := o.length) (d := d1) rfl g3 (by decide) (Nat.le_trans (rdN_length p i) hs)
      have gl : f < (fillN offs p i cs).length := by rw [fillN_length]; exact hfl
      have s1 : ∀ (A B : AM.Obj) (n : Int) (e d : Nat), (⟨((o.set a A).set q (.cells .ex t 0 (fillN offs p i cs))).set a B, e, d⟩ : Heap).sets q f [.int .i64 n] = some ⟨(o.set a B).set q (.cells .ex t 0 ((fillN offs p i cs).set f (.int .i64 n))), e, min d q⟩ := fun A B n e d => by
        rw [← Heap.set_eq]
        simp only [Heap.set]
        rw [List.getElem?_set_ne haq, g2]
        simp only
        rw [if_pos ⟨by decide, Nat.zero_le _, gl, rfl⟩, set2 haq]
        rfl
      obtain ⟨w, hw⟩ : ∃ w, (fillN offs p i cs)[f]? = some w := ⟨(fillN offs p i cs)[f], List.getElem?_eq_getElem gl⟩
      have g4 : ∀ (A B : AM.Obj) (e d : Nat), (⟨((o.set a A).set q (.cells .ex t 0 (fillN offs p i cs))).set a B, e, d⟩ : Heap).get q f = some w := fun A B e d => by
        simp only [Heap.get]
        rw [List.getElem?_set_ne haq, g2]
        exact hw
      (repeat' (first | refine To.seq hxE5 ?_ | refine To.op0 hxE5 (by simp only [go_sem, eqs hxE5, reduceIte, Nat.reduceEqDiff, Nat.reduceAdd, Nat.reduceMul, Nat.reduceLT, Nat.reduceLeDiff, Int.reduceLT, Int.reduceLE, Int.reduceEq, reduceCtorEq, Int.reduceBEq, Int.reduceBNe, Int.reduceToNat, Nat.reduceSub, Nat.reduceDiv, Int.reduceNeg, Int.reduceAdd, Int.reduceSub, Int.reduceMul, s0, s6, s7, s8, hlt, w1, hix, g1, Nat.mul_one, q1, s1, g4]; rfl) ?_ | refine To.op1 hxE5 (by simp only [go_sem, eqs hxE5, reduceIte, Nat.reduceEqDiff, Nat.reduceAdd, Nat.reduceMul, Nat.reduceLT, Nat.reduceLeDiff, Int.reduceLT, Int.reduceLE, Int.reduceEq, reduceCtorEq, Int.reduceBEq, Int.reduceBNe, Int.reduceToNat, Nat.reduceSub, Nat.reduceDiv, Int.reduceNeg, Int.reduceAdd, Int.reduceSub, Int.reduceMul, s0, s6, s7, s8, hlt, w1, hix, g1, Nat.mul_one, q1, s1, g4]; rfl) ?_ | refine To.nop hxE5 ?_ | (refine To.condT hxE5 ?_ ?_; focus (simp only [go_sem, eqs hxE5, reduceIte, Nat.reduceEqDiff, Nat.reduceAdd, Nat.reduceMul, Nat.reduceLT, Nat.reduceLeDiff, Int.reduceLT, Int.reduceLE, Int.reduceEq, reduceCtorEq, Int.reduceBEq, Int.reduceBNe, Int.reduceToNat, Nat.reduceSub, Nat.reduceDiv, Int.reduceNeg, Int.reduceAdd, Int.reduceSub, Int.reduceMul, s0, s6, s7, s8, hlt, w1, hix, g1, Nat.mul_one, q1, s1, g4]; done)) | (refine To.condF hxE5 ?_ ?_; focus (simp only [go_sem, eqs hxE5, reduceIte, Nat.reduceEqDiff, Nat.reduceAdd, Nat.reduceMul, Nat.reduceLT, Nat.reduceLeDiff, Int.reduceLT, Int.reduceLE, Int.reduceEq, reduceCtorEq, Int.reduceBEq, Int.reduceBNe, Int.reduceToNat, Nat.reduceSub, Nat.reduceDiv, Int.reduceNeg, Int.reduceAdd, Int.reduceSub, Int.reduceMul, s0, s6, s7, s8, hlt, w1, hix, g1, Nat.mul_one, q1, s1, g4]; done)) | refine To.block hxE5 ?_ | refine To.scope hxE5 ?_ | refine To.ret hxE5 ?_ | refine To.exit hxE5 ?_ | refine To.skip hxE5 ?_ | refine To.label hxE5 ?_))
      try simp only [andThen, outOf]
      refine ⟨k - 1, by omega, i + 1, min d2 q, by omega, ?_, fun _ => by omega, ?_⟩
      · simp only [fillN, rdN, rdS, rdV, rdP, List.getD_eq_getElem?_getD, hf, Option.getD_some]
      · simp only [go_sem, eqs hxE5, reduceIte, Nat.reduceEqDiff, Nat.reduceAdd, Nat.reduceMul, Nat.reduceLT, Nat.reduceLeDiff, Int.reduceLT, Int.reduceLE, Int.reduceEq, reduceCtorEq, Int.reduceBEq, Int.reduceBNe, Int.reduceToNat, Nat.reduceSub, Nat.reduceDiv, Int.reduceNeg, Int.reduceAdd, Int.reduceSub, Int.reduceMul, s0, s6, s7]
    · have hlt : decide ((i : Int) < (offs.length : Int)) = false := by simp; omega
      have hie : i = offs.length := by omega
      subst hie
      (repeat' (first | refine To.seq hxE5 ?_ | refine To.op0 hxE5 (by simp only [go_sem, eqs hxE5, reduceIte, Nat.reduceEqDiff, Nat.reduceAdd, Nat.reduceMul, Nat.reduceLT, Nat.reduceLeDiff, Int.reduceLT, Int.reduceLE, Int.reduceEq, reduceCtorEq, Int.reduceBEq, Int.reduceBNe, Int.reduceToNat, Nat.reduceSub, Nat.reduceDiv, Int.reduceNeg, Int.reduceAdd, Int.reduceSub, Int.reduceMul, s0, s6, s7, s8, hlt]; rfl) ?_ | refine To.op1 hxE5 (by simp only [go_sem, eqs hxE5, reduceIte, Nat.reduceEqDiff, Nat.reduceAdd, Nat.reduceMul, Nat.reduceLT, Nat.reduceLeDiff, Int.reduceLT, Int.reduceLE, Int.reduceEq, reduceCtorEq, Int.reduceBEq, Int.reduceBNe, Int.reduceToNat, Nat.reduceSub, Nat.reduceDiv, Int.reduceNeg, Int.reduceAdd, Int.reduceSub, Int.reduceMul, s0, s6, s7, s8, hlt]; rfl) ?_ | refine To.nop hxE5 ?_ | (refine To.condT hxE5 ?_ ?_; focus (simp only [go_sem, eqs hxE5, reduceIte, Nat.reduceEqDiff, Nat.reduceAdd, Nat.reduceMul, Nat.reduceLT, Nat.reduceLeDiff, Int.reduceLT, Int.reduceLE, Int.reduceEq, reduceCtorEq, Int.reduceBEq, Int.reduceBNe, Int.reduceToNat, Nat.reduceSub, Nat.reduceDiv, Int.reduceNeg, Int.reduceAdd, Int.reduceSub, Int.reduceMul, s0, s6, s7, s8, hlt]; done)) | (refine To.condF hxE5 ?_ ?_; focus (simp only [go_sem, eqs hxE5, reduceIte, Nat.reduceEqDiff, Nat.reduceAdd, Nat.reduceMul, Nat.reduceLT, Nat.reduceLeDiff, Int.reduceLT, Int.reduceLE, Int.reduceEq, reduceCtorEq, Int.reduceBEq, Int.reduceBNe, Int.reduceToNat, Nat.reduceSub, Nat.reduceDiv, Int.reduceNeg, Int.reduceAdd, Int.reduceSub, Int.reduceMul, s0, s6, s7, s8, hlt]; done)) | refine To.block hxE5 ?_ | refine To.scope hxE5 ?_ | refine To.ret hxE5 ?_ | refine To.exit hxE5 ?_ | refine To.skip hxE5 ?_ | refine To.label hxE5 ?_))
      refine ⟨_, _, fin0n rfl, rfl, ?_⟩
      have := hd h0
      unfold leave
      simp only [V.plain, V.plains, and_true]
      rw [if_pos (Nat.le_refl _), if_neg (by omega), List.take_of_length_le (by simp)]
      exact ⟨_, rfl, by omega⟩
  · refine ⟨0, o.length, by omega, ?_, fun h => absurd h (by omega), ?_⟩
    · simp only [rdN, fillN]
      have e1 : o.set a (rdP p) = o := set_same ho
      have e2 : o.set q (.cells .ex t 0 cs) = o := set_same hq
      first | (rw [e1, e2]; done) | (rw [e1, e2]; rfl) | (simp only [e1, e2]; trivial)
    · simp only [go_sem, eqs hxE5, reduceIte, Nat.reduceEqDiff, Nat.reduceAdd, Nat.reduceMul, Nat.reduceLT, Nat.reduceLeDiff, Int.reduceLT, Int.reduceLE, Int.reduceEq, reduceCtorEq, Int.reduceBEq, Int.reduceBNe, Int.reduceToNat, Nat.reduceSub, Nat.reduceDiv, Int.reduceNeg, Int.reduceAdd, Int.reduceSub, Int.reduceMul]
end Go.Proofs.Ytjbblfoefibeaaa

/- Wire: the request of bytes, as it is read. -/
namespace Go.Proofs.Ytjbblfoefibeaaa
open Go AM
set_option linter.unusedSimpArgs false
set_option linter.unusedVariables false
set_option maxRecDepth 100000

def txS (p : Rst) : Rst := (textR p.1 p.2, textBad p.1 p.2)
def txV (p : Rst) : List UInt8 := textT p.1 p.2
def gP0 (s : List UInt8) : Rst := (s, false)
def gP1 (s : List UInt8) : Rst := rdS 1 (gP0 s)
def gP2 (s : List UInt8) : Rst := rdS 1 (gP1 s)
def gP7 (s : List UInt8) : Rst := rdN 5 (gP2 s)
def gP8 (s : List UInt8) : Rst := txS (gP7 s)
def gP9 (s : List UInt8) : Rst := txS (gP8 s)
def gFirst (s : List UInt8) : Int := ((rdV 1 (gP0 s) : Nat) : Int)
def gOp (s : List UInt8) : Int := ((rdV 1 (gP1 s) : Nat) : Int)
def gNum (s : List UInt8) (i : Nat) : Int := ((rdV 4 (rdN i (gP2 s)) : Nat) : Int)
def gNm (s : List UInt8) : List UInt8 := txV (gP7 s)
def gTx (s : List UInt8) : List UInt8 := txV (gP8 s)
def gDone (s : List UInt8) : Bool := !(gP9 s).2 && ((gP9 s).1 == [] && gFirst s == 1)
def gRight (s : List UInt8) : Bool := rightR (gNum s 0) (gOp s) (gNum s 1) (gNum s 2) (gNum s 3) (gNum s 4) (gNm s) (gTx s)
def gAgg (s : List UInt8) : V := .agg [.int .i64 (gNum s 0), .int .i64 (gOp s), .int .i64 (gNum s 1), .int .i64 (gNum s 2), .int .i64 (gNum s 3), .int .i64 (gNum s 4), .str (gNm s), .str (gTx s)]
def noReq : V := .agg [.int .i64 0, .int .i64 0, .int .i64 0, .int .i64 0, .int .i64 0, .int .i64 0, .str [], .str []]
def getV (s : List UInt8) : V := if (gDone s && gRight s) = true then .tuple [gAgg s, .int .i64 0] else .tuple [noReq, .int .i64 22]

theorem finCT {a : AF} {h : Heap} {S : Nat → V} {h' : Heap} {i n j l o : Nat} {cs : List V} (hr : a.res = [.c i (some n), .t j]) (hS : S i = .ptr l o) (hg : h'.gets l o n = some cs) :
    finish a h (some (.ret, S, h')) = some (.val (.tuple [.agg cs, S j]), leave h h' (.tuple [.agg cs, S j])) := by
  have e : Slots.get S i = .ptr l o := hS
  simp only [finish, hr, resAll, resOne, resV, e, hg, Option.map_some]; rfl

theorem rdS_length {n : Nat} {p : Rst} : (rdS n p).1.length ≤ p.1.length := takeR_length
theorem txS_length {p : Rst} : (txS p).1.length ≤ p.1.length := Nat.le_trans takeR_length takeR_length

set_option maxHeartbeats 8000000 in
theorem get_den (s : List UInt8) (hs : s.length ≤ 100000) : ∃ r oh, Den FF E5 15 [.str s] H0 = some (r, oh) ∧ r = .val (getV s) ∧ oh = none := by
  refine To.denE hxE5 (f := 15) (a := af15) rfl (E5_none rfl) (Nat.le_of_ble_eq_true rfl) ?_
  have b1 : (gP1 s).1.length ≤ 100000 := Nat.le_trans rdS_length hs
  have b2 : (gP2 s).1.length ≤ 100000 := Nat.le_trans rdS_length b1
  have b7 : (gP7 s).1.length ≤ 100000 := Nat.le_trans (rdN_length _ _) b2
  have b8 : (gP8 s).1.length ≤ 100000 := Nat.le_trans txS_length b7
  let Z : AM.Obj := .cells .ex 23 0 [.int .i64 0, .int .i64 0, .int .i64 0, .int .i64 0, .int .i64 0, .int .i64 0, .str [], .str []]
  let P : AM.Obj := .cells .ex 116 0 [.ptr 2 0, .ptr 2 2, .ptr 2 3, .ptr 2 4, .ptr 2 5]
  let X (a b c d e f : Int) (nm tx : List UInt8) : AM.Obj := .cells .ex 23 0 [.int .i64 a, .int .i64 b, .int .i64 c, .int .i64 d, .int .i64 e, .int .i64 f, .str nm, .str tx]
  obtain ⟨d1, hd1, q1⟩ : ∃ d1, d1 ≤ 1 ∧ Den FF E5 56 [.ptr 1 0, .int .i64 1] ⟨[Z, .cells .ex 114 0 [.str s, .bool false]], 0, 0⟩ = some (.val (.int .i64 (gFirst s)), some ⟨[Z, rdP (gP1 s)], 0, d1⟩) := by
    obtain ⟨r, oh, q, rfl, d, rfl, hd⟩ := rnum_den (o := [Z, rdO s false]) (e := 0) (d := 0) (a := 1) (n := 1) (z := 1) (s := s) (b := false) rfl rfl (by decide) (by omega)
    exact ⟨d, hd, q⟩
  obtain ⟨d2, hd2, q2⟩ : ∃ d2, d2 ≤ 1 ∧ Den FF E5 56 [.ptr 1 0, .int .i64 1] ⟨[Z, rdP (gP1 s)], 0, d1⟩ = some (.val (.int .i64 (gOp s)), some ⟨[Z, rdP (gP2 s)], 0, d2⟩) := by
    obtain ⟨r, oh, q, rfl, d, rfl, hd⟩ := rnum_den (o := [Z, rdP (gP1 s)]) (e := 0) (d := d1) (a := 1) (n := 1) (z := 1) (s := (gP1 s).1) (b := (gP1 s).2) rfl rfl (by decide) (by omega)
    exact ⟨d, hd, q⟩
  obtain ⟨d3, hd3, q3⟩ : ∃ d3, d3 ≤ min d2 2 ∧ Den FF E5 57 [.ptr 1 0, .slice 3 0 5 1] ⟨[Z, rdP (gP2 s), X 0 (gOp s) 0 0 0 0 [] [], P], 0, min d2 2⟩ = some (.val (.tuple []), some ⟨[Z, rdP (gP7 s), X (gNum s 0) (gOp s) (gNum s 1) (gNum s 2) (gNum s 3) (gNum s 4) [] [], P], 0, d3⟩) := by
    obtain ⟨r, oh, q, rfl, d, rfl, hd⟩ := rnums_den (o := [Z, rdP (gP2 s), X 0 (gOp s) 0 0 0 0 [] [], P]) (e := 0) (d := min d2 2) (a := 1) (q := 2) (x := 3) (p := gP2 s) (offs := [0, 2, 3, 4, 5]) rfl rfl rfl (by simp) (by decide) (by decide) (by decide) (by omega) (by decide) (by decide)
    exact ⟨d, hd, q⟩
  obtain ⟨d4, hd4, q4⟩ : ∃ d4, d4 ≤ 1 ∧ Den FF E5 58 [.ptr 1 0] ⟨[Z, rdP (gP7 s), X (gNum s 0) (gOp s) (gNum s 1) (gNum s 2) (gNum s 3) (gNum s 4) [] [], P], 0, d3⟩ = some (.val (.str (gNm s)), some ⟨[Z, rdP (gP8 s), X (gNum s 0) (gOp s) (gNum s 1) (gNum s 2) (gNum s 3) (gNum s 4) [] [], P], 0, d4⟩) := by
    obtain ⟨r, oh, q, rfl, d, rfl, hd⟩ := rtext_den (o := [Z, rdP (gP7 s), X (gNum s 0) (gOp s) (gNum s 1) (gNum s 2) (gNum s 3) (gNum s 4) [] [], P]) (e := 0) (d := d3) (a := 1) (s := (gP7 s).1) (b := (gP7 s).2) rfl (by omega)
    exact ⟨d, hd, q⟩
  obtain ⟨d5, hd5, q5⟩ : ∃ d5, d5 ≤ 1 ∧ Den FF E5 58 [.ptr 1 0] ⟨[Z, rdP (gP8 s), X (gNum s 0) (gOp s) (gNum s 1) (gNum s 2) (gNum s 3) (gNum s 4) (gNm s) [], P], 0, min d4 2⟩ = some (.val (.str (gTx s)), some ⟨[Z, rdP (gP9 s), X (gNum s 0) (gOp s) (gNum s 1) (gNum s 2) (gNum s 3) (gNum s 4) (gNm s) [], P], 0, d5⟩) := by
    obtain ⟨r, oh, q, rfl, d, rfl, hd⟩ := rtext_den (o := [Z, rdP (gP8 s), X (gNum s 0) (gOp s) (gNum s 1) (gNum s 2) (gNum s 3) (gNum s 4) (gNm s) [], P]) (e := 0) (d := min d4 2) (a := 1) (s := (gP8 s).1) (b := (gP8 s).2) rfl (by omega)
    exact ⟨d, hd, q⟩
  have q6 : Den FF E5 59 [.ptr 1 0, .int .i64 (gFirst s), .int .i64 1] ⟨[Z, rdP (gP9 s), X (gNum s 0) (gOp s) (gNum s 1) (gNum s 2) (gNum s 3) (gNum s 4) (gNm s) (gTx s), P], 0, min d5 2⟩ = some (.val (.bool (gDone s)), none) := by
    obtain ⟨r, oh, q, rfl, rfl⟩ := rdone_den (o := [Z, rdP (gP9 s), X (gNum s 0) (gOp s) (gNum s 1) (gNum s 2) (gNum s 3) (gNum s 4) (gNm s) (gTx s), P]) (e := 0) (d := min d5 2) (a := 1) (s := (gP9 s).1) (b := (gP9 s).2) (x := gFirst s) (y := 1) rfl
    exact q
  have q7 := fun h => eRight_5 (gNum s 0) (gOp s) (gNum s 1) (gNum s 2) (gNum s 3) (gNum s 4) (gNm s) (gTx s) h
  unfold getV gAgg
  change ∀ h, Den FF E5 _ _ h = some (.val (.bool (gRight s)), none) at q7
  generalize gNum s 0 = n0 at *
  generalize gNum s 1 = n1 at *
  generalize gNum s 2 = n2 at *
  generalize gNum s 3 = n3 at *
  generalize gNum s 4 = n4 at *
  generalize gOp s = op at *
  generalize gNm s = nm at *
  generalize gTx s = tx at *
  generalize gFirst s = fst at *
  generalize rdP (gP1 s) = r1 at *
  generalize rdP (gP2 s) = r2 at *
  generalize rdP (gP7 s) = r7 at *
  generalize rdP (gP8 s) = r8 at *
  generalize rdP (gP9 s) = r9 at *
  simp only [Z, P, X] at q1 q2 q3 q4 q5 q6
  clear_value Z P X
  cases c1 : gDone s
  · rw [c1] at q6
    (repeat' (first | refine To.seq hxE5 ?_ | refine To.op0 hxE5 (by simp only [go_sem, eqs hxE5, reduceIte, Nat.reduceEqDiff, Nat.reduceAdd, Nat.reduceMul, Nat.reduceLT, Nat.reduceLeDiff, Int.reduceLT, Int.reduceLE, Int.reduceEq, reduceCtorEq, Int.reduceBEq, Int.reduceBNe, Int.reduceToNat, Nat.reduceSub, Nat.reduceDiv, Int.reduceNeg, Int.reduceAdd, Int.reduceSub, Int.reduceMul, Heap.gets, Heap.sets, Heap.get, bytesA_length, bytesA_one, bytesA_plains, List.take_of_length_le, List.drop_of_length_le, Nat.add_zero, V.one, Nat.reduceLeDiff, List.all_cons, List.all_nil, ne_eq, not_false_eq_true, Nat.zero_le, q1, q2, q3, q4, q5, q6]; rfl) ?_ | refine To.op1 hxE5 (by simp only [go_sem, eqs hxE5, reduceIte, Nat.reduceEqDiff, Nat.reduceAdd, Nat.reduceMul, Nat.reduceLT, Nat.reduceLeDiff, Int.reduceLT, Int.reduceLE, Int.reduceEq, reduceCtorEq, Int.reduceBEq, Int.reduceBNe, Int.reduceToNat, Nat.reduceSub, Nat.reduceDiv, Int.reduceNeg, Int.reduceAdd, Int.reduceSub, Int.reduceMul, Heap.gets, Heap.sets, Heap.get, bytesA_length, bytesA_one, bytesA_plains, List.take_of_length_le, List.drop_of_length_le, Nat.add_zero, V.one, Nat.reduceLeDiff, List.all_cons, List.all_nil, ne_eq, not_false_eq_true, Nat.zero_le, q1, q2, q3, q4, q5, q6]; rfl) ?_ | refine To.nop hxE5 ?_ | (refine To.condT hxE5 ?_ ?_; focus (simp only [go_sem, eqs hxE5, reduceIte, Nat.reduceEqDiff, Nat.reduceAdd, Nat.reduceMul, Nat.reduceLT, Nat.reduceLeDiff, Int.reduceLT, Int.reduceLE, Int.reduceEq, reduceCtorEq, Int.reduceBEq, Int.reduceBNe, Int.reduceToNat, Nat.reduceSub, Nat.reduceDiv, Int.reduceNeg, Int.reduceAdd, Int.reduceSub, Int.reduceMul, Heap.gets, Heap.sets, Heap.get, bytesA_length, bytesA_one, bytesA_plains, List.take_of_length_le, List.drop_of_length_le, Nat.add_zero, V.one, Nat.reduceLeDiff, List.all_cons, List.all_nil, ne_eq, not_false_eq_true, Nat.zero_le, q1, q2, q3, q4, q5, q6]; done)) | (refine To.condF hxE5 ?_ ?_; focus (simp only [go_sem, eqs hxE5, reduceIte, Nat.reduceEqDiff, Nat.reduceAdd, Nat.reduceMul, Nat.reduceLT, Nat.reduceLeDiff, Int.reduceLT, Int.reduceLE, Int.reduceEq, reduceCtorEq, Int.reduceBEq, Int.reduceBNe, Int.reduceToNat, Nat.reduceSub, Nat.reduceDiv, Int.reduceNeg, Int.reduceAdd, Int.reduceSub, Int.reduceMul, Heap.gets, Heap.sets, Heap.get, bytesA_length, bytesA_one, bytesA_plains, List.take_of_length_le, List.drop_of_length_le, Nat.add_zero, V.one, Nat.reduceLeDiff, List.all_cons, List.all_nil, ne_eq, not_false_eq_true, Nat.zero_le, q1, q2, q3, q4, q5, q6]; done)) | refine To.block hxE5 ?_ | refine To.scope hxE5 ?_ | refine To.ret hxE5 ?_ | refine To.exit hxE5 ?_ | refine To.skip hxE5 ?_ | refine To.label hxE5 ?_))
    refine ⟨_, _, finCT (i := 2) (n := 8) (j := 3) (l := 0) (o := 0) rfl (by simp only [go_sem, eqs hxE5, reduceIte, Nat.reduceEqDiff, Nat.reduceAdd, Nat.reduceMul, Nat.reduceLT, Nat.reduceLeDiff, Int.reduceLT, Int.reduceLE, Int.reduceEq, reduceCtorEq, Int.reduceBEq, Int.reduceBNe, Int.reduceToNat, Nat.reduceSub, Nat.reduceDiv, Int.reduceNeg, Int.reduceAdd, Int.reduceSub, Int.reduceMul]) (by simp only [go_sem, eqs hxE5, reduceIte, Nat.reduceEqDiff, Nat.reduceAdd, Nat.reduceMul, Nat.reduceLT, Nat.reduceLeDiff, Int.reduceLT, Int.reduceLE, Int.reduceEq, reduceCtorEq, Int.reduceBEq, Int.reduceBNe, Int.reduceToNat, Nat.reduceSub, Nat.reduceDiv, Int.reduceNeg, Int.reduceAdd, Int.reduceSub, Int.reduceMul, Heap.gets, Heap.sets, Heap.get, bytesA_length, bytesA_one, bytesA_plains, List.take_of_length_le, List.drop_of_length_le, Nat.add_zero, V.one, Nat.reduceLeDiff, List.all_cons, List.all_nil, ne_eq, not_false_eq_true, Nat.zero_le]; rfl), ?_, ?_⟩
    · simp only [go_sem, eqs hxE5, reduceIte, Nat.reduceEqDiff, Nat.reduceAdd, Nat.reduceMul, Nat.reduceLT, Nat.reduceLeDiff, Int.reduceLT, Int.reduceLE, Int.reduceEq, reduceCtorEq, Int.reduceBEq, Int.reduceBNe, Int.reduceToNat, Nat.reduceSub, Nat.reduceDiv, Int.reduceNeg, Int.reduceAdd, Int.reduceSub, Int.reduceMul, Bool.false_and, noReq]
    · simp only [go_sem, eqs hxE5, reduceIte, Nat.reduceEqDiff, Nat.reduceAdd, Nat.reduceMul, Nat.reduceLT, Nat.reduceLeDiff, Int.reduceLT, Int.reduceLE, Int.reduceEq, reduceCtorEq, Int.reduceBEq, Int.reduceBNe, Int.reduceToNat, Nat.reduceSub, Nat.reduceDiv, Int.reduceNeg, Int.reduceAdd, Int.reduceSub, Int.reduceMul]
  · rw [c1] at q6
    cases c2 : gRight s
    · rw [c2] at q7
      (repeat' (first | refine To.seq hxE5 ?_ | refine To.op0 hxE5 (by simp only [go_sem, eqs hxE5, reduceIte, Nat.reduceEqDiff, Nat.reduceAdd, Nat.reduceMul, Nat.reduceLT, Nat.reduceLeDiff, Int.reduceLT, Int.reduceLE, Int.reduceEq, reduceCtorEq, Int.reduceBEq, Int.reduceBNe, Int.reduceToNat, Nat.reduceSub, Nat.reduceDiv, Int.reduceNeg, Int.reduceAdd, Int.reduceSub, Int.reduceMul, Heap.gets, Heap.sets, Heap.get, bytesA_length, bytesA_one, bytesA_plains, List.take_of_length_le, List.drop_of_length_le, Nat.add_zero, V.one, Nat.reduceLeDiff, List.all_cons, List.all_nil, ne_eq, not_false_eq_true, Nat.zero_le, q1, q2, q3, q4, q5, q6, q7]; rfl) ?_ | refine To.op1 hxE5 (by simp only [go_sem, eqs hxE5, reduceIte, Nat.reduceEqDiff, Nat.reduceAdd, Nat.reduceMul, Nat.reduceLT, Nat.reduceLeDiff, Int.reduceLT, Int.reduceLE, Int.reduceEq, reduceCtorEq, Int.reduceBEq, Int.reduceBNe, Int.reduceToNat, Nat.reduceSub, Nat.reduceDiv, Int.reduceNeg, Int.reduceAdd, Int.reduceSub, Int.reduceMul, Heap.gets, Heap.sets, Heap.get, bytesA_length, bytesA_one, bytesA_plains, List.take_of_length_le, List.drop_of_length_le, Nat.add_zero, V.one, Nat.reduceLeDiff, List.all_cons, List.all_nil, ne_eq, not_false_eq_true, Nat.zero_le, q1, q2, q3, q4, q5, q6, q7]; rfl) ?_ | refine To.nop hxE5 ?_ | (refine To.condT hxE5 ?_ ?_; focus (simp only [go_sem, eqs hxE5, reduceIte, Nat.reduceEqDiff, Nat.reduceAdd, Nat.reduceMul, Nat.reduceLT, Nat.reduceLeDiff, Int.reduceLT, Int.reduceLE, Int.reduceEq, reduceCtorEq, Int.reduceBEq, Int.reduceBNe, Int.reduceToNat, Nat.reduceSub, Nat.reduceDiv, Int.reduceNeg, Int.reduceAdd, Int.reduceSub, Int.reduceMul, Heap.gets, Heap.sets, Heap.get, bytesA_length, bytesA_one, bytesA_plains, List.take_of_length_le, List.drop_of_length_le, Nat.add_zero, V.one, Nat.reduceLeDiff, List.all_cons, List.all_nil, ne_eq, not_false_eq_true, Nat.zero_le, q1, q2, q3, q4, q5, q6, q7]; done)) | (refine To.condF hxE5 ?_ ?_; focus (simp only [go_sem, eqs hxE5, reduceIte, Nat.reduceEqDiff, Nat.reduceAdd, Nat.reduceMul, Nat.reduceLT, Nat.reduceLeDiff, Int.reduceLT, Int.reduceLE, Int.reduceEq, reduceCtorEq, Int.reduceBEq, Int.reduceBNe, Int.reduceToNat, Nat.reduceSub, Nat.reduceDiv, Int.reduceNeg, Int.reduceAdd, Int.reduceSub, Int.reduceMul, Heap.gets, Heap.sets, Heap.get, bytesA_length, bytesA_one, bytesA_plains, List.take_of_length_le, List.drop_of_length_le, Nat.add_zero, V.one, Nat.reduceLeDiff, List.all_cons, List.all_nil, ne_eq, not_false_eq_true, Nat.zero_le, q1, q2, q3, q4, q5, q6, q7]; done)) | refine To.block hxE5 ?_ | refine To.scope hxE5 ?_ | refine To.ret hxE5 ?_ | refine To.exit hxE5 ?_ | refine To.skip hxE5 ?_ | refine To.label hxE5 ?_))
      refine ⟨_, _, finCT (i := 2) (n := 8) (j := 3) (l := 0) (o := 0) rfl (by simp only [go_sem, eqs hxE5, reduceIte, Nat.reduceEqDiff, Nat.reduceAdd, Nat.reduceMul, Nat.reduceLT, Nat.reduceLeDiff, Int.reduceLT, Int.reduceLE, Int.reduceEq, reduceCtorEq, Int.reduceBEq, Int.reduceBNe, Int.reduceToNat, Nat.reduceSub, Nat.reduceDiv, Int.reduceNeg, Int.reduceAdd, Int.reduceSub, Int.reduceMul]) (by simp only [go_sem, eqs hxE5, reduceIte, Nat.reduceEqDiff, Nat.reduceAdd, Nat.reduceMul, Nat.reduceLT, Nat.reduceLeDiff, Int.reduceLT, Int.reduceLE, Int.reduceEq, reduceCtorEq, Int.reduceBEq, Int.reduceBNe, Int.reduceToNat, Nat.reduceSub, Nat.reduceDiv, Int.reduceNeg, Int.reduceAdd, Int.reduceSub, Int.reduceMul, Heap.gets, Heap.sets, Heap.get, bytesA_length, bytesA_one, bytesA_plains, List.take_of_length_le, List.drop_of_length_le, Nat.add_zero, V.one, Nat.reduceLeDiff, List.all_cons, List.all_nil, ne_eq, not_false_eq_true, Nat.zero_le]; rfl), ?_, ?_⟩
      · simp only [go_sem, eqs hxE5, reduceIte, Nat.reduceEqDiff, Nat.reduceAdd, Nat.reduceMul, Nat.reduceLT, Nat.reduceLeDiff, Int.reduceLT, Int.reduceLE, Int.reduceEq, reduceCtorEq, Int.reduceBEq, Int.reduceBNe, Int.reduceToNat, Nat.reduceSub, Nat.reduceDiv, Int.reduceNeg, Int.reduceAdd, Int.reduceSub, Int.reduceMul, Bool.true_and, noReq]
      · simp only [go_sem, eqs hxE5, reduceIte, Nat.reduceEqDiff, Nat.reduceAdd, Nat.reduceMul, Nat.reduceLT, Nat.reduceLeDiff, Int.reduceLT, Int.reduceLE, Int.reduceEq, reduceCtorEq, Int.reduceBEq, Int.reduceBNe, Int.reduceToNat, Nat.reduceSub, Nat.reduceDiv, Int.reduceNeg, Int.reduceAdd, Int.reduceSub, Int.reduceMul]
    · rw [c2] at q7
      (repeat' (first | refine To.seq hxE5 ?_ | refine To.op0 hxE5 (by simp only [go_sem, eqs hxE5, reduceIte, Nat.reduceEqDiff, Nat.reduceAdd, Nat.reduceMul, Nat.reduceLT, Nat.reduceLeDiff, Int.reduceLT, Int.reduceLE, Int.reduceEq, reduceCtorEq, Int.reduceBEq, Int.reduceBNe, Int.reduceToNat, Nat.reduceSub, Nat.reduceDiv, Int.reduceNeg, Int.reduceAdd, Int.reduceSub, Int.reduceMul, Heap.gets, Heap.sets, Heap.get, bytesA_length, bytesA_one, bytesA_plains, List.take_of_length_le, List.drop_of_length_le, Nat.add_zero, V.one, Nat.reduceLeDiff, List.all_cons, List.all_nil, ne_eq, not_false_eq_true, Nat.zero_le, q1, q2, q3, q4, q5, q6, q7]; rfl) ?_ | refine To.op1 hxE5 (by simp only [go_sem, eqs hxE5, reduceIte, Nat.reduceEqDiff, Nat.reduceAdd, Nat.reduceMul, Nat.reduceLT, Nat.reduceLeDiff, Int.reduceLT, Int.reduceLE, Int.reduceEq, reduceCtorEq, Int.reduceBEq, Int.reduceBNe, Int.reduceToNat, Nat.reduceSub, Nat.reduceDiv, Int.reduceNeg, Int.reduceAdd, Int.reduceSub, Int.reduceMul, Heap.gets, Heap.sets, Heap.get, bytesA_length, bytesA_one, bytesA_plains, List.take_of_length_le, List.drop_of_length_le, Nat.add_zero, V.one, Nat.reduceLeDiff, List.all_cons, List.all_nil, ne_eq, not_false_eq_true, Nat.zero_le, q1, q2, q3, q4, q5, q6, q7]; rfl) ?_ | refine To.nop hxE5 ?_ | (refine To.condT hxE5 ?_ ?_; focus (simp only [go_sem, eqs hxE5, reduceIte, Nat.reduceEqDiff, Nat.reduceAdd, Nat.reduceMul, Nat.reduceLT, Nat.reduceLeDiff, Int.reduceLT, Int.reduceLE, Int.reduceEq, reduceCtorEq, Int.reduceBEq, Int.reduceBNe, Int.reduceToNat, Nat.reduceSub, Nat.reduceDiv, Int.reduceNeg, Int.reduceAdd, Int.reduceSub, Int.reduceMul, Heap.gets, Heap.sets, Heap.get, bytesA_length, bytesA_one, bytesA_plains, List.take_of_length_le, List.drop_of_length_le, Nat.add_zero, V.one, Nat.reduceLeDiff, List.all_cons, List.all_nil, ne_eq, not_false_eq_true, Nat.zero_le, q1, q2, q3, q4, q5, q6, q7]; done)) | (refine To.condF hxE5 ?_ ?_; focus (simp only [go_sem, eqs hxE5, reduceIte, Nat.reduceEqDiff, Nat.reduceAdd, Nat.reduceMul, Nat.reduceLT, Nat.reduceLeDiff, Int.reduceLT, Int.reduceLE, Int.reduceEq, reduceCtorEq, Int.reduceBEq, Int.reduceBNe, Int.reduceToNat, Nat.reduceSub, Nat.reduceDiv, Int.reduceNeg, Int.reduceAdd, Int.reduceSub, Int.reduceMul, Heap.gets, Heap.sets, Heap.get, bytesA_length, bytesA_one, bytesA_plains, List.take_of_length_le, List.drop_of_length_le, Nat.add_zero, V.one, Nat.reduceLeDiff, List.all_cons, List.all_nil, ne_eq, not_false_eq_true, Nat.zero_le, q1, q2, q3, q4, q5, q6, q7]; done)) | refine To.block hxE5 ?_ | refine To.scope hxE5 ?_ | refine To.ret hxE5 ?_ | refine To.exit hxE5 ?_ | refine To.skip hxE5 ?_ | refine To.label hxE5 ?_))
      refine ⟨_, _, finCT (i := 2) (n := 8) (j := 3) (l := 0) (o := 0) rfl (by simp only [go_sem, eqs hxE5, reduceIte, Nat.reduceEqDiff, Nat.reduceAdd, Nat.reduceMul, Nat.reduceLT, Nat.reduceLeDiff, Int.reduceLT, Int.reduceLE, Int.reduceEq, reduceCtorEq, Int.reduceBEq, Int.reduceBNe, Int.reduceToNat, Nat.reduceSub, Nat.reduceDiv, Int.reduceNeg, Int.reduceAdd, Int.reduceSub, Int.reduceMul]) (by simp only [go_sem, eqs hxE5, reduceIte, Nat.reduceEqDiff, Nat.reduceAdd, Nat.reduceMul, Nat.reduceLT, Nat.reduceLeDiff, Int.reduceLT, Int.reduceLE, Int.reduceEq, reduceCtorEq, Int.reduceBEq, Int.reduceBNe, Int.reduceToNat, Nat.reduceSub, Nat.reduceDiv, Int.reduceNeg, Int.reduceAdd, Int.reduceSub, Int.reduceMul, Heap.gets, Heap.sets, Heap.get, bytesA_length, bytesA_one, bytesA_plains, List.take_of_length_le, List.drop_of_length_le, Nat.add_zero, V.one, Nat.reduceLeDiff, List.all_cons, List.all_nil, ne_eq, not_false_eq_true, Nat.zero_le]; rfl), ?_, ?_⟩
      · simp only [go_sem, eqs hxE5, reduceIte, Nat.reduceEqDiff, Nat.reduceAdd, Nat.reduceMul, Nat.reduceLT, Nat.reduceLeDiff, Int.reduceLT, Int.reduceLE, Int.reduceEq, reduceCtorEq, Int.reduceBEq, Int.reduceBNe, Int.reduceToNat, Nat.reduceSub, Nat.reduceDiv, Int.reduceNeg, Int.reduceAdd, Int.reduceSub, Int.reduceMul, Bool.true_and]
      · simp only [go_sem, eqs hxE5, reduceIte, Nat.reduceEqDiff, Nat.reduceAdd, Nat.reduceMul, Nat.reduceLT, Nat.reduceLeDiff, Int.reduceLT, Int.reduceLE, Int.reduceEq, reduceCtorEq, Int.reduceBEq, Int.reduceBNe, Int.reduceToNat, Nat.reduceSub, Nat.reduceDiv, Int.reduceNeg, Int.reduceAdd, Int.reduceSub, Int.reduceMul]
end Go.Proofs.Ytjbblfoefibeaaa

/- Wire: the document's request of bytes. -/
namespace Go.Proofs.Ytjbblfoefibeaaa
open Go AM
set_option linter.unusedSimpArgs false
set_option linter.unusedVariables false
set_option maxRecDepth 100000

def tPut : Ans
  | [.agg [.int .i64 id, .int .i64 op, .int .i64 ino, .int .i64 oth, .int .i64 n, .int .i64 m, .str nm, .str tx]] => some (putV id op ino oth n m nm tx)
  | _ => none
theorem okPut : SpOk FF E5 13 tPut := by
  intro args v h hpl
  unfold tPut at h
  split at h
  · cases h
    obtain ⟨r, oh, q, rfl, rfl⟩ := put_den _ _ _ _ _ _ _ _
    exact ⟨by unfold putV; split <;> rfl, _, q⟩
  · cases h
def tGet : Ans
  | [.str s] => if s.length ≤ 100000 then some (getV s) else none
  | _ => none
theorem okGet : SpOk FF E5 15 tGet := by
  intro args v h hpl
  unfold tGet at h
  split at h
  · split at h
    · rename_i hc
      cases h
      obtain ⟨r, oh, q, rfl, rfl⟩ := get_den _ hc
      exact ⟨by unfold getV; split <;> rfl, _, q⟩
    · cases h
  · cases h
def g6 : Nat → Option Ans := addG g5 [(16, tReqB), (13, tPut), (15, tGet)]
def E6 : ExtF := plainExt g6
theorem hxE6 : ExtMono E6 := plainExt_mono g6
theorem sndE6 : ExtSound Try.prog E6 := addG_sound mixed ffok sndE5 (by
  intro p hp
  simp only [List.mem_cons, List.not_mem_nil, or_false] at hp
  rcases hp with rfl | rfl | rfl
  · exact okReqB
  · exact okPut
  · exact okGet)
theorem E6_none {f : Nat} (h : g6 f = none) (c : CallF) : E6 c f = none := plainExt_none h c
theorem eContains_6 (s : List UInt8) (c : UInt8) (h : Heap) : Den FF E6 79 [.str s, .str [c]] h = some (.val (.bool (s.contains c)), none) := den_plain (sp := tContains) h rfl (by rfl) (by first | (simp [V.plains, V.plain, bytesA_plains]; done) | rfl)
theorem eAwake24_6 (_ : Unit) (h : Heap) : Den FF E6 27 [] h = some (.val (.bool true), none) := den_plain (sp := tAwake) h rfl (by rfl) (by first | (simp [V.plains, V.plain, bytesA_plains]; done) | rfl)
theorem eAwake23_6 (_ : Unit) (h : Heap) : Den FF E6 11 [] h = some (.val (.bool true), none) := den_plain (sp := tAwake) h rfl (by rfl) (by first | (simp [V.plains, V.plain, bytesA_plains]; done) | rfl)
theorem eIn_6 (n lo hi : Int) (h : Heap) : Den FF E6 65 [.int .i64 n, .int .i64 lo, .int .i64 hi] h = some (.val (.bool (inB n lo hi)), none) := den_plain (sp := tIn) h rfl (by rfl) (by first | (simp [V.plains, V.plain, bytesA_plains]; done) | rfl)
theorem eTakes_6 (id op ino oth n m : Int) (nm tx : List UInt8) (h : Heap) : Den FF E6 54 [.agg [.int .i64 id, .int .i64 op, .int .i64 ino, .int .i64 oth, .int .i64 n, .int .i64 m, .str nm, .str tx]] h = some (.val (.tuple [.agg (takesF id op ino oth n m nm tx), .bool (isOp op)]), none) := den_plain (sp := tTakes) h rfl (by rfl) (by first | (simp [V.plains, V.plain, bytesA_plains]; done) | rfl)
theorem eWAttr_6 (a0 a1 a2 a3 a4 a5 : Int) (h : Heap) : Den FF E6 25 [.agg [.int .i64 a0, .int .i64 a1, .int .i64 a2, .int .i64 a3, .int .i64 a4, .int .i64 a5]] h = some (.val (.bool (attrB a0 a1 a2 a3 a4 a5)), none) := den_plain (sp := tAttr) h rfl (by rfl) (by first | (simp [V.plains, V.plain, bytesA_plains]; done) | rfl)
theorem eRAttr_6 (a0 a1 a2 a3 a4 a5 : Int) (h : Heap) : Den FF E6 24 [.agg [.int .i64 a0, .int .i64 a1, .int .i64 a2, .int .i64 a3, .int .i64 a4, .int .i64 a5]] h = some (.val (.bool (attrB a0 a1 a2 a3 a4 a5)), none) := den_plain (sp := tAttr) h rfl (by rfl) (by first | (simp [V.plains, V.plain, bytesA_plains]; done) | rfl)
theorem eNum1_6 (n : Int) (h : Heap) : Den FF E6 77 [.int .i64 n] h = some (.val (.bool (!numB n)), none) := den_plain (sp := tNum1) h rfl (by rfl) (by first | (simp [V.plains, V.plain, bytesA_plains]; done) | rfl)
theorem eRight_6 (id op ino oth n m : Int) (nm tx : List UInt8) (h : Heap) : Den FF E6 14 [.agg [.int .i64 id, .int .i64 op, .int .i64 ino, .int .i64 oth, .int .i64 n, .int .i64 m, .str nm, .str tx]] h = some (.val (.bool (rightR id op ino oth n m nm tx)), none) := den_plain (sp := tRight) h rfl (by rfl) (by first | (simp [V.plains, V.plain, bytesA_plains]; done) | rfl)
theorem eNumD_6 (n : Int) (h : Heap) : Den FF E6 48 [.int .i64 n] h = some (.val (.bool (numB n)), none) := den_plain (sp := tNumD) h rfl (by rfl) (by first | (simp [V.plains, V.plain, bytesA_plains]; done) | rfl)
theorem eBig_6 (n s : Int) (hc : 0 ≤ n ∧ n ≤ 9223372036854775807 ∧ 0 ≤ s ∧ s ≤ 8) (h : Heap) : Den FF E6 60 [.int .i64 n, .int .i64 s] h = some (.val (.str (bigF n s)), none) := den_plain (sp := tBig) h rfl (by exact if_pos hc) (by first | (simp [V.plains, V.plain, bytesA_plains]; done) | rfl)
theorem eNumber_6 (s : List UInt8) (a z : Int) (hc : 0 ≤ a ∧ a ≤ 1000000 ∧ 0 ≤ z ∧ z ≤ 4 ∧ s.length ≤ 1000000) (h : Heap) : Den FF E6 62 [.str s, .int .i64 a, .int .i64 z] h = some (.val ((if a.toNat + z.toNat ≤ s.length then .tuple [.int .i64 (numAt s a.toNat z.toNat), .bool true] else .tuple [.int .i64 0, .bool false])), none) := den_plain (sp := tNumber) h rfl (by exact if_pos hc) (by first | (simp [V.plains, V.plain, bytesA_plains]; done) | rfl)
theorem eText_6 (s : List UInt8) (hc : s.length ≤ 1000000) (h : Heap) : Den FF E6 61 [.str s] h = some (.val (.str (textB s)), none) := den_plain (sp := tText) h rfl (by exact if_pos hc) (by first | (simp [V.plains, V.plain, bytesA_plains]; done) | rfl)
theorem ePart_6 (s : List UInt8) (a : Int) (hc : 0 ≤ a ∧ a ≤ 900000 ∧ s.length ≤ 900000) (h : Heap) : Den FF E6 63 [.str s, .int .i64 a] h = some (.val (partV s a.toNat), none) := den_plain (sp := tPart) h rfl (by exact if_pos hc) (by first | (simp [V.plains, V.plain, bytesA_plains]; done) | rfl)
theorem eRRight_6 (id op ino oth n m : Int) (nm tx : List UInt8) (h : Heap) : Den FF E6 12 [.agg [.int .i64 id, .int .i64 op, .int .i64 ino, .int .i64 oth, .int .i64 n, .int .i64 m, .str nm, .str tx]] h = some (.val (.bool (rightR id op ino oth n m nm tx)), none) := den_plain (sp := tRight) h rfl (by rfl) (by first | (simp [V.plains, V.plain, bytesA_plains]; done) | rfl)
theorem eReqB_6 (id op ino oth n m : Int) (nm tx : List UInt8) (hc : rightR id op ino oth n m nm tx = true) (h : Heap) : Den FF E6 16 [.agg [.int .i64 id, .int .i64 op, .int .i64 ino, .int .i64 oth, .int .i64 n, .int .i64 m, .str nm, .str tx]] h = some (.val (.str (reqB id op ino oth n m nm tx)), none) := den_plain (sp := tReqB) h rfl (by exact if_pos hc) (by first | (simp [V.plains, V.plain, bytesA_plains]; done) | rfl)
theorem ePut_6 (id op ino oth n m : Int) (nm tx : List UInt8) (h : Heap) : Den FF E6 13 [.agg [.int .i64 id, .int .i64 op, .int .i64 ino, .int .i64 oth, .int .i64 n, .int .i64 m, .str nm, .str tx]] h = some (.val (putV id op ino oth n m nm tx), none) := den_plain (sp := tPut) h rfl (by rfl) (by first | (simp [V.plains, V.plain, bytesA_plains]; done) | rfl)
theorem eGet_6 (s : List UInt8) (hc : s.length ≤ 100000) (h : Heap) : Den FF E6 15 [.str s] h = some (.val (getV s), none) := den_plain (sp := tGet) h rfl (by exact if_pos hc) (by first | (simp [V.plains, V.plain, bytesA_plains]; done) | rfl)

def rOp (s : List UInt8) : Int := ((s.getD 1 0).toNat : Int)
def rNum (s : List UInt8) (a : Nat) : Int := ((numAt s a 4 : Nat) : Int)
def rA (s : List UInt8) : Nat := numAt s 22 2
def rNm (s : List UInt8) : List UInt8 := (s.drop 24).take (rA s)
def rB (s : List UInt8) : Nat := numAt s (24 + rA s) 2
def rTx (s : List UInt8) : List UInt8 := (s.drop (24 + rA s + 2)).take (rB s)
def rFit (s : List UInt8) : Bool := decide (22 ≤ s.length) && ((s.getD 0 0 == 1) && (decide (24 + rA s ≤ s.length) && decide (24 + rA s + 2 + rB s ≤ s.length)))
def rRight (s : List UInt8) : Bool := rightR (rNum s 2) (rOp s) (rNum s 6) (rNum s 10) (rNum s 14) (rNum s 18) (rNm s) (rTx s)
def rSame (s : List UInt8) : Bool := reqB (rNum s 2) (rOp s) (rNum s 6) (rNum s 10) (rNum s 14) (rNum s 18) (rNm s) (rTx s) == s
def rAgg (s : List UInt8) : V := .agg [.int .i64 (rNum s 2), .int .i64 (rOp s), .int .i64 (rNum s 6), .int .i64 (rNum s 10), .int .i64 (rNum s 14), .int .i64 (rNum s 18), .str (rNm s), .str (rTx s)]
def readV (s : List UInt8) : V := if (rFit s && (rRight s && rSame s)) = true then .tuple [rAgg s, .bool true] else .tuple [noReq, .bool false]

theorem num4 {s : List UInt8} (a : Nat) (h : Heap) (ha : a + 4 ≤ s.length) (hs : s.length ≤ 100000) : Den FF E6 62 [.str s, .int .i64 (a : Int), .int .i64 4] h = some (.val (.tuple [.int .i64 (rNum s a), .bool true]), none) := by
  have := eNumber_6 s (a : Int) 4 ⟨by omega, by omega, by decide, by decide, by omega⟩ h
  simp only [Int.toNat_natCast, show Int.toNat 4 = 4 from rfl, if_pos ha] at this
  exact this
theorem part_ok {s : List UInt8} {a n : Nat} (h : Heap) (hn : numAt s a 2 = n) (ha : a + 2 + n ≤ s.length) (hs : s.length ≤ 100000) : Den FF E6 63 [.str s, .int .i64 (a : Int)] h = some (.val (.tuple [.str ((s.drop (a + 2)).take n), .int .i64 ((2 + n : Nat) : Int), .bool true]), none) := by
  subst hn
  have := ePart_6 s (a : Int) ⟨by omega, by omega, by omega⟩ h
  simp only [Int.toNat_natCast, partV] at this
  rw [if_pos (by omega), if_pos ha] at this
  exact this
theorem part_no {s : List UInt8} {a n : Nat} (h : Heap) (hn : numAt s a 2 = n) (ha : ¬ a + 2 + n ≤ s.length) (ha2 : a ≤ 800000) (hs : s.length ≤ 100000) : Den FF E6 63 [.str s, .int .i64 (a : Int)] h = some (.val (.tuple [.str [], .int .i64 0, .bool false]), none) := by
  subst hn
  have := ePart_6 s (a : Int) ⟨by omega, by omega, by omega⟩ h
  simp only [Int.toNat_natCast, partV] at this
  by_cases h1 : a + 2 ≤ s.length
  · rw [if_pos h1, if_neg ha] at this; exact this
  · rw [if_neg h1] at this; exact this
theorem numAt2_lt (s : List UInt8) (a : Nat) : numAt s a 2 < 65536 := by
  have h := be_lt ((s.drop a).take 2)
  have h2 := Nat.pow_le_pow_right (n := 256) (by decide) (show ((s.drop a).take 2).length ≤ 2 by rw [List.length_take]; omega)
  exact Nat.lt_of_lt_of_le h h2

set_option maxHeartbeats 8000000 in
theorem read_den (s : List UInt8) (hs : s.length ≤ 100000) : ∃ r oh, Den FF E6 17 [.str s] H0 = some (r, oh) ∧ r = .val (readV s) ∧ oh = none := by
  refine To.denE hxE6 (f := 17) (a := af17) rfl (E6_none rfl) (Nat.le_of_ble_eq_true rfl) ?_
  unfold readV
  by_cases h22 : s.length < 22
  · have d1 : decide ((s.length : Int) < 22) = true := by simp; omega
    have hF : rFit s = false := by simp only [rFit, show decide (22 ≤ s.length) = false by simp; omega, Bool.false_and]
    (repeat' (first | refine To.seq hxE6 ?_ | refine To.op0 hxE6 (by simp only [go_sem, eqs hxE6, reduceIte, Nat.reduceEqDiff, Nat.reduceAdd, Nat.reduceMul, Nat.reduceLT, Nat.reduceLeDiff, Int.reduceLT, Int.reduceLE, Int.reduceEq, reduceCtorEq, Int.reduceBEq, Int.reduceBNe, Int.reduceToNat, Nat.reduceSub, Nat.reduceDiv, Int.reduceNeg, Int.reduceAdd, Int.reduceSub, Int.reduceMul, Heap.gets, Heap.sets, Heap.get, bytesA_length, bytesA_one, bytesA_plains, List.take_of_length_le, List.drop_of_length_le, Nat.add_zero, V.one, Nat.reduceLeDiff, List.all_cons, List.all_nil, ne_eq, not_false_eq_true, Nat.zero_le, d1]; rfl) ?_ | refine To.op1 hxE6 (by simp only [go_sem, eqs hxE6, reduceIte, Nat.reduceEqDiff, Nat.reduceAdd, Nat.reduceMul, Nat.reduceLT, Nat.reduceLeDiff, Int.reduceLT, Int.reduceLE, Int.reduceEq, reduceCtorEq, Int.reduceBEq, Int.reduceBNe, Int.reduceToNat, Nat.reduceSub, Nat.reduceDiv, Int.reduceNeg, Int.reduceAdd, Int.reduceSub, Int.reduceMul, Heap.gets, Heap.sets, Heap.get, bytesA_length, bytesA_one, bytesA_plains, List.take_of_length_le, List.drop_of_length_le, Nat.add_zero, V.one, Nat.reduceLeDiff, List.all_cons, List.all_nil, ne_eq, not_false_eq_true, Nat.zero_le, d1]; rfl) ?_ | refine To.nop hxE6 ?_ | (refine To.condT hxE6 ?_ ?_; focus (simp only [go_sem, eqs hxE6, reduceIte, Nat.reduceEqDiff, Nat.reduceAdd, Nat.reduceMul, Nat.reduceLT, Nat.reduceLeDiff, Int.reduceLT, Int.reduceLE, Int.reduceEq, reduceCtorEq, Int.reduceBEq, Int.reduceBNe, Int.reduceToNat, Nat.reduceSub, Nat.reduceDiv, Int.reduceNeg, Int.reduceAdd, Int.reduceSub, Int.reduceMul, Heap.gets, Heap.sets, Heap.get, bytesA_length, bytesA_one, bytesA_plains, List.take_of_length_le, List.drop_of_length_le, Nat.add_zero, V.one, Nat.reduceLeDiff, List.all_cons, List.all_nil, ne_eq, not_false_eq_true, Nat.zero_le, d1]; done)) | (refine To.condF hxE6 ?_ ?_; focus (simp only [go_sem, eqs hxE6, reduceIte, Nat.reduceEqDiff, Nat.reduceAdd, Nat.reduceMul, Nat.reduceLT, Nat.reduceLeDiff, Int.reduceLT, Int.reduceLE, Int.reduceEq, reduceCtorEq, Int.reduceBEq, Int.reduceBNe, Int.reduceToNat, Nat.reduceSub, Nat.reduceDiv, Int.reduceNeg, Int.reduceAdd, Int.reduceSub, Int.reduceMul, Heap.gets, Heap.sets, Heap.get, bytesA_length, bytesA_one, bytesA_plains, List.take_of_length_le, List.drop_of_length_le, Nat.add_zero, V.one, Nat.reduceLeDiff, List.all_cons, List.all_nil, ne_eq, not_false_eq_true, Nat.zero_le, d1]; done)) | refine To.block hxE6 ?_ | refine To.scope hxE6 ?_ | refine To.ret hxE6 ?_ | refine To.exit hxE6 ?_ | refine To.skip hxE6 ?_ | refine To.label hxE6 ?_))
    refine ⟨_, _, finCT (i := 2) (n := 8) (j := 3) (l := 0) (o := 0) rfl (by simp only [go_sem, eqs hxE6, reduceIte, Nat.reduceEqDiff, Nat.reduceAdd, Nat.reduceMul, Nat.reduceLT, Nat.reduceLeDiff, Int.reduceLT, Int.reduceLE, Int.reduceEq, reduceCtorEq, Int.reduceBEq, Int.reduceBNe, Int.reduceToNat, Nat.reduceSub, Nat.reduceDiv, Int.reduceNeg, Int.reduceAdd, Int.reduceSub, Int.reduceMul]) (by simp only [go_sem, eqs hxE6, reduceIte, Nat.reduceEqDiff, Nat.reduceAdd, Nat.reduceMul, Nat.reduceLT, Nat.reduceLeDiff, Int.reduceLT, Int.reduceLE, Int.reduceEq, reduceCtorEq, Int.reduceBEq, Int.reduceBNe, Int.reduceToNat, Nat.reduceSub, Nat.reduceDiv, Int.reduceNeg, Int.reduceAdd, Int.reduceSub, Int.reduceMul, Heap.gets, Heap.sets, Heap.get, bytesA_length, bytesA_one, bytesA_plains, List.take_of_length_le, List.drop_of_length_le, Nat.add_zero, V.one, Nat.reduceLeDiff, List.all_cons, List.all_nil, ne_eq, not_false_eq_true, Nat.zero_le]; rfl), ?_, ?_⟩
    · simp only [go_sem, eqs hxE6, reduceIte, Nat.reduceEqDiff, Nat.reduceAdd, Nat.reduceMul, Nat.reduceLT, Nat.reduceLeDiff, Int.reduceLT, Int.reduceLE, Int.reduceEq, reduceCtorEq, Int.reduceBEq, Int.reduceBNe, Int.reduceToNat, Nat.reduceSub, Nat.reduceDiv, Int.reduceNeg, Int.reduceAdd, Int.reduceSub, Int.reduceMul, hF, Bool.false_and, noReq]
    · simp only [go_sem, eqs hxE6, reduceIte, Nat.reduceEqDiff, Nat.reduceAdd, Nat.reduceMul, Nat.reduceLT, Nat.reduceLeDiff, Int.reduceLT, Int.reduceLE, Int.reduceEq, reduceCtorEq, Int.reduceBEq, Int.reduceBNe, Int.reduceToNat, Nat.reduceSub, Nat.reduceDiv, Int.reduceNeg, Int.reduceAdd, Int.reduceSub, Int.reduceMul]
  have d1 : decide ((s.length : Int) < 22) = false := by simp; omega
  have l22 : decide (22 ≤ s.length) = true := by simp; omega
  obtain ⟨c0, hc0⟩ : ∃ c, s[0]? = some c := ⟨s[0], List.getElem?_eq_getElem (by omega)⟩
  obtain ⟨c1, hc1⟩ : ∃ c, s[1]? = some c := ⟨s[1], List.getElem?_eq_getElem (by omega)⟩
  have i0 : idxOf s.length (.int .i64 0) = some 0 := idxOf_nat (n := s.length) (i := 0) (by omega)
  have i1 : idxOf s.length (.int .i64 1) = some 1 := idxOf_nat (n := s.length) (i := 1) (by omega)
  have g0 : s.getD 0 0 = c0 := by rw [List.getD_eq_getElem?_getD, hc0]; rfl
  have g1 : s.getD 1 0 = c1 := by rw [List.getD_eq_getElem?_getD, hc1]; rfl
  have e1 : ((c0.toNat : Int) == 1) = (c0 == 1) := by
    rw [Bool.eq_iff_iff, beq_iff_eq, beq_iff_eq]
    constructor
    · intro h; apply UInt8.toNat.inj; have : c0.toNat = 1 := by omega
      rw [this]; rfl
    · intro h; rw [h]; rfl
  have e2 : ((c0.toNat : Int) != 1) = !(c0 == 1) := by rw [bne, e1]
  cases hc : (c0 == 1)
  · have hF : rFit s = false := by simp only [rFit, g0, hc, Bool.false_and, Bool.and_false]
    rw [hc] at e1 e2
    (repeat' (first | refine To.seq hxE6 ?_ | refine To.op0 hxE6 (by simp only [go_sem, eqs hxE6, reduceIte, Nat.reduceEqDiff, Nat.reduceAdd, Nat.reduceMul, Nat.reduceLT, Nat.reduceLeDiff, Int.reduceLT, Int.reduceLE, Int.reduceEq, reduceCtorEq, Int.reduceBEq, Int.reduceBNe, Int.reduceToNat, Nat.reduceSub, Nat.reduceDiv, Int.reduceNeg, Int.reduceAdd, Int.reduceSub, Int.reduceMul, Heap.gets, Heap.sets, Heap.get, bytesA_length, bytesA_one, bytesA_plains, List.take_of_length_le, List.drop_of_length_le, Nat.add_zero, V.one, Nat.reduceLeDiff, List.all_cons, List.all_nil, ne_eq, not_false_eq_true, Nat.zero_le, d1, i0, hc0, e1, e2]; rfl) ?_ | refine To.op1 hxE6 (by simp only [go_sem, eqs hxE6, reduceIte, Nat.reduceEqDiff, Nat.reduceAdd, Nat.reduceMul, Nat.reduceLT, Nat.reduceLeDiff, Int.reduceLT, Int.reduceLE, Int.reduceEq, reduceCtorEq, Int.reduceBEq, Int.reduceBNe, Int.reduceToNat, Nat.reduceSub, Nat.reduceDiv, Int.reduceNeg, Int.reduceAdd, Int.reduceSub, Int.reduceMul, Heap.gets, Heap.sets, Heap.get, bytesA_length, bytesA_one, bytesA_plains, List.take_of_length_le, List.drop_of_length_le, Nat.add_zero, V.one, Nat.reduceLeDiff, List.all_cons, List.all_nil, ne_eq, not_false_eq_true, Nat.zero_le, d1, i0, hc0, e1, e2]; rfl) ?_ | refine To.nop hxE6 ?_ | (refine To.condT hxE6 ?_ ?_; focus (simp only [go_sem, eqs hxE6, reduceIte, Nat.reduceEqDiff, Nat.reduceAdd, Nat.reduceMul, Nat.reduceLT, Nat.reduceLeDiff, Int.reduceLT, Int.reduceLE, Int.reduceEq, reduceCtorEq, Int.reduceBEq, Int.reduceBNe, Int.reduceToNat, Nat.reduceSub, Nat.reduceDiv, Int.reduceNeg, Int.reduceAdd, Int.reduceSub, Int.reduceMul, Heap.gets, Heap.sets, Heap.get, bytesA_length, bytesA_one, bytesA_plains, List.take_of_length_le, List.drop_of_length_le, Nat.add_zero, V.one, Nat.reduceLeDiff, List.all_cons, List.all_nil, ne_eq, not_false_eq_true, Nat.zero_le, d1, i0, hc0, e1, e2]; done)) | (refine To.condF hxE6 ?_ ?_; focus (simp only [go_sem, eqs hxE6, reduceIte, Nat.reduceEqDiff, Nat.reduceAdd, Nat.reduceMul, Nat.reduceLT, Nat.reduceLeDiff, Int.reduceLT, Int.reduceLE, Int.reduceEq, reduceCtorEq, Int.reduceBEq, Int.reduceBNe, Int.reduceToNat, Nat.reduceSub, Nat.reduceDiv, Int.reduceNeg, Int.reduceAdd, Int.reduceSub, Int.reduceMul, Heap.gets, Heap.sets, Heap.get, bytesA_length, bytesA_one, bytesA_plains, List.take_of_length_le, List.drop_of_length_le, Nat.add_zero, V.one, Nat.reduceLeDiff, List.all_cons, List.all_nil, ne_eq, not_false_eq_true, Nat.zero_le, d1, i0, hc0, e1, e2]; done)) | refine To.block hxE6 ?_ | refine To.scope hxE6 ?_ | refine To.ret hxE6 ?_ | refine To.exit hxE6 ?_ | refine To.skip hxE6 ?_ | refine To.label hxE6 ?_))
    refine ⟨_, _, finCT (i := 2) (n := 8) (j := 3) (l := 0) (o := 0) rfl (by simp only [go_sem, eqs hxE6, reduceIte, Nat.reduceEqDiff, Nat.reduceAdd, Nat.reduceMul, Nat.reduceLT, Nat.reduceLeDiff, Int.reduceLT, Int.reduceLE, Int.reduceEq, reduceCtorEq, Int.reduceBEq, Int.reduceBNe, Int.reduceToNat, Nat.reduceSub, Nat.reduceDiv, Int.reduceNeg, Int.reduceAdd, Int.reduceSub, Int.reduceMul]) (by simp only [go_sem, eqs hxE6, reduceIte, Nat.reduceEqDiff, Nat.reduceAdd, Nat.reduceMul, Nat.reduceLT, Nat.reduceLeDiff, Int.reduceLT, Int.reduceLE, Int.reduceEq, reduceCtorEq, Int.reduceBEq, Int.reduceBNe, Int.reduceToNat, Nat.reduceSub, Nat.reduceDiv, Int.reduceNeg, Int.reduceAdd, Int.reduceSub, Int.reduceMul, Heap.gets, Heap.sets, Heap.get, bytesA_length, bytesA_one, bytesA_plains, List.take_of_length_le, List.drop_of_length_le, Nat.add_zero, V.one, Nat.reduceLeDiff, List.all_cons, List.all_nil, ne_eq, not_false_eq_true, Nat.zero_le]; rfl), ?_, ?_⟩
    · simp only [go_sem, eqs hxE6, reduceIte, Nat.reduceEqDiff, Nat.reduceAdd, Nat.reduceMul, Nat.reduceLT, Nat.reduceLeDiff, Int.reduceLT, Int.reduceLE, Int.reduceEq, reduceCtorEq, Int.reduceBEq, Int.reduceBNe, Int.reduceToNat, Nat.reduceSub, Nat.reduceDiv, Int.reduceNeg, Int.reduceAdd, Int.reduceSub, Int.reduceMul, hF, Bool.false_and, noReq]
    · simp only [go_sem, eqs hxE6, reduceIte, Nat.reduceEqDiff, Nat.reduceAdd, Nat.reduceMul, Nat.reduceLT, Nat.reduceLeDiff, Int.reduceLT, Int.reduceLE, Int.reduceEq, reduceCtorEq, Int.reduceBEq, Int.reduceBNe, Int.reduceToNat, Nat.reduceSub, Nat.reduceDiv, Int.reduceNeg, Int.reduceAdd, Int.reduceSub, Int.reduceMul]
  rw [hc] at e1 e2
  have hop : rOp s = (c1.toNat : Int) := by rw [rOp, g1]
  have w1 : IntKind.i64.wrap (c1.toNat : Int) = rOp s := by rw [hop]; have := c1.toNat_lt; exact wrap_i64 (by omega) (by omega)
  by_cases hA : 24 + rA s ≤ s.length
  · have lA : decide (24 + rA s ≤ s.length) = true := decide_eq_true hA
    have hA2 : 22 + 2 + rA s ≤ s.length := hA
    have q2 : ∀ h, Den FF E6 62 [.str s, .int .i64 2, .int .i64 4] h = some (.val (.tuple [.int .i64 (rNum s 2), .bool true]), none) := fun h => num4 2 h (by omega) hs
    have q6 : ∀ h, Den FF E6 62 [.str s, .int .i64 6, .int .i64 4] h = some (.val (.tuple [.int .i64 (rNum s 6), .bool true]), none) := fun h => num4 6 h (by omega) hs
    have q10 : ∀ h, Den FF E6 62 [.str s, .int .i64 10, .int .i64 4] h = some (.val (.tuple [.int .i64 (rNum s 10), .bool true]), none) := fun h => num4 10 h (by omega) hs
    have q14 : ∀ h, Den FF E6 62 [.str s, .int .i64 14, .int .i64 4] h = some (.val (.tuple [.int .i64 (rNum s 14), .bool true]), none) := fun h => num4 14 h (by omega) hs
    have q18 : ∀ h, Den FF E6 62 [.str s, .int .i64 18, .int .i64 4] h = some (.val (.tuple [.int .i64 (rNum s 18), .bool true]), none) := fun h => num4 18 h (by omega) hs
    have qA : ∀ h, Den FF E6 63 [.str s, .int .i64 22] h = some (.val (.tuple [.str (rNm s), .int .i64 ((2 + rA s : Nat) : Int), .bool true]), none) := fun h => part_ok (a := 22) h rfl hA2 hs
    have hAl : rA s < 65536 := numAt2_lt s 22
    have w2 : IntKind.i64.wrap (22 + ((2 + rA s : Nat) : Int)) = ((24 + rA s : Nat) : Int) := by rw [wrap_i64 (by omega) (by omega)]; omega
    by_cases hB : 24 + rA s + 2 + rB s ≤ s.length
    · have lB : decide (24 + rA s + 2 + rB s ≤ s.length) = true := decide_eq_true hB
      have hF : rFit s = true := by simp only [rFit, g0, hc, l22, lA, lB, Bool.and_true]
      have qB : ∀ h, Den FF E6 63 [.str s, .int .i64 ((24 + rA s : Nat) : Int)] h = some (.val (.tuple [.str (rTx s), .int .i64 ((2 + rB s : Nat) : Int), .bool true]), none) := fun h => part_ok h rfl hB hs
      have qR := fun h => eRRight_6 (rNum s 2) (rOp s) (rNum s 6) (rNum s 10) (rNum s 14) (rNum s 18) (rNm s) (rTx s) h
      change ∀ h, Den FF E6 _ _ h = some (.val (.bool (rRight s)), none) at qR
      rw [hF]
      unfold rAgg
      cases cR : rRight s
      · rw [cR] at qR
        (repeat' (first | refine To.seq hxE6 ?_ | refine To.op0 hxE6 (by simp only [go_sem, eqs hxE6, reduceIte, Nat.reduceEqDiff, Nat.reduceAdd, Nat.reduceMul, Nat.reduceLT, Nat.reduceLeDiff, Int.reduceLT, Int.reduceLE, Int.reduceEq, reduceCtorEq, Int.reduceBEq, Int.reduceBNe, Int.reduceToNat, Nat.reduceSub, Nat.reduceDiv, Int.reduceNeg, Int.reduceAdd, Int.reduceSub, Int.reduceMul, Heap.gets, Heap.sets, Heap.get, bytesA_length, bytesA_one, bytesA_plains, List.take_of_length_le, List.drop_of_length_le, Nat.add_zero, V.one, Nat.reduceLeDiff, List.all_cons, List.all_nil, ne_eq, not_false_eq_true, Nat.zero_le, d1, i0, i1, hc0, hc1, e1, e2, w1, q2, q6, q10, q14, q18, qA, w2, qB, qR]; rfl) ?_ | refine To.op1 hxE6 (by simp only [go_sem, eqs hxE6, reduceIte, Nat.reduceEqDiff, Nat.reduceAdd, Nat.reduceMul, Nat.reduceLT, Nat.reduceLeDiff, Int.reduceLT, Int.reduceLE, Int.reduceEq, reduceCtorEq, Int.reduceBEq, Int.reduceBNe, Int.reduceToNat, Nat.reduceSub, Nat.reduceDiv, Int.reduceNeg, Int.reduceAdd, Int.reduceSub, Int.reduceMul, Heap.gets, Heap.sets, Heap.get, bytesA_length, bytesA_one, bytesA_plains, List.take_of_length_le, List.drop_of_length_le, Nat.add_zero, V.one, Nat.reduceLeDiff, List.all_cons, List.all_nil, ne_eq, not_false_eq_true, Nat.zero_le, d1, i0, i1, hc0, hc1, e1, e2, w1, q2, q6, q10, q14, q18, qA, w2, qB, qR]; rfl) ?_ | refine To.nop hxE6 ?_ | (refine To.condT hxE6 ?_ ?_; focus (simp only [go_sem, eqs hxE6, reduceIte, Nat.reduceEqDiff, Nat.reduceAdd, Nat.reduceMul, Nat.reduceLT, Nat.reduceLeDiff, Int.reduceLT, Int.reduceLE, Int.reduceEq, reduceCtorEq, Int.reduceBEq, Int.reduceBNe, Int.reduceToNat, Nat.reduceSub, Nat.reduceDiv, Int.reduceNeg, Int.reduceAdd, Int.reduceSub, Int.reduceMul, Heap.gets, Heap.sets, Heap.get, bytesA_length, bytesA_one, bytesA_plains, List.take_of_length_le, List.drop_of_length_le, Nat.add_zero, V.one, Nat.reduceLeDiff, List.all_cons, List.all_nil, ne_eq, not_false_eq_true, Nat.zero_le, d1, i0, i1, hc0, hc1, e1, e2, w1, q2, q6, q10, q14, q18, qA, w2, qB, qR]; done)) | (refine To.condF hxE6 ?_ ?_; focus (simp only [go_sem, eqs hxE6, reduceIte, Nat.reduceEqDiff, Nat.reduceAdd, Nat.reduceMul, Nat.reduceLT, Nat.reduceLeDiff, Int.reduceLT, Int.reduceLE, Int.reduceEq, reduceCtorEq, Int.reduceBEq, Int.reduceBNe, Int.reduceToNat, Nat.reduceSub, Nat.reduceDiv, Int.reduceNeg, Int.reduceAdd, Int.reduceSub, Int.reduceMul, Heap.gets, Heap.sets, Heap.get, bytesA_length, bytesA_one, bytesA_plains, List.take_of_length_le, List.drop_of_length_le, Nat.add_zero, V.one, Nat.reduceLeDiff, List.all_cons, List.all_nil, ne_eq, not_false_eq_true, Nat.zero_le, d1, i0, i1, hc0, hc1, e1, e2, w1, q2, q6, q10, q14, q18, qA, w2, qB, qR]; done)) | refine To.block hxE6 ?_ | refine To.scope hxE6 ?_ | refine To.ret hxE6 ?_ | refine To.exit hxE6 ?_ | refine To.skip hxE6 ?_ | refine To.label hxE6 ?_))
        refine ⟨_, _, finCT (i := 2) (n := 8) (j := 3) (l := 0) (o := 0) rfl (by simp only [go_sem, eqs hxE6, reduceIte, Nat.reduceEqDiff, Nat.reduceAdd, Nat.reduceMul, Nat.reduceLT, Nat.reduceLeDiff, Int.reduceLT, Int.reduceLE, Int.reduceEq, reduceCtorEq, Int.reduceBEq, Int.reduceBNe, Int.reduceToNat, Nat.reduceSub, Nat.reduceDiv, Int.reduceNeg, Int.reduceAdd, Int.reduceSub, Int.reduceMul]) (by simp only [go_sem, eqs hxE6, reduceIte, Nat.reduceEqDiff, Nat.reduceAdd, Nat.reduceMul, Nat.reduceLT, Nat.reduceLeDiff, Int.reduceLT, Int.reduceLE, Int.reduceEq, reduceCtorEq, Int.reduceBEq, Int.reduceBNe, Int.reduceToNat, Nat.reduceSub, Nat.reduceDiv, Int.reduceNeg, Int.reduceAdd, Int.reduceSub, Int.reduceMul, Heap.gets, Heap.sets, Heap.get, bytesA_length, bytesA_one, bytesA_plains, List.take_of_length_le, List.drop_of_length_le, Nat.add_zero, V.one, Nat.reduceLeDiff, List.all_cons, List.all_nil, ne_eq, not_false_eq_true, Nat.zero_le]; rfl), ?_, ?_⟩
        · simp only [go_sem, eqs hxE6, reduceIte, Nat.reduceEqDiff, Nat.reduceAdd, Nat.reduceMul, Nat.reduceLT, Nat.reduceLeDiff, Int.reduceLT, Int.reduceLE, Int.reduceEq, reduceCtorEq, Int.reduceBEq, Int.reduceBNe, Int.reduceToNat, Nat.reduceSub, Nat.reduceDiv, Int.reduceNeg, Int.reduceAdd, Int.reduceSub, Int.reduceMul, Bool.true_and, Bool.false_and, noReq]
        · simp only [go_sem, eqs hxE6, reduceIte, Nat.reduceEqDiff, Nat.reduceAdd, Nat.reduceMul, Nat.reduceLT, Nat.reduceLeDiff, Int.reduceLT, Int.reduceLE, Int.reduceEq, reduceCtorEq, Int.reduceBEq, Int.reduceBNe, Int.reduceToNat, Nat.reduceSub, Nat.reduceDiv, Int.reduceNeg, Int.reduceAdd, Int.reduceSub, Int.reduceMul]
      · rw [cR] at qR
        have qS := fun h => eReqB_6 (rNum s 2) (rOp s) (rNum s 6) (rNum s 10) (rNum s 14) (rNum s 18) (rNm s) (rTx s) cR h
        cases cS : rSame s
        · unfold rSame at cS
          (repeat' (first | refine To.seq hxE6 ?_ | refine To.op0 hxE6 (by simp only [go_sem, eqs hxE6, reduceIte, Nat.reduceEqDiff, Nat.reduceAdd, Nat.reduceMul, Nat.reduceLT, Nat.reduceLeDiff, Int.reduceLT, Int.reduceLE, Int.reduceEq, reduceCtorEq, Int.reduceBEq, Int.reduceBNe, Int.reduceToNat, Nat.reduceSub, Nat.reduceDiv, Int.reduceNeg, Int.reduceAdd, Int.reduceSub, Int.reduceMul, Heap.gets, Heap.sets, Heap.get, bytesA_length, bytesA_one, bytesA_plains, List.take_of_length_le, List.drop_of_length_le, Nat.add_zero, V.one, Nat.reduceLeDiff, List.all_cons, List.all_nil, ne_eq, not_false_eq_true, Nat.zero_le, d1, i0, i1, hc0, hc1, e1, e2, w1, q2, q6, q10, q14, q18, qA, w2, qB, qR, qS, cS]; rfl) ?_ | refine To.op1 hxE6 (by simp only [go_sem, eqs hxE6, reduceIte, Nat.reduceEqDiff, Nat.reduceAdd, Nat.reduceMul, Nat.reduceLT, Nat.reduceLeDiff, Int.reduceLT, Int.reduceLE, Int.reduceEq, reduceCtorEq, Int.reduceBEq, Int.reduceBNe, Int.reduceToNat, Nat.reduceSub, Nat.reduceDiv, Int.reduceNeg, Int.reduceAdd, Int.reduceSub, Int.reduceMul, Heap.gets, Heap.sets, Heap.get, bytesA_length, bytesA_one, bytesA_plains, List.take_of_length_le, List.drop_of_length_le, Nat.add_zero, V.one, Nat.reduceLeDiff, List.all_cons, List.all_nil, ne_eq, not_false_eq_true, Nat.zero_le, d1, i0, i1, hc0, hc1, e1, e2, w1, q2, q6, q10, q14, q18, qA, w2, qB, qR, qS, cS]; rfl) ?_ | refine To.nop hxE6 ?_ | (refine To.condT hxE6 ?_ ?_; focus (simp only [go_sem, eqs hxE6, reduceIte, Nat.reduceEqDiff, Nat.reduceAdd, Nat.reduceMul, Nat.reduceLT, Nat.reduceLeDiff, Int.reduceLT, Int.reduceLE, Int.reduceEq, reduceCtorEq, Int.reduceBEq, Int.reduceBNe, Int.reduceToNat, Nat.reduceSub, Nat.reduceDiv, Int.reduceNeg, Int.reduceAdd, Int.reduceSub, Int.reduceMul, Heap.gets, Heap.sets, Heap.get, bytesA_length, bytesA_one, bytesA_plains, List.take_of_length_le, List.drop_of_length_le, Nat.add_zero, V.one, Nat.reduceLeDiff, List.all_cons, List.all_nil, ne_eq, not_false_eq_true, Nat.zero_le, d1, i0, i1, hc0, hc1, e1, e2, w1, q2, q6, q10, q14, q18, qA, w2, qB, qR, qS, cS]; done)) | (refine To.condF hxE6 ?_ ?_; focus (simp only [go_sem, eqs hxE6, reduceIte, Nat.reduceEqDiff, Nat.reduceAdd, Nat.reduceMul, Nat.reduceLT, Nat.reduceLeDiff, Int.reduceLT, Int.reduceLE, Int.reduceEq, reduceCtorEq, Int.reduceBEq, Int.reduceBNe, Int.reduceToNat, Nat.reduceSub, Nat.reduceDiv, Int.reduceNeg, Int.reduceAdd, Int.reduceSub, Int.reduceMul, Heap.gets, Heap.sets, Heap.get, bytesA_length, bytesA_one, bytesA_plains, List.take_of_length_le, List.drop_of_length_le, Nat.add_zero, V.one, Nat.reduceLeDiff, List.all_cons, List.all_nil, ne_eq, not_false_eq_true, Nat.zero_le, d1, i0, i1, hc0, hc1, e1, e2, w1, q2, q6, q10, q14, q18, qA, w2, qB, qR, qS, cS]; done)) | refine To.block hxE6 ?_ | refine To.scope hxE6 ?_ | refine To.ret hxE6 ?_ | refine To.exit hxE6 ?_ | refine To.skip hxE6 ?_ | refine To.label hxE6 ?_))
          refine ⟨_, _, finCT (i := 2) (n := 8) (j := 3) (l := 0) (o := 0) rfl (by simp only [go_sem, eqs hxE6, reduceIte, Nat.reduceEqDiff, Nat.reduceAdd, Nat.reduceMul, Nat.reduceLT, Nat.reduceLeDiff, Int.reduceLT, Int.reduceLE, Int.reduceEq, reduceCtorEq, Int.reduceBEq, Int.reduceBNe, Int.reduceToNat, Nat.reduceSub, Nat.reduceDiv, Int.reduceNeg, Int.reduceAdd, Int.reduceSub, Int.reduceMul]) (by simp only [go_sem, eqs hxE6, reduceIte, Nat.reduceEqDiff, Nat.reduceAdd, Nat.reduceMul, Nat.reduceLT, Nat.reduceLeDiff, Int.reduceLT, Int.reduceLE, Int.reduceEq, reduceCtorEq, Int.reduceBEq, Int.reduceBNe, Int.reduceToNat, Nat.reduceSub, Nat.reduceDiv, Int.reduceNeg, Int.reduceAdd, Int.reduceSub, Int.reduceMul, Heap.gets, Heap.sets, Heap.get, bytesA_length, bytesA_one, bytesA_plains, List.take_of_length_le, List.drop_of_length_le, Nat.add_zero, V.one, Nat.reduceLeDiff, List.all_cons, List.all_nil, ne_eq, not_false_eq_true, Nat.zero_le]; rfl), ?_, ?_⟩
          · simp only [go_sem, eqs hxE6, reduceIte, Nat.reduceEqDiff, Nat.reduceAdd, Nat.reduceMul, Nat.reduceLT, Nat.reduceLeDiff, Int.reduceLT, Int.reduceLE, Int.reduceEq, reduceCtorEq, Int.reduceBEq, Int.reduceBNe, Int.reduceToNat, Nat.reduceSub, Nat.reduceDiv, Int.reduceNeg, Int.reduceAdd, Int.reduceSub, Int.reduceMul, Bool.true_and, Bool.false_and, noReq]
          · simp only [go_sem, eqs hxE6, reduceIte, Nat.reduceEqDiff, Nat.reduceAdd, Nat.reduceMul, Nat.reduceLT, Nat.reduceLeDiff, Int.reduceLT, Int.reduceLE, Int.reduceEq, reduceCtorEq, Int.reduceBEq, Int.reduceBNe, Int.reduceToNat, Nat.reduceSub, Nat.reduceDiv, Int.reduceNeg, Int.reduceAdd, Int.reduceSub, Int.reduceMul]
        · unfold rSame at cS
          (repeat' (first | refine To.seq hxE6 ?_ | refine To.op0 hxE6 (by simp only [go_sem, eqs hxE6, reduceIte, Nat.reduceEqDiff, Nat.reduceAdd, Nat.reduceMul, Nat.reduceLT, Nat.reduceLeDiff, Int.reduceLT, Int.reduceLE, Int.reduceEq, reduceCtorEq, Int.reduceBEq, Int.reduceBNe, Int.reduceToNat, Nat.reduceSub, Nat.reduceDiv, Int.reduceNeg, Int.reduceAdd, Int.reduceSub, Int.reduceMul, Heap.gets, Heap.sets, Heap.get, bytesA_length, bytesA_one, bytesA_plains, List.take_of_length_le, List.drop_of_length_le, Nat.add_zero, V.one, Nat.reduceLeDiff, List.all_cons, List.all_nil, ne_eq, not_false_eq_true, Nat.zero_le, d1, i0, i1, hc0, hc1, e1, e2, w1, q2, q6, q10, q14, q18, qA, w2, qB, qR, qS, cS]; rfl) ?_ | refine To.op1 hxE6 (by simp only [go_sem, eqs hxE6, reduceIte, Nat.reduceEqDiff, Nat.reduceAdd, Nat.reduceMul, Nat.reduceLT, Nat.reduceLeDiff, Int.reduceLT, Int.reduceLE, Int.reduceEq, reduceCtorEq, Int.reduceBEq, Int.reduceBNe, Int.reduceToNat, Nat.reduceSub, Nat.reduceDiv, Int.reduceNeg, Int.reduceAdd, Int.reduceSub, Int.reduceMul, Heap.gets, Heap.sets, Heap.get, bytesA_length, bytesA_one, bytesA_plains, List.take_of_length_le, List.drop_of_length_le, Nat.add_zero, V.one, Nat.reduceLeDiff, List.all_cons, List.all_nil, ne_eq, not_false_eq_true, Nat.zero_le, d1, i0, i1, hc0, hc1, e1, e2, w1, q2, q6, q10, q14, q18, qA, w2, qB, qR, qS, cS]; rfl) ?_ | refine To.nop hxE6 ?_ | (refine To.condT hxE6 ?_ ?_; focus (simp only [go_sem, eqs hxE6, reduceIte, Nat.reduceEqDiff, Nat.reduceAdd, Nat.reduceMul, Nat.reduceLT, Nat.reduceLeDiff, Int.reduceLT, Int.reduceLE, Int.reduceEq, reduceCtorEq, Int.reduceBEq, Int.reduceBNe, Int.reduceToNat, Nat.reduceSub, Nat.reduceDiv, Int.reduceNeg, Int.reduceAdd, Int.reduceSub, Int.reduceMul, Heap.gets, Heap.sets, Heap.get, bytesA_length, bytesA_one, bytesA_plains, List.take_of_length_le, List.drop_of_length_le, Nat.add_zero, V.one, Nat.reduceLeDiff, List.all_cons, List.all_nil, ne_eq, not_false_eq_true, Nat.zero_le, d1, i0, i1, hc0, hc1, e1, e2, w1, q2, q6, q10, q14, q18, qA, w2, qB, qR, qS, cS]; done)) | (refine To.condF hxE6 ?_ ?_; focus (simp only [go_sem, eqs hxE6, reduceIte, Nat.reduceEqDiff, Nat.reduceAdd, Nat.reduceMul, Nat.reduceLT, Nat.reduceLeDiff, Int.reduceLT, Int.reduceLE, Int.reduceEq, reduceCtorEq, Int.reduceBEq, Int.reduceBNe, Int.reduceToNat, Nat.reduceSub, Nat.reduceDiv, Int.reduceNeg, Int.reduceAdd, Int.reduceSub, Int.reduceMul, Heap.gets, Heap.sets, Heap.get, bytesA_length, bytesA_one, bytesA_plains, List.take_of_length_le, List.drop_of_length_le, Nat.add_zero, V.one, Nat.reduceLeDiff, List.all_cons, List.all_nil, ne_eq, not_false_eq_true, Nat.zero_le, d1, i0, i1, hc0, hc1, e1, e2, w1, q2, q6, q10, q14, q18, qA, w2, qB, qR, qS, cS]; done)) | refine To.block hxE6 ?_ | refine To.scope hxE6 ?_ | refine To.ret hxE6 ?_ | refine To.exit hxE6 ?_ | refine To.skip hxE6 ?_ | refine To.label hxE6 ?_))
          refine ⟨_, _, finCT (i := 2) (n := 8) (j := 3) (l := 0) (o := 0) rfl (by simp only [go_sem, eqs hxE6, reduceIte, Nat.reduceEqDiff, Nat.reduceAdd, Nat.reduceMul, Nat.reduceLT, Nat.reduceLeDiff, Int.reduceLT, Int.reduceLE, Int.reduceEq, reduceCtorEq, Int.reduceBEq, Int.reduceBNe, Int.reduceToNat, Nat.reduceSub, Nat.reduceDiv, Int.reduceNeg, Int.reduceAdd, Int.reduceSub, Int.reduceMul]) (by simp only [go_sem, eqs hxE6, reduceIte, Nat.reduceEqDiff, Nat.reduceAdd, Nat.reduceMul, Nat.reduceLT, Nat.reduceLeDiff, Int.reduceLT, Int.reduceLE, Int.reduceEq, reduceCtorEq, Int.reduceBEq, Int.reduceBNe, Int.reduceToNat, Nat.reduceSub, Nat.reduceDiv, Int.reduceNeg, Int.reduceAdd, Int.reduceSub, Int.reduceMul, Heap.gets, Heap.sets, Heap.get, bytesA_length, bytesA_one, bytesA_plains, List.take_of_length_le, List.drop_of_length_le, Nat.add_zero, V.one, Nat.reduceLeDiff, List.all_cons, List.all_nil, ne_eq, not_false_eq_true, Nat.zero_le]; rfl), ?_, ?_⟩
          · simp only [go_sem, eqs hxE6, reduceIte, Nat.reduceEqDiff, Nat.reduceAdd, Nat.reduceMul, Nat.reduceLT, Nat.reduceLeDiff, Int.reduceLT, Int.reduceLE, Int.reduceEq, reduceCtorEq, Int.reduceBEq, Int.reduceBNe, Int.reduceToNat, Nat.reduceSub, Nat.reduceDiv, Int.reduceNeg, Int.reduceAdd, Int.reduceSub, Int.reduceMul, Bool.true_and]
          · simp only [go_sem, eqs hxE6, reduceIte, Nat.reduceEqDiff, Nat.reduceAdd, Nat.reduceMul, Nat.reduceLT, Nat.reduceLeDiff, Int.reduceLT, Int.reduceLE, Int.reduceEq, reduceCtorEq, Int.reduceBEq, Int.reduceBNe, Int.reduceToNat, Nat.reduceSub, Nat.reduceDiv, Int.reduceNeg, Int.reduceAdd, Int.reduceSub, Int.reduceMul]
    · have hF : rFit s = false := by simp only [rFit, decide_eq_false hB, Bool.and_false]
      have qB : ∀ h, Den FF E6 63 [.str s, .int .i64 ((24 + rA s : Nat) : Int)] h = some (.val (.tuple [.str [], .int .i64 0, .bool false]), none) := fun h => part_no h rfl hB (by omega) hs
      (repeat' (first | refine To.seq hxE6 ?_ | refine To.op0 hxE6 (by simp only [go_sem, eqs hxE6, reduceIte, Nat.reduceEqDiff, Nat.reduceAdd, Nat.reduceMul, Nat.reduceLT, Nat.reduceLeDiff, Int.reduceLT, Int.reduceLE, Int.reduceEq, reduceCtorEq, Int.reduceBEq, Int.reduceBNe, Int.reduceToNat, Nat.reduceSub, Nat.reduceDiv, Int.reduceNeg, Int.reduceAdd, Int.reduceSub, Int.reduceMul, Heap.gets, Heap.sets, Heap.get, bytesA_length, bytesA_one, bytesA_plains, List.take_of_length_le, List.drop_of_length_le, Nat.add_zero, V.one, Nat.reduceLeDiff, List.all_cons, List.all_nil, ne_eq, not_false_eq_true, Nat.zero_le, d1, i0, i1, hc0, hc1, e1, e2, w1, q2, q6, q10, q14, q18, qA, w2, qB]; rfl) ?_ | refine To.op1 hxE6 (by simp only [go_sem, eqs hxE6, reduceIte, Nat.reduceEqDiff, Nat.reduceAdd, Nat.reduceMul, Nat.reduceLT, Nat.reduceLeDiff, Int.reduceLT, Int.reduceLE, Int.reduceEq, reduceCtorEq, Int.reduceBEq, Int.reduceBNe, Int.reduceToNat, Nat.reduceSub, Nat.reduceDiv, Int.reduceNeg, Int.reduceAdd, Int.reduceSub, Int.reduceMul, Heap.gets, Heap.sets, Heap.get, bytesA_length, bytesA_one, bytesA_plains, List.take_of_length_le, List.drop_of_length_le, Nat.add_zero, V.one, Nat.reduceLeDiff, List.all_cons, List.all_nil, ne_eq, not_false_eq_true, Nat.zero_le, d1, i0, i1, hc0, hc1, e1, e2, w1, q2, q6, q10, q14, q18, qA, w2, qB]; rfl) ?_ | refine To.nop hxE6 ?_ | (refine To.condT hxE6 ?_ ?_; focus (simp only [go_sem, eqs hxE6, reduceIte, Nat.reduceEqDiff, Nat.reduceAdd, Nat.reduceMul, Nat.reduceLT, Nat.reduceLeDiff, Int.reduceLT, Int.reduceLE, Int.reduceEq, reduceCtorEq, Int.reduceBEq, Int.reduceBNe, Int.reduceToNat, Nat.reduceSub, Nat.reduceDiv, Int.reduceNeg, Int.reduceAdd, Int.reduceSub, Int.reduceMul, Heap.gets, Heap.sets, Heap.get, bytesA_length, bytesA_one, bytesA_plains, List.take_of_length_le, List.drop_of_length_le, Nat.add_zero, V.one, Nat.reduceLeDiff, List.all_cons, List.all_nil, ne_eq, not_false_eq_true, Nat.zero_le, d1, i0, i1, hc0, hc1, e1, e2, w1, q2, q6, q10, q14, q18, qA, w2, qB]; done)) | (refine To.condF hxE6 ?_ ?_; focus (simp only [go_sem, eqs hxE6, reduceIte, Nat.reduceEqDiff, Nat.reduceAdd, Nat.reduceMul, Nat.reduceLT, Nat.reduceLeDiff, Int.reduceLT, Int.reduceLE, Int.reduceEq, reduceCtorEq, Int.reduceBEq, Int.reduceBNe, Int.reduceToNat, Nat.reduceSub, Nat.reduceDiv, Int.reduceNeg, Int.reduceAdd, Int.reduceSub, Int.reduceMul, Heap.gets, Heap.sets, Heap.get, bytesA_length, bytesA_one, bytesA_plains, List.take_of_length_le, List.drop_of_length_le, Nat.add_zero, V.one, Nat.reduceLeDiff, List.all_cons, List.all_nil, ne_eq, not_false_eq_true, Nat.zero_le, d1, i0, i1, hc0, hc1, e1, e2, w1, q2, q6, q10, q14, q18, qA, w2, qB]; done)) | refine To.block hxE6 ?_ | refine To.scope hxE6 ?_ | refine To.ret hxE6 ?_ | refine To.exit hxE6 ?_ | refine To.skip hxE6 ?_ | refine To.label hxE6 ?_))
      refine ⟨_, _, finCT (i := 2) (n := 8) (j := 3) (l := 0) (o := 0) rfl (by simp only [go_sem, eqs hxE6, reduceIte, Nat.reduceEqDiff, Nat.reduceAdd, Nat.reduceMul, Nat.reduceLT, Nat.reduceLeDiff, Int.reduceLT, Int.reduceLE, Int.reduceEq, reduceCtorEq, Int.reduceBEq, Int.reduceBNe, Int.reduceToNat, Nat.reduceSub, Nat.reduceDiv, Int.reduceNeg, Int.reduceAdd, Int.reduceSub, Int.reduceMul]) (by simp only [go_sem, eqs hxE6, reduceIte, Nat.reduceEqDiff, Nat.reduceAdd, Nat.reduceMul, Nat.reduceLT, Nat.reduceLeDiff, Int.reduceLT, Int.reduceLE, Int.reduceEq, reduceCtorEq, Int.reduceBEq, Int.reduceBNe, Int.reduceToNat, Nat.reduceSub, Nat.reduceDiv, Int.reduceNeg, Int.reduceAdd, Int.reduceSub, Int.reduceMul, Heap.gets, Heap.sets, Heap.get, bytesA_length, bytesA_one, bytesA_plains, List.take_of_length_le, List.drop_of_length_le, Nat.add_zero, V.one, Nat.reduceLeDiff, List.all_cons, List.all_nil, ne_eq, not_false_eq_true, Nat.zero_le]; rfl), ?_, ?_⟩
      · simp only [go_sem, eqs hxE6, reduceIte, Nat.reduceEqDiff, Nat.reduceAdd, Nat.reduceMul, Nat.reduceLT, Nat.reduceLeDiff, Int.reduceLT, Int.reduceLE, Int.reduceEq, reduceCtorEq, Int.reduceBEq, Int.reduceBNe, Int.reduceToNat, Nat.reduceSub, Nat.reduceDiv, Int.reduceNeg, Int.reduceAdd, Int.reduceSub, Int.reduceMul, hF, Bool.false_and, noReq]
      · simp only [go_sem, eqs hxE6, reduceIte, Nat.reduceEqDiff, Nat.reduceAdd, Nat.reduceMul, Nat.reduceLT, Nat.reduceLeDiff, Int.reduceLT, Int.reduceLE, Int.reduceEq, reduceCtorEq, Int.reduceBEq, Int.reduceBNe, Int.reduceToNat, Nat.reduceSub, Nat.reduceDiv, Int.reduceNeg, Int.reduceAdd, Int.reduceSub, Int.reduceMul]
  · have hF : rFit s = false := by simp only [rFit, decide_eq_false hA, Bool.and_false, Bool.false_and]
    have qA : ∀ h, Den FF E6 63 [.str s, .int .i64 22] h = some (.val (.tuple [.str [], .int .i64 0, .bool false]), none) := fun h => part_no (a := 22) h rfl hA (by omega) hs
    have q2 : ∀ h, Den FF E6 62 [.str s, .int .i64 2, .int .i64 4] h = some (.val (.tuple [.int .i64 (rNum s 2), .bool true]), none) := fun h => num4 2 h (by omega) hs
    have q6 : ∀ h, Den FF E6 62 [.str s, .int .i64 6, .int .i64 4] h = some (.val (.tuple [.int .i64 (rNum s 6), .bool true]), none) := fun h => num4 6 h (by omega) hs
    have q10 : ∀ h, Den FF E6 62 [.str s, .int .i64 10, .int .i64 4] h = some (.val (.tuple [.int .i64 (rNum s 10), .bool true]), none) := fun h => num4 10 h (by omega) hs
    have q14 : ∀ h, Den FF E6 62 [.str s, .int .i64 14, .int .i64 4] h = some (.val (.tuple [.int .i64 (rNum s 14), .bool true]), none) := fun h => num4 14 h (by omega) hs
    have q18 : ∀ h, Den FF E6 62 [.str s, .int .i64 18, .int .i64 4] h = some (.val (.tuple [.int .i64 (rNum s 18), .bool true]), none) := fun h => num4 18 h (by omega) hs
    (repeat' (first | refine To.seq hxE6 ?_ | refine To.op0 hxE6 (by simp only [go_sem, eqs hxE6, reduceIte, Nat.reduceEqDiff, Nat.reduceAdd, Nat.reduceMul, Nat.reduceLT, Nat.reduceLeDiff, Int.reduceLT, Int.reduceLE, Int.reduceEq, reduceCtorEq, Int.reduceBEq, Int.reduceBNe, Int.reduceToNat, Nat.reduceSub, Nat.reduceDiv, Int.reduceNeg, Int.reduceAdd, Int.reduceSub, Int.reduceMul, Heap.gets, Heap.sets, Heap.get, bytesA_length, bytesA_one, bytesA_plains, List.take_of_length_le, List.drop_of_length_le, Nat.add_zero, V.one, Nat.reduceLeDiff, List.all_cons, List.all_nil, ne_eq, not_false_eq_true, Nat.zero_le, d1, i0, i1, hc0, hc1, e1, e2, w1, q2, q6, q10, q14, q18, qA]; rfl) ?_ | refine To.op1 hxE6 (by simp only [go_sem, eqs hxE6, reduceIte, Nat.reduceEqDiff, Nat.reduceAdd, Nat.reduceMul, Nat.reduceLT, Nat.reduceLeDiff, Int.reduceLT, Int.reduceLE, Int.reduceEq, reduceCtorEq, Int.reduceBEq, Int.reduceBNe, Int.reduceToNat, Nat.reduceSub, Nat.reduceDiv, Int.reduceNeg, Int.reduceAdd, Int.reduceSub, Int.reduceMul, Heap.gets, Heap.sets, Heap.get, bytesA_length, bytesA_one, bytesA_plains, List.take_of_length_le, List.drop_of_length_le, Nat.add_zero, V.one, Nat.reduceLeDiff, List.all_cons, List.all_nil, ne_eq, not_false_eq_true, Nat.zero_le, d1, i0, i1, hc0, hc1, e1, e2, w1, q2, q6, q10, q14, q18, qA]; rfl) ?_ | refine To.nop hxE6 ?_ | (refine To.condT hxE6 ?_ ?_; focus (simp only [go_sem, eqs hxE6, reduceIte, Nat.reduceEqDiff, Nat.reduceAdd, Nat.reduceMul, Nat.reduceLT, Nat.reduceLeDiff, Int.reduceLT, Int.reduceLE, Int.reduceEq, reduceCtorEq, Int.reduceBEq, Int.reduceBNe, Int.reduceToNat, Nat.reduceSub, Nat.reduceDiv, Int.reduceNeg, Int.reduceAdd, Int.reduceSub, Int.reduceMul, Heap.gets, Heap.sets, Heap.get, bytesA_length, bytesA_one, bytesA_plains, List.take_of_length_le, List.drop_of_length_le, Nat.add_zero, V.one, Nat.reduceLeDiff, List.all_cons, List.all_nil, ne_eq, not_false_eq_true, Nat.zero_le, d1, i0, i1, hc0, hc1, e1, e2, w1, q2, q6, q10, q14, q18, qA]; done)) | (refine To.condF hxE6 ?_ ?_; focus (simp only [go_sem, eqs hxE6, reduceIte, Nat.reduceEqDiff, Nat.reduceAdd, Nat.reduceMul, Nat.reduceLT, Nat.reduceLeDiff, Int.reduceLT, Int.reduceLE, Int.reduceEq, reduceCtorEq, Int.reduceBEq, Int.reduceBNe, Int.reduceToNat, Nat.reduceSub, Nat.reduceDiv, Int.reduceNeg, Int.reduceAdd, Int.reduceSub, Int.reduceMul, Heap.gets, Heap.sets, Heap.get, bytesA_length, bytesA_one, bytesA_plains, List.take_of_length_le, List.drop_of_length_le, Nat.add_zero, V.one, Nat.reduceLeDiff, List.all_cons, List.all_nil, ne_eq, not_false_eq_true, Nat.zero_le, d1, i0, i1, hc0, hc1, e1, e2, w1, q2, q6, q10, q14, q18, qA]; done)) | refine To.block hxE6 ?_ | refine To.scope hxE6 ?_ | refine To.ret hxE6 ?_ | refine To.exit hxE6 ?_ | refine To.skip hxE6 ?_ | refine To.label hxE6 ?_))
    refine ⟨_, _, finCT (i := 2) (n := 8) (j := 3) (l := 0) (o := 0) rfl (by simp only [go_sem, eqs hxE6, reduceIte, Nat.reduceEqDiff, Nat.reduceAdd, Nat.reduceMul, Nat.reduceLT, Nat.reduceLeDiff, Int.reduceLT, Int.reduceLE, Int.reduceEq, reduceCtorEq, Int.reduceBEq, Int.reduceBNe, Int.reduceToNat, Nat.reduceSub, Nat.reduceDiv, Int.reduceNeg, Int.reduceAdd, Int.reduceSub, Int.reduceMul]) (by simp only [go_sem, eqs hxE6, reduceIte, Nat.reduceEqDiff, Nat.reduceAdd, Nat.reduceMul, Nat.reduceLT, Nat.reduceLeDiff, Int.reduceLT, Int.reduceLE, Int.reduceEq, reduceCtorEq, Int.reduceBEq, Int.reduceBNe, Int.reduceToNat, Nat.reduceSub, Nat.reduceDiv, Int.reduceNeg, Int.reduceAdd, Int.reduceSub, Int.reduceMul, Heap.gets, Heap.sets, Heap.get, bytesA_length, bytesA_one, bytesA_plains, List.take_of_length_le, List.drop_of_length_le, Nat.add_zero, V.one, Nat.reduceLeDiff, List.all_cons, List.all_nil, ne_eq, not_false_eq_true, Nat.zero_le]; rfl), ?_, ?_⟩
    · simp only [go_sem, eqs hxE6, reduceIte, Nat.reduceEqDiff, Nat.reduceAdd, Nat.reduceMul, Nat.reduceLT, Nat.reduceLeDiff, Int.reduceLT, Int.reduceLE, Int.reduceEq, reduceCtorEq, Int.reduceBEq, Int.reduceBNe, Int.reduceToNat, Nat.reduceSub, Nat.reduceDiv, Int.reduceNeg, Int.reduceAdd, Int.reduceSub, Int.reduceMul, hF, Bool.false_and, noReq]
    · simp only [go_sem, eqs hxE6, reduceIte, Nat.reduceEqDiff, Nat.reduceAdd, Nat.reduceMul, Nat.reduceLT, Nat.reduceLeDiff, Int.reduceLT, Int.reduceLE, Int.reduceEq, reduceCtorEq, Int.reduceBEq, Int.reduceBNe, Int.reduceToNat, Nat.reduceSub, Nat.reduceDiv, Int.reduceNeg, Int.reduceAdd, Int.reduceSub, Int.reduceMul]
def tRead : Ans
  | [.str s] => if s.length ≤ 100000 then some (readV s) else none
  | _ => none
theorem okRead : SpOk FF E6 17 tRead := by
  intro args v h hpl
  unfold tRead at h
  split at h
  · split at h
    · rename_i hc
      cases h
      obtain ⟨r, oh, q, rfl, rfl⟩ := read_den _ hc
      exact ⟨by unfold readV; split <;> rfl, _, q⟩
    · cases h
  · cases h
def g7 : Nat → Option Ans := addG g6 [(17, tRead)]
def E7 : ExtF := plainExt g7
theorem hxE7 : ExtMono E7 := plainExt_mono g7
theorem sndE7 : ExtSound Try.prog E7 := addG_sound mixed ffok sndE6 (by
  intro p hp
  simp only [List.mem_cons, List.not_mem_nil, or_false] at hp
  rcases hp with rfl
  · exact okRead)
theorem E7_none {f : Nat} (h : g7 f = none) (c : CallF) : E7 c f = none := plainExt_none h c
theorem eContains_7 (s : List UInt8) (c : UInt8) (h : Heap) : Den FF E7 79 [.str s, .str [c]] h = some (.val (.bool (s.contains c)), none) := den_plain (sp := tContains) h rfl (by rfl) (by first | (simp [V.plains, V.plain, bytesA_plains]; done) | rfl)
theorem eAwake24_7 (_ : Unit) (h : Heap) : Den FF E7 27 [] h = some (.val (.bool true), none) := den_plain (sp := tAwake) h rfl (by rfl) (by first | (simp [V.plains, V.plain, bytesA_plains]; done) | rfl)
theorem eAwake23_7 (_ : Unit) (h : Heap) : Den FF E7 11 [] h = some (.val (.bool true), none) := den_plain (sp := tAwake) h rfl (by rfl) (by first | (simp [V.plains, V.plain, bytesA_plains]; done) | rfl)
theorem eIn_7 (n lo hi : Int) (h : Heap) : Den FF E7 65 [.int .i64 n, .int .i64 lo, .int .i64 hi] h = some (.val (.bool (inB n lo hi)), none) := den_plain (sp := tIn) h rfl (by rfl) (by first | (simp [V.plains, V.plain, bytesA_plains]; done) | rfl)
theorem eTakes_7 (id op ino oth n m : Int) (nm tx : List UInt8) (h : Heap) : Den FF E7 54 [.agg [.int .i64 id, .int .i64 op, .int .i64 ino, .int .i64 oth, .int .i64 n, .int .i64 m, .str nm, .str tx]] h = some (.val (.tuple [.agg (takesF id op ino oth n m nm tx), .bool (isOp op)]), none) := den_plain (sp := tTakes) h rfl (by rfl) (by first | (simp [V.plains, V.plain, bytesA_plains]; done) | rfl)
theorem eWAttr_7 (a0 a1 a2 a3 a4 a5 : Int) (h : Heap) : Den FF E7 25 [.agg [.int .i64 a0, .int .i64 a1, .int .i64 a2, .int .i64 a3, .int .i64 a4, .int .i64 a5]] h = some (.val (.bool (attrB a0 a1 a2 a3 a4 a5)), none) := den_plain (sp := tAttr) h rfl (by rfl) (by first | (simp [V.plains, V.plain, bytesA_plains]; done) | rfl)
theorem eRAttr_7 (a0 a1 a2 a3 a4 a5 : Int) (h : Heap) : Den FF E7 24 [.agg [.int .i64 a0, .int .i64 a1, .int .i64 a2, .int .i64 a3, .int .i64 a4, .int .i64 a5]] h = some (.val (.bool (attrB a0 a1 a2 a3 a4 a5)), none) := den_plain (sp := tAttr) h rfl (by rfl) (by first | (simp [V.plains, V.plain, bytesA_plains]; done) | rfl)
theorem eNum1_7 (n : Int) (h : Heap) : Den FF E7 77 [.int .i64 n] h = some (.val (.bool (!numB n)), none) := den_plain (sp := tNum1) h rfl (by rfl) (by first | (simp [V.plains, V.plain, bytesA_plains]; done) | rfl)
theorem eRight_7 (id op ino oth n m : Int) (nm tx : List UInt8) (h : Heap) : Den FF E7 14 [.agg [.int .i64 id, .int .i64 op, .int .i64 ino, .int .i64 oth, .int .i64 n, .int .i64 m, .str nm, .str tx]] h = some (.val (.bool (rightR id op ino oth n m nm tx)), none) := den_plain (sp := tRight) h rfl (by rfl) (by first | (simp [V.plains, V.plain, bytesA_plains]; done) | rfl)
theorem eNumD_7 (n : Int) (h : Heap) : Den FF E7 48 [.int .i64 n] h = some (.val (.bool (numB n)), none) := den_plain (sp := tNumD) h rfl (by rfl) (by first | (simp [V.plains, V.plain, bytesA_plains]; done) | rfl)
theorem eBig_7 (n s : Int) (hc : 0 ≤ n ∧ n ≤ 9223372036854775807 ∧ 0 ≤ s ∧ s ≤ 8) (h : Heap) : Den FF E7 60 [.int .i64 n, .int .i64 s] h = some (.val (.str (bigF n s)), none) := den_plain (sp := tBig) h rfl (by exact if_pos hc) (by first | (simp [V.plains, V.plain, bytesA_plains]; done) | rfl)
theorem eNumber_7 (s : List UInt8) (a z : Int) (hc : 0 ≤ a ∧ a ≤ 1000000 ∧ 0 ≤ z ∧ z ≤ 4 ∧ s.length ≤ 1000000) (h : Heap) : Den FF E7 62 [.str s, .int .i64 a, .int .i64 z] h = some (.val ((if a.toNat + z.toNat ≤ s.length then .tuple [.int .i64 (numAt s a.toNat z.toNat), .bool true] else .tuple [.int .i64 0, .bool false])), none) := den_plain (sp := tNumber) h rfl (by exact if_pos hc) (by first | (simp [V.plains, V.plain, bytesA_plains]; done) | rfl)
theorem eText_7 (s : List UInt8) (hc : s.length ≤ 1000000) (h : Heap) : Den FF E7 61 [.str s] h = some (.val (.str (textB s)), none) := den_plain (sp := tText) h rfl (by exact if_pos hc) (by first | (simp [V.plains, V.plain, bytesA_plains]; done) | rfl)
theorem ePart_7 (s : List UInt8) (a : Int) (hc : 0 ≤ a ∧ a ≤ 900000 ∧ s.length ≤ 900000) (h : Heap) : Den FF E7 63 [.str s, .int .i64 a] h = some (.val (partV s a.toNat), none) := den_plain (sp := tPart) h rfl (by exact if_pos hc) (by first | (simp [V.plains, V.plain, bytesA_plains]; done) | rfl)
theorem eRRight_7 (id op ino oth n m : Int) (nm tx : List UInt8) (h : Heap) : Den FF E7 12 [.agg [.int .i64 id, .int .i64 op, .int .i64 ino, .int .i64 oth, .int .i64 n, .int .i64 m, .str nm, .str tx]] h = some (.val (.bool (rightR id op ino oth n m nm tx)), none) := den_plain (sp := tRight) h rfl (by rfl) (by first | (simp [V.plains, V.plain, bytesA_plains]; done) | rfl)
theorem eReqB_7 (id op ino oth n m : Int) (nm tx : List UInt8) (hc : rightR id op ino oth n m nm tx = true) (h : Heap) : Den FF E7 16 [.agg [.int .i64 id, .int .i64 op, .int .i64 ino, .int .i64 oth, .int .i64 n, .int .i64 m, .str nm, .str tx]] h = some (.val (.str (reqB id op ino oth n m nm tx)), none) := den_plain (sp := tReqB) h rfl (by exact if_pos hc) (by first | (simp [V.plains, V.plain, bytesA_plains]; done) | rfl)
theorem ePut_7 (id op ino oth n m : Int) (nm tx : List UInt8) (h : Heap) : Den FF E7 13 [.agg [.int .i64 id, .int .i64 op, .int .i64 ino, .int .i64 oth, .int .i64 n, .int .i64 m, .str nm, .str tx]] h = some (.val (putV id op ino oth n m nm tx), none) := den_plain (sp := tPut) h rfl (by rfl) (by first | (simp [V.plains, V.plain, bytesA_plains]; done) | rfl)
theorem eGet_7 (s : List UInt8) (hc : s.length ≤ 100000) (h : Heap) : Den FF E7 15 [.str s] h = some (.val (getV s), none) := den_plain (sp := tGet) h rfl (by exact if_pos hc) (by first | (simp [V.plains, V.plain, bytesA_plains]; done) | rfl)
theorem eRead_7 (s : List UInt8) (hc : s.length ≤ 100000) (h : Heap) : Den FF E7 17 [.str s] h = some (.val (readV s), none) := den_plain (sp := tRead) h rfl (by exact if_pos hc) (by first | (simp [V.plains, V.plain, bytesA_plains]; done) | rfl)
end Go.Proofs.Ytjbblfoefibeaaa

