/- Own texts, joined: Q24QE, Q24QX, Q24QF, Q24QG, Q24QH, Q24QI, Q24QJ, Q24QK, Q24QL, Q24QM, Q24NG, Q24QN. -/
import Derived.Test.YtjbblfoefibeaaaQ24Part2
/- Queues: the document's queue: put. -/
namespace Go.Proofs.Ytjbblfoefibeaaa
open Go AM
set_option linter.unusedSimpArgs false
set_option linter.unusedVariables false
set_option maxRecDepth 100000

theorem da_0 {α : Type} {o r : List α} {n : Nat} (h : o.length = n) : (o ++ r).drop n = r := List.drop_left' h
theorem da_k {α : Type} {o r : List α} {n k : Nat} (h : o.length = n) : (o ++ r).drop (n + k) = r.drop k := by rw [← List.drop_drop, da_0 h]
mutual
theorem V.only_of_ok {ok : Nat → Bool} (h : ∀ l, ok l = true) : ∀ v : V, V.only ok v = true
  | .ptr l _ | .slice l _ _ _ | .esl l _ _ _ | .map l | .chan l => h l
  | .fn _ a b => by simp only [V.only, V.onlys_of_ok h a, V.onlys_of_ok h b, Bool.and_self]
  | .iface _ v => V.only_of_ok h v
  | .agg cs => V.onlys_of_ok h cs
  | .tuple vs => V.onlys_of_ok h vs
  | .bool _ | .int .. | .str _ | .nilp | .nils | .zsl _ | .nilm | .nilc | .nilf | .nili => rfl
theorem V.onlys_of_ok {ok : Nat → Bool} (h : ∀ l, ok l = true) : ∀ l : List V, V.onlys ok l = true
  | [] => rfl
  | v :: r => by simp only [V.onlys, V.only_of_ok h v, V.onlys_of_ok h r, Bool.and_self]
end
theorem onlyT {ok : Nat → Bool} (h : ∀ l, ok l = true) (l : List AM.Obj) : l.all (AM.Obj.only ok) = true := by
  have hv : ∀ v : V, V.only ok v = true := fun v => V.only_of_ok h v
  have hs : ∀ vs : List V, V.onlys ok vs = true := fun vs => V.onlys_of_ok h vs
  rw [List.all_eq_true]
  intro x _
  cases x with
  | dead => rfl
  | cells k t f cs => exact hs cs
  | map es => simp only [AM.Obj.only, List.all_eq_true, hv, Bool.and_self]; intros; trivial
  | chan c b => exact hs b
  | siter s p => rfl
theorem okL10 (N l : Nat) : okL N 2 [1, 0] l = true := by
  unfold okL
  by_cases h1 : l < N
  · simp [h1]
  · by_cases h2 : N + 2 ≤ l
    · simp [h2]
    · have : l - N = 0 ∨ l - N = 1 := by omega
      rcases this with h | h <;> simp [h]
theorem okL01 (N l : Nat) : okL N 1 [0] l = true := by
  unfold okL
  by_cases h1 : l < N
  · simp [h1]
  · by_cases h2 : N + 1 ≤ l
    · simp [h2]
    · have : l - N = 0 := by omega
      simp [this]
theorem all10 (N : Nat) (l : List AM.Obj) : l.all (AM.Obj.only (okL N 2 [1, 0])) = true := onlyT (okL10 N) l
theorem all01 (N : Nat) (l : List AM.Obj) : l.all (AM.Obj.only (okL N 1 [0])) = true := onlyT (okL01 N) l
/-- Rows of a slice that a call has made. -/
def Rw (o : List AM.Obj) (v : V) (t e : Nat) (xs : List (List V)) : Prop :=
  (v = .nils ∧ xs = []) ∨ ∃ l ck, v = .slice l 0 xs.length e ∧ o[l]? = some (.cells ck t 0 xs.flatten) ∧ (ck = .gr ∨ (ck = .ex ∧ xs = []))
theorem Rw.len {o : List AM.Obj} {v : V} {t e : Nat} {xs : List (List V)} (h : Rw o v t e xs) : lenLV v = some (.int .i64 (xs.length : Int), none) := by
  obtain ⟨rfl, rfl⟩ | ⟨l, ck, rfl, _⟩ := h <;> rfl
theorem Rw.of {o o' : List AM.Obj} {v : V} {t e : Nat} {xs : List (List V)} (h : Rw o v t e xs) (hk : ∀ (l : Nat) (ck : CK) (cs : List V), o[l]? = some (AM.Obj.cells ck t 0 cs) → o'[l]? = some (AM.Obj.cells ck t 0 cs)) : Rw o' v t e xs := by
  obtain h | ⟨l, ck, rfl, ho, hx⟩ := h
  · exact .inl h
  · exact .inr ⟨l, ck, rfl, hk _ _ _ ho, hx⟩

theorem Rw.of2 {o o' : List AM.Obj} {v : V} {t e : Nat} {xs : List (List V)} (h : Rw o v t e xs) (hk : ∀ (l : Nat) (ck : CK) (cs : List V), (ck = .gr ∨ cs = []) → o[l]? = some (AM.Obj.cells ck t 0 cs) → o'[l]? = some (AM.Obj.cells ck t 0 cs)) : Rw o' v t e xs := by
  obtain h | ⟨l, ck, rfl, ho, hx⟩ := h
  · exact .inl h
  · refine .inr ⟨l, ck, rfl, hk _ _ _ ?_ ho, hx⟩
    rcases hx with h | ⟨_, h⟩
    · exact .inl h
    · exact .inr (by rw [h]; rfl)

def Sl (x : Rq × Bool) : List V := x.1.cs ++ [.bool x.2]
/-- The document's queue. -/
structure RQ (o : List AM.Obj) (w : Nat) (vL vO vN : V) (L : List (Rq × Bool)) (O : List Rq) (N : List Nt) (last : Int) (lost : Bool) : Prop where
  hw : o[w]? = some (.cells .ex 85 0 [vL, vO, vN, .int .i64 last, .bool lost])
  hL : Rw o vL 138 9 (L.map Sl)
  hO : Rw o vO 25 8 (O.map Rq.cs)
  hN : Rw o vN 40 3 (N.map Nt.cs)

def growing : AM.Obj → Bool
  | .cells .gr .. => true
  | .dead => true
  | _ => false
/-- All but the document's queue and growing rows is as it was. -/
structure Rx (w : Nat) (o o' : List AM.Obj) : Prop where
  len : o.length ≤ o'.length
  get : ∀ x y, x ≠ w → o[x]? = some y → growing y = false → o'[x]? = some y
section
variable {o o' o'' : List AM.Obj} {w : Nat}
theorem Rx.refl : Rx w o o := ⟨Nat.le_refl _, fun _ _ _ h _ => h⟩
theorem Rx.trans (h : Rx w o o') (k : Rx w o' o'') : Rx w o o'' := ⟨Nat.le_trans h.len k.len, fun x y hx hy hg => k.get x y hx (h.get x y hx hy hg) hg⟩
theorem Rx.app (r : List AM.Obj) : Rx w o (o ++ r) := ⟨by simp, fun x y hx hy hg => app_old hy r⟩
theorem Rx.set (y : AM.Obj) : Rx w o (o.set w y) := ⟨by simp, fun x z hx hz hg => (gs_ne (Ne.symm hx)).trans hz⟩
theorem Rx.dead {i : Nat} {z : AM.Obj} (y : AM.Obj) (hi : o[i]? = some z) (hg : growing z = true) : Rx w o (o.set i y) := by
  refine ⟨by simp, fun x u hx hu hg' => (gs_ne ?_).trans hu⟩
  rintro rfl
  rw [hi] at hu; cases hu; rw [hg] at hg'; cases hg'
theorem Rx.new {i : Nat} (y : AM.Obj) (h : Rx w o o') (hi : o.length ≤ i) : Rx w o (o'.set i y) := ⟨by simpa using h.len, fun x z hx hz hg => (gs_ne (by have := get_lt hz; omega)).trans (h.get x z hx hz hg)⟩
theorem Rx.take (h : Rx w o o') : Rx w o (o'.take o.length) := ⟨by rw [List.length_take]; have := h.len; omega, fun x y hx hy hg => (List.getElem?_take_of_lt (get_lt hy)).trans (h.get x y hx hy hg)⟩
end

def rows9 (l : List (Rq × Bool)) : List V := (l.map Sl).flatten
theorem rows9_len : ∀ l, (rows9 l).length = l.length * 9
  | [] => rfl
  | x :: l => by
    have := rows9_len l
    have e : rows9 (x :: l) = Sl x ++ rows9 l := rfl
    rw [e, List.length_append, this, List.length_cons]
    simp only [Sl, Rq.cs, List.length_append, List.length_cons, List.length_nil]
    omega
theorem plains_app {a b : List V} : V.plains (a ++ b) = (V.plains a && V.plains b) := by
  induction a with
  | nil => rfl
  | cons x a ih => simp only [List.cons_append, V.plains, ih, Bool.and_assoc]
theorem onlys_plain {ok : Nat → Bool} {l : List V} (h : V.plains l = true) : V.onlys ok l = true := V.onlys_of_scs (n := 0) (fun l hl => absurd hl (Nat.not_lt_zero l)) _ (V.scs_of_plains 0 _ h)
theorem rows9_plain : ∀ l, V.plains (rows9 l) = true
  | [] => rfl
  | x :: l => by
    have e : rows9 (x :: l) = Sl x ++ rows9 l := rfl
    rw [e, plains_app, rows9_plain l]; rfl
theorem rows9_one (l : List (Rq × Bool)) : (rows9 l).all V.one = true := by
  unfold rows9
  simp only [List.all_flatten, List.all_map, List.all_eq_true]
  intro x _
  rfl
theorem rows9_only (ok : Nat → Bool) (l : List (Rq × Bool)) : V.onlys ok (rows9 l) = true := onlys_plain (rows9_plain l)
theorem rows9_take (l : List (Rq × Bool)) : (rows9 l).take (l.length * 9) = rows9 l := by rw [← rows9_len]; exact List.take_length
theorem Rw.keep {o : List AM.Obj} {v : V} {t e w : Nat} {xs : List (List V)} {t' : Nat} {cs : List V} (h : Rw o v t e xs) (hw : o[w]? = some (.cells .ex t' 0 cs)) (ht : t ≠ t') (y : AM.Obj) (r : List AM.Obj) : Rw (o.set w y ++ r) v t e xs := by
  refine h.of fun l ck cs' hl => ?_
  have hlw : w ≠ l := fun e => by subst e; rw [hl] at hw; cases hw; exact ht rfl
  rw [ga_lt (by simpa using get_lt hl), gs_ne hlw]; exact hl
theorem appEx {o : List AM.Obj} {e d t s b a j : Nat} {new : List V} (h : o[a]? = some (.cells .ex t 0 [])) (hj : 0 < j) (hs : 0 < s) (hr : roomOk j b = true) :
    appendA ⟨o, e, d⟩ t s b (.slice a 0 0 s) j new = some (.slice o.length 0 j s, some ⟨o ++ [.cells .gr t 0 new], e, d⟩) := by
  have h1 : ¬ j * s ≤ 0 := by have := Nat.mul_pos hj hs; omega
  simp only [appendA, h, if_true, Nat.zero_mul, Nat.zero_add, List.length_nil, Nat.le_refl, if_neg (Nat.ne_of_gt hj), if_neg h1, true_and, hr, and_self, Heap.new, List.drop_zero, List.nil_append]
theorem appEx0 {o : List AM.Obj} {e d t s b a : Nat} {new : List V} (h : o[a]? = some (.cells .ex t 0 [])) :
    appendA ⟨o, e, d⟩ t s b (.slice a 0 0 s) 0 new = some (.slice a 0 0 s, none) := by
  simp only [appendA, h, if_true, Nat.zero_mul, Nat.zero_add, List.length_nil, Nat.le_refl]

section
variable {o : List AM.Obj} {e d w : Nat} {vL vO vN : V} {L : List (Rq × Bool)} {O : List Rq} {N : List Nt} {last : Int} {lost : Bool}
theorem reqR (h : Heap) (r : Rq) (i : Int) : Den FF E5 12 [.agg [.int .i64 i, .int .i64 r.op, .int .i64 r.ino, .int .i64 r.oth, .int .i64 r.n, .int .i64 r.m, .str r.nm, .str r.tx]] h = some (.val (.bool (r.at_ i).right), none) := eRRight_5 i r.op r.ino r.oth r.n r.m r.nm r.tx h
theorem rput_no {r : Rq} (h : RQ o w vL vO vN L O N last lost) (hl0 : 0 ≤ last) (hl1 : last ≤ 9223372036854775806) (hr : (r.at_ (last + 1)).right = false) :
    ∃ v oh, Den FF E5 40 [.ptr w 0, r.v] ⟨o, e, d⟩ = some (v, oh) ∧ v = .val (.tuple [.int .i64 0, .int .i64 22]) ∧ oh = none := by
  refine To.denE hxE5 (f := 40) (a := af40) rfl (E5_none rfl) (Nat.le_of_ble_eq_true rfl) ?_
  obtain ⟨hw, hL, hO, hN⟩ := h
  have lw := get_lt hw
  have w1 : IntKind.i64.wrap (last + 1) = last + 1 := wrap_i64 (by omega) (by omega)
  have qR := fun h => reqR h r (last + 1)
  rw [hr] at qR
  (repeat' (first | refine To.seq hxE5 ?_ | refine To.op0 hxE5 (by simp only [go_sem, eqs hxE5, reduceIte, Nat.reduceEqDiff, Nat.reduceAdd, Nat.reduceMul, Nat.reduceLT, Nat.reduceLeDiff, Int.reduceLT, Int.reduceLE, Int.reduceEq, reduceCtorEq, Int.reduceBEq, Int.reduceBNe, Int.reduceToNat, Nat.reduceSub, Nat.reduceDiv, Int.reduceNeg, Int.reduceAdd, Int.reduceSub, Int.reduceMul, Heap.gets, Heap.sets, Heap.get, bytesA_length, bytesA_one, bytesA_plains, List.take_of_length_le, List.drop_of_length_le, Nat.add_zero, V.one, Nat.reduceLeDiff, List.all_cons, List.all_nil, ne_eq, not_false_eq_true, Nat.zero_le, gs_ne, gs_eq, ga_lt, ga_0, ga_k, sa_lt, sa_0, sa_k, lw, List.length_set, hw, w1, qR, Rq.v, Rq.cs]; rfl) ?_ | refine To.op1 hxE5 (by simp only [go_sem, eqs hxE5, reduceIte, Nat.reduceEqDiff, Nat.reduceAdd, Nat.reduceMul, Nat.reduceLT, Nat.reduceLeDiff, Int.reduceLT, Int.reduceLE, Int.reduceEq, reduceCtorEq, Int.reduceBEq, Int.reduceBNe, Int.reduceToNat, Nat.reduceSub, Nat.reduceDiv, Int.reduceNeg, Int.reduceAdd, Int.reduceSub, Int.reduceMul, Heap.gets, Heap.sets, Heap.get, bytesA_length, bytesA_one, bytesA_plains, List.take_of_length_le, List.drop_of_length_le, Nat.add_zero, V.one, Nat.reduceLeDiff, List.all_cons, List.all_nil, ne_eq, not_false_eq_true, Nat.zero_le, gs_ne, gs_eq, ga_lt, ga_0, ga_k, sa_lt, sa_0, sa_k, lw, List.length_set, hw, w1, qR, Rq.v, Rq.cs]; rfl) ?_ | refine To.nop hxE5 ?_ | (refine To.condT hxE5 ?_ ?_; focus (simp only [go_sem, eqs hxE5, reduceIte, Nat.reduceEqDiff, Nat.reduceAdd, Nat.reduceMul, Nat.reduceLT, Nat.reduceLeDiff, Int.reduceLT, Int.reduceLE, Int.reduceEq, reduceCtorEq, Int.reduceBEq, Int.reduceBNe, Int.reduceToNat, Nat.reduceSub, Nat.reduceDiv, Int.reduceNeg, Int.reduceAdd, Int.reduceSub, Int.reduceMul, Heap.gets, Heap.sets, Heap.get, bytesA_length, bytesA_one, bytesA_plains, List.take_of_length_le, List.drop_of_length_le, Nat.add_zero, V.one, Nat.reduceLeDiff, List.all_cons, List.all_nil, ne_eq, not_false_eq_true, Nat.zero_le, gs_ne, gs_eq, ga_lt, ga_0, ga_k, sa_lt, sa_0, sa_k, lw, List.length_set, hw, w1, qR, Rq.v, Rq.cs]; done)) | refine To.ret hxE5 ?_))
  refine ⟨_, _, fin2 (i := 4) (j := 5) rfl, ?_, ?_⟩
  · simp only [go_sem, eqs hxE5, reduceIte, Nat.reduceEqDiff, Nat.reduceAdd, Nat.reduceMul, Nat.reduceLT, Nat.reduceLeDiff, Int.reduceLT, Int.reduceLE, Int.reduceEq, reduceCtorEq, Int.reduceBEq, Int.reduceBNe, Int.reduceToNat, Nat.reduceSub, Nat.reduceDiv, Int.reduceNeg, Int.reduceAdd, Int.reduceSub, Int.reduceMul]
  · simp only [go_sem, eqs hxE5, reduceIte, Nat.reduceEqDiff, Nat.reduceAdd, Nat.reduceMul, Nat.reduceLT, Nat.reduceLeDiff, Int.reduceLT, Int.reduceLE, Int.reduceEq, reduceCtorEq, Int.reduceBEq, Int.reduceBNe, Int.reduceToNat, Nat.reduceSub, Nat.reduceDiv, Int.reduceNeg, Int.reduceAdd, Int.reduceSub, Int.reduceMul]
theorem rput_full {r : Rq} (h : RQ o w vL vO vN L O N last lost) (hl0 : 0 ≤ last) (hl1 : last ≤ 9223372036854775806) (hr : (r.at_ (last + 1)).right = true) (h8 : ¬ L.length < 8) :
    ∃ v oh, Den FF E5 40 [.ptr w 0, r.v] ⟨o, e, d⟩ = some (v, oh) ∧ v = .val (.tuple [.int .i64 0, .int .i64 11]) ∧ oh = none := by
  refine To.denE hxE5 (f := 40) (a := af40) rfl (E5_none rfl) (Nat.le_of_ble_eq_true rfl) ?_
  obtain ⟨hw, hL, hO, hN⟩ := h
  have lw := get_lt hw
  have w1 : IntKind.i64.wrap (last + 1) = last + 1 := wrap_i64 (by omega) (by omega)
  have qR := fun h => reqR h r (last + 1)
  rw [hr] at qR
  have hlen := hL.len
  rw [List.length_map] at hlen
  have k8 : decide (8 ≤ (L.length : Int)) = true := decide_eq_true (by omega)
  (repeat' (first | refine To.seq hxE5 ?_ | refine To.op0 hxE5 (by simp only [go_sem, eqs hxE5, reduceIte, Nat.reduceEqDiff, Nat.reduceAdd, Nat.reduceMul, Nat.reduceLT, Nat.reduceLeDiff, Int.reduceLT, Int.reduceLE, Int.reduceEq, reduceCtorEq, Int.reduceBEq, Int.reduceBNe, Int.reduceToNat, Nat.reduceSub, Nat.reduceDiv, Int.reduceNeg, Int.reduceAdd, Int.reduceSub, Int.reduceMul, Heap.gets, Heap.sets, Heap.get, bytesA_length, bytesA_one, bytesA_plains, List.take_of_length_le, List.drop_of_length_le, Nat.add_zero, V.one, Nat.reduceLeDiff, List.all_cons, List.all_nil, ne_eq, not_false_eq_true, Nat.zero_le, gs_ne, gs_eq, ga_lt, ga_0, ga_k, sa_lt, sa_0, sa_k, lw, List.length_set, hw, w1, qR, Rq.v, Rq.cs, hlen, k8]; rfl) ?_ | refine To.op1 hxE5 (by simp only [go_sem, eqs hxE5, reduceIte, Nat.reduceEqDiff, Nat.reduceAdd, Nat.reduceMul, Nat.reduceLT, Nat.reduceLeDiff, Int.reduceLT, Int.reduceLE, Int.reduceEq, reduceCtorEq, Int.reduceBEq, Int.reduceBNe, Int.reduceToNat, Nat.reduceSub, Nat.reduceDiv, Int.reduceNeg, Int.reduceAdd, Int.reduceSub, Int.reduceMul, Heap.gets, Heap.sets, Heap.get, bytesA_length, bytesA_one, bytesA_plains, List.take_of_length_le, List.drop_of_length_le, Nat.add_zero, V.one, Nat.reduceLeDiff, List.all_cons, List.all_nil, ne_eq, not_false_eq_true, Nat.zero_le, gs_ne, gs_eq, ga_lt, ga_0, ga_k, sa_lt, sa_0, sa_k, lw, List.length_set, hw, w1, qR, Rq.v, Rq.cs, hlen, k8]; rfl) ?_ | refine To.nop hxE5 ?_ | (refine To.condT hxE5 ?_ ?_; focus (simp only [go_sem, eqs hxE5, reduceIte, Nat.reduceEqDiff, Nat.reduceAdd, Nat.reduceMul, Nat.reduceLT, Nat.reduceLeDiff, Int.reduceLT, Int.reduceLE, Int.reduceEq, reduceCtorEq, Int.reduceBEq, Int.reduceBNe, Int.reduceToNat, Nat.reduceSub, Nat.reduceDiv, Int.reduceNeg, Int.reduceAdd, Int.reduceSub, Int.reduceMul, Heap.gets, Heap.sets, Heap.get, bytesA_length, bytesA_one, bytesA_plains, List.take_of_length_le, List.drop_of_length_le, Nat.add_zero, V.one, Nat.reduceLeDiff, List.all_cons, List.all_nil, ne_eq, not_false_eq_true, Nat.zero_le, gs_ne, gs_eq, ga_lt, ga_0, ga_k, sa_lt, sa_0, sa_k, lw, List.length_set, hw, w1, qR, Rq.v, Rq.cs, hlen, k8]; done)) | (refine To.condF hxE5 ?_ ?_; focus (simp only [go_sem, eqs hxE5, reduceIte, Nat.reduceEqDiff, Nat.reduceAdd, Nat.reduceMul, Nat.reduceLT, Nat.reduceLeDiff, Int.reduceLT, Int.reduceLE, Int.reduceEq, reduceCtorEq, Int.reduceBEq, Int.reduceBNe, Int.reduceToNat, Nat.reduceSub, Nat.reduceDiv, Int.reduceNeg, Int.reduceAdd, Int.reduceSub, Int.reduceMul, Heap.gets, Heap.sets, Heap.get, bytesA_length, bytesA_one, bytesA_plains, List.take_of_length_le, List.drop_of_length_le, Nat.add_zero, V.one, Nat.reduceLeDiff, List.all_cons, List.all_nil, ne_eq, not_false_eq_true, Nat.zero_le, gs_ne, gs_eq, ga_lt, ga_0, ga_k, sa_lt, sa_0, sa_k, lw, List.length_set, hw, w1, qR, Rq.v, Rq.cs, hlen, k8]; done)) | refine To.ret hxE5 ?_ | refine To.skip hxE5 ?_))
  refine ⟨_, _, fin2 (i := 4) (j := 5) rfl, ?_, ?_⟩
  · simp only [go_sem, eqs hxE5, reduceIte, Nat.reduceEqDiff, Nat.reduceAdd, Nat.reduceMul, Nat.reduceLT, Nat.reduceLeDiff, Int.reduceLT, Int.reduceLE, Int.reduceEq, reduceCtorEq, Int.reduceBEq, Int.reduceBNe, Int.reduceToNat, Nat.reduceSub, Nat.reduceDiv, Int.reduceNeg, Int.reduceAdd, Int.reduceSub, Int.reduceMul]
  · simp only [go_sem, eqs hxE5, reduceIte, Nat.reduceEqDiff, Nat.reduceAdd, Nat.reduceMul, Nat.reduceLT, Nat.reduceLeDiff, Int.reduceLT, Int.reduceLE, Int.reduceEq, reduceCtorEq, Int.reduceBEq, Int.reduceBNe, Int.reduceToNat, Nat.reduceSub, Nat.reduceDiv, Int.reduceNeg, Int.reduceAdd, Int.reduceSub, Int.reduceMul]

theorem close_r {h' : Heap} {v : V} {vL' vO' vN' : V} {L' : List (Rq × Bool)} {O' : List Rq} {N' : List Nt} {last' : Int} {lost' : Bool} (hR : RQ h'.o w vL' vO' vN' L' O' N' last' lost') (hX : Rx w o h'.o) (he : h'.e < o.length) :
    ∃ o' e' d' vL' vO' vN', (leave ⟨o, e, d⟩ h' v).getD ⟨o, e, d⟩ = ⟨o', e', d'⟩ ∧ RQ o' w vL' vO' vN' L' O' N' last' lost' ∧ Rx w o o' := by
  unfold leave
  rw [if_neg (fun h => by have := h.1; simp only at this; omega)]
  exact ⟨_, _, _, _, _, _, rfl, hR, hX⟩
set_option maxHeartbeats 8000000 in
theorem rput_ok {r : Rq} (h : RQ o w vL vO vN L O N last lost) (hl0 : 0 ≤ last) (hl1 : last ≤ 9223372036854775806) (hr : (r.at_ (last + 1)).right = true) (h8 : L.length < 8) :
    ∃ v oh, Den FF E5 40 [.ptr w 0, r.v] ⟨o, e, d⟩ = some (v, oh) ∧ v = .val (.tuple [.int .i64 (last + 1), .int .i64 0]) ∧ ∃ o' e' d' vL' vO' vN', oh.getD ⟨o, e, d⟩ = ⟨o', e', d'⟩ ∧
      RQ o' w vL' vO' vN' (L ++ [(r.at_ (last + 1), false)]) O N (last + 1) lost ∧ Rx w o o' := by
  refine To.denE hxE5 (f := 40) (a := af40) rfl (E5_none rfl) (Nat.le_of_ble_eq_true rfl) ?_
  have h0 := h
  obtain ⟨hw, hL, hO, hN⟩ := h
  have lw := get_lt hw
  have w1 : IntKind.i64.wrap (last + 1) = last + 1 := wrap_i64 (by omega) (by omega)
  have qR := fun h => reqR h r (last + 1)
  rw [hr] at qR
  have hlen := hL.len
  rw [List.length_map] at hlen
  have k8 : decide (8 ≤ (L.length : Int)) = false := decide_eq_false (by omega)
  have r1 : roomOk 1 88 = true := by decide
  by_cases hLn : L = []
  · subst hLn
    obtain ⟨rfl, _⟩ | ⟨l, ck, rfl, ho, hck⟩ := hL
    · (repeat' (first | refine To.seq hxE5 ?_ | refine To.op0 hxE5 (by simp only [go_sem, eqs hxE5, reduceIte, Nat.reduceEqDiff, Nat.reduceAdd, Nat.reduceMul, Nat.reduceLT, Nat.reduceLeDiff, Int.reduceLT, Int.reduceLE, Int.reduceEq, reduceCtorEq, Int.reduceBEq, Int.reduceBNe, Int.reduceToNat, Nat.reduceSub, Nat.reduceDiv, Int.reduceNeg, Int.reduceAdd, Int.reduceSub, Int.reduceMul, Heap.gets, Heap.sets, Heap.get, bytesA_length, bytesA_one, bytesA_plains, List.take_of_length_le, List.drop_of_length_le, Nat.add_zero, V.one, Nat.reduceLeDiff, List.all_cons, List.all_nil, ne_eq, not_false_eq_true, Nat.zero_le, gs_ne, gs_eq, ga_lt, ga_0, ga_k, sa_lt, sa_0, sa_k, lw, List.length_set, hw, w1, qR, Rq.v, Rq.cs, hlen, k8, da_0, da_k, Nat.add_assoc, Nat.add_sub_add_left, Nat.add_sub_cancel_left, Nat.sub_self, List.contains_cons, appendA, r1, Nat.zero_mul, all10, List.set_set]; rfl) ?_ | refine To.op1 hxE5 (by simp only [go_sem, eqs hxE5, reduceIte, Nat.reduceEqDiff, Nat.reduceAdd, Nat.reduceMul, Nat.reduceLT, Nat.reduceLeDiff, Int.reduceLT, Int.reduceLE, Int.reduceEq, reduceCtorEq, Int.reduceBEq, Int.reduceBNe, Int.reduceToNat, Nat.reduceSub, Nat.reduceDiv, Int.reduceNeg, Int.reduceAdd, Int.reduceSub, Int.reduceMul, Heap.gets, Heap.sets, Heap.get, bytesA_length, bytesA_one, bytesA_plains, List.take_of_length_le, List.drop_of_length_le, Nat.add_zero, V.one, Nat.reduceLeDiff, List.all_cons, List.all_nil, ne_eq, not_false_eq_true, Nat.zero_le, gs_ne, gs_eq, ga_lt, ga_0, ga_k, sa_lt, sa_0, sa_k, lw, List.length_set, hw, w1, qR, Rq.v, Rq.cs, hlen, k8, da_0, da_k, Nat.add_assoc, Nat.add_sub_add_left, Nat.add_sub_cancel_left, Nat.sub_self, List.contains_cons, appendA, r1, Nat.zero_mul, all10, List.set_set]; rfl) ?_ | refine To.nop hxE5 ?_ | (refine To.condF hxE5 ?_ ?_; focus (simp only [go_sem, eqs hxE5, reduceIte, Nat.reduceEqDiff, Nat.reduceAdd, Nat.reduceMul, Nat.reduceLT, Nat.reduceLeDiff, Int.reduceLT, Int.reduceLE, Int.reduceEq, reduceCtorEq, Int.reduceBEq, Int.reduceBNe, Int.reduceToNat, Nat.reduceSub, Nat.reduceDiv, Int.reduceNeg, Int.reduceAdd, Int.reduceSub, Int.reduceMul, Heap.gets, Heap.sets, Heap.get, bytesA_length, bytesA_one, bytesA_plains, List.take_of_length_le, List.drop_of_length_le, Nat.add_zero, V.one, Nat.reduceLeDiff, List.all_cons, List.all_nil, ne_eq, not_false_eq_true, Nat.zero_le, gs_ne, gs_eq, ga_lt, ga_0, ga_k, sa_lt, sa_0, sa_k, lw, List.length_set, hw, w1, qR, Rq.v, Rq.cs, hlen, k8, da_0, da_k, Nat.add_assoc, Nat.add_sub_add_left, Nat.add_sub_cancel_left, Nat.sub_self, List.contains_cons, appendA, r1, Nat.zero_mul, all10, List.set_set]; done)) | refine To.ret hxE5 ?_ | refine To.skip hxE5 ?_ | refine ToD.op0 (by simp only [go_sem, eqs hxE5, reduceIte, Nat.reduceEqDiff, Nat.reduceAdd, Nat.reduceMul, Nat.reduceLT, Nat.reduceLeDiff, Int.reduceLT, Int.reduceLE, Int.reduceEq, reduceCtorEq, Int.reduceBEq, Int.reduceBNe, Int.reduceToNat, Nat.reduceSub, Nat.reduceDiv, Int.reduceNeg, Int.reduceAdd, Int.reduceSub, Int.reduceMul, Heap.gets, Heap.sets, Heap.get, bytesA_length, bytesA_one, bytesA_plains, List.take_of_length_le, List.drop_of_length_le, Nat.add_zero, V.one, Nat.reduceLeDiff, List.all_cons, List.all_nil, ne_eq, not_false_eq_true, Nat.zero_le, gs_ne, gs_eq, ga_lt, ga_0, ga_k, sa_lt, sa_0, sa_k, lw, List.length_set, hw, w1, qR, Rq.v, Rq.cs, hlen, k8, da_0, da_k, Nat.add_assoc, Nat.add_sub_add_left, Nat.add_sub_cancel_left, Nat.sub_self, List.contains_cons, appendA, r1, Nat.zero_mul, all10, List.set_set]; rfl) (by simp only [put_some, put_none]; rfl) ?_ | refine ToD.op1 (by simp only [go_sem, eqs hxE5, reduceIte, Nat.reduceEqDiff, Nat.reduceAdd, Nat.reduceMul, Nat.reduceLT, Nat.reduceLeDiff, Int.reduceLT, Int.reduceLE, Int.reduceEq, reduceCtorEq, Int.reduceBEq, Int.reduceBNe, Int.reduceToNat, Nat.reduceSub, Nat.reduceDiv, Int.reduceNeg, Int.reduceAdd, Int.reduceSub, Int.reduceMul, Heap.gets, Heap.sets, Heap.get, bytesA_length, bytesA_one, bytesA_plains, List.take_of_length_le, List.drop_of_length_le, Nat.add_zero, V.one, Nat.reduceLeDiff, List.all_cons, List.all_nil, ne_eq, not_false_eq_true, Nat.zero_le, gs_ne, gs_eq, ga_lt, ga_0, ga_k, sa_lt, sa_0, sa_k, lw, List.length_set, hw, w1, qR, Rq.v, Rq.cs, hlen, k8, da_0, da_k, Nat.add_assoc, Nat.add_sub_add_left, Nat.add_sub_cancel_left, Nat.sub_self, List.contains_cons, appendA, r1, Nat.zero_mul, all10, List.set_set]; rfl) (by simp only [put_some, put_none]; rfl) (by simp only [KD.app, go_sem, eqs hxE5, reduceIte, Nat.reduceEqDiff, Nat.reduceAdd, Nat.reduceMul, Nat.reduceLT, Nat.reduceLeDiff, Int.reduceLT, Int.reduceLE, Int.reduceEq, reduceCtorEq, Int.reduceBEq, Int.reduceBNe, Int.reduceToNat, Nat.reduceSub, Nat.reduceDiv, Int.reduceNeg, Int.reduceAdd, Int.reduceSub, Int.reduceMul, Heap.gets, Heap.sets, Heap.get, bytesA_length, bytesA_one, bytesA_plains, List.take_of_length_le, List.drop_of_length_le, Nat.add_zero, V.one, Nat.reduceLeDiff, List.all_cons, List.all_nil, ne_eq, not_false_eq_true, Nat.zero_le, gs_ne, gs_eq, ga_lt, ga_0, ga_k, sa_lt, sa_0, sa_k, lw, List.length_set, hw, w1, qR, Rq.v, Rq.cs, hlen, k8, da_0, da_k, Nat.add_assoc, Nat.add_sub_add_left, Nat.add_sub_cancel_left, Nat.sub_self, List.contains_cons, appendA, r1, Nat.zero_mul, all10, List.set_set]; rfl) ?_ | refine ToD.nop ?_ | refine To.draw hxE5 (by decide) ?_ | fail))
      refine ⟨_, _, fin2 (i := 4) (j := 5) rfl, ?_, ?_⟩
      · simp only [go_sem, eqs hxE5, reduceIte, Nat.reduceEqDiff, Nat.reduceAdd, Nat.reduceMul, Nat.reduceLT, Nat.reduceLeDiff, Int.reduceLT, Int.reduceLE, Int.reduceEq, reduceCtorEq, Int.reduceBEq, Int.reduceBNe, Int.reduceToNat, Nat.reduceSub, Nat.reduceDiv, Int.reduceNeg, Int.reduceAdd, Int.reduceSub, Int.reduceMul]
      · refine close_r (h' := ⟨_, _, _⟩) (vL' := .slice (o.length + 3) 0 1 9) ⟨?_, ?_, hO.keep hw (by decide) _ _, hN.keep hw (by decide) _ _⟩ ((Rx.set _).trans (Rx.app _)) ?_
        · rw [ga_lt (by simpa using lw), gs_eq lw]
        · refine .inr ⟨o.length + 3, .gr, rfl, ?_, .inl rfl⟩
          rw [ga_k (by simp)]; rfl
        · simp only; omega
    · have hls : (o.set w (AM.Obj.cells .ex 85 0 [.slice l 0 0 9, vO, vN, .int .i64 (last + 1), .bool lost]))[l]? = some (.cells ck 138 0 []) := by
        rw [gs_ne (ne_of hw ho (by simp))]; exact ho
      simp only [List.map_nil, List.length_nil] at hlen hw
      have lsl := get_lt ho
      have ls1 : (l < o.length + 1) = True := eq_true (by omega)
      (repeat' (first | refine To.seq hxE5 ?_ | refine To.op0 hxE5 (by simp only [go_sem, eqs hxE5, reduceIte, Nat.reduceEqDiff, Nat.reduceAdd, Nat.reduceMul, Nat.reduceLT, Nat.reduceLeDiff, Int.reduceLT, Int.reduceLE, Int.reduceEq, reduceCtorEq, Int.reduceBEq, Int.reduceBNe, Int.reduceToNat, Nat.reduceSub, Nat.reduceDiv, Int.reduceNeg, Int.reduceAdd, Int.reduceSub, Int.reduceMul, Heap.gets, Heap.sets, Heap.get, bytesA_length, bytesA_one, bytesA_plains, List.take_of_length_le, List.drop_of_length_le, Nat.add_zero, V.one, Nat.reduceLeDiff, List.all_cons, List.all_nil, ne_eq, not_false_eq_true, Nat.zero_le, gs_ne, gs_eq, ga_lt, ga_0, ga_k, sa_lt, sa_0, sa_k, lw, List.length_set, hw, w1, qR, Rq.v, Rq.cs, hlen, k8, da_0, da_k, Nat.add_assoc, Nat.add_sub_add_left, Nat.add_sub_cancel_left, Nat.sub_self, List.contains_cons, appendA, r1, Nat.zero_mul, all10, List.set_set, ls1]; rfl) ?_ | refine To.op1 hxE5 (by simp only [go_sem, eqs hxE5, reduceIte, Nat.reduceEqDiff, Nat.reduceAdd, Nat.reduceMul, Nat.reduceLT, Nat.reduceLeDiff, Int.reduceLT, Int.reduceLE, Int.reduceEq, reduceCtorEq, Int.reduceBEq, Int.reduceBNe, Int.reduceToNat, Nat.reduceSub, Nat.reduceDiv, Int.reduceNeg, Int.reduceAdd, Int.reduceSub, Int.reduceMul, Heap.gets, Heap.sets, Heap.get, bytesA_length, bytesA_one, bytesA_plains, List.take_of_length_le, List.drop_of_length_le, Nat.add_zero, V.one, Nat.reduceLeDiff, List.all_cons, List.all_nil, ne_eq, not_false_eq_true, Nat.zero_le, gs_ne, gs_eq, ga_lt, ga_0, ga_k, sa_lt, sa_0, sa_k, lw, List.length_set, hw, w1, qR, Rq.v, Rq.cs, hlen, k8, da_0, da_k, Nat.add_assoc, Nat.add_sub_add_left, Nat.add_sub_cancel_left, Nat.sub_self, List.contains_cons, appendA, r1, Nat.zero_mul, all10, List.set_set, ls1]; rfl) ?_ | refine To.nop hxE5 ?_ | (refine To.condF hxE5 ?_ ?_; focus (simp only [go_sem, eqs hxE5, reduceIte, Nat.reduceEqDiff, Nat.reduceAdd, Nat.reduceMul, Nat.reduceLT, Nat.reduceLeDiff, Int.reduceLT, Int.reduceLE, Int.reduceEq, reduceCtorEq, Int.reduceBEq, Int.reduceBNe, Int.reduceToNat, Nat.reduceSub, Nat.reduceDiv, Int.reduceNeg, Int.reduceAdd, Int.reduceSub, Int.reduceMul, Heap.gets, Heap.sets, Heap.get, bytesA_length, bytesA_one, bytesA_plains, List.take_of_length_le, List.drop_of_length_le, Nat.add_zero, V.one, Nat.reduceLeDiff, List.all_cons, List.all_nil, ne_eq, not_false_eq_true, Nat.zero_le, gs_ne, gs_eq, ga_lt, ga_0, ga_k, sa_lt, sa_0, sa_k, lw, List.length_set, hw, w1, qR, Rq.v, Rq.cs, hlen, k8, da_0, da_k, Nat.add_assoc, Nat.add_sub_add_left, Nat.add_sub_cancel_left, Nat.sub_self, List.contains_cons, appendA, r1, Nat.zero_mul, all10, List.set_set, ls1]; done)) | refine To.ret hxE5 ?_ | refine To.skip hxE5 ?_ | refine ToD.op0 (by simp only [go_sem, eqs hxE5, reduceIte, Nat.reduceEqDiff, Nat.reduceAdd, Nat.reduceMul, Nat.reduceLT, Nat.reduceLeDiff, Int.reduceLT, Int.reduceLE, Int.reduceEq, reduceCtorEq, Int.reduceBEq, Int.reduceBNe, Int.reduceToNat, Nat.reduceSub, Nat.reduceDiv, Int.reduceNeg, Int.reduceAdd, Int.reduceSub, Int.reduceMul, Heap.gets, Heap.sets, Heap.get, bytesA_length, bytesA_one, bytesA_plains, List.take_of_length_le, List.drop_of_length_le, Nat.add_zero, V.one, Nat.reduceLeDiff, List.all_cons, List.all_nil, ne_eq, not_false_eq_true, Nat.zero_le, gs_ne, gs_eq, ga_lt, ga_0, ga_k, sa_lt, sa_0, sa_k, lw, List.length_set, hw, w1, qR, Rq.v, Rq.cs, hlen, k8, da_0, da_k, Nat.add_assoc, Nat.add_sub_add_left, Nat.add_sub_cancel_left, Nat.sub_self, List.contains_cons, appendA, r1, Nat.zero_mul, all10, List.set_set, ls1]; rfl) (by simp only [put_some, put_none]; rfl) ?_ | refine ToD.op1 (by simp only [go_sem, eqs hxE5, reduceIte, Nat.reduceEqDiff, Nat.reduceAdd, Nat.reduceMul, Nat.reduceLT, Nat.reduceLeDiff, Int.reduceLT, Int.reduceLE, Int.reduceEq, reduceCtorEq, Int.reduceBEq, Int.reduceBNe, Int.reduceToNat, Nat.reduceSub, Nat.reduceDiv, Int.reduceNeg, Int.reduceAdd, Int.reduceSub, Int.reduceMul, Heap.gets, Heap.sets, Heap.get, bytesA_length, bytesA_one, bytesA_plains, List.take_of_length_le, List.drop_of_length_le, Nat.add_zero, V.one, Nat.reduceLeDiff, List.all_cons, List.all_nil, ne_eq, not_false_eq_true, Nat.zero_le, gs_ne, gs_eq, ga_lt, ga_0, ga_k, sa_lt, sa_0, sa_k, lw, List.length_set, hw, w1, qR, Rq.v, Rq.cs, hlen, k8, da_0, da_k, Nat.add_assoc, Nat.add_sub_add_left, Nat.add_sub_cancel_left, Nat.sub_self, List.contains_cons, appendA, r1, Nat.zero_mul, all10, List.set_set, ls1]; rfl) (by simp only [put_some, put_none]; rfl) (by simp only [KD.app, go_sem, eqs hxE5, reduceIte, Nat.reduceEqDiff, Nat.reduceAdd, Nat.reduceMul, Nat.reduceLT, Nat.reduceLeDiff, Int.reduceLT, Int.reduceLE, Int.reduceEq, reduceCtorEq, Int.reduceBEq, Int.reduceBNe, Int.reduceToNat, Nat.reduceSub, Nat.reduceDiv, Int.reduceNeg, Int.reduceAdd, Int.reduceSub, Int.reduceMul, Heap.gets, Heap.sets, Heap.get, bytesA_length, bytesA_one, bytesA_plains, List.take_of_length_le, List.drop_of_length_le, Nat.add_zero, V.one, Nat.reduceLeDiff, List.all_cons, List.all_nil, ne_eq, not_false_eq_true, Nat.zero_le, gs_ne, gs_eq, ga_lt, ga_0, ga_k, sa_lt, sa_0, sa_k, lw, List.length_set, hw, w1, qR, Rq.v, Rq.cs, hlen, k8, da_0, da_k, Nat.add_assoc, Nat.add_sub_add_left, Nat.add_sub_cancel_left, Nat.sub_self, List.contains_cons, appendA, r1, Nat.zero_mul, all10, List.set_set, ls1]; rfl) ?_ | refine ToD.nop ?_ | refine To.draw hxE5 (by decide) ?_ | fail))
      refine ⟨_, _, fin2 (i := 4) (j := 5) rfl, ?_, ?_⟩
      · simp only [go_sem, eqs hxE5, reduceIte, Nat.reduceEqDiff, Nat.reduceAdd, Nat.reduceMul, Nat.reduceLT, Nat.reduceLeDiff, Int.reduceLT, Int.reduceLE, Int.reduceEq, reduceCtorEq, Int.reduceBEq, Int.reduceBNe, Int.reduceToNat, Nat.reduceSub, Nat.reduceDiv, Int.reduceNeg, Int.reduceAdd, Int.reduceSub, Int.reduceMul]
      · refine close_r (h' := ⟨_, _, _⟩) (vL' := .slice (o.length + 3) 0 1 9) ⟨?_, ?_, hO.keep hw (by decide) _ _, hN.keep hw (by decide) _ _⟩ ((Rx.set _).trans (Rx.app _)) ?_
        · rw [ga_lt (by simpa using lw), gs_eq lw]
        · refine .inr ⟨o.length + 3, .gr, rfl, ?_, .inl rfl⟩
          rw [ga_k (by simp)]; rfl
        · simp only; omega
  · obtain ⟨rfl, hx⟩ | ⟨l, ck, rfl, ho, hck⟩ := hL
    · simp at hx; exact absurd hx hLn
    have hck' : ck = .gr := by
      rcases hck with h | ⟨_, h⟩
      · exact h
      · simp at h; exact absurd h hLn
    subst hck'
    rw [List.length_map] at hw
    change o[l]? = some (.cells .gr 138 0 (rows9 L)) at ho
    have hl0' : 0 < L.length := List.length_pos_iff.2 hLn
    have n0 : (L.length = 0) = False := eq_false (by omega)
    have n1 : (L.length * 9 = 0) = False := eq_false (by omega)
    have r2 : ∀ n, n ≤ 8 → roomOk n 88 = true := fun n hn => decide_eq_true ⟨by unfold ok1; omega, by unfold ok1; omega⟩
    have lsl := get_lt ho
    have ls1 : (l < o.length + 1) = True := eq_true (by omega)
    have hwl := ne_of hw ho (by simp)
    have tk := rows9_take L
    have rl := rows9_len L
    have r11 := rows9_one L
    have rp := rows9_plain L
    let W : AM.Obj := .cells .ex 85 0 [.slice l 0 L.length 9, vO, vN, .int .i64 (last + 1), .bool lost]
    let X : AM.Obj := .cells .ex 25 0 (r.at_ (last + 1)).cs
    have a1 : ∀ e d, appendA ⟨o.set w W ++ [X, .cells .ex 138 0 [], .dead], e, d⟩ 138 9 88 (.slice (o.length + 1) 0 0 9) L.length (rows9 L) = some (.slice (o.length + 3) 0 L.length 9, some ⟨o.set w W ++ [X, .cells .ex 138 0 [], .dead, .cells .gr 138 0 (rows9 L)], e, d⟩) := by
      intro e d
      rw [appEx (by rw [ga_k (by simp)]; rfl) hl0' (by decide) (r2 _ (by omega))]
      simp
    have a2 : ∀ e d Y, appendA ⟨o.set w W ++ [X, .cells .ex 138 0 [], Y, .cells .gr 138 0 (rows9 L)], e, d⟩ 138 9 88 (.slice (o.length + 3) 0 L.length 9) 1 (Sl (r.at_ (last + 1), false)) = some (.slice (o.length + 4) 0 (L.length + 1) 9, some ⟨o.set w W ++ [X, .cells .ex 138 0 [], Y, .dead, .cells .gr 138 0 (rows9 (L ++ [(r.at_ (last + 1), false)]))], e, min d (o.length + 3)⟩) := by
      intro e d Y
      rw [app_gr (cs := rows9 L) (by rw [ga_k (by simp)]; rfl) rl (by decide) (by decide) (r2 _ (by omega)), sa_k (by simp)]
      have : rows9 (L ++ [(r.at_ (last + 1), false)]) = rows9 L ++ Sl (r.at_ (last + 1), false) := by simp [rows9]
      rw [this]
      simp
    simp only [W, X, Sl, Rq.cs, Rq.at_, List.cons_append, List.nil_append] at a1 a2
    clear_value W X
    (repeat' (first | refine To.seq hxE5 ?_ | refine To.op0 hxE5 (by simp only [go_sem, eqs hxE5, reduceIte, Nat.reduceEqDiff, Nat.reduceAdd, Nat.reduceMul, Nat.reduceLT, Nat.reduceLeDiff, Int.reduceLT, Int.reduceLE, Int.reduceEq, reduceCtorEq, Int.reduceBEq, Int.reduceBNe, Int.reduceToNat, Nat.reduceSub, Nat.reduceDiv, Int.reduceNeg, Int.reduceAdd, Int.reduceSub, Int.reduceMul, Heap.gets, Heap.sets, Heap.get, bytesA_length, bytesA_one, bytesA_plains, List.take_of_length_le, List.drop_of_length_le, Nat.add_zero, V.one, Nat.reduceLeDiff, List.all_cons, List.all_nil, ne_eq, not_false_eq_true, Nat.zero_le, gs_ne, gs_eq, ga_lt, ga_0, ga_k, sa_lt, sa_0, sa_k, lw, List.length_set, hw, w1, qR, Rq.v, Rq.cs, hlen, k8, da_0, da_k, Nat.add_assoc, Nat.add_sub_add_left, Nat.add_sub_cancel_left, Nat.sub_self, List.contains_cons, Nat.zero_mul, all10, List.set_set, ls1, ho, hwl, lsl, n0, n1, tk, rl, r11, rows9_only, Nat.le_add_right, a1, a2]; rfl) ?_ | refine To.op1 hxE5 (by simp only [go_sem, eqs hxE5, reduceIte, Nat.reduceEqDiff, Nat.reduceAdd, Nat.reduceMul, Nat.reduceLT, Nat.reduceLeDiff, Int.reduceLT, Int.reduceLE, Int.reduceEq, reduceCtorEq, Int.reduceBEq, Int.reduceBNe, Int.reduceToNat, Nat.reduceSub, Nat.reduceDiv, Int.reduceNeg, Int.reduceAdd, Int.reduceSub, Int.reduceMul, Heap.gets, Heap.sets, Heap.get, bytesA_length, bytesA_one, bytesA_plains, List.take_of_length_le, List.drop_of_length_le, Nat.add_zero, V.one, Nat.reduceLeDiff, List.all_cons, List.all_nil, ne_eq, not_false_eq_true, Nat.zero_le, gs_ne, gs_eq, ga_lt, ga_0, ga_k, sa_lt, sa_0, sa_k, lw, List.length_set, hw, w1, qR, Rq.v, Rq.cs, hlen, k8, da_0, da_k, Nat.add_assoc, Nat.add_sub_add_left, Nat.add_sub_cancel_left, Nat.sub_self, List.contains_cons, Nat.zero_mul, all10, List.set_set, ls1, ho, hwl, lsl, n0, n1, tk, rl, r11, rows9_only, Nat.le_add_right, a1, a2]; rfl) ?_ | refine To.nop hxE5 ?_ | (refine To.condF hxE5 ?_ ?_; focus (simp only [go_sem, eqs hxE5, reduceIte, Nat.reduceEqDiff, Nat.reduceAdd, Nat.reduceMul, Nat.reduceLT, Nat.reduceLeDiff, Int.reduceLT, Int.reduceLE, Int.reduceEq, reduceCtorEq, Int.reduceBEq, Int.reduceBNe, Int.reduceToNat, Nat.reduceSub, Nat.reduceDiv, Int.reduceNeg, Int.reduceAdd, Int.reduceSub, Int.reduceMul, Heap.gets, Heap.sets, Heap.get, bytesA_length, bytesA_one, bytesA_plains, List.take_of_length_le, List.drop_of_length_le, Nat.add_zero, V.one, Nat.reduceLeDiff, List.all_cons, List.all_nil, ne_eq, not_false_eq_true, Nat.zero_le, gs_ne, gs_eq, ga_lt, ga_0, ga_k, sa_lt, sa_0, sa_k, lw, List.length_set, hw, w1, qR, Rq.v, Rq.cs, hlen, k8, da_0, da_k, Nat.add_assoc, Nat.add_sub_add_left, Nat.add_sub_cancel_left, Nat.sub_self, List.contains_cons, Nat.zero_mul, all10, List.set_set, ls1, ho, hwl, lsl, n0, n1, tk, rl, r11, rows9_only, Nat.le_add_right, a1, a2]; done)) | refine To.ret hxE5 ?_ | refine To.skip hxE5 ?_ | refine ToD.op0 (by simp only [go_sem, eqs hxE5, reduceIte, Nat.reduceEqDiff, Nat.reduceAdd, Nat.reduceMul, Nat.reduceLT, Nat.reduceLeDiff, Int.reduceLT, Int.reduceLE, Int.reduceEq, reduceCtorEq, Int.reduceBEq, Int.reduceBNe, Int.reduceToNat, Nat.reduceSub, Nat.reduceDiv, Int.reduceNeg, Int.reduceAdd, Int.reduceSub, Int.reduceMul, Heap.gets, Heap.sets, Heap.get, bytesA_length, bytesA_one, bytesA_plains, List.take_of_length_le, List.drop_of_length_le, Nat.add_zero, V.one, Nat.reduceLeDiff, List.all_cons, List.all_nil, ne_eq, not_false_eq_true, Nat.zero_le, gs_ne, gs_eq, ga_lt, ga_0, ga_k, sa_lt, sa_0, sa_k, lw, List.length_set, hw, w1, qR, Rq.v, Rq.cs, hlen, k8, da_0, da_k, Nat.add_assoc, Nat.add_sub_add_left, Nat.add_sub_cancel_left, Nat.sub_self, List.contains_cons, Nat.zero_mul, all10, List.set_set, ls1, ho, hwl, lsl, n0, n1, tk, rl, r11, rows9_only, Nat.le_add_right, a1, a2]; rfl) (by simp only [put_some, put_none]; rfl) ?_ | refine ToD.op1 (by simp only [go_sem, eqs hxE5, reduceIte, Nat.reduceEqDiff, Nat.reduceAdd, Nat.reduceMul, Nat.reduceLT, Nat.reduceLeDiff, Int.reduceLT, Int.reduceLE, Int.reduceEq, reduceCtorEq, Int.reduceBEq, Int.reduceBNe, Int.reduceToNat, Nat.reduceSub, Nat.reduceDiv, Int.reduceNeg, Int.reduceAdd, Int.reduceSub, Int.reduceMul, Heap.gets, Heap.sets, Heap.get, bytesA_length, bytesA_one, bytesA_plains, List.take_of_length_le, List.drop_of_length_le, Nat.add_zero, V.one, Nat.reduceLeDiff, List.all_cons, List.all_nil, ne_eq, not_false_eq_true, Nat.zero_le, gs_ne, gs_eq, ga_lt, ga_0, ga_k, sa_lt, sa_0, sa_k, lw, List.length_set, hw, w1, qR, Rq.v, Rq.cs, hlen, k8, da_0, da_k, Nat.add_assoc, Nat.add_sub_add_left, Nat.add_sub_cancel_left, Nat.sub_self, List.contains_cons, Nat.zero_mul, all10, List.set_set, ls1, ho, hwl, lsl, n0, n1, tk, rl, r11, rows9_only, Nat.le_add_right, a1, a2]; rfl) (by simp only [put_some, put_none]; rfl) (by simp only [KD.app, go_sem, eqs hxE5, reduceIte, Nat.reduceEqDiff, Nat.reduceAdd, Nat.reduceMul, Nat.reduceLT, Nat.reduceLeDiff, Int.reduceLT, Int.reduceLE, Int.reduceEq, reduceCtorEq, Int.reduceBEq, Int.reduceBNe, Int.reduceToNat, Nat.reduceSub, Nat.reduceDiv, Int.reduceNeg, Int.reduceAdd, Int.reduceSub, Int.reduceMul, Heap.gets, Heap.sets, Heap.get, bytesA_length, bytesA_one, bytesA_plains, List.take_of_length_le, List.drop_of_length_le, Nat.add_zero, V.one, Nat.reduceLeDiff, List.all_cons, List.all_nil, ne_eq, not_false_eq_true, Nat.zero_le, gs_ne, gs_eq, ga_lt, ga_0, ga_k, sa_lt, sa_0, sa_k, lw, List.length_set, hw, w1, qR, Rq.v, Rq.cs, hlen, k8, da_0, da_k, Nat.add_assoc, Nat.add_sub_add_left, Nat.add_sub_cancel_left, Nat.sub_self, List.contains_cons, Nat.zero_mul, all10, List.set_set, ls1, ho, hwl, lsl, n0, n1, tk, rl, r11, rows9_only, Nat.le_add_right, a1, a2]; rfl) ?_ | refine ToD.nop ?_ | refine To.draw hxE5 (by decide) ?_ | fail))
    refine ⟨_, _, fin2 (i := 4) (j := 5) rfl, ?_, ?_⟩
    · simp only [go_sem, eqs hxE5, reduceIte, Nat.reduceEqDiff, Nat.reduceAdd, Nat.reduceMul, Nat.reduceLT, Nat.reduceLeDiff, Int.reduceLT, Int.reduceLE, Int.reduceEq, reduceCtorEq, Int.reduceBEq, Int.reduceBNe, Int.reduceToNat, Nat.reduceSub, Nat.reduceDiv, Int.reduceNeg, Int.reduceAdd, Int.reduceSub, Int.reduceMul]
    · refine close_r (h' := ⟨_, _, _⟩) (vL' := .slice (o.length + 4) 0 (L.length + 1) 9) ⟨?_, ?_, hO.keep hw (by decide) _ _, hN.keep hw (by decide) _ _⟩ ((Rx.set _).trans (Rx.app _)) ?_
      · rw [ga_lt (by simpa using lw), gs_eq lw]
      · refine .inr ⟨o.length + 4, .gr, by simp, ?_, .inl rfl⟩
        rw [ga_k (by simp)]; rfl
      · simp only; omega
end
end Go.Proofs.Ytjbblfoefibeaaa

/- Queues: appending to what is there, also where the order is open. -/
namespace Go.Proofs.Ytjbblfoefibeaaa
open Go AM
set_option linter.unusedSimpArgs false
set_option linter.unusedVariables false
set_option maxRecDepth 100000

theorem app_lit {o : List AM.Obj} {e d t s b a n : Nat} {new : List V} (h : o[a]? = some (.cells .ex t 0 [])) (hs : 0 < s) (hn : new.length = n * s) (hr : roomOk n b = true) :
    ∃ v oh, appendA ⟨o, e, d⟩ t s b (.slice a 0 0 s) n new = some (v, oh) ∧ ∃ rs, oh.getD ⟨o, e, d⟩ = ⟨o ++ rs, e, d⟩ ∧ rs.all (AM.Obj.only fun _ => true) = true ∧ (V.plains new = true → ∀ ok, rs.all (AM.Obj.only ok) = true) ∧ ∃ l ck, v = .slice l 0 n s ∧ (o ++ rs)[l]? = some (.cells ck t 0 new) ∧ (ck = .gr ∨ (ck = .ex ∧ n = 0)) ∧ (l = a ∨ l = o.length) := by
  by_cases h0 : n = 0
  · subst h0
    have hnil : new = [] := List.length_eq_zero_iff.1 (by omega)
    subst hnil
    exact ⟨_, _, appEx0 h, [], by simp, rfl, fun _ _ => rfl, a, .ex, rfl, by simpa using h, .inr ⟨rfl, rfl⟩, .inl rfl⟩
  · refine ⟨_, _, appEx h (by omega) hs hr, _, rfl, ?_, ?_, o.length, .gr, rfl, by rw [app_get0], .inl rfl, .inr rfl⟩
    · simp only [List.all_cons, List.all_nil, Bool.and_true]
      exact V.onlys_of_ok (fun _ => rfl) new
    · intro hp ok
      simp only [List.all_cons, List.all_nil, Bool.and_true]
      exact onlys_plain hp
theorem app_more {o : List AM.Obj} {e d t s b l n k : Nat} {ck : CK} {cs new : List V} (h : o[l]? = some (.cells ck t 0 cs)) (hc : ck = .gr ∨ (ck = .ex ∧ n = 0)) (hl : cs.length = n * s) (hn : new.length = k * s) (hs : 0 < s) (hr : roomOk (n + k) b = true) :
    ∃ v oh o2 d2, appendA ⟨o, e, d⟩ t s b (.slice l 0 n s) k new = some (v, oh) ∧ oh.getD ⟨o, e, d⟩ = ⟨o2, e, d2⟩ ∧ o.length ≤ o2.length ∧ (∀ x, x < o.length → x ≠ l → o2[x]? = o[x]?) ∧
      ∃ l' ck', v = .slice l' 0 (n + k) s ∧ o2[l']? = some (.cells ck' t 0 (cs ++ new)) ∧ (ck' = .gr ∨ (ck' = .ex ∧ n + k = 0)) ∧ (l' = l ∨ l' = o.length) := by
  by_cases h0 : k = 0
  · subst h0
    have hnil : new = [] := List.length_eq_zero_iff.1 (by omega)
    subst hnil
    refine ⟨.slice l 0 n s, none, o, d, ?_, rfl, Nat.le_refl _, fun _ _ _ => rfl, l, ck, rfl, by simpa using h, hc, .inl rfl⟩
    simp only [appendA, h, if_true, hl, Nat.zero_add, Nat.le_refl]
  · rcases hc with rfl | ⟨rfl, rfl⟩
    · refine ⟨_, _, _, _, app_gr h hl (by omega) hs hr, rfl, by simp, fun x hx hne => ?_, o.length, .gr, rfl, ?_, .inl rfl, .inr rfl⟩
      · rw [ga_lt (by simpa using hx), gs_ne (Ne.symm hne)]
      · rw [ga_0 (by simp)]; rfl
    · have hcs : cs = [] := List.length_eq_zero_iff.1 (by omega)
      subst hcs
      have hr' : roomOk k b = true := by rwa [Nat.zero_add] at hr
      refine ⟨_, _, _, _, appEx h (by omega) hs hr', rfl, by simp, fun x hx hne => ga_lt hx, o.length, .gr, by rw [Nat.zero_add], by rw [app_get0]; rfl, .inl rfl, .inr rfl⟩

section
variable {F : Nat → Option AF} {ext : ExtF}
theorem ToD.quietM {N m : Nat} {x : DO} {l : List DO} {S : Nat → V} {h : Heap} {v : V} {Q : (Nat → V) → Heap → Prop} (hw : wantedA S x.o.g = true) (hp : x.pl = none) (he : stepA (Den F ext) x.o.op S h = some (.val v, none)) (hv : V.only (okL N m x.al) v = true) (hk : ToD F ext N m l (putO S x.o.d v) h Q) : ToD F ext N m (x :: l) S h Q := by
  refine ToD.op (k := .q) ?_ hk
  simp only [outD, hw, if_true, hp, he, hv, or_true]
theorem ToD.appM {N m : Nat} {x : DO} {l : List DO} {S : Nat → V} {h h' : Heap} {v : V} {oh : Option Heap} {Q : (Nat → V) → Heap → Prop} (hw : wantedA S x.o.g = true) (hp : x.pl = none) (hc : x.o.op.cls = 2) (he : stepA (Den F ext) x.o.op S h = some (.val v, oh)) (hh : oh.getD h = h') (hv : V.only (okL N m x.al) v = true) (ho : h'.only N m x.al = true) (hd : deadKept N h h' m = true) (hr : x.rc.all (lookA (Den F ext) S h') = true) (hk : ToD F ext N m l (putO S x.o.d v) h' Q) : ToD F ext N m (x :: l) S h Q := by
  cases oh with
  | none =>
    simp only [Option.getD_none] at hh
    subst hh
    exact ToD.quietM hw hp he hv hk
  | some h2 =>
    simp only [Option.getD_some] at hh
    subst hh
    refine ToD.op (k := .c h2) ?_ hk
    simp only [outD, hw, if_true, hp, he, hc, hr, hv, ho, hd, or_true, and_self]
end

theorem flat_mid {s : Nat} : ∀ {xs : List (List V)}, (∀ x ∈ xs, x.length = s) → ∀ a b : Nat, (xs.flatten.drop (a * s)).take (b * s) = ((xs.drop a).take b).flatten
  | [], _, a, b => by simp
  | x :: r, hx, 0, 0 => by simp
  | x :: r, hx, 0, b + 1 => by
    have h1 := hx x List.mem_cons_self
    have ih := flat_mid (fun y hy => hx y (List.mem_cons_of_mem _ hy)) 0 b
    rw [Nat.zero_mul, List.drop_zero, List.drop_zero] at ih
    rw [Nat.zero_mul, List.drop_zero, List.drop_zero, List.flatten_cons, List.take_succ_cons, List.flatten_cons, ← ih, Nat.succ_mul, Nat.add_comm (b * s), List.take_append, List.take_of_length_le (by omega)]
    congr 2
    omega
  | x :: r, hx, a + 1, b => by
    have h1 := hx x List.mem_cons_self
    have ih := flat_mid (fun y hy => hx y (List.mem_cons_of_mem _ hy)) a b
    rw [List.flatten_cons, Nat.succ_mul, Nat.add_comm (a * s), ← List.drop_drop, List.drop_left' h1, ih, List.drop_succ_cons]
theorem app_step {h : Heap} {S : Nat → V} {t s b n : Nat} {z : List V} {X Y : Opd} {x y v : V} {rows : List V} {oh : Option Heap} (hY : Opd.ev S Y = y) (hX : Opd.ev S X = x)
    (hy : (n = 0 ∧ rows = [] ∧ (y = .nils ∨ ∃ a b c d, y = .esl a b c d)) ∨ ∃ l o', y = .slice l o' n s ∧ h.gets l o' (n * s) = some rows ∧ rows.all V.one = true) (ha : appendA h t s b x n rows = some (v, oh)) : stepV (.app t s b z X Y) S h = some (v, oh) := by
  rcases hy with ⟨rfl, rfl, rfl | ⟨a1, a2, a3, a4, rfl⟩⟩ | ⟨l, o', rfl, hg, ho⟩
  · simp only [stepV, hY, hX, ha]
  · simp only [stepV, hY, hX, ha]
  · simp only [stepV, hY, hX, if_true, hg, Option.bind_some, ho, ha]
/-- The end of a slice, from a place on. -/
theorem slL_from {o : List AM.Obj} {l n k s t : Nat} {ck : CK} {xs : List (List V)} {x y : Opd} (ho : o[l]? = some (.cells ck t 0 xs.flatten)) (hx : ∀ r ∈ xs, r.length = s) (hn : n = xs.length) (hs : 0 < s) (hk0 : 0 < k) (hk : k ≤ n) :
    ∃ v, (∀ (S : Nat → V) (r : List AM.Obj) (e d : Nat), Opd.ev S x = .slice l 0 n s → Opd.ev S y = .int .i64 (k : Int) → stepV (.slL s x (some y) none) S ⟨o ++ r, e, d⟩ = some (v, none)) ∧ (∀ ok : Nat → Bool, ok l = true → V.only ok v = true) ∧
      ∀ r e d, (n - k = 0 ∧ ((xs.drop k).flatten) = [] ∧ ∃ a b c d, v = .esl a b c d) ∨ ∃ l o', v = .slice l o' (n - k) s ∧ (⟨o ++ r, e, d⟩ : Heap).gets l o' ((n - k) * s) = some (xs.drop k).flatten := by
  subst hn
  have hfl : ∀ {ys : List (List V)}, (∀ r ∈ ys, r.length = s) → ys.flatten.length = ys.length * s := by
    intro ys
    induction ys with
    | nil => intro _; simp
    | cons a r ih => intro h; rw [List.flatten_cons, List.length_append, ih (fun q hq => h q (List.mem_cons_of_mem _ hq)), h a List.mem_cons_self, List.length_cons, Nat.succ_mul, Nat.add_comm]
  have hl := get_lt ho
  have hh : ∀ r e d, (⟨o ++ r, e, d⟩ : Heap).holds l (0 + xs.length * s) = true := fun r e d => by
    simp only [Heap.holds, ga_lt hl, ho, hfl hx]
    apply decide_eq_true; omega
  have b1 : boundsA xs.length xs.length (some (.int .i64 (k : Int))) none = some (k, xs.length) := by
    simp only [boundsA, hiB, loB]
    rw [if_pos (by omega)]
    simp
  by_cases h0 : k < xs.length
  · refine ⟨.slice l (k * s) (xs.length - k) s, fun S r e d h1 h2 => ?_, fun ok h => h, fun r e d => .inr ⟨l, k * s, rfl, ?_⟩⟩
    · simp only [stepV, h1, hh r e d, Option.map_some, Option.map_none, h2, b1, hs, true_and, or_true, if_true, Option.bind_some]
      rw [if_neg (by omega), if_pos h0, Nat.zero_add]
      rfl
    · have hne : ¬ (xs.length - k) * s = 0 := by
        intro h; rcases Nat.mul_eq_zero.1 h with h | h <;> omega
      simp only [Heap.gets, ga_lt hl, ho]
      have hle : k * s + (xs.length - k) * s ≤ xs.flatten.length := by
        rw [hfl hx, ← Nat.add_mul, show k + (xs.length - k) = xs.length by omega]
        exact Nat.le_refl _
      rw [if_neg hne, if_pos hle, flat_mid hx, List.take_of_length_le (by rw [List.length_drop]; omega)]
  · refine ⟨.esl l 0 k s, fun S r e d h1 h2 => ?_, fun ok h => h, fun r e d => .inl ⟨by omega, ?_, _, _, _, _, rfl⟩⟩
    · simp only [stepV, h1, hh r e d, Option.map_some, Option.map_none, h2, b1, hs, true_and, or_true, if_true, Option.bind_some]
      rw [if_neg (by omega), if_neg h0]
      rfl
    · rw [List.drop_of_length_le (by omega)]; rfl
end Go.Proofs.Ytjbblfoefibeaaa

/- Queues: the document's queue: take. -/
namespace Go.Proofs.Ytjbblfoefibeaaa
open Go AM
set_option linter.unusedSimpArgs false
set_option linter.unusedVariables false
set_option maxRecDepth 100000

theorem Rw.mk' {o : List AM.Obj} {v : V} {t e n : Nat} {new : List V} {xs : List (List V)} (h : ∃ l ck, v = .slice l 0 n e ∧ o[l]? = some (AM.Obj.cells ck t 0 new) ∧ (ck = .gr ∨ (ck = .ex ∧ n = 0))) (hn : n = xs.length) (hx : new = xs.flatten) : Rw o v t e xs := by
  obtain ⟨l, ck, rfl, ho, hc⟩ := h
  subst hn hx
  refine .inr ⟨l, ck, rfl, ho, ?_⟩
  rcases hc with h | ⟨h, h'⟩
  · exact .inl h
  · exact .inr ⟨h, List.length_eq_zero_iff.1 h'⟩

def takeG : List (Rq × Bool) → Option Rq × List (Rq × Bool)
  | [] => (none, [])
  | (r, g) :: t => if g = true then takeG t else (some r, t)
def addO (O : List Rq) : Option Rq → List Rq
  | none => O
  | some r => O ++ [r]


def rows8 (l : List Rq) : List V := (l.map Rq.cs).flatten
theorem rows8_len : ∀ l, (rows8 l).length = l.length * 8
  | [] => rfl
  | x :: l => by
    have := rows8_len l
    have e : rows8 (x :: l) = x.cs ++ rows8 l := rfl
    rw [e, List.length_append, this, List.length_cons]
    simp only [Rq.cs, List.length_cons, List.length_nil]
    omega
theorem rows8_plain : ∀ l, V.plains (rows8 l) = true
  | [] => rfl
  | x :: l => by
    have e : rows8 (x :: l) = x.cs ++ rows8 l := rfl
    rw [e, plains_app, rows8_plain l]; rfl
theorem rows8_only (ok : Nat → Bool) (l : List Rq) : V.onlys ok (rows8 l) = true := onlys_plain (rows8_plain l)
theorem rows8_take (l : List Rq) : (rows8 l).take (l.length * 8) = rows8 l := by rw [← rows8_len]; exact List.take_length
theorem rows8_one (l : List Rq) : (rows8 l).all V.one = true := by
  unfold rows8
  simp only [List.all_flatten, List.all_map, List.all_eq_true]
  intro x _
  rfl
theorem sa_ne {α : Type} {o r : List α} {i w : Nat} {y : α} (h : w ≠ i) : (o.set w y ++ r)[i]? = (o ++ r)[i]? := by
  by_cases hi : i < o.length
  · rw [ga_lt (by simpa using hi), ga_lt hi, gs_ne h]
  · rw [List.getElem?_append_right (by simp; omega), List.getElem?_append_right (by omega), List.length_set]
theorem cutS {Q1 : (Nat → V) → Heap → Prop} {Q2 : Ex → (Nat → V) → Heap → Prop} {S : Nat → V} {h : Heap} (P : (Nat → V) → Prop) (hP : P S) (hk : ∀ S', P S' → andThen Q1 Q2 .norm S' h) : andThen Q1 Q2 .norm S h := hk S hP

section
variable {o : List AM.Obj} {e d w : Nat} {vL vO vN : V} {L : List (Rq × Bool)} {O : List Rq} {N : List Nt} {last : Int} {lost : Bool}
set_option maxHeartbeats 16000000 in
theorem rtake_q (h : RQ o w vL vO vN L O N last lost) (hL8 : L.length ≤ 1000) (hO8 : O.length ≤ 1000) :
    ∃ v oh, Den FF E5 41 [.ptr w 0] ⟨o, e, d⟩ = some (v, oh) ∧ v = .val (takeVal (takeG L).1) ∧ ∃ o' e' d' vL' vO' vN', oh.getD ⟨o, e, d⟩ = ⟨o', e', d'⟩ ∧
      RQ o' w vL' vO' vN' (takeG L).2 (addO O (takeG L).1) N last lost ∧ Rx w o o' := by
  refine To.denE hxE5 (f := 41) (a := af41) rfl (E5_none rfl) (Nat.le_of_ble_eq_true rfl) ?_
  have h0 := h
  have lw := get_lt h.hw
  (repeat' (first | refine To.seq hxE5 ?_ | refine To.op0 hxE5 (by simp only [go_sem, eqs hxE5, reduceIte, Nat.reduceEqDiff, Nat.reduceAdd, Nat.reduceMul, Nat.reduceLT, Nat.reduceLeDiff, Int.reduceLT, Int.reduceLE, Int.reduceEq, reduceCtorEq, Int.reduceBEq, Int.reduceBNe, Int.reduceToNat, Nat.reduceSub, Nat.reduceDiv, Int.reduceNeg, Int.reduceAdd, Int.reduceSub, Int.reduceMul]; rfl) ?_ | refine To.op1 hxE5 (by simp only [go_sem, eqs hxE5, reduceIte, Nat.reduceEqDiff, Nat.reduceAdd, Nat.reduceMul, Nat.reduceLT, Nat.reduceLeDiff, Int.reduceLT, Int.reduceLE, Int.reduceEq, reduceCtorEq, Int.reduceBEq, Int.reduceBNe, Int.reduceToNat, Nat.reduceSub, Nat.reduceDiv, Int.reduceNeg, Int.reduceAdd, Int.reduceSub, Int.reduceMul]; rfl) ?_ | refine To.nop hxE5 ?_ | refine To.block hxE5 ?_))
  refine To.loop hxE5 (fun k S h' => ∃ L' o' e' d' vL', k = L'.length ∧ L'.length ≤ L.length ∧ h' = ⟨o', e', d'⟩ ∧ takeG L' = takeG L ∧ ((L' = L ∧ o.length ≤ e' ∧ o.length ≤ d') ∨ e' < o.length) ∧ RQ o' w vL' vO vN L' O N last lost ∧ Rx w o o' ∧ o'[o.length]? = some (.cells .ex 25 0 [.int .i64 0, .int .i64 0, .int .i64 0, .int .i64 0, .int .i64 0, .int .i64 0, .str [], .str []]) ∧ S 0 = .ptr w 0 ∧ S 2 = .ptr o.length 0) ?_ L.length _ _ ?_
  · rintro k S _ ⟨L', o', e', d', vL', rfl, hLL, rfl, hT, hE, hR', hX', hz, s0, s2⟩
    have hRR := hR'
    obtain ⟨hw, hL, hO, hN⟩ := hR'
    have lw' := get_lt hw
    have lz := get_lt hz
    have hwz : w ≠ o.length := by omega
    have hzw : o.length ≠ w := by omega
    have hlen := hL.len
    rw [List.length_map] at hlen
    cases L' with
    | nil =>
      simp only [List.length_nil] at hlen
      (repeat' (first | refine To.seq hxE5 ?_ | refine To.op0 hxE5 (by simp only [go_sem, eqs hxE5, reduceIte, Nat.reduceEqDiff, Nat.reduceAdd, Nat.reduceMul, Nat.reduceLT, Nat.reduceLeDiff, Int.reduceLT, Int.reduceLE, Int.reduceEq, reduceCtorEq, Int.reduceBEq, Int.reduceBNe, Int.reduceToNat, Nat.reduceSub, Nat.reduceDiv, Int.reduceNeg, Int.reduceAdd, Int.reduceSub, Int.reduceMul, Heap.gets, Heap.sets, Heap.get, bytesA_length, bytesA_one, bytesA_plains, List.take_of_length_le, List.drop_of_length_le, Nat.add_zero, V.one, Nat.reduceLeDiff, List.all_cons, List.all_nil, ne_eq, not_false_eq_true, Nat.zero_le, s0, s2, hw, hlen, hz, lz, gs_eq, ga_lt, List.length_set]; rfl) ?_ | refine To.op1 hxE5 (by simp only [go_sem, eqs hxE5, reduceIte, Nat.reduceEqDiff, Nat.reduceAdd, Nat.reduceMul, Nat.reduceLT, Nat.reduceLeDiff, Int.reduceLT, Int.reduceLE, Int.reduceEq, reduceCtorEq, Int.reduceBEq, Int.reduceBNe, Int.reduceToNat, Nat.reduceSub, Nat.reduceDiv, Int.reduceNeg, Int.reduceAdd, Int.reduceSub, Int.reduceMul, Heap.gets, Heap.sets, Heap.get, bytesA_length, bytesA_one, bytesA_plains, List.take_of_length_le, List.drop_of_length_le, Nat.add_zero, V.one, Nat.reduceLeDiff, List.all_cons, List.all_nil, ne_eq, not_false_eq_true, Nat.zero_le, s0, s2, hw, hlen, hz, lz, gs_eq, ga_lt, List.length_set]; rfl) ?_ | refine To.nop hxE5 ?_ | (refine To.condF hxE5 ?_ ?_; focus (simp only [go_sem, eqs hxE5, reduceIte, Nat.reduceEqDiff, Nat.reduceAdd, Nat.reduceMul, Nat.reduceLT, Nat.reduceLeDiff, Int.reduceLT, Int.reduceLE, Int.reduceEq, reduceCtorEq, Int.reduceBEq, Int.reduceBNe, Int.reduceToNat, Nat.reduceSub, Nat.reduceDiv, Int.reduceNeg, Int.reduceAdd, Int.reduceSub, Int.reduceMul, Heap.gets, Heap.sets, Heap.get, bytesA_length, bytesA_one, bytesA_plains, List.take_of_length_le, List.drop_of_length_le, Nat.add_zero, V.one, Nat.reduceLeDiff, List.all_cons, List.all_nil, ne_eq, not_false_eq_true, Nat.zero_le, s0, s2, hw, hlen, hz, lz, gs_eq, ga_lt, List.length_set]; done)) | refine To.ret hxE5 ?_ | refine To.exit hxE5 ?_))
      refine ⟨_, _, finQT (i := 2) (n := 8) (j := 3) (l := o.length) (o := 0) rfl (by simp only [go_sem, eqs hxE5, reduceIte, Nat.reduceEqDiff, Nat.reduceAdd, Nat.reduceMul, Nat.reduceLT, Nat.reduceLeDiff, Int.reduceLT, Int.reduceLE, Int.reduceEq, reduceCtorEq, Int.reduceBEq, Int.reduceBNe, Int.reduceToNat, Nat.reduceSub, Nat.reduceDiv, Int.reduceNeg, Int.reduceAdd, Int.reduceSub, Int.reduceMul, s2]) (by simp only [go_sem, eqs hxE5, reduceIte, Nat.reduceEqDiff, Nat.reduceAdd, Nat.reduceMul, Nat.reduceLT, Nat.reduceLeDiff, Int.reduceLT, Int.reduceLE, Int.reduceEq, reduceCtorEq, Int.reduceBEq, Int.reduceBNe, Int.reduceToNat, Nat.reduceSub, Nat.reduceDiv, Int.reduceNeg, Int.reduceAdd, Int.reduceSub, Int.reduceMul, Heap.gets, Heap.sets, Heap.get, bytesA_length, bytesA_one, bytesA_plains, List.take_of_length_le, List.drop_of_length_le, Nat.add_zero, V.one, Nat.reduceLeDiff, List.all_cons, List.all_nil, ne_eq, not_false_eq_true, Nat.zero_le, gs_eq, lz]; try rfl), ?_, ?_⟩
      · rw [← hT]; simp only [go_sem, eqs hxE5, reduceIte, Nat.reduceEqDiff, Nat.reduceAdd, Nat.reduceMul, Nat.reduceLT, Nat.reduceLeDiff, Int.reduceLT, Int.reduceLE, Int.reduceEq, reduceCtorEq, Int.reduceBEq, Int.reduceBNe, Int.reduceToNat, Nat.reduceSub, Nat.reduceDiv, Int.reduceNeg, Int.reduceAdd, Int.reduceSub, Int.reduceMul, takeG, takeVal]; try rfl
      · rw [← hT]
        simp only [takeG, addO]
        have hR2 : RQ (o'.set o.length (.cells .ex 25 0 Rq.zero.cs)) w vL' vO vN [] O N last lost := by
          refine ⟨(gs_ne hzw).trans hw, hL.of fun l ck cs hl => ?_, hO.of2 fun l ck cs hcc hl' => ?_, hN.of fun l ck cs hl => ?_⟩
          · rw [gs_ne (ne_of hz hl (by simp))]; exact hl
          · rw [gs_ne]
            · exact hl'
            · rintro rfl
              rw [hz] at hl'
              cases hl'
              rcases hcc with h | h <;> cases h
          · rw [gs_ne (ne_of hz hl (by simp))]; exact hl
        rcases hE with ⟨hLe, h1, h2⟩ | hE
        · refine ⟨o, e, d, vL, vO, vN, ?_, by rw [← hLe] at h0; exact h0, Rx.refl⟩
          unfold leave
          rw [if_pos ⟨h1, by simp only [go_sem, eqs hxE5, reduceIte, Nat.reduceEqDiff, Nat.reduceAdd, Nat.reduceMul, Nat.reduceLT, Nat.reduceLeDiff, Int.reduceLT, Int.reduceLE, Int.reduceEq, reduceCtorEq, Int.reduceBEq, Int.reduceBNe, Int.reduceToNat, Nat.reduceSub, Nat.reduceDiv, Int.reduceNeg, Int.reduceAdd, Int.reduceSub, Int.reduceMul]⟩]
          simp only
          rw [if_pos (by omega)]
          rfl
        · refine close_r (h' := ⟨_, _, _⟩) hR2 (hX'.new _ (Nat.le_refl _)) ?_
          simp only; omega
    | cons x t =>
      have hlt : decide (0 < ((t.length + 1 : Nat) : Int)) = true := decide_eq_true (by omega)
      simp only [List.length_cons] at hlen hLL
      obtain ⟨rfl, hx⟩ | ⟨l, ck, rfl, ho, hck⟩ := hL
      · simp at hx
      have hck' : ck = .gr := by
        rcases hck with h | ⟨_, h⟩
        · exact h
        · simp at h
      subst hck'
      rw [List.length_map, List.length_cons] at hw hlen
      have lsl := get_lt ho
      have hwl := ne_of hw ho (by simp)
      have l9 : ∀ r ∈ (x :: t).map Sl, r.length = 9 := by
        intro r hr
        obtain ⟨n, _, rfl⟩ := List.mem_map.1 hr
        simp [Sl, Rq.cs]
      have hxs : Sl x = [.int .i64 x.1.id, .int .i64 x.1.op, .int .i64 x.1.ino, .int .i64 x.1.oth, .int .i64 x.1.n, .int .i64 x.1.m, .str x.1.nm, .str x.1.tx, .bool x.2] := rfl
      have g0 : ∀ e d, (⟨o', e, d⟩ : Heap).gets l 0 9 = some [.int .i64 x.1.id, .int .i64 x.1.op, .int .i64 x.1.ino, .int .i64 x.1.oth, .int .i64 x.1.n, .int .i64 x.1.m, .str x.1.nm, .str x.1.tx, .bool x.2] := fun e d => by
        rw [← hxs]
        have e9 : ((x :: t).map Sl).flatten = Sl x ++ rows9 t := rfl
        have h9 : (Sl x).length = 9 := rfl
        simp only [Heap.gets, ho, e9, List.drop_zero, List.length_append, h9]
        rw [if_neg (by decide), if_pos (by omega), List.take_left' h9]
      have ix : idxOf (t.length + 1) (.int .i64 0) = some 0 := idxOf_nat (n := t.length + 1) (i := 0) (by omega)
      have r2 : ∀ n, n ≤ 1000 → roomOk n 88 = true := fun n hn => decide_eq_true ⟨by unfold ok1; omega, by unfold ok1; omega⟩
      obtain ⟨y, hst, hyo, hyg⟩ := slL_from (o := o') (l := l) (k := 1) (n := t.length + 1) (s := 9) (xs := (x :: t).map Sl) (x := .t 22) (y := .k (.int .i64 1)) ho l9 (by simp) (by decide) (by decide) (by omega)
      obtain ⟨v2, oh2, happ, rs, hgd, _, _, l2, ck2, rfl, ho2, hc2, _⟩ := app_lit (o := o' ++ [.cells .ex 138 0 [.int .i64 x.1.id, .int .i64 x.1.op, .int .i64 x.1.ino, .int .i64 x.1.oth, .int .i64 x.1.n, .int .i64 x.1.m, .str x.1.nm, .str x.1.tx, .bool x.2], .cells .ex 138 0 []]) (e := e') (d := min d' o'.length) (t := 138) (s := 9) (b := 88) (a := o'.length + 1) (n := t.length) (new := rows9 t) (by rw [ga_k rfl]; rfl) (by decide) (rows9_len t) (r2 _ (by omega))
      have hy3 : (t.length = 0 ∧ rows9 t = [] ∧ (y = .nils ∨ ∃ a b c d, y = .esl a b c d)) ∨ ∃ l o9, y = .slice l o9 t.length 9 ∧ (⟨o' ++ [.cells .ex 138 0 [.int .i64 x.1.id, .int .i64 x.1.op, .int .i64 x.1.ino, .int .i64 x.1.oth, .int .i64 x.1.n, .int .i64 x.1.m, .str x.1.nm, .str x.1.tx, .bool x.2], .cells .ex 138 0 []], e', min d' o'.length⟩ : Heap).gets l o9 (t.length * 9) = some (rows9 t) ∧ (rows9 t).all V.one = true := by
        have := hyg [.cells .ex 138 0 [.int .i64 x.1.id, .int .i64 x.1.op, .int .i64 x.1.ino, .int .i64 x.1.oth, .int .i64 x.1.n, .int .i64 x.1.m, .str x.1.nm, .str x.1.tx, .bool x.2], .cells .ex 138 0 []] e' (min d' o'.length)
        rw [Nat.add_sub_cancel] at this
        rcases this with ⟨a, b, c⟩ | ⟨a, b, c, f⟩
        · exact .inl ⟨a, b, .inr c⟩
        · exact .inr ⟨a, b, c, f, rows9_one t⟩
      (repeat' (first | refine To.seq hxE5 ?_ | refine To.op0 hxE5 (by simp only [go_sem, eqs hxE5, reduceIte, Nat.reduceEqDiff, Nat.reduceAdd, Nat.reduceMul, Nat.reduceLT, Nat.reduceLeDiff, Int.reduceLT, Int.reduceLE, Int.reduceEq, reduceCtorEq, Int.reduceBEq, Int.reduceBNe, Int.reduceToNat, Nat.reduceSub, Nat.reduceDiv, Int.reduceNeg, Int.reduceAdd, Int.reduceSub, Int.reduceMul, Heap.sets, Heap.get, bytesA_length, bytesA_one, bytesA_plains, List.take_of_length_le, List.drop_of_length_le, Nat.add_zero, V.one, Nat.reduceLeDiff, List.all_cons, List.all_nil, ne_eq, not_false_eq_true, Nat.zero_le, gs_ne, gs_eq, ga_lt, ga_0, ga_k, sa_lt, sa_0, sa_k, lw', List.length_set, hw, s0, s2, hlen, hlt, ix, g0]; rfl) ?_ | refine To.op1 hxE5 (by simp only [go_sem, eqs hxE5, reduceIte, Nat.reduceEqDiff, Nat.reduceAdd, Nat.reduceMul, Nat.reduceLT, Nat.reduceLeDiff, Int.reduceLT, Int.reduceLE, Int.reduceEq, reduceCtorEq, Int.reduceBEq, Int.reduceBNe, Int.reduceToNat, Nat.reduceSub, Nat.reduceDiv, Int.reduceNeg, Int.reduceAdd, Int.reduceSub, Int.reduceMul, Heap.sets, Heap.get, bytesA_length, bytesA_one, bytesA_plains, List.take_of_length_le, List.drop_of_length_le, Nat.add_zero, V.one, Nat.reduceLeDiff, List.all_cons, List.all_nil, ne_eq, not_false_eq_true, Nat.zero_le, gs_ne, gs_eq, ga_lt, ga_0, ga_k, sa_lt, sa_0, sa_k, lw', List.length_set, hw, s0, s2, hlen, hlt, ix, g0]; rfl) ?_ | refine To.nop hxE5 ?_ | (refine To.condT hxE5 ?_ ?_; focus (simp only [go_sem, eqs hxE5, reduceIte, Nat.reduceEqDiff, Nat.reduceAdd, Nat.reduceMul, Nat.reduceLT, Nat.reduceLeDiff, Int.reduceLT, Int.reduceLE, Int.reduceEq, reduceCtorEq, Int.reduceBEq, Int.reduceBNe, Int.reduceToNat, Nat.reduceSub, Nat.reduceDiv, Int.reduceNeg, Int.reduceAdd, Int.reduceSub, Int.reduceMul, Heap.sets, Heap.get, bytesA_length, bytesA_one, bytesA_plains, List.take_of_length_le, List.drop_of_length_le, Nat.add_zero, V.one, Nat.reduceLeDiff, List.all_cons, List.all_nil, ne_eq, not_false_eq_true, Nat.zero_le, gs_ne, gs_eq, ga_lt, ga_0, ga_k, sa_lt, sa_0, sa_k, lw', List.length_set, hw, s0, s2, hlen, hlt, ix, g0]; done)) | refine To.block hxE5 ?_ | refine To.skip hxE5 ?_))
      refine To.op hxE5 (by rw [o_slL, hst _ _ _ _ rfl rfl]) ?_
      simp only [Option.getD_none]
      refine To.op hxE5 (by rw [o_app, app_step rfl rfl hy3 happ]) ?_
      rw [hgd]
      (repeat' (first | refine To.seq hxE5 ?_ | refine To.op0 hxE5 (by simp only [go_sem, eqs hxE5, reduceIte, Nat.reduceEqDiff, Nat.reduceAdd, Nat.reduceMul, Nat.reduceLT, Nat.reduceLeDiff, Int.reduceLT, Int.reduceLE, Int.reduceEq, reduceCtorEq, Int.reduceBEq, Int.reduceBNe, Int.reduceToNat, Nat.reduceSub, Nat.reduceDiv, Int.reduceNeg, Int.reduceAdd, Int.reduceSub, Int.reduceMul, Heap.sets, Heap.get, bytesA_length, bytesA_one, bytesA_plains, List.take_of_length_le, List.drop_of_length_le, Nat.add_zero, V.one, Nat.reduceLeDiff, List.all_cons, List.all_nil, ne_eq, not_false_eq_true, Nat.zero_le, gs_ne, gs_eq, ga_lt, ga_0, ga_k, sa_lt, sa_0, sa_k, lw', List.length_set, hw, s0, s2]; rfl) ?_ | refine To.op1 hxE5 (by simp only [go_sem, eqs hxE5, reduceIte, Nat.reduceEqDiff, Nat.reduceAdd, Nat.reduceMul, Nat.reduceLT, Nat.reduceLeDiff, Int.reduceLT, Int.reduceLE, Int.reduceEq, reduceCtorEq, Int.reduceBEq, Int.reduceBNe, Int.reduceToNat, Nat.reduceSub, Nat.reduceDiv, Int.reduceNeg, Int.reduceAdd, Int.reduceSub, Int.reduceMul, Heap.sets, Heap.get, bytesA_length, bytesA_one, bytesA_plains, List.take_of_length_le, List.drop_of_length_le, Nat.add_zero, V.one, Nat.reduceLeDiff, List.all_cons, List.all_nil, ne_eq, not_false_eq_true, Nat.zero_le, gs_ne, gs_eq, ga_lt, ga_0, ga_k, sa_lt, sa_0, sa_k, lw', List.length_set, hw, s0, s2]; rfl) ?_ | refine To.nop hxE5 ?_))
      have hR2 : RQ (o'.set w (AM.Obj.cells .ex 85 0 [.slice l2 0 t.length 9, vO, vN, .int .i64 last, .bool lost]) ++ AM.Obj.cells .ex 138 0 [.int .i64 x.1.id, .int .i64 x.1.op, .int .i64 x.1.ino, .int .i64 x.1.oth, .int .i64 x.1.n, .int .i64 x.1.m, .str x.1.nm, .str x.1.tx, .bool x.2] :: AM.Obj.cells .ex 138 0 [] :: rs) w (.slice l2 0 t.length 9) vO vN t O N last lost := by
        refine ⟨by rw [ga_lt (by simpa using lw'), gs_eq lw'], ?_, hO.keep hw (by decide) _ _, hN.keep hw (by decide) _ _⟩
        have hw2 : (o' ++ [AM.Obj.cells .ex 138 0 [.int .i64 x.1.id, .int .i64 x.1.op, .int .i64 x.1.ino, .int .i64 x.1.oth, .int .i64 x.1.n, .int .i64 x.1.m, .str x.1.nm, .str x.1.tx, .bool x.2], .cells .ex 138 0 []] ++ rs)[w]? = some (.cells .ex 85 0 [.slice l 0 (t.length + 1) 9, vO, vN, .int .i64 last, .bool lost]) := by
          rw [List.append_assoc]; exact app_old hw _
        have hne := ne_of hw2 ho2 (by simp)
        have ho3 : (o'.set w (AM.Obj.cells .ex 85 0 [.slice l2 0 t.length 9, vO, vN, .int .i64 last, .bool lost]) ++ AM.Obj.cells .ex 138 0 [.int .i64 x.1.id, .int .i64 x.1.op, .int .i64 x.1.ino, .int .i64 x.1.oth, .int .i64 x.1.n, .int .i64 x.1.m, .str x.1.nm, .str x.1.tx, .bool x.2] :: AM.Obj.cells .ex 138 0 [] :: rs)[l2]? = some (.cells ck2 138 0 (rows9 t)) := by
          rw [sa_ne hne]
          rw [List.append_assoc] at ho2
          exact ho2
        exact Rw.mk' ⟨l2, ck2, rfl, ho3, hc2⟩ (by simp) rfl
      have hz2 : (o'.set w (AM.Obj.cells .ex 85 0 [.slice l2 0 t.length 9, vO, vN, .int .i64 last, .bool lost]) ++ AM.Obj.cells .ex 138 0 [.int .i64 x.1.id, .int .i64 x.1.op, .int .i64 x.1.ino, .int .i64 x.1.oth, .int .i64 x.1.n, .int .i64 x.1.m, .str x.1.nm, .str x.1.tx, .bool x.2] :: AM.Obj.cells .ex 138 0 [] :: rs)[o.length]? = _ := (sa_ne hwz).trans ((ga_lt lz).trans hz)
      have hs2 : (o'.set w (AM.Obj.cells .ex 85 0 [.slice l2 0 t.length 9, vO, vN, .int .i64 last, .bool lost]) ++ AM.Obj.cells .ex 138 0 [.int .i64 x.1.id, .int .i64 x.1.op, .int .i64 x.1.ino, .int .i64 x.1.oth, .int .i64 x.1.n, .int .i64 x.1.m, .str x.1.nm, .str x.1.tx, .bool x.2] :: AM.Obj.cells .ex 138 0 [] :: rs)[o'.length]? = some (.cells .ex 138 0 [.int .i64 x.1.id, .int .i64 x.1.op, .int .i64 x.1.ino, .int .i64 x.1.oth, .int .i64 x.1.n, .int .i64 x.1.m, .str x.1.nm, .str x.1.tx, .bool x.2]) := by rw [ga_0 (by simp)]; rfl
      have hX2 : Rx w o (o'.set w (AM.Obj.cells .ex 85 0 [.slice l2 0 t.length 9, vO, vN, .int .i64 last, .bool lost]) ++ AM.Obj.cells .ex 138 0 [.int .i64 x.1.id, .int .i64 x.1.op, .int .i64 x.1.ino, .int .i64 x.1.oth, .int .i64 x.1.n, .int .i64 x.1.m, .str x.1.nm, .str x.1.tx, .bool x.2] :: AM.Obj.cells .ex 138 0 [] :: rs) := (hX'.trans (Rx.set _)).trans (Rx.app _)
      generalize (o'.set w (AM.Obj.cells .ex 85 0 [.slice l2 0 t.length 9, vO, vN, .int .i64 last, .bool lost]) ++ AM.Obj.cells .ex 138 0 [.int .i64 x.1.id, .int .i64 x.1.op, .int .i64 x.1.ino, .int .i64 x.1.oth, .int .i64 x.1.n, .int .i64 x.1.m, .str x.1.nm, .str x.1.tx, .bool x.2] :: AM.Obj.cells .ex 138 0 [] :: rs) = o2 at hR2 hz2 hs2 hX2 ⊢
      have he2 : min e' w < o.length := by omega
      generalize min e' w = e2 at he2 ⊢
      generalize min (min d' o'.length) w = d2
      have hl2 := get_lt hs2
      generalize o'.length = n at hs2 hl2 ⊢
      refine cutS (fun S' => S' 0 = .ptr w 0 ∧ S' 2 = .ptr o.length 0 ∧ S' 4 = .ptr n 0 ∧ S' 29 = .bool (!x.2)) (by simp only [go_sem, eqs hxE5, reduceIte, Nat.reduceEqDiff, Nat.reduceAdd, Nat.reduceMul, Nat.reduceLT, Nat.reduceLeDiff, Int.reduceLT, Int.reduceLE, Int.reduceEq, reduceCtorEq, Int.reduceBEq, Int.reduceBNe, Int.reduceToNat, Nat.reduceSub, Nat.reduceDiv, Int.reduceNeg, Int.reduceAdd, Int.reduceSub, Int.reduceMul, s0, s2]) ?_
      rintro S2 ⟨u0, u2, u4, u29⟩
      cases hg : x.2
      case true =>
        rw [hg] at u29
        (repeat' (first | (refine To.condF hxE5 ?_ ?_; focus (simp only [go_sem, eqs hxE5, reduceIte, Nat.reduceEqDiff, Nat.reduceAdd, Nat.reduceMul, Nat.reduceLT, Nat.reduceLeDiff, Int.reduceLT, Int.reduceLE, Int.reduceEq, reduceCtorEq, Int.reduceBEq, Int.reduceBNe, Int.reduceToNat, Nat.reduceSub, Nat.reduceDiv, Int.reduceNeg, Int.reduceAdd, Int.reduceSub, Int.reduceMul, u29, Bool.not_true]; done)) | refine To.skip hxE5 ?_))
        try simp only [andThen, outOf]
        refine ⟨t.length, by simp, t, _, _, _, _, rfl, by omega, rfl, ?_, .inr he2, hR2, hX2, hz2, ?_⟩
        · rw [← hT]
          obtain ⟨xr, xg⟩ := x
          simp only at hg
          subst hg
          rfl
        · simp only [go_sem, eqs hxE5, reduceIte, Nat.reduceEqDiff, Nat.reduceAdd, Nat.reduceMul, Nat.reduceLT, Nat.reduceLeDiff, Int.reduceLT, Int.reduceLE, Int.reduceEq, reduceCtorEq, Int.reduceBEq, Int.reduceBNe, Int.reduceToNat, Nat.reduceSub, Nat.reduceDiv, Int.reduceNeg, Int.reduceAdd, Int.reduceSub, Int.reduceMul, u0, u2]
      rw [hg] at u29
      have hw2 := hR2.hw
      have lw2 := get_lt hw2
      have lz2 := get_lt hz2
      have hwn := ne_of hw2 hs2 (by simp)
      have hzn := ne_of hz2 hs2 (by simp)
      have hTG : takeG (x :: t) = (some x.1, t) := by
        obtain ⟨xr, xg⟩ := x
        simp only at hg
        subst hg
        rfl
      have r1 : roomOk 1 80 = true := by decide
      rcases hR2.hO with ⟨rfl, hO0⟩ | ⟨l3, ck3, rfl, ho3, hc3⟩
      · have hOn : O = [] := by simpa using hO0
        subst hOn
        (repeat' (first | refine To.seq hxE5 ?_ | refine To.op0 hxE5 (by simp only [go_sem, eqs hxE5, reduceIte, Nat.reduceEqDiff, Nat.reduceAdd, Nat.reduceMul, Nat.reduceLT, Nat.reduceLeDiff, Int.reduceLT, Int.reduceLE, Int.reduceEq, reduceCtorEq, Int.reduceBEq, Int.reduceBNe, Int.reduceToNat, Nat.reduceSub, Nat.reduceDiv, Int.reduceNeg, Int.reduceAdd, Int.reduceSub, Int.reduceMul, Heap.gets, Heap.sets, Heap.get, bytesA_length, bytesA_one, bytesA_plains, List.take_of_length_le, List.drop_of_length_le, Nat.add_zero, V.one, Nat.reduceLeDiff, List.all_cons, List.all_nil, ne_eq, not_false_eq_true, Nat.zero_le, gs_ne, gs_eq, ga_lt, ga_0, ga_k, sa_lt, sa_0, sa_k, u0, u2, u4, u29, Bool.not_false, lw2, hl2, lz2, hwn, hwz, hzw, hzn, List.length_set, List.set_set, hw2, hs2, hz2, da_0, da_k, Nat.add_assoc, Nat.add_sub_add_left, Nat.add_sub_cancel_left, Nat.sub_self, List.contains_cons, Nat.zero_mul, all10, Nat.le_add_right, appendA, r1]; rfl) ?_ | refine To.op1 hxE5 (by simp only [go_sem, eqs hxE5, reduceIte, Nat.reduceEqDiff, Nat.reduceAdd, Nat.reduceMul, Nat.reduceLT, Nat.reduceLeDiff, Int.reduceLT, Int.reduceLE, Int.reduceEq, reduceCtorEq, Int.reduceBEq, Int.reduceBNe, Int.reduceToNat, Nat.reduceSub, Nat.reduceDiv, Int.reduceNeg, Int.reduceAdd, Int.reduceSub, Int.reduceMul, Heap.gets, Heap.sets, Heap.get, bytesA_length, bytesA_one, bytesA_plains, List.take_of_length_le, List.drop_of_length_le, Nat.add_zero, V.one, Nat.reduceLeDiff, List.all_cons, List.all_nil, ne_eq, not_false_eq_true, Nat.zero_le, gs_ne, gs_eq, ga_lt, ga_0, ga_k, sa_lt, sa_0, sa_k, u0, u2, u4, u29, Bool.not_false, lw2, hl2, lz2, hwn, hwz, hzw, hzn, List.length_set, List.set_set, hw2, hs2, hz2, da_0, da_k, Nat.add_assoc, Nat.add_sub_add_left, Nat.add_sub_cancel_left, Nat.sub_self, List.contains_cons, Nat.zero_mul, all10, Nat.le_add_right, appendA, r1]; rfl) ?_ | refine To.nop hxE5 ?_ | (refine To.condT hxE5 ?_ ?_; focus (simp only [go_sem, eqs hxE5, reduceIte, Nat.reduceEqDiff, Nat.reduceAdd, Nat.reduceMul, Nat.reduceLT, Nat.reduceLeDiff, Int.reduceLT, Int.reduceLE, Int.reduceEq, reduceCtorEq, Int.reduceBEq, Int.reduceBNe, Int.reduceToNat, Nat.reduceSub, Nat.reduceDiv, Int.reduceNeg, Int.reduceAdd, Int.reduceSub, Int.reduceMul, Heap.gets, Heap.sets, Heap.get, bytesA_length, bytesA_one, bytesA_plains, List.take_of_length_le, List.drop_of_length_le, Nat.add_zero, V.one, Nat.reduceLeDiff, List.all_cons, List.all_nil, ne_eq, not_false_eq_true, Nat.zero_le, gs_ne, gs_eq, ga_lt, ga_0, ga_k, sa_lt, sa_0, sa_k, u0, u2, u4, u29, Bool.not_false, lw2, hl2, lz2, hwn, hwz, hzw, hzn, List.length_set, List.set_set, hw2, hs2, hz2, da_0, da_k, Nat.add_assoc, Nat.add_sub_add_left, Nat.add_sub_cancel_left, Nat.sub_self, List.contains_cons, Nat.zero_mul, all10, Nat.le_add_right, appendA, r1]; done)) | refine To.ret hxE5 ?_ | refine ToD.op0 (by simp only [go_sem, eqs hxE5, reduceIte, Nat.reduceEqDiff, Nat.reduceAdd, Nat.reduceMul, Nat.reduceLT, Nat.reduceLeDiff, Int.reduceLT, Int.reduceLE, Int.reduceEq, reduceCtorEq, Int.reduceBEq, Int.reduceBNe, Int.reduceToNat, Nat.reduceSub, Nat.reduceDiv, Int.reduceNeg, Int.reduceAdd, Int.reduceSub, Int.reduceMul, Heap.gets, Heap.sets, Heap.get, bytesA_length, bytesA_one, bytesA_plains, List.take_of_length_le, List.drop_of_length_le, Nat.add_zero, V.one, Nat.reduceLeDiff, List.all_cons, List.all_nil, ne_eq, not_false_eq_true, Nat.zero_le, gs_ne, gs_eq, ga_lt, ga_0, ga_k, sa_lt, sa_0, sa_k, u0, u2, u4, u29, Bool.not_false, lw2, hl2, lz2, hwn, hwz, hzw, hzn, List.length_set, List.set_set, hw2, hs2, hz2, da_0, da_k, Nat.add_assoc, Nat.add_sub_add_left, Nat.add_sub_cancel_left, Nat.sub_self, List.contains_cons, Nat.zero_mul, all10, Nat.le_add_right, appendA, r1]; rfl) (by simp only [put_some, put_none]; rfl) ?_ | refine ToD.op1 (by simp only [go_sem, eqs hxE5, reduceIte, Nat.reduceEqDiff, Nat.reduceAdd, Nat.reduceMul, Nat.reduceLT, Nat.reduceLeDiff, Int.reduceLT, Int.reduceLE, Int.reduceEq, reduceCtorEq, Int.reduceBEq, Int.reduceBNe, Int.reduceToNat, Nat.reduceSub, Nat.reduceDiv, Int.reduceNeg, Int.reduceAdd, Int.reduceSub, Int.reduceMul, Heap.gets, Heap.sets, Heap.get, bytesA_length, bytesA_one, bytesA_plains, List.take_of_length_le, List.drop_of_length_le, Nat.add_zero, V.one, Nat.reduceLeDiff, List.all_cons, List.all_nil, ne_eq, not_false_eq_true, Nat.zero_le, gs_ne, gs_eq, ga_lt, ga_0, ga_k, sa_lt, sa_0, sa_k, u0, u2, u4, u29, Bool.not_false, lw2, hl2, lz2, hwn, hwz, hzw, hzn, List.length_set, List.set_set, hw2, hs2, hz2, da_0, da_k, Nat.add_assoc, Nat.add_sub_add_left, Nat.add_sub_cancel_left, Nat.sub_self, List.contains_cons, Nat.zero_mul, all10, Nat.le_add_right, appendA, r1]; rfl) (by simp only [put_some, put_none]; rfl) (by simp only [KD.app, go_sem, eqs hxE5, reduceIte, Nat.reduceEqDiff, Nat.reduceAdd, Nat.reduceMul, Nat.reduceLT, Nat.reduceLeDiff, Int.reduceLT, Int.reduceLE, Int.reduceEq, reduceCtorEq, Int.reduceBEq, Int.reduceBNe, Int.reduceToNat, Nat.reduceSub, Nat.reduceDiv, Int.reduceNeg, Int.reduceAdd, Int.reduceSub, Int.reduceMul, Heap.gets, Heap.sets, Heap.get, bytesA_length, bytesA_one, bytesA_plains, List.take_of_length_le, List.drop_of_length_le, Nat.add_zero, V.one, Nat.reduceLeDiff, List.all_cons, List.all_nil, ne_eq, not_false_eq_true, Nat.zero_le, gs_ne, gs_eq, ga_lt, ga_0, ga_k, sa_lt, sa_0, sa_k, u0, u2, u4, u29, Bool.not_false, lw2, hl2, lz2, hwn, hwz, hzw, hzn, List.length_set, List.set_set, hw2, hs2, hz2, da_0, da_k, Nat.add_assoc, Nat.add_sub_add_left, Nat.add_sub_cancel_left, Nat.sub_self, List.contains_cons, Nat.zero_mul, all10, Nat.le_add_right, appendA, r1]; rfl) ?_ | refine ToD.nop ?_ | refine To.draw hxE5 (by decide) ?_ | fail))
        refine ⟨_, _, finQT (i := 2) (n := 8) (j := 3) (l := o.length) (o := 0) rfl (by simp only [go_sem, eqs hxE5, reduceIte, Nat.reduceEqDiff, Nat.reduceAdd, Nat.reduceMul, Nat.reduceLT, Nat.reduceLeDiff, Int.reduceLT, Int.reduceLE, Int.reduceEq, reduceCtorEq, Int.reduceBEq, Int.reduceBNe, Int.reduceToNat, Nat.reduceSub, Nat.reduceDiv, Int.reduceNeg, Int.reduceAdd, Int.reduceSub, Int.reduceMul, u2]) (by simp only [go_sem, eqs hxE5, reduceIte, Nat.reduceEqDiff, Nat.reduceAdd, Nat.reduceMul, Nat.reduceLT, Nat.reduceLeDiff, Int.reduceLT, Int.reduceLE, Int.reduceEq, reduceCtorEq, Int.reduceBEq, Int.reduceBNe, Int.reduceToNat, Nat.reduceSub, Nat.reduceDiv, Int.reduceNeg, Int.reduceAdd, Int.reduceSub, Int.reduceMul, Heap.gets, Heap.sets, Heap.get, bytesA_length, bytesA_one, bytesA_plains, List.take_of_length_le, List.drop_of_length_le, Nat.add_zero, V.one, Nat.reduceLeDiff, List.all_cons, List.all_nil, ne_eq, not_false_eq_true, Nat.zero_le, ga_lt, gs_eq, lz2, List.length_set]; try rfl), ?_, ?_⟩
        · rw [← hT, hTG]; simp only [go_sem, eqs hxE5, reduceIte, Nat.reduceEqDiff, Nat.reduceAdd, Nat.reduceMul, Nat.reduceLT, Nat.reduceLeDiff, Int.reduceLT, Int.reduceLE, Int.reduceEq, reduceCtorEq, Int.reduceBEq, Int.reduceBNe, Int.reduceToNat, Nat.reduceSub, Nat.reduceDiv, Int.reduceNeg, Int.reduceAdd, Int.reduceSub, Int.reduceMul, takeVal]; try rfl
        · rw [← hT, hTG]
          refine close_r (h' := ⟨_, _, _⟩) (vL' := .slice l2 0 t.length 9) (vO' := .slice (o2.length + 2) 0 1 8) (vN' := vN) ⟨?_, ?_, ?_, ?_⟩ ?_ ?_
          · rw [ga_lt (by simpa using lw2), gs_ne hzw, gs_eq lw2]
          · refine hR2.hL.of fun l9 ck9 cs9 h9 => ?_
            rw [ga_lt (by simpa using get_lt h9), gs_ne (ne_of hz2 h9 (by simp)), gs_ne (ne_of hw2 h9 (by simp))]
            exact h9
          · refine .inr ⟨o2.length + 2, .gr, by simp [addO], ?_, .inl rfl⟩
            rw [ga_k (by simp)]
            simp [Rq.cs]
            try rfl
          · refine hR2.hN.of fun l9 ck9 cs9 h9 => ?_
            rw [ga_lt (by simpa using get_lt h9), gs_ne (ne_of hz2 h9 (by simp)), gs_ne (ne_of hw2 h9 (by simp))]
            exact h9
          · exact ((hX2.trans (Rx.set _)).new _ (Nat.le_refl _)).trans (Rx.app _)
          · simp only; omega
      by_cases hOn : O = []
      · subst hOn
        simp only [List.map_nil, List.length_nil, List.flatten_nil] at hw2 ho3
        have ls3 := get_lt ho3
        (repeat' (first | refine To.seq hxE5 ?_ | refine To.op0 hxE5 (by simp only [go_sem, eqs hxE5, reduceIte, Nat.reduceEqDiff, Nat.reduceAdd, Nat.reduceMul, Nat.reduceLT, Nat.reduceLeDiff, Int.reduceLT, Int.reduceLE, Int.reduceEq, reduceCtorEq, Int.reduceBEq, Int.reduceBNe, Int.reduceToNat, Nat.reduceSub, Nat.reduceDiv, Int.reduceNeg, Int.reduceAdd, Int.reduceSub, Int.reduceMul, Heap.gets, Heap.sets, Heap.get, bytesA_length, bytesA_one, bytesA_plains, List.take_of_length_le, List.drop_of_length_le, Nat.add_zero, V.one, Nat.reduceLeDiff, List.all_cons, List.all_nil, ne_eq, not_false_eq_true, Nat.zero_le, gs_ne, gs_eq, ga_lt, ga_0, ga_k, sa_lt, sa_0, sa_k, u0, u2, u4, u29, Bool.not_false, lw2, hl2, lz2, hwn, hwz, hzw, hzn, List.length_set, List.set_set, hw2, hs2, hz2, da_0, da_k, Nat.add_assoc, Nat.add_sub_add_left, Nat.add_sub_cancel_left, Nat.sub_self, List.contains_cons, Nat.zero_mul, all10, Nat.le_add_right, appendA, r1, ls3]; rfl) ?_ | refine To.op1 hxE5 (by simp only [go_sem, eqs hxE5, reduceIte, Nat.reduceEqDiff, Nat.reduceAdd, Nat.reduceMul, Nat.reduceLT, Nat.reduceLeDiff, Int.reduceLT, Int.reduceLE, Int.reduceEq, reduceCtorEq, Int.reduceBEq, Int.reduceBNe, Int.reduceToNat, Nat.reduceSub, Nat.reduceDiv, Int.reduceNeg, Int.reduceAdd, Int.reduceSub, Int.reduceMul, Heap.gets, Heap.sets, Heap.get, bytesA_length, bytesA_one, bytesA_plains, List.take_of_length_le, List.drop_of_length_le, Nat.add_zero, V.one, Nat.reduceLeDiff, List.all_cons, List.all_nil, ne_eq, not_false_eq_true, Nat.zero_le, gs_ne, gs_eq, ga_lt, ga_0, ga_k, sa_lt, sa_0, sa_k, u0, u2, u4, u29, Bool.not_false, lw2, hl2, lz2, hwn, hwz, hzw, hzn, List.length_set, List.set_set, hw2, hs2, hz2, da_0, da_k, Nat.add_assoc, Nat.add_sub_add_left, Nat.add_sub_cancel_left, Nat.sub_self, List.contains_cons, Nat.zero_mul, all10, Nat.le_add_right, appendA, r1, ls3]; rfl) ?_ | refine To.nop hxE5 ?_ | (refine To.condT hxE5 ?_ ?_; focus (simp only [go_sem, eqs hxE5, reduceIte, Nat.reduceEqDiff, Nat.reduceAdd, Nat.reduceMul, Nat.reduceLT, Nat.reduceLeDiff, Int.reduceLT, Int.reduceLE, Int.reduceEq, reduceCtorEq, Int.reduceBEq, Int.reduceBNe, Int.reduceToNat, Nat.reduceSub, Nat.reduceDiv, Int.reduceNeg, Int.reduceAdd, Int.reduceSub, Int.reduceMul, Heap.gets, Heap.sets, Heap.get, bytesA_length, bytesA_one, bytesA_plains, List.take_of_length_le, List.drop_of_length_le, Nat.add_zero, V.one, Nat.reduceLeDiff, List.all_cons, List.all_nil, ne_eq, not_false_eq_true, Nat.zero_le, gs_ne, gs_eq, ga_lt, ga_0, ga_k, sa_lt, sa_0, sa_k, u0, u2, u4, u29, Bool.not_false, lw2, hl2, lz2, hwn, hwz, hzw, hzn, List.length_set, List.set_set, hw2, hs2, hz2, da_0, da_k, Nat.add_assoc, Nat.add_sub_add_left, Nat.add_sub_cancel_left, Nat.sub_self, List.contains_cons, Nat.zero_mul, all10, Nat.le_add_right, appendA, r1, ls3]; done)) | refine To.ret hxE5 ?_ | refine ToD.op0 (by simp only [go_sem, eqs hxE5, reduceIte, Nat.reduceEqDiff, Nat.reduceAdd, Nat.reduceMul, Nat.reduceLT, Nat.reduceLeDiff, Int.reduceLT, Int.reduceLE, Int.reduceEq, reduceCtorEq, Int.reduceBEq, Int.reduceBNe, Int.reduceToNat, Nat.reduceSub, Nat.reduceDiv, Int.reduceNeg, Int.reduceAdd, Int.reduceSub, Int.reduceMul, Heap.gets, Heap.sets, Heap.get, bytesA_length, bytesA_one, bytesA_plains, List.take_of_length_le, List.drop_of_length_le, Nat.add_zero, V.one, Nat.reduceLeDiff, List.all_cons, List.all_nil, ne_eq, not_false_eq_true, Nat.zero_le, gs_ne, gs_eq, ga_lt, ga_0, ga_k, sa_lt, sa_0, sa_k, u0, u2, u4, u29, Bool.not_false, lw2, hl2, lz2, hwn, hwz, hzw, hzn, List.length_set, List.set_set, hw2, hs2, hz2, da_0, da_k, Nat.add_assoc, Nat.add_sub_add_left, Nat.add_sub_cancel_left, Nat.sub_self, List.contains_cons, Nat.zero_mul, all10, Nat.le_add_right, appendA, r1, ls3]; rfl) (by simp only [put_some, put_none]; rfl) ?_ | refine ToD.op1 (by simp only [go_sem, eqs hxE5, reduceIte, Nat.reduceEqDiff, Nat.reduceAdd, Nat.reduceMul, Nat.reduceLT, Nat.reduceLeDiff, Int.reduceLT, Int.reduceLE, Int.reduceEq, reduceCtorEq, Int.reduceBEq, Int.reduceBNe, Int.reduceToNat, Nat.reduceSub, Nat.reduceDiv, Int.reduceNeg, Int.reduceAdd, Int.reduceSub, Int.reduceMul, Heap.gets, Heap.sets, Heap.get, bytesA_length, bytesA_one, bytesA_plains, List.take_of_length_le, List.drop_of_length_le, Nat.add_zero, V.one, Nat.reduceLeDiff, List.all_cons, List.all_nil, ne_eq, not_false_eq_true, Nat.zero_le, gs_ne, gs_eq, ga_lt, ga_0, ga_k, sa_lt, sa_0, sa_k, u0, u2, u4, u29, Bool.not_false, lw2, hl2, lz2, hwn, hwz, hzw, hzn, List.length_set, List.set_set, hw2, hs2, hz2, da_0, da_k, Nat.add_assoc, Nat.add_sub_add_left, Nat.add_sub_cancel_left, Nat.sub_self, List.contains_cons, Nat.zero_mul, all10, Nat.le_add_right, appendA, r1, ls3]; rfl) (by simp only [put_some, put_none]; rfl) (by simp only [KD.app, go_sem, eqs hxE5, reduceIte, Nat.reduceEqDiff, Nat.reduceAdd, Nat.reduceMul, Nat.reduceLT, Nat.reduceLeDiff, Int.reduceLT, Int.reduceLE, Int.reduceEq, reduceCtorEq, Int.reduceBEq, Int.reduceBNe, Int.reduceToNat, Nat.reduceSub, Nat.reduceDiv, Int.reduceNeg, Int.reduceAdd, Int.reduceSub, Int.reduceMul, Heap.gets, Heap.sets, Heap.get, bytesA_length, bytesA_one, bytesA_plains, List.take_of_length_le, List.drop_of_length_le, Nat.add_zero, V.one, Nat.reduceLeDiff, List.all_cons, List.all_nil, ne_eq, not_false_eq_true, Nat.zero_le, gs_ne, gs_eq, ga_lt, ga_0, ga_k, sa_lt, sa_0, sa_k, u0, u2, u4, u29, Bool.not_false, lw2, hl2, lz2, hwn, hwz, hzw, hzn, List.length_set, List.set_set, hw2, hs2, hz2, da_0, da_k, Nat.add_assoc, Nat.add_sub_add_left, Nat.add_sub_cancel_left, Nat.sub_self, List.contains_cons, Nat.zero_mul, all10, Nat.le_add_right, appendA, r1, ls3]; rfl) ?_ | refine ToD.nop ?_ | refine To.draw hxE5 (by decide) ?_ | fail))
        refine ⟨_, _, finQT (i := 2) (n := 8) (j := 3) (l := o.length) (o := 0) rfl (by simp only [go_sem, eqs hxE5, reduceIte, Nat.reduceEqDiff, Nat.reduceAdd, Nat.reduceMul, Nat.reduceLT, Nat.reduceLeDiff, Int.reduceLT, Int.reduceLE, Int.reduceEq, reduceCtorEq, Int.reduceBEq, Int.reduceBNe, Int.reduceToNat, Nat.reduceSub, Nat.reduceDiv, Int.reduceNeg, Int.reduceAdd, Int.reduceSub, Int.reduceMul, u2]) (by simp only [go_sem, eqs hxE5, reduceIte, Nat.reduceEqDiff, Nat.reduceAdd, Nat.reduceMul, Nat.reduceLT, Nat.reduceLeDiff, Int.reduceLT, Int.reduceLE, Int.reduceEq, reduceCtorEq, Int.reduceBEq, Int.reduceBNe, Int.reduceToNat, Nat.reduceSub, Nat.reduceDiv, Int.reduceNeg, Int.reduceAdd, Int.reduceSub, Int.reduceMul, Heap.gets, Heap.sets, Heap.get, bytesA_length, bytesA_one, bytesA_plains, List.take_of_length_le, List.drop_of_length_le, Nat.add_zero, V.one, Nat.reduceLeDiff, List.all_cons, List.all_nil, ne_eq, not_false_eq_true, Nat.zero_le, ga_lt, gs_eq, lz2, List.length_set]; try rfl), ?_, ?_⟩
        · rw [← hT, hTG]; simp only [go_sem, eqs hxE5, reduceIte, Nat.reduceEqDiff, Nat.reduceAdd, Nat.reduceMul, Nat.reduceLT, Nat.reduceLeDiff, Int.reduceLT, Int.reduceLE, Int.reduceEq, reduceCtorEq, Int.reduceBEq, Int.reduceBNe, Int.reduceToNat, Nat.reduceSub, Nat.reduceDiv, Int.reduceNeg, Int.reduceAdd, Int.reduceSub, Int.reduceMul, takeVal]; try rfl
        · rw [← hT, hTG]
          refine close_r (h' := ⟨_, _, _⟩) (vL' := .slice l2 0 t.length 9) (vO' := .slice (o2.length + 2) 0 1 8) (vN' := vN) ⟨?_, ?_, ?_, ?_⟩ ?_ ?_
          · rw [ga_lt (by simpa using lw2), gs_ne hzw, gs_eq lw2]
          · refine hR2.hL.of fun l9 ck9 cs9 h9 => ?_
            rw [ga_lt (by simpa using get_lt h9), gs_ne (ne_of hz2 h9 (by simp)), gs_ne (ne_of hw2 h9 (by simp))]
            exact h9
          · refine .inr ⟨o2.length + 2, .gr, by simp [addO], ?_, .inl rfl⟩
            rw [ga_k (by simp)]
            simp [Rq.cs]
            try rfl
          · refine hR2.hN.of fun l9 ck9 cs9 h9 => ?_
            rw [ga_lt (by simpa using get_lt h9), gs_ne (ne_of hz2 h9 (by simp)), gs_ne (ne_of hw2 h9 (by simp))]
            exact h9
          · exact ((hX2.trans (Rx.set _)).new _ (Nat.le_refl _)).trans (Rx.app _)
          · simp only; omega
      have hck3 : ck3 = .gr := by
        rcases hc3 with h | ⟨_, h⟩
        · exact h
        · simp at h; exact absurd h hOn
      subst hck3
      rw [List.length_map] at hw2
      change o2[l3]? = some (.cells .gr 25 0 (rows8 O)) at ho3
      have hl0' : 0 < O.length := List.length_pos_iff.2 hOn
      have n0 : (O.length = 0) = False := eq_false (by omega)
      have n1 : (O.length * 8 = 0) = False := eq_false (by omega)
      have r3 : ∀ n, n ≤ 1001 → roomOk n 80 = true := fun n hn => decide_eq_true ⟨by unfold ok1; omega, by unfold ok1; omega⟩
      have lsl3 := get_lt ho3
      have ls1 : (l3 < o2.length + 1) = True := eq_true (by omega)
      have hwl3 := ne_of hw2 ho3 (by simp)
      have tk := rows8_take O
      have rl := rows8_len O
      have r11 := rows8_one O
      have rp := rows8_plain O
      have a1 : ∀ e d, appendA ⟨o2 ++ [.cells .ex 25 0 [], .dead], e, d⟩ 25 8 80 (.slice o2.length 0 0 8) O.length (rows8 O) = some (.slice (o2.length + 2) 0 O.length 8, some ⟨o2 ++ [.cells .ex 25 0 [], .dead, .cells .gr 25 0 (rows8 O)], e, d⟩) := by
        intro e d
        rw [appEx (by rw [ga_0 rfl]; rfl) hl0' (by decide) (r3 _ (by omega))]
        simp
      have a2 : ∀ e d Y, appendA ⟨o2 ++ [.cells .ex 25 0 [], Y, .cells .gr 25 0 (rows8 O)], e, d⟩ 25 8 80 (.slice (o2.length + 2) 0 O.length 8) 1 x.1.cs = some (.slice (o2.length + 3) 0 (O.length + 1) 8, some ⟨o2 ++ [.cells .ex 25 0 [], Y, .dead, .cells .gr 25 0 (rows8 (O ++ [x.1]))], e, min d (o2.length + 2)⟩) := by
        intro e d Y
        rw [app_gr (cs := rows8 O) (by rw [ga_k rfl]; rfl) rl (by decide) (by decide) (r3 _ (by omega)), sa_k rfl]
        have : rows8 (O ++ [x.1]) = rows8 O ++ x.1.cs := by simp [rows8]
        rw [this]
        simp
      simp only [Rq.cs] at a2
      (repeat' (first | refine To.seq hxE5 ?_ | refine To.op0 hxE5 (by simp only [go_sem, eqs hxE5, reduceIte, Nat.reduceEqDiff, Nat.reduceAdd, Nat.reduceMul, Nat.reduceLT, Nat.reduceLeDiff, Int.reduceLT, Int.reduceLE, Int.reduceEq, reduceCtorEq, Int.reduceBEq, Int.reduceBNe, Int.reduceToNat, Nat.reduceSub, Nat.reduceDiv, Int.reduceNeg, Int.reduceAdd, Int.reduceSub, Int.reduceMul, Heap.gets, Heap.sets, Heap.get, bytesA_length, bytesA_one, bytesA_plains, List.take_of_length_le, List.drop_of_length_le, Nat.add_zero, V.one, Nat.reduceLeDiff, List.all_cons, List.all_nil, ne_eq, not_false_eq_true, Nat.zero_le, gs_ne, gs_eq, ga_lt, ga_0, ga_k, sa_lt, sa_0, sa_k, u0, u2, u4, u29, Bool.not_false, lw2, hl2, lz2, hwn, hwz, hzw, hzn, List.length_set, List.set_set, hw2, hs2, hz2, da_0, da_k, Nat.add_assoc, Nat.add_sub_add_left, Nat.add_sub_cancel_left, Nat.sub_self, List.contains_cons, Nat.zero_mul, all10, Nat.le_add_right, ls1, ho3, hwl3, lsl3, n0, n1, tk, rl, r11, rows8_only, a1, a2]; rfl) ?_ | refine To.op1 hxE5 (by simp only [go_sem, eqs hxE5, reduceIte, Nat.reduceEqDiff, Nat.reduceAdd, Nat.reduceMul, Nat.reduceLT, Nat.reduceLeDiff, Int.reduceLT, Int.reduceLE, Int.reduceEq, reduceCtorEq, Int.reduceBEq, Int.reduceBNe, Int.reduceToNat, Nat.reduceSub, Nat.reduceDiv, Int.reduceNeg, Int.reduceAdd, Int.reduceSub, Int.reduceMul, Heap.gets, Heap.sets, Heap.get, bytesA_length, bytesA_one, bytesA_plains, List.take_of_length_le, List.drop_of_length_le, Nat.add_zero, V.one, Nat.reduceLeDiff, List.all_cons, List.all_nil, ne_eq, not_false_eq_true, Nat.zero_le, gs_ne, gs_eq, ga_lt, ga_0, ga_k, sa_lt, sa_0, sa_k, u0, u2, u4, u29, Bool.not_false, lw2, hl2, lz2, hwn, hwz, hzw, hzn, List.length_set, List.set_set, hw2, hs2, hz2, da_0, da_k, Nat.add_assoc, Nat.add_sub_add_left, Nat.add_sub_cancel_left, Nat.sub_self, List.contains_cons, Nat.zero_mul, all10, Nat.le_add_right, ls1, ho3, hwl3, lsl3, n0, n1, tk, rl, r11, rows8_only, a1, a2]; rfl) ?_ | refine To.nop hxE5 ?_ | (refine To.condT hxE5 ?_ ?_; focus (simp only [go_sem, eqs hxE5, reduceIte, Nat.reduceEqDiff, Nat.reduceAdd, Nat.reduceMul, Nat.reduceLT, Nat.reduceLeDiff, Int.reduceLT, Int.reduceLE, Int.reduceEq, reduceCtorEq, Int.reduceBEq, Int.reduceBNe, Int.reduceToNat, Nat.reduceSub, Nat.reduceDiv, Int.reduceNeg, Int.reduceAdd, Int.reduceSub, Int.reduceMul, Heap.gets, Heap.sets, Heap.get, bytesA_length, bytesA_one, bytesA_plains, List.take_of_length_le, List.drop_of_length_le, Nat.add_zero, V.one, Nat.reduceLeDiff, List.all_cons, List.all_nil, ne_eq, not_false_eq_true, Nat.zero_le, gs_ne, gs_eq, ga_lt, ga_0, ga_k, sa_lt, sa_0, sa_k, u0, u2, u4, u29, Bool.not_false, lw2, hl2, lz2, hwn, hwz, hzw, hzn, List.length_set, List.set_set, hw2, hs2, hz2, da_0, da_k, Nat.add_assoc, Nat.add_sub_add_left, Nat.add_sub_cancel_left, Nat.sub_self, List.contains_cons, Nat.zero_mul, all10, Nat.le_add_right, ls1, ho3, hwl3, lsl3, n0, n1, tk, rl, r11, rows8_only, a1, a2]; done)) | refine To.ret hxE5 ?_ | refine ToD.op0 (by simp only [go_sem, eqs hxE5, reduceIte, Nat.reduceEqDiff, Nat.reduceAdd, Nat.reduceMul, Nat.reduceLT, Nat.reduceLeDiff, Int.reduceLT, Int.reduceLE, Int.reduceEq, reduceCtorEq, Int.reduceBEq, Int.reduceBNe, Int.reduceToNat, Nat.reduceSub, Nat.reduceDiv, Int.reduceNeg, Int.reduceAdd, Int.reduceSub, Int.reduceMul, Heap.gets, Heap.sets, Heap.get, bytesA_length, bytesA_one, bytesA_plains, List.take_of_length_le, List.drop_of_length_le, Nat.add_zero, V.one, Nat.reduceLeDiff, List.all_cons, List.all_nil, ne_eq, not_false_eq_true, Nat.zero_le, gs_ne, gs_eq, ga_lt, ga_0, ga_k, sa_lt, sa_0, sa_k, u0, u2, u4, u29, Bool.not_false, lw2, hl2, lz2, hwn, hwz, hzw, hzn, List.length_set, List.set_set, hw2, hs2, hz2, da_0, da_k, Nat.add_assoc, Nat.add_sub_add_left, Nat.add_sub_cancel_left, Nat.sub_self, List.contains_cons, Nat.zero_mul, all10, Nat.le_add_right, ls1, ho3, hwl3, lsl3, n0, n1, tk, rl, r11, rows8_only, a1, a2]; rfl) (by simp only [put_some, put_none]; rfl) ?_ | refine ToD.op1 (by simp only [go_sem, eqs hxE5, reduceIte, Nat.reduceEqDiff, Nat.reduceAdd, Nat.reduceMul, Nat.reduceLT, Nat.reduceLeDiff, Int.reduceLT, Int.reduceLE, Int.reduceEq, reduceCtorEq, Int.reduceBEq, Int.reduceBNe, Int.reduceToNat, Nat.reduceSub, Nat.reduceDiv, Int.reduceNeg, Int.reduceAdd, Int.reduceSub, Int.reduceMul, Heap.gets, Heap.sets, Heap.get, bytesA_length, bytesA_one, bytesA_plains, List.take_of_length_le, List.drop_of_length_le, Nat.add_zero, V.one, Nat.reduceLeDiff, List.all_cons, List.all_nil, ne_eq, not_false_eq_true, Nat.zero_le, gs_ne, gs_eq, ga_lt, ga_0, ga_k, sa_lt, sa_0, sa_k, u0, u2, u4, u29, Bool.not_false, lw2, hl2, lz2, hwn, hwz, hzw, hzn, List.length_set, List.set_set, hw2, hs2, hz2, da_0, da_k, Nat.add_assoc, Nat.add_sub_add_left, Nat.add_sub_cancel_left, Nat.sub_self, List.contains_cons, Nat.zero_mul, all10, Nat.le_add_right, ls1, ho3, hwl3, lsl3, n0, n1, tk, rl, r11, rows8_only, a1, a2]; rfl) (by simp only [put_some, put_none]; rfl) (by simp only [KD.app, go_sem, eqs hxE5, reduceIte, Nat.reduceEqDiff, Nat.reduceAdd, Nat.reduceMul, Nat.reduceLT, Nat.reduceLeDiff, Int.reduceLT, Int.reduceLE, Int.reduceEq, reduceCtorEq, Int.reduceBEq, Int.reduceBNe, Int.reduceToNat, Nat.reduceSub, Nat.reduceDiv, Int.reduceNeg, Int.reduceAdd, Int.reduceSub, Int.reduceMul, Heap.gets, Heap.sets, Heap.get, bytesA_length, bytesA_one, bytesA_plains, List.take_of_length_le, List.drop_of_length_le, Nat.add_zero, V.one, Nat.reduceLeDiff, List.all_cons, List.all_nil, ne_eq, not_false_eq_true, Nat.zero_le, gs_ne, gs_eq, ga_lt, ga_0, ga_k, sa_lt, sa_0, sa_k, u0, u2, u4, u29, Bool.not_false, lw2, hl2, lz2, hwn, hwz, hzw, hzn, List.length_set, List.set_set, hw2, hs2, hz2, da_0, da_k, Nat.add_assoc, Nat.add_sub_add_left, Nat.add_sub_cancel_left, Nat.sub_self, List.contains_cons, Nat.zero_mul, all10, Nat.le_add_right, ls1, ho3, hwl3, lsl3, n0, n1, tk, rl, r11, rows8_only, a1, a2]; rfl) ?_ | refine ToD.nop ?_ | refine To.draw hxE5 (by decide) ?_ | fail))
      refine ⟨_, _, finQT (i := 2) (n := 8) (j := 3) (l := o.length) (o := 0) rfl (by simp only [go_sem, eqs hxE5, reduceIte, Nat.reduceEqDiff, Nat.reduceAdd, Nat.reduceMul, Nat.reduceLT, Nat.reduceLeDiff, Int.reduceLT, Int.reduceLE, Int.reduceEq, reduceCtorEq, Int.reduceBEq, Int.reduceBNe, Int.reduceToNat, Nat.reduceSub, Nat.reduceDiv, Int.reduceNeg, Int.reduceAdd, Int.reduceSub, Int.reduceMul, u2]) (by simp only [go_sem, eqs hxE5, reduceIte, Nat.reduceEqDiff, Nat.reduceAdd, Nat.reduceMul, Nat.reduceLT, Nat.reduceLeDiff, Int.reduceLT, Int.reduceLE, Int.reduceEq, reduceCtorEq, Int.reduceBEq, Int.reduceBNe, Int.reduceToNat, Nat.reduceSub, Nat.reduceDiv, Int.reduceNeg, Int.reduceAdd, Int.reduceSub, Int.reduceMul, Heap.gets, Heap.sets, Heap.get, bytesA_length, bytesA_one, bytesA_plains, List.take_of_length_le, List.drop_of_length_le, Nat.add_zero, V.one, Nat.reduceLeDiff, List.all_cons, List.all_nil, ne_eq, not_false_eq_true, Nat.zero_le, ga_lt, gs_eq, lz2, List.length_set]; try rfl), ?_, ?_⟩
      · rw [← hT, hTG]; simp only [go_sem, eqs hxE5, reduceIte, Nat.reduceEqDiff, Nat.reduceAdd, Nat.reduceMul, Nat.reduceLT, Nat.reduceLeDiff, Int.reduceLT, Int.reduceLE, Int.reduceEq, reduceCtorEq, Int.reduceBEq, Int.reduceBNe, Int.reduceToNat, Nat.reduceSub, Nat.reduceDiv, Int.reduceNeg, Int.reduceAdd, Int.reduceSub, Int.reduceMul, takeVal]; try rfl
      · rw [← hT, hTG]
        refine close_r (h' := ⟨_, _, _⟩) (vL' := .slice l2 0 t.length 9) (vO' := .slice (o2.length + 3) 0 (O.length + 1) 8) (vN' := vN) ⟨?_, ?_, ?_, ?_⟩ ?_ ?_
        · rw [ga_lt (by simpa using lw2), gs_ne hzw, gs_eq lw2]
        · refine hR2.hL.of fun l9 ck9 cs9 h9 => ?_
          rw [ga_lt (by simpa using get_lt h9), gs_ne (ne_of hz2 h9 (by simp)), gs_ne (ne_of hw2 h9 (by simp))]
          exact h9
        · refine .inr ⟨o2.length + 3, .gr, by simp [addO], ?_, .inl rfl⟩
          rw [ga_k (by simp)]
          rfl
        · refine hR2.hN.of fun l9 ck9 cs9 h9 => ?_
          rw [ga_lt (by simpa using get_lt h9), gs_ne (ne_of hz2 h9 (by simp)), gs_ne (ne_of hw2 h9 (by simp))]
          exact h9
        · exact ((hX2.trans (Rx.set _)).new _ (Nat.le_refl _)).trans (Rx.app _)
        · simp only; omega
  · refine ⟨L, _, _, _, vL, rfl, Nat.le_refl _, rfl, rfl, .inl ⟨rfl, Nat.le_refl _, Nat.le_refl _⟩, ⟨app_old h.hw _, h.hL.of fun l ck cs hl => app_old hl _, h.hO.of fun l ck cs hl => app_old hl _, h.hN.of fun l ck cs hl => app_old hl _⟩, Rx.app _, ?_, ?_⟩
    · rw [app_get0]
    · simp only [go_sem, eqs hxE5, reduceIte, Nat.reduceEqDiff, Nat.reduceAdd, Nat.reduceMul, Nat.reduceLT, Nat.reduceLeDiff, Int.reduceLT, Int.reduceLE, Int.reduceEq, reduceCtorEq, Int.reduceBEq, Int.reduceBNe, Int.reduceToNat, Nat.reduceSub, Nat.reduceDiv, Int.reduceNeg, Int.reduceAdd, Int.reduceSub, Int.reduceMul]
end
end Go.Proofs.Ytjbblfoefibeaaa

/- Queues: the document's queue: close. -/
namespace Go.Proofs.Ytjbblfoefibeaaa
open Go AM
set_option linter.unusedSimpArgs false
set_option linter.unusedVariables false
set_option maxRecDepth 100000

mutual
theorem V.beq_refl : ∀ a : V, V.beq a a = true
  | .bool _ | .int .. | .str _ | .ptr .. | .nilp | .slice .. | .nils | .zsl _ | .esl .. | .map _ | .nilm | .chan _ | .nilc | .nilf | .nili => by simp [V.beq]
  | .fn _ a b => by simp [V.beq, V.beqs_refl a, V.beqs_refl b]
  | .iface _ v => by simp [V.beq, V.beq_refl v]
  | .agg a => by simp [V.beq, V.beqs_refl a]
  | .tuple a => by simp [V.beq, V.beqs_refl a]
theorem V.beqs_refl : ∀ l : List V, V.beqs l l = true
  | [] => rfl
  | v :: r => by simp [V.beqs, V.beq_refl v, V.beqs_refl r]
end
def closeG (id : Int) : List Rq → Int × List Rq
  | [] => (-1, [])
  | x :: r => if x.id = id then (x.op, r) else ((closeG id r).1, x :: (closeG id r).2)
theorem closeG_app {id : Int} : ∀ {A B : List Rq}, (∀ x ∈ A, x.id ≠ id) → closeG id (A ++ B) = ((closeG id B).1, A ++ (closeG id B).2)
  | [], B, _ => rfl
  | x :: A, B, h => by
    have h1 := h x List.mem_cons_self
    rw [List.cons_append, closeG, if_neg h1, closeG_app (fun y hy => h y (List.mem_cons_of_mem _ hy))]
    rfl
theorem rows8_at (A : List Rq) (x : Rq) (B : List Rq) (j : Nat) (hj : j < 8) : (rows8 (A ++ x :: B))[A.length * 8 + j]? = x.cs[j]? := by
  have e : rows8 (A ++ x :: B) = rows8 A ++ (x.cs ++ rows8 B) := by simp [rows8]
  rw [e, List.getElem?_append_right (by rw [rows8_len]; omega), rows8_len, Nat.add_sub_cancel_left, List.getElem?_append_left (by simpa [Rq.cs] using hj)]
theorem lookA_V {call : CallF} {S : Nat → V} {h : Heap} {y : AO} {v : V} {d : Nat} (hg : wantedA S y.g = true) (hd : y.d = some d) (he : stepA call y.op S h = some (.val v, none)) (hs : S d = v) : lookA call S h y = true := by
  unfold lookA
  rw [if_pos hg, he]
  simp only [hd]
  show V.beq v (S d) = true
  rw [hs]; exact V.beq_refl v
theorem slL_to {o : List AM.Obj} {l n k s t : Nat} {ck : CK} {cs : List V} {x y : Opd} (ho : o[l]? = some (.cells ck t 0 cs)) (hc : cs.length = n * s) (hs : 0 < s) (hk : k < n) :
    ∀ (S : Nat → V) (r : List AM.Obj) (e d : Nat), Opd.ev S x = .slice l 0 n s → Opd.ev S y = .int .i64 (k : Int) → stepV (.slL s x none (some y)) S ⟨o ++ r, e, d⟩ = some (.slice l 0 k s, none) := by
  intro S r e d h1 h2
  have hl := get_lt ho
  have hh : (⟨o ++ r, e, d⟩ : Heap).holds l (0 + n * s) = true := by
    simp only [Heap.holds, ga_lt hl, ho, hc]
    apply decide_eq_true; omega
  have b1 : boundsA n n none (some (.int .i64 (k : Int))) = some (0, k) := by
    simp only [boundsA, hiB, loB]
    rw [if_pos (by omega)]
    simp
  simp only [stepV, h1, hh, Option.map_some, Option.map_none, h2, b1, hs, true_and, or_true, if_true, Option.bind_some]
  try rfl

section
variable {o : List AM.Obj} {e d w : Nat} {vL vO vN : V} {L : List (Rq × Bool)} {O : List Rq} {N : List Nt} {last : Int} {lost : Bool}
theorem close_r2 {h' : Heap} {v : V} {vL' vO' vN' : V} {L' : List (Rq × Bool)} {O' : List Rq} {N' : List Nt} {last' : Int} {lost' : Bool} {P : Prop} (hP : P) (lw : w < o.length) (hR : RQ h'.o w vL' vO' vN' L' O' N' last' lost') (hX : Rx w o h'.o) (he : h'.e ≤ w) :
    ∃ o' e' d' vL' vO' vN', (leave ⟨o, e, d⟩ h' v).getD ⟨o, e, d⟩ = ⟨o', e', d'⟩ ∧ RQ o' w vL' vO' vN' L' O' N' last' lost' ∧ Rx w o o' ∧ e' ≤ w ∧ P := by
  unfold leave
  rw [if_neg (fun h => by have := h.1; simp only at this; omega)]
  exact ⟨_, _, _, _, _, _, rfl, hR, hX, by simp only; omega, hP⟩
set_option maxHeartbeats 16000000 in
theorem rclose (id : Int) (h : RQ o w vL vO vN L O N last lost) (hO8 : O.length ≤ 1000) :
    ∃ v oh, Den FF E5 73 [.ptr w 0, .int .i64 id] ⟨o, e, d⟩ = some (v, oh) ∧ v = .val (.int .i64 (closeG id O).1) ∧ ((oh = none ∧ closeG id O = (-1, O)) ∨ ∃ o' e' d' vL' vO' vN', oh.getD ⟨o, e, d⟩ = ⟨o', e', d'⟩ ∧
      RQ o' w vL' vO' vN' L (closeG id O).2 N last lost ∧ Rx w o o' ∧ e' ≤ w ∧ ∃ x ∈ O, (closeG id O).1 = x.op) := by
  refine To.denE hxE5 (f := 73) (a := af73) rfl (E5_none rfl) (Nat.le_of_ble_eq_true rfl) ?_
  have h0 := h
  obtain ⟨hw, hL, hO, hN⟩ := h
  have lw := get_lt hw
  have hlen := hO.len
  rw [List.length_map] at hlen
  (repeat' (first | refine To.seq hxE5 ?_ | refine To.op0 hxE5 (by simp only [go_sem, eqs hxE5, reduceIte, Nat.reduceEqDiff, Nat.reduceAdd, Nat.reduceMul, Nat.reduceLT, Nat.reduceLeDiff, Int.reduceLT, Int.reduceLE, Int.reduceEq, reduceCtorEq, Int.reduceBEq, Int.reduceBNe]; rfl) ?_ | refine To.nop hxE5 ?_ | refine To.block hxE5 ?_))
  refine To.loop hxE5 (fun k S h' => ∃ A B, O = A ++ B ∧ (∀ x ∈ A, x.id ≠ id) ∧ k = B.length ∧ h' = ⟨o, o.length, o.length⟩ ∧ S 0 = .ptr w 0 ∧ S 1 = .int .i64 id ∧ S 5 = .int .i64 (A.length : Int)) ?_ O.length _ _ ?_
  · rintro k S _ ⟨A, B, hAB, hA, rfl, rfl, s0, s1, s5⟩
    have hcl : closeG id O = ((closeG id B).1, A ++ (closeG id B).2) := by rw [hAB, closeG_app hA]
    cases B with
    | nil =>
      rw [List.append_nil] at hAB
      have hlt : decide ((A.length : Int) < (O.length : Int)) = false := decide_eq_false (by rw [hAB]; omega)
      (repeat' (first | refine To.seq hxE5 ?_ | refine To.op0 hxE5 (by simp only [go_sem, eqs hxE5, reduceIte, Nat.reduceEqDiff, Nat.reduceAdd, Nat.reduceMul, Nat.reduceLT, Nat.reduceLeDiff, Int.reduceLT, Int.reduceLE, Int.reduceEq, reduceCtorEq, Int.reduceBEq, Int.reduceBNe, Heap.gets, Heap.sets, Heap.get, bytesA_length, bytesA_one, bytesA_plains, List.take_of_length_le, List.drop_of_length_le, Nat.add_zero, V.one, Nat.reduceLeDiff, List.all_cons, List.all_nil, ne_eq, not_false_eq_true, Nat.zero_le, s0, s1, s5, hw, hlen, hlt]; rfl) ?_ | refine To.nop hxE5 ?_ | (refine To.condF hxE5 ?_ ?_; focus (simp only [go_sem, eqs hxE5, reduceIte, Nat.reduceEqDiff, Nat.reduceAdd, Nat.reduceMul, Nat.reduceLT, Nat.reduceLeDiff, Int.reduceLT, Int.reduceLE, Int.reduceEq, reduceCtorEq, Int.reduceBEq, Int.reduceBNe, Heap.gets, Heap.sets, Heap.get, bytesA_length, bytesA_one, bytesA_plains, List.take_of_length_le, List.drop_of_length_le, Nat.add_zero, V.one, Nat.reduceLeDiff, List.all_cons, List.all_nil, ne_eq, not_false_eq_true, Nat.zero_le, s0, s1, s5, hw, hlen, hlt]; done)) | refine To.ret hxE5 ?_ | refine To.exit hxE5 ?_))
      refine ⟨_, _, fin1 (i := 4) rfl, ?_, ?_⟩
      · rw [hcl]; simp only [go_sem, eqs hxE5, reduceIte, Nat.reduceEqDiff, Nat.reduceAdd, Nat.reduceMul, Nat.reduceLT, Nat.reduceLeDiff, Int.reduceLT, Int.reduceLE, Int.reduceEq, reduceCtorEq, Int.reduceBEq, Int.reduceBNe, closeG]
      · refine .inl ⟨by simp only [go_sem, eqs hxE5, reduceIte, Nat.reduceEqDiff, Nat.reduceAdd, Nat.reduceMul, Nat.reduceLT, Nat.reduceLeDiff, Int.reduceLT, Int.reduceLE, Int.reduceEq, reduceCtorEq, Int.reduceBEq, Int.reduceBNe], ?_⟩
        rw [hcl]
        simp only [closeG, List.append_nil, ← hAB]
    | cons x B =>
      have hlO : O.length = A.length + (B.length + 1) := by rw [hAB, List.length_append, List.length_cons]
      have hlt : decide ((A.length : Int) < (O.length : Int)) = true := decide_eq_true (by omega)
      obtain ⟨rfl, hx⟩ | ⟨l, ck, rfl, ho, hck⟩ := hO
      · rw [(by simpa using hx : O = [])] at hAB; simp at hAB
      have hck' : ck = .gr := by
        rcases hck with h | ⟨_, h⟩
        · exact h
        · rw [(by simpa using h : O = [])] at hAB; simp at hAB
      subst hck'
      rw [List.length_map] at hw hlen
      change o[l]? = some (.cells .gr 25 0 (rows8 O)) at ho
      have lsl := get_lt ho
      have hwl := ne_of hw ho (by simp)
      have g0 : (rows8 O)[A.length * 8]? = some (.int .i64 x.id) := by rw [hAB]; exact rows8_at A x B 0 (by decide)
      have g1 : (rows8 O)[A.length * 8 + 1]? = some (.int .i64 x.op) := by rw [hAB]; exact rows8_at A x B 1 (by decide)
      have ix : idxOf O.length (.int .i64 (A.length : Int)) = some A.length := idxOf_nat (by omega)
      have w1 : IntKind.i64.wrap ((A.length : Int) + 1) = ((A.length + 1 : Nat) : Int) := by rw [wrap_i64 (by omega) (by omega)]; rfl
      have gA : ∀ r e d, (⟨o ++ r, e, d⟩ : Heap).gets l 0 (A.length * 8) = some (rows8 A) := by
        intro r e d
        unfold Heap.gets
        by_cases hA0 : A.length * 8 = 0
        · rw [if_pos hA0, show A = [] from List.length_eq_zero_iff.1 (by omega)]; rfl
        · rw [if_neg hA0]
          simp only [ga_lt lsl, ho, rows8_len]
          rw [if_pos (by omega), List.drop_zero, hAB]
          have e : rows8 (A ++ x :: B) = rows8 A ++ rows8 (x :: B) := by simp [rows8]
          rw [e, List.take_left' (rows8_len A)]
      by_cases hid : x.id = id
      · have hc0 : (x.id == id) = true := by simpa using hid
        have rl := rows8_len O
        obtain ⟨y, hst, hyo, hyg⟩ := slL_from (o := o) (l := l) (k := A.length + 1) (n := O.length) (s := 8) (xs := O.map Rq.cs) (x := .t 46) (y := .t 48) ho (fun r hr => by obtain ⟨n, _, rfl⟩ := List.mem_map.1 hr; rfl) (by simp) (by decide) (by omega) (by omega)
        (repeat' (first | refine To.seq hxE5 ?_ | refine To.op0 hxE5 (by simp only [go_sem, eqs hxE5, reduceIte, Nat.reduceEqDiff, Nat.reduceAdd, Nat.reduceMul, Nat.reduceLT, Nat.reduceLeDiff, Int.reduceLT, Int.reduceLE, Int.reduceEq, reduceCtorEq, Int.reduceBEq, Int.reduceBNe, Heap.sets, Heap.get, bytesA_length, bytesA_one, bytesA_plains, List.take_of_length_le, List.drop_of_length_le, Nat.add_zero, V.one, Nat.reduceLeDiff, List.all_cons, List.all_nil, ne_eq, not_false_eq_true, Nat.zero_le, s0, s1, s5, hw, hlen, hlt, ho, g0, g1, ix, hc0, w1, gs_ne, gs_eq, ga_lt, ga_0, ga_k, sa_lt, sa_0, sa_k, lw, lsl, hwl, List.length_set, da_0, da_k, Nat.add_assoc, Nat.add_sub_add_left, Nat.add_sub_cancel_left, Nat.sub_self, List.contains_cons, all01, okL01]; rfl) ?_ | refine To.nop hxE5 ?_ | (refine To.condT hxE5 ?_ ?_; focus (simp only [go_sem, eqs hxE5, reduceIte, Nat.reduceEqDiff, Nat.reduceAdd, Nat.reduceMul, Nat.reduceLT, Nat.reduceLeDiff, Int.reduceLT, Int.reduceLE, Int.reduceEq, reduceCtorEq, Int.reduceBEq, Int.reduceBNe, Heap.sets, Heap.get, bytesA_length, bytesA_one, bytesA_plains, List.take_of_length_le, List.drop_of_length_le, Nat.add_zero, V.one, Nat.reduceLeDiff, List.all_cons, List.all_nil, ne_eq, not_false_eq_true, Nat.zero_le, s0, s1, s5, hw, hlen, hlt, ho, g0, g1, ix, hc0, w1, gs_ne, gs_eq, ga_lt, ga_0, ga_k, sa_lt, sa_0, sa_k, lw, lsl, hwl, List.length_set, da_0, da_k, Nat.add_assoc, Nat.add_sub_add_left, Nat.add_sub_cancel_left, Nat.sub_self, List.contains_cons, all01, okL01]; done)) | refine To.block hxE5 ?_ | refine To.skip hxE5 ?_ | refine ToD.op0 (by simp only [go_sem, eqs hxE5, reduceIte, Nat.reduceEqDiff, Nat.reduceAdd, Nat.reduceMul, Nat.reduceLT, Nat.reduceLeDiff, Int.reduceLT, Int.reduceLE, Int.reduceEq, reduceCtorEq, Int.reduceBEq, Int.reduceBNe, Heap.sets, Heap.get, bytesA_length, bytesA_one, bytesA_plains, List.take_of_length_le, List.drop_of_length_le, Nat.add_zero, V.one, Nat.reduceLeDiff, List.all_cons, List.all_nil, ne_eq, not_false_eq_true, Nat.zero_le, s0, s1, s5, hw, hlen, hlt, ho, g0, g1, ix, hc0, w1, gs_ne, gs_eq, ga_lt, ga_0, ga_k, sa_lt, sa_0, sa_k, lw, lsl, hwl, List.length_set, da_0, da_k, Nat.add_assoc, Nat.add_sub_add_left, Nat.add_sub_cancel_left, Nat.sub_self, List.contains_cons, all01, okL01]; rfl) (by simp only [put_some, put_none]; rfl) ?_ | refine To.draw hxE5 (by decide) ?_ | fail))
        refine ToD.quietM rfl rfl (v := .slice l 0 A.length 8) (by show (match stepV _ _ _ with | some (v, oh) => some (Out.val v, oh) | none => none) = _; rw [slL_to ho rl (by decide) (by omega) _ _ _ _ rfl rfl]) (by simp only [V.only, okL, lsl, decide_true, Bool.true_or]) ?_
        (repeat' (first | refine ToD.op0 (by simp only [go_sem, eqs hxE5, reduceIte, Nat.reduceEqDiff, Nat.reduceAdd, Nat.reduceMul, Nat.reduceLT, Nat.reduceLeDiff, Int.reduceLT, Int.reduceLE, Int.reduceEq, reduceCtorEq, Int.reduceBEq, Int.reduceBNe, Heap.sets, Heap.get, bytesA_length, bytesA_one, bytesA_plains, List.take_of_length_le, List.drop_of_length_le, Nat.add_zero, V.one, Nat.reduceLeDiff, List.all_cons, List.all_nil, ne_eq, not_false_eq_true, Nat.zero_le, s0, s1, s5, hw, hlen, hlt, ho, g0, g1, ix, hc0, w1, gs_ne, gs_eq, ga_lt, ga_0, ga_k, sa_lt, sa_0, sa_k, lw, lsl, hwl, List.length_set, da_0, da_k, Nat.add_assoc, Nat.add_sub_add_left, Nat.add_sub_cancel_left, Nat.sub_self, List.contains_cons, all01, okL01]; rfl) (by simp only [put_some, put_none]; rfl) ?_ | fail))
        refine ToD.quietM rfl rfl (v := y) (by show (match stepV _ _ _ with | some (v, oh) => some (Out.val v, oh) | none => none) = _; rw [hst _ _ _ _ rfl rfl]) (hyo _ (by simp only [okL, lsl, decide_true, Bool.true_or])) ?_
        (repeat' (first | refine ToD.op1 (by simp only [go_sem, eqs hxE5, reduceIte, Nat.reduceEqDiff, Nat.reduceAdd, Nat.reduceMul, Nat.reduceLT, Nat.reduceLeDiff, Int.reduceLT, Int.reduceLE, Int.reduceEq, reduceCtorEq, Int.reduceBEq, Int.reduceBNe, Heap.sets, Heap.get, bytesA_length, bytesA_one, bytesA_plains, List.take_of_length_le, List.drop_of_length_le, Nat.add_zero, V.one, Nat.reduceLeDiff, List.all_cons, List.all_nil, ne_eq, not_false_eq_true, Nat.zero_le, s0, s1, s5, hw, hlen, hlt, ho, g0, g1, ix, hc0, w1, gs_ne, gs_eq, ga_lt, ga_0, ga_k, sa_lt, sa_0, sa_k, lw, lsl, hwl, List.length_set, da_0, da_k, Nat.add_assoc, Nat.add_sub_add_left, Nat.add_sub_cancel_left, Nat.sub_self, List.contains_cons, all01, okL01]; rfl) (by simp only [put_some, put_none]; rfl) (by simp only [KD.app, go_sem, eqs hxE5, reduceIte, Nat.reduceEqDiff, Nat.reduceAdd, Nat.reduceMul, Nat.reduceLT, Nat.reduceLeDiff, Int.reduceLT, Int.reduceLE, Int.reduceEq, reduceCtorEq, Int.reduceBEq, Int.reduceBNe, Heap.sets, Heap.get, bytesA_length, bytesA_one, bytesA_plains, List.take_of_length_le, List.drop_of_length_le, Nat.add_zero, V.one, Nat.reduceLeDiff, List.all_cons, List.all_nil, ne_eq, not_false_eq_true, Nat.zero_le, s0, s1, s5, hw, hlen, hlt, ho, g0, g1, ix, hc0, w1, gs_ne, gs_eq, ga_lt, ga_0, ga_k, sa_lt, sa_0, sa_k, lw, lsl, hwl, List.length_set, da_0, da_k, Nat.add_assoc, Nat.add_sub_add_left, Nat.add_sub_cancel_left, Nat.sub_self, List.contains_cons, all01, okL01]; rfl) ?_ | fail))
        have r2 : ∀ n, n ≤ 1000 → roomOk n 80 = true := fun n hn => decide_eq_true ⟨by unfold ok1; omega, by unfold ok1; omega⟩
        obtain ⟨v2, oh2, happ, rs, hgd, _, _, l2, ck2, rfl, ho2, hc2, hl2⟩ := app_lit (o := o ++ [.cells .ex 25 0 []]) (e := o.length) (d := o.length) (t := 25) (s := 8) (b := 80) (a := o.length) (n := A.length) (new := rows8 A) (by rw [ga_0 rfl]; rfl) (by decide) (rows8_len A) (r2 _ (by omega))
        obtain ⟨v3, oh3, o3, d3, happ3, hgd3, hlen3, hold3, l3, ck3, rfl, ho3, hc3, hl3⟩ := app_more (e := o.length) (d := o.length) (b := 80) ho2 hc2 (rows8_len A) (rows8_len B) (by decide) (r2 _ (by omega))
        have hl2' : o.length ≤ l2 := by
          rcases hl2 with h | h
          · omega
          · rw [h, List.length_append]; omega
        have hold : ∀ x, x < o.length → o3[x]? = o[x]? := by
          intro x hx
          rw [hold3 x (by simp only [List.length_append]; omega) (by omega), List.append_assoc, ga_lt hx]
        have h3w : o3[w]? = _ := (hold w lw).trans hw
        have lw3 := get_lt h3w
        have hwN : w ≠ o.length := by omega
        have hyB : ∀ r e d, (B.length = 0 ∧ rows8 B = [] ∧ (y = .nils ∨ ∃ a b c d, y = .esl a b c d)) ∨ ∃ l o', y = .slice l o' B.length 8 ∧ (⟨o ++ r, e, d⟩ : Heap).gets l o' (B.length * 8) = some (rows8 B) ∧ (rows8 B).all V.one = true := by
          intro r e d
          have e1 : O.length - (A.length + 1) = B.length := by omega
          have e2 : ((O.map Rq.cs).drop (A.length + 1)).flatten = rows8 B := by
            rw [hAB, List.map_append, List.map_cons, ← List.drop_drop, List.drop_left' (by simp)]; rfl
          have := hyg r e d
          rw [e1, e2] at this
          rcases this with ⟨a, b, c⟩ | ⟨a, b, c, f⟩
          · exact .inl ⟨a, b, .inr c⟩
          · exact .inr ⟨a, b, c, f, rows8_one B⟩
        refine ToD.appM rfl rfl rfl (by show (match stepV _ _ _ with | some (v, oh) => some (Out.val v, oh) | none => none) = _; rw [app_step rfl rfl (.inr ⟨l, 0, rfl, gA _ _ _, rows8_one A⟩) happ]) hgd ?_ ?_ ?_ ?_ ?_
        · exact V.only_of_ok (okL01 _) _
        · exact all01 _ _
        · simp only [deadKept, isDead, Nat.add_zero, ga_0, Bool.not_false, Bool.true_or, Bool.and_self]; try rfl
        · simp only [List.all_cons, List.all_nil, Bool.and_true]
          refine Bool.and_eq_true_iff.2 ⟨?_, ?_⟩
          · exact lookA_V (v := y) (d := 49) rfl rfl (by show (match stepV _ _ _ with | some (v, oh) => some (Out.val v, oh) | none => none) = _; rw [List.append_assoc, hst _ _ _ _ rfl rfl]) rfl
          · refine lookA_V (v := .slice l 0 O.length 8) (d := 46) rfl rfl ?_ rfl
            simp only [go_sem, eqs hxE5, reduceIte, Nat.reduceEqDiff, Nat.reduceAdd, Nat.reduceMul, Nat.reduceLT, Nat.reduceLeDiff, Int.reduceLT, Int.reduceLE, Int.reduceEq, reduceCtorEq, Int.reduceBEq, Int.reduceBNe, Heap.gets, Heap.sets, Heap.get, bytesA_length, bytesA_one, bytesA_plains, List.take_of_length_le, List.drop_of_length_le, Nat.add_zero, V.one, Nat.reduceLeDiff, List.all_cons, List.all_nil, ne_eq, not_false_eq_true, Nat.zero_le, ga_lt, lw, hw]
            try rfl
        · refine ToD.appM rfl rfl rfl (by show (match stepV _ _ _ with | some (v, oh) => some (Out.val v, oh) | none => none) = _; rw [app_step rfl rfl (by rw [List.append_assoc]; exact hyB _ _ _) happ3]) hgd3 (V.only_of_ok (okL01 _) _) (all01 _ _) ?_ rfl ?_
          · simp only [deadKept, Nat.add_zero, Bool.and_true]
            rw [List.append_assoc, ga_0 rfl]
            rfl
          · (repeat' (first | refine To.seq hxE5 ?_ | refine To.op0 hxE5 (by simp only [go_sem, eqs hxE5, reduceIte, Nat.reduceEqDiff, Nat.reduceAdd, Nat.reduceMul, Nat.reduceLT, Nat.reduceLeDiff, Int.reduceLT, Int.reduceLE, Int.reduceEq, reduceCtorEq, Int.reduceBEq, Int.reduceBNe, Heap.sets, Heap.get, bytesA_length, bytesA_one, bytesA_plains, List.take_of_length_le, List.drop_of_length_le, Nat.add_zero, V.one, Nat.reduceLeDiff, List.all_cons, List.all_nil, ne_eq, not_false_eq_true, Nat.zero_le, s0, s1, s5, hw, hlen, hlt, ho, g0, g1, ix, hc0, w1, gs_ne, gs_eq, ga_lt, ga_0, ga_k, sa_lt, sa_0, sa_k, lw, lsl, hwl, List.length_set, da_0, da_k, Nat.add_assoc, Nat.add_sub_add_left, Nat.add_sub_cancel_left, Nat.sub_self, List.contains_cons, all01, okL01, h3w, lw3, hwN, Bool.not_or_self]; rfl) ?_ | refine To.nop hxE5 ?_ | refine To.ret hxE5 ?_ | refine ToD.op0 (by simp only [go_sem, eqs hxE5, reduceIte, Nat.reduceEqDiff, Nat.reduceAdd, Nat.reduceMul, Nat.reduceLT, Nat.reduceLeDiff, Int.reduceLT, Int.reduceLE, Int.reduceEq, reduceCtorEq, Int.reduceBEq, Int.reduceBNe, Heap.sets, Heap.get, bytesA_length, bytesA_one, bytesA_plains, List.take_of_length_le, List.drop_of_length_le, Nat.add_zero, V.one, Nat.reduceLeDiff, List.all_cons, List.all_nil, ne_eq, not_false_eq_true, Nat.zero_le, s0, s1, s5, hw, hlen, hlt, ho, g0, g1, ix, hc0, w1, gs_ne, gs_eq, ga_lt, ga_0, ga_k, sa_lt, sa_0, sa_k, lw, lsl, hwl, List.length_set, da_0, da_k, Nat.add_assoc, Nat.add_sub_add_left, Nat.add_sub_cancel_left, Nat.sub_self, List.contains_cons, all01, okL01, h3w, lw3, hwN, Bool.not_or_self]; rfl) (by simp only [put_some, put_none]; rfl) ?_ | refine ToD.op1 (by simp only [go_sem, eqs hxE5, reduceIte, Nat.reduceEqDiff, Nat.reduceAdd, Nat.reduceMul, Nat.reduceLT, Nat.reduceLeDiff, Int.reduceLT, Int.reduceLE, Int.reduceEq, reduceCtorEq, Int.reduceBEq, Int.reduceBNe, Heap.sets, Heap.get, bytesA_length, bytesA_one, bytesA_plains, List.take_of_length_le, List.drop_of_length_le, Nat.add_zero, V.one, Nat.reduceLeDiff, List.all_cons, List.all_nil, ne_eq, not_false_eq_true, Nat.zero_le, s0, s1, s5, hw, hlen, hlt, ho, g0, g1, ix, hc0, w1, gs_ne, gs_eq, ga_lt, ga_0, ga_k, sa_lt, sa_0, sa_k, lw, lsl, hwl, List.length_set, da_0, da_k, Nat.add_assoc, Nat.add_sub_add_left, Nat.add_sub_cancel_left, Nat.sub_self, List.contains_cons, all01, okL01, h3w, lw3, hwN, Bool.not_or_self]; rfl) (by simp only [put_some, put_none]; rfl) (by simp only [KD.app, go_sem, eqs hxE5, reduceIte, Nat.reduceEqDiff, Nat.reduceAdd, Nat.reduceMul, Nat.reduceLT, Nat.reduceLeDiff, Int.reduceLT, Int.reduceLE, Int.reduceEq, reduceCtorEq, Int.reduceBEq, Int.reduceBNe, Heap.sets, Heap.get, bytesA_length, bytesA_one, bytesA_plains, List.take_of_length_le, List.drop_of_length_le, Nat.add_zero, V.one, Nat.reduceLeDiff, List.all_cons, List.all_nil, ne_eq, not_false_eq_true, Nat.zero_le, s0, s1, s5, hw, hlen, hlt, ho, g0, g1, ix, hc0, w1, gs_ne, gs_eq, ga_lt, ga_0, ga_k, sa_lt, sa_0, sa_k, lw, lsl, hwl, List.length_set, da_0, da_k, Nat.add_assoc, Nat.add_sub_add_left, Nat.add_sub_cancel_left, Nat.sub_self, List.contains_cons, all01, okL01, h3w, lw3, hwN, Bool.not_or_self]; rfl) ?_ | refine ToD.nop ?_))
            refine ⟨_, _, fin1 (i := 4) rfl, ?_, ?_⟩
            · rw [hcl]; simp only [go_sem, eqs hxE5, reduceIte, Nat.reduceEqDiff, Nat.reduceAdd, Nat.reduceMul, Nat.reduceLT, Nat.reduceLeDiff, Int.reduceLT, Int.reduceLE, Int.reduceEq, reduceCtorEq, Int.reduceBEq, Int.reduceBNe, closeG, hid, if_true]
            · have hfx : ∃ x ∈ O, (closeG id O).1 = x.op := ⟨x, by rw [hAB]; simp, by rw [hcl]; simp [closeG, hid]⟩
              refine .inr (close_r2 (h' := ⟨_, _, _⟩) (vL' := vL) (vO' := .slice l3 0 (A.length + B.length) 8) (vN' := vN) hfx lw ⟨?_, ?_, ?_, ?_⟩ ?_ ?_)
              · simp only [gs_eq lw3]
              · refine hL.of fun l9 ck9 cs9 h9 => ?_
                rw [gs_ne (ne_of hw h9 (by simp)), hold _ (get_lt h9)]; exact h9
              · have ho4 : (o3.set w (AM.Obj.cells .ex 85 0 [vL, .slice l3 0 (A.length + B.length) 8, vN, .int .i64 last, .bool lost]))[l3]? = some (.cells ck3 25 0 (rows8 A ++ rows8 B)) := by
                  rw [gs_ne (ne_of h3w ho3 (by simp))]; exact ho3
                rw [hcl]
                refine Rw.mk' ⟨l3, ck3, rfl, ho4, hc3⟩ (by simp [closeG, hid]) (by simp [closeG, hid, rows8])
              · refine hN.of fun l9 ck9 cs9 h9 => ?_
                rw [gs_ne (ne_of hw h9 (by simp)), hold _ (get_lt h9)]; exact h9
              · refine ⟨?_, fun z u hz hu hg => ?_⟩
                · show o.length ≤ (o3.set w _).length
                  rw [List.length_set]
                  simp only [List.length_append] at hlen3
                  omega
                · show (o3.set w _)[z]? = some u
                  rw [gs_ne (Ne.symm hz), hold z (get_lt hu)]; exact hu
              · simp only; omega
      · have hc0 : (x.id == id) = false := by simpa using hid
        (repeat' (first | refine To.seq hxE5 ?_ | refine To.op0 hxE5 (by simp only [go_sem, eqs hxE5, reduceIte, Nat.reduceEqDiff, Nat.reduceAdd, Nat.reduceMul, Nat.reduceLT, Nat.reduceLeDiff, Int.reduceLT, Int.reduceLE, Int.reduceEq, reduceCtorEq, Int.reduceBEq, Int.reduceBNe, Heap.gets, Heap.sets, Heap.get, bytesA_length, bytesA_one, bytesA_plains, List.take_of_length_le, List.drop_of_length_le, Nat.add_zero, V.one, Nat.reduceLeDiff, List.all_cons, List.all_nil, ne_eq, not_false_eq_true, Nat.zero_le, s0, s1, s5, hw, hlen, hlt, ho, g0, g1, ix, hc0, w1]; rfl) ?_ | refine To.nop hxE5 ?_ | (refine To.condT hxE5 ?_ ?_; focus (simp only [go_sem, eqs hxE5, reduceIte, Nat.reduceEqDiff, Nat.reduceAdd, Nat.reduceMul, Nat.reduceLT, Nat.reduceLeDiff, Int.reduceLT, Int.reduceLE, Int.reduceEq, reduceCtorEq, Int.reduceBEq, Int.reduceBNe, Heap.gets, Heap.sets, Heap.get, bytesA_length, bytesA_one, bytesA_plains, List.take_of_length_le, List.drop_of_length_le, Nat.add_zero, V.one, Nat.reduceLeDiff, List.all_cons, List.all_nil, ne_eq, not_false_eq_true, Nat.zero_le, s0, s1, s5, hw, hlen, hlt, ho, g0, g1, ix, hc0, w1]; done)) | (refine To.condF hxE5 ?_ ?_; focus (simp only [go_sem, eqs hxE5, reduceIte, Nat.reduceEqDiff, Nat.reduceAdd, Nat.reduceMul, Nat.reduceLT, Nat.reduceLeDiff, Int.reduceLT, Int.reduceLE, Int.reduceEq, reduceCtorEq, Int.reduceBEq, Int.reduceBNe, Heap.gets, Heap.sets, Heap.get, bytesA_length, bytesA_one, bytesA_plains, List.take_of_length_le, List.drop_of_length_le, Nat.add_zero, V.one, Nat.reduceLeDiff, List.all_cons, List.all_nil, ne_eq, not_false_eq_true, Nat.zero_le, s0, s1, s5, hw, hlen, hlt, ho, g0, g1, ix, hc0, w1]; done)) | refine To.block hxE5 ?_ | refine To.skip hxE5 ?_))
        try simp only [andThen, outOf]
        refine ⟨B.length, by simp, A ++ [x], B, by rw [hAB, List.append_assoc]; rfl, ?_, rfl, ?_⟩
        · intro y hy
          rcases List.mem_append.1 hy with h | h
          · exact hA y h
          · rw [List.mem_singleton.1 h]; exact hid
        · simp only [go_sem, eqs hxE5, reduceIte, Nat.reduceEqDiff, Nat.reduceAdd, Nat.reduceMul, Nat.reduceLT, Nat.reduceLeDiff, Int.reduceLT, Int.reduceLE, Int.reduceEq, reduceCtorEq, Int.reduceBEq, Int.reduceBNe, s0, s1, List.length_append, List.length_singleton]
          try simp
  · exact ⟨[], O, rfl, by simp, rfl, rfl, by simp only [go_sem, eqs hxE5, reduceIte, Nat.reduceEqDiff, Nat.reduceAdd, Nat.reduceMul, Nat.reduceLT, Nat.reduceLeDiff, Int.reduceLT, Int.reduceLE, Int.reduceEq, reduceCtorEq, Int.reduceBEq, Int.reduceBNe]; try simp⟩
end
end Go.Proofs.Ytjbblfoefibeaaa

/- Queues: the document's queue: answer. -/
namespace Go.Proofs.Ytjbblfoefibeaaa
open Go AM
set_option linter.unusedSimpArgs false
set_option linter.unusedVariables false
set_option maxRecDepth 100000

def rans (p : Int) : V := if p < 0 then .tuple [.int .i64 0, .int .i64 22] else .tuple [.int .i64 p, .int .i64 0]
section
variable {o : List AM.Obj} {e d w : Nat} {vL vO vN : V} {L : List (Rq × Bool)} {O : List Rq} {N : List Nt} {last : Int} {lost : Bool}
set_option maxHeartbeats 16000000 in
theorem ranswer (id : Int) (h : RQ o w vL vO vN L O N last lost) (hO8 : O.length ≤ 1000) :
    ∃ v oh, Den FF E5 42 [.ptr w 0, .int .i64 id] ⟨o, e, d⟩ = some (v, oh) ∧ v = .val (rans (closeG id O).1) ∧ ∃ o' e' d' vL' vO' vN', oh.getD ⟨o, e, d⟩ = ⟨o', e', d'⟩ ∧
      RQ o' w vL' vO' vN' L (closeG id O).2 N last lost ∧ Rx w o o' := by
  refine To.denE hxE5 (f := 42) (a := af42) rfl (E5_none rfl) (Nat.le_of_ble_eq_true rfl) ?_
  have lw := get_lt h.hw
  obtain ⟨v1, oh1, q1, rfl, ⟨rfl, hc⟩ | ⟨o', e', d', vL', vO', vN', hg, hR, hX, he, _⟩⟩ := rclose (e := o.length) (d := o.length) id h hO8
  · rw [hc] at q1
    (repeat' (first | refine To.seq hxE5 ?_ | refine To.op0 hxE5 (by simp only [go_sem, eqs hxE5, reduceIte, Nat.reduceEqDiff, Nat.reduceAdd, Nat.reduceMul, Nat.reduceLT, Nat.reduceLeDiff, Int.reduceLT, Int.reduceLE, Int.reduceEq, reduceCtorEq, Int.reduceBEq, Int.reduceBNe, q1]; rfl) ?_ | refine To.nop hxE5 ?_ | (refine To.condT hxE5 ?_ ?_; focus (simp only [go_sem, eqs hxE5, reduceIte, Nat.reduceEqDiff, Nat.reduceAdd, Nat.reduceMul, Nat.reduceLT, Nat.reduceLeDiff, Int.reduceLT, Int.reduceLE, Int.reduceEq, reduceCtorEq, Int.reduceBEq, Int.reduceBNe, q1]; done)) | refine To.ret hxE5 ?_))
    refine ⟨_, _, fin2 (i := 4) (j := 5) rfl, ?_, ?_⟩
    · rw [hc]; simp only [go_sem, eqs hxE5, reduceIte, Nat.reduceEqDiff, Nat.reduceAdd, Nat.reduceMul, Nat.reduceLT, Nat.reduceLeDiff, Int.reduceLT, Int.reduceLE, Int.reduceEq, reduceCtorEq, Int.reduceBEq, Int.reduceBNe, rans]
    · refine ⟨o, e, d, vL, vO, vN, ?_, by rw [hc]; exact h, Rx.refl⟩
      simp only [go_sem, eqs hxE5, reduceIte, Nat.reduceEqDiff, Nat.reduceAdd, Nat.reduceMul, Nat.reduceLT, Nat.reduceLeDiff, Int.reduceLT, Int.reduceLE, Int.reduceEq, reduceCtorEq, Int.reduceBEq, Int.reduceBNe]
      first | rfl | (simp only [Nat.le_refl, if_true]; rfl)
  · (repeat' (first | refine To.seq hxE5 ?_ | refine To.op0 hxE5 (by simp only [go_sem, eqs hxE5, reduceIte, Nat.reduceEqDiff, Nat.reduceAdd, Nat.reduceMul, Nat.reduceLT, Nat.reduceLeDiff, Int.reduceLT, Int.reduceLE, Int.reduceEq, reduceCtorEq, Int.reduceBEq, Int.reduceBNe]; rfl) ?_ | refine To.nop hxE5 ?_))
    refine To.op hxE5 (by simp only [go_sem, eqs hxE5, reduceIte, Nat.reduceEqDiff, Nat.reduceAdd, Nat.reduceMul, Nat.reduceLT, Nat.reduceLeDiff, Int.reduceLT, Int.reduceLE, Int.reduceEq, reduceCtorEq, Int.reduceBEq, Int.reduceBNe, q1]; rfl) ?_
    have hg : oh1.getD (enter ⟨o, e, d⟩) = ⟨o', e', d'⟩ := hg
    rw [hg]
    have hn : ∀ b, decide ((closeG id O).1 < 0) = b → rans (closeG id O).1 = if b = true then .tuple [.int .i64 0, .int .i64 22] else .tuple [.int .i64 (closeG id O).1, .int .i64 0] := by
      rintro b rfl
      simp only [rans, decide_eq_true_eq]
    cases hb : decide ((closeG id O).1 < 0)
    · (repeat' (first | refine To.seq hxE5 ?_ | refine To.op0 hxE5 (by simp only [go_sem, eqs hxE5, reduceIte, Nat.reduceEqDiff, Nat.reduceAdd, Nat.reduceMul, Nat.reduceLT, Nat.reduceLeDiff, Int.reduceLT, Int.reduceLE, Int.reduceEq, reduceCtorEq, Int.reduceBEq, Int.reduceBNe, hb]; rfl) ?_ | refine To.nop hxE5 ?_ | (refine To.condF hxE5 ?_ ?_; focus (simp only [go_sem, eqs hxE5, reduceIte, Nat.reduceEqDiff, Nat.reduceAdd, Nat.reduceMul, Nat.reduceLT, Nat.reduceLeDiff, Int.reduceLT, Int.reduceLE, Int.reduceEq, reduceCtorEq, Int.reduceBEq, Int.reduceBNe, hb]; done)) | refine To.ret hxE5 ?_ | refine To.skip hxE5 ?_))
      refine ⟨_, _, fin2 (i := 4) (j := 5) rfl, ?_, close_r (h' := ⟨_, _, _⟩) hR hX (by simp only; omega)⟩
      rw [hn _ hb]; simp only [go_sem, eqs hxE5, reduceIte, Nat.reduceEqDiff, Nat.reduceAdd, Nat.reduceMul, Nat.reduceLT, Nat.reduceLeDiff, Int.reduceLT, Int.reduceLE, Int.reduceEq, reduceCtorEq, Int.reduceBEq, Int.reduceBNe]; try rfl
    · (repeat' (first | refine To.seq hxE5 ?_ | refine To.op0 hxE5 (by simp only [go_sem, eqs hxE5, reduceIte, Nat.reduceEqDiff, Nat.reduceAdd, Nat.reduceMul, Nat.reduceLT, Nat.reduceLeDiff, Int.reduceLT, Int.reduceLE, Int.reduceEq, reduceCtorEq, Int.reduceBEq, Int.reduceBNe, hb]; rfl) ?_ | refine To.nop hxE5 ?_ | (refine To.condT hxE5 ?_ ?_; focus (simp only [go_sem, eqs hxE5, reduceIte, Nat.reduceEqDiff, Nat.reduceAdd, Nat.reduceMul, Nat.reduceLT, Nat.reduceLeDiff, Int.reduceLT, Int.reduceLE, Int.reduceEq, reduceCtorEq, Int.reduceBEq, Int.reduceBNe, hb]; done)) | refine To.ret hxE5 ?_))
      refine ⟨_, _, fin2 (i := 4) (j := 5) rfl, ?_, close_r (h' := ⟨_, _, _⟩) hR hX (by simp only; omega)⟩
      rw [hn _ hb]; simp only [go_sem, eqs hxE5, reduceIte, Nat.reduceEqDiff, Nat.reduceAdd, Nat.reduceMul, Nat.reduceLT, Nat.reduceLeDiff, Int.reduceLT, Int.reduceLE, Int.reduceEq, reduceCtorEq, Int.reduceBEq, Int.reduceBNe]; try rfl
end
end Go.Proofs.Ytjbblfoefibeaaa

/- Queues: the document's queue: cancel. -/
namespace Go.Proofs.Ytjbblfoefibeaaa
open Go AM
set_option linter.unusedSimpArgs false
set_option linter.unusedVariables false
set_option maxRecDepth 100000

def cancelG (id : Int) : List (Rq × Bool) → List (Rq × Bool)
  | [] => []
  | x :: r => if x.1.id = id ∧ x.2 = false then (x.1, true) :: r else x :: cancelG id r
def hasG (id : Int) : List (Rq × Bool) → Bool
  | [] => false
  | x :: r => if x.1.id = id ∧ x.2 = false then true else hasG id r
theorem cancelG_app {id : Int} : ∀ {A B : List (Rq × Bool)}, (∀ x ∈ A, ¬ (x.1.id = id ∧ x.2 = false)) → cancelG id (A ++ B) = A ++ cancelG id B
  | [], B, _ => rfl
  | x :: A, B, h => by
    have h1 := h x List.mem_cons_self
    rw [List.cons_append, cancelG, if_neg h1, cancelG_app (fun y hy => h y (List.mem_cons_of_mem _ hy))]
    rfl
theorem hasG_app {id : Int} : ∀ {A B : List (Rq × Bool)}, (∀ x ∈ A, ¬ (x.1.id = id ∧ x.2 = false)) → hasG id (A ++ B) = hasG id B
  | [], B, _ => rfl
  | x :: A, B, h => by
    have h1 := h x List.mem_cons_self
    rw [List.cons_append, hasG, if_neg h1, hasG_app (fun y hy => h y (List.mem_cons_of_mem _ hy))]
theorem rows9_at (A : List (Rq × Bool)) (x : Rq × Bool) (B : List (Rq × Bool)) (j : Nat) (hj : j < 9) : (rows9 (A ++ x :: B))[A.length * 9 + j]? = (Sl x)[j]? := by
  have e : rows9 (A ++ x :: B) = rows9 A ++ (Sl x ++ rows9 B) := by simp [rows9]
  rw [e, List.getElem?_append_right (by rw [rows9_len]; omega), rows9_len, Nat.add_sub_cancel_left, List.getElem?_append_left (by simpa [Sl, Rq.cs] using hj)]
theorem rows9_set (A : List (Rq × Bool)) (x : Rq) (b c : Bool) (B : List (Rq × Bool)) : (rows9 (A ++ (x, b) :: B)).set (A.length * 9 + 8) (.bool c) = rows9 (A ++ (x, c) :: B) := by
  have e : ∀ b, rows9 (A ++ (x, b) :: B) = rows9 A ++ (Sl (x, b) ++ rows9 B) := by intro b; simp [rows9]
  rw [e, e, List.set_append_right _ _ (by rw [rows9_len]; omega), rows9_len, Nat.add_sub_cancel_left]
  rfl
def rcan (p : Int) (b : Bool) : Int := if 0 ≤ p then 0 else if b = true then 0 else 22
section
variable {o : List AM.Obj} {e d w : Nat} {vL vO vN : V} {L : List (Rq × Bool)} {O : List Rq} {N : List Nt} {last : Int} {lost : Bool}
set_option maxHeartbeats 16000000 in
theorem rcancel (id : Int) (h : RQ o w vL vO vN L O N last lost) (hO8 : O.length ≤ 1000) (hL8 : L.length ≤ 1000) (hop : ∀ x ∈ O, 0 ≤ x.op) :
    ∃ v oh, Den FF E5 43 [.ptr w 0, .int .i64 id] ⟨o, e, d⟩ = some (v, oh) ∧ v = .val (.int .i64 (rcan (closeG id O).1 (hasG id L))) ∧ ∃ o' e' d' vL' vO' vN', oh.getD ⟨o, e, d⟩ = ⟨o', e', d'⟩ ∧
      RQ o' w vL' vO' vN' (if 0 ≤ (closeG id O).1 then L else cancelG id L) (closeG id O).2 N last lost ∧ Rx w o o' := by
  refine To.denE hxE5 (f := 43) (a := af43) rfl (E5_none rfl) (Nat.le_of_ble_eq_true rfl) ?_
  have lw := get_lt h.hw
  obtain ⟨v1, oh1, q1, rfl, ⟨rfl, hc⟩ | ⟨o', e', d', vL', vO', vN', hg, hR, hX, he, y, hy, hyo⟩⟩ := rclose (e := o.length) (d := o.length) id h hO8
  · rw [hc] at q1 ⊢
    have h0 := h
    obtain ⟨hw, hL, hO, hN⟩ := h
    have hlen := hL.len
    rw [List.length_map] at hlen
    rw [if_neg (show ¬ (0 : Int) ≤ -1 by decide)]
    (repeat' (first | refine To.seq hxE5 ?_ | refine To.op0 hxE5 (by simp only [go_sem, eqs hxE5, reduceIte, Nat.reduceEqDiff, Nat.reduceAdd, Nat.reduceMul, Nat.reduceLT, Nat.reduceLeDiff, Int.reduceLT, Int.reduceLE, Int.reduceEq, reduceCtorEq, Int.reduceBEq, Int.reduceBNe, q1]; rfl) ?_ | refine To.nop hxE5 ?_ | (refine To.condF hxE5 ?_ ?_; focus (simp only [go_sem, eqs hxE5, reduceIte, Nat.reduceEqDiff, Nat.reduceAdd, Nat.reduceMul, Nat.reduceLT, Nat.reduceLeDiff, Int.reduceLT, Int.reduceLE, Int.reduceEq, reduceCtorEq, Int.reduceBEq, Int.reduceBNe, q1]; done)) | refine To.block hxE5 ?_ | refine To.skip hxE5 ?_))
    refine To.loop hxE5 (fun k S h' => ∃ A B, L = A ++ B ∧ (∀ x ∈ A, ¬ (x.1.id = id ∧ x.2 = false)) ∧ k = B.length ∧ h' = ⟨o, o.length, o.length⟩ ∧ S 0 = .ptr w 0 ∧ S 1 = .int .i64 id ∧ S 5 = .int .i64 (A.length : Int)) ?_ L.length _ _ ?_
    · rintro k S _ ⟨A, B, hAB, hA, rfl, rfl, s0, s1, s5⟩
      have hcl : cancelG id L = A ++ cancelG id B := by rw [hAB, cancelG_app hA]
      have hcb : hasG id L = hasG id B := by rw [hAB, hasG_app hA]
      cases B with
      | nil =>
        rw [List.append_nil] at hAB
        have hlt : decide ((A.length : Int) < (L.length : Int)) = false := decide_eq_false (by rw [hAB]; omega)
        (repeat' (first | refine To.seq hxE5 ?_ | refine To.op0 hxE5 (by simp only [go_sem, eqs hxE5, reduceIte, Nat.reduceEqDiff, Nat.reduceAdd, Nat.reduceMul, Nat.reduceLT, Nat.reduceLeDiff, Int.reduceLT, Int.reduceLE, Int.reduceEq, reduceCtorEq, Int.reduceBEq, Int.reduceBNe, Heap.gets, Heap.sets, Heap.get, bytesA_length, bytesA_one, bytesA_plains, List.take_of_length_le, List.drop_of_length_le, Nat.add_zero, V.one, Nat.reduceLeDiff, List.all_cons, List.all_nil, ne_eq, not_false_eq_true, Nat.zero_le, s0, s1, s5, hw, hlen, hlt]; rfl) ?_ | refine To.nop hxE5 ?_ | (refine To.condF hxE5 ?_ ?_; focus (simp only [go_sem, eqs hxE5, reduceIte, Nat.reduceEqDiff, Nat.reduceAdd, Nat.reduceMul, Nat.reduceLT, Nat.reduceLeDiff, Int.reduceLT, Int.reduceLE, Int.reduceEq, reduceCtorEq, Int.reduceBEq, Int.reduceBNe, Heap.gets, Heap.sets, Heap.get, bytesA_length, bytesA_one, bytesA_plains, List.take_of_length_le, List.drop_of_length_le, Nat.add_zero, V.one, Nat.reduceLeDiff, List.all_cons, List.all_nil, ne_eq, not_false_eq_true, Nat.zero_le, s0, s1, s5, hw, hlen, hlt]; done)) | refine To.ret hxE5 ?_ | refine To.exit hxE5 ?_))
        refine ⟨_, _, fin1 (i := 4) rfl, ?_, ?_⟩
        · rw [hcb]; simp only [go_sem, eqs hxE5, reduceIte, Nat.reduceEqDiff, Nat.reduceAdd, Nat.reduceMul, Nat.reduceLT, Nat.reduceLeDiff, Int.reduceLT, Int.reduceLE, Int.reduceEq, reduceCtorEq, Int.reduceBEq, Int.reduceBNe, hasG, rcan]; try rfl
        · refine ⟨o, e, d, vL, vO, vN, ?_, ?_, Rx.refl⟩
          · simp only [go_sem, eqs hxE5, reduceIte, Nat.reduceEqDiff, Nat.reduceAdd, Nat.reduceMul, Nat.reduceLT, Nat.reduceLeDiff, Int.reduceLT, Int.reduceLE, Int.reduceEq, reduceCtorEq, Int.reduceBEq, Int.reduceBNe]
            first | rfl | (simp only [Nat.le_refl, if_true]; rfl)
          · rw [hcl, show A ++ cancelG id [] = L by rw [hAB]; simp [cancelG]]; exact h0
      | cons x B =>
        have hlO : L.length = A.length + (B.length + 1) := by rw [hAB, List.length_append, List.length_cons]
        have hlt : decide ((A.length : Int) < (L.length : Int)) = true := decide_eq_true (by omega)
        obtain ⟨rfl, hx⟩ | ⟨l, ck, rfl, ho, hck⟩ := hL
        · rw [(by simpa using hx : L = [])] at hAB; simp at hAB
        have hck' : ck = .gr := by
          rcases hck with h | ⟨_, h⟩
          · exact h
          · rw [(by simpa using h : L = [])] at hAB; simp at hAB
        subst hck'
        rw [List.length_map] at hw hlen
        change o[l]? = some (.cells .gr 138 0 (rows9 L)) at ho
        have lsl := get_lt ho
        have hwl := ne_of hw ho (by simp)
        obtain ⟨xr, xb⟩ := x
        have g0 : (rows9 L)[A.length * 9]? = some (.int .i64 xr.id) := by rw [hAB]; exact rows9_at A (xr, xb) B 0 (by decide)
        have g8 : (rows9 L)[A.length * 9 + 8]? = some (.bool xb) := by rw [hAB]; exact rows9_at A (xr, xb) B 8 (by decide)
        have ix : idxOf L.length (.int .i64 (A.length : Int)) = some A.length := idxOf_nat (by omega)
        have w1 : IntKind.i64.wrap ((A.length : Int) + 1) = ((A.length + 1 : Nat) : Int) := by rw [wrap_i64 (by omega) (by omega)]; rfl
        by_cases hid : xr.id = id
        · have hc0 : (xr.id == id) = true := by simpa using hid
          cases xb
          case false =>
            have hset : ∀ e d, (⟨o, e, d⟩ : Heap).sets l (A.length * 9 + 8) [.bool true] = some ⟨o.set l (.cells .gr 138 0 (rows9 (A ++ (xr, true) :: B))), e, min d l⟩ := by
              intro e d
              simp only [Heap.sets, ho]
              rw [if_pos ⟨by decide, Nat.zero_le _, by rw [rows9_len]; simp only [List.length_singleton]; omega, rfl⟩, splice_one _ _ _ (by rw [rows9_len]; omega), hAB, rows9_set]
              rfl
            (repeat' (first | refine To.seq hxE5 ?_ | refine To.op0 hxE5 (by simp only [go_sem, eqs hxE5, reduceIte, Nat.reduceEqDiff, Nat.reduceAdd, Nat.reduceMul, Nat.reduceLT, Nat.reduceLeDiff, Int.reduceLT, Int.reduceLE, Int.reduceEq, reduceCtorEq, Int.reduceBEq, Int.reduceBNe, Heap.gets, Heap.sets, Heap.get, bytesA_length, bytesA_one, bytesA_plains, List.take_of_length_le, List.drop_of_length_le, Nat.add_zero, V.one, Nat.reduceLeDiff, List.all_cons, List.all_nil, ne_eq, not_false_eq_true, Nat.zero_le, s0, s1, s5, hw, hlen, hlt, ho, g0, g8, ix, hc0, w1, Bool.not_false]; rfl) ?_ | refine To.nop hxE5 ?_ | (refine To.condT hxE5 ?_ ?_; focus (simp only [go_sem, eqs hxE5, reduceIte, Nat.reduceEqDiff, Nat.reduceAdd, Nat.reduceMul, Nat.reduceLT, Nat.reduceLeDiff, Int.reduceLT, Int.reduceLE, Int.reduceEq, reduceCtorEq, Int.reduceBEq, Int.reduceBNe, Heap.gets, Heap.sets, Heap.get, bytesA_length, bytesA_one, bytesA_plains, List.take_of_length_le, List.drop_of_length_le, Nat.add_zero, V.one, Nat.reduceLeDiff, List.all_cons, List.all_nil, ne_eq, not_false_eq_true, Nat.zero_le, s0, s1, s5, hw, hlen, hlt, ho, g0, g8, ix, hc0, w1, Bool.not_false]; done)) | refine To.block hxE5 ?_ | refine To.skip hxE5 ?_))
            refine To.op1 hxE5 (by simp only [go_sem, eqs hxE5, reduceIte, Nat.reduceEqDiff, Nat.reduceAdd, Nat.reduceMul, Nat.reduceLT, Nat.reduceLeDiff, Int.reduceLT, Int.reduceLE, Int.reduceEq, reduceCtorEq, Int.reduceBEq, Int.reduceBNe, Nat.add_zero, hset]; rfl) ?_
            (repeat' (first | refine To.seq hxE5 ?_ | refine To.op0 hxE5 (by simp only [go_sem, eqs hxE5, reduceIte, Nat.reduceEqDiff, Nat.reduceAdd, Nat.reduceMul, Nat.reduceLT, Nat.reduceLeDiff, Int.reduceLT, Int.reduceLE, Int.reduceEq, reduceCtorEq, Int.reduceBEq, Int.reduceBNe]; rfl) ?_ | refine To.nop hxE5 ?_ | refine To.ret hxE5 ?_))
            refine ⟨_, _, fin1 (i := 4) rfl, ?_, ?_⟩
            · rw [hcb]; simp only [go_sem, eqs hxE5, reduceIte, Nat.reduceEqDiff, Nat.reduceAdd, Nat.reduceMul, Nat.reduceLT, Nat.reduceLeDiff, Int.reduceLT, Int.reduceLE, Int.reduceEq, reduceCtorEq, Int.reduceBEq, Int.reduceBNe, hasG, rcan, hid, and_self, if_true]; try rfl
            · refine ⟨o.set l (.cells .gr 138 0 (rows9 (A ++ (xr, true) :: B))), e, min d (min o.length l), .slice l 0 L.length 9, vO, vN, ?_, ⟨?_, ?_, ?_, ?_⟩, Rx.dead _ ho rfl⟩
              · unfold leave
                rw [if_pos ⟨by simp only; exact Nat.le_refl _, by simp only [go_sem, eqs hxE5, reduceIte, Nat.reduceEqDiff, Nat.reduceAdd, Nat.reduceMul, Nat.reduceLT, Nat.reduceLeDiff, Int.reduceLT, Int.reduceLE, Int.reduceEq, reduceCtorEq, Int.reduceBEq, Int.reduceBNe]⟩]
                simp only
                rw [if_neg (by omega)]
                simp only [Option.getD_some]
                rw [List.take_of_length_le (by simp)]
              · rw [gs_ne (Ne.symm hwl)]; exact hw
              · rw [hcl]
                refine .inr ⟨l, .gr, by simp [cancelG, hid, hlO], ?_, .inl rfl⟩
                rw [gs_eq lsl]
                simp [cancelG, hid, rows9]
              · refine hO.of fun l9 ck9 cs9 h9 => ?_
                rw [gs_ne (ne_of ho h9 (by simp))]; exact h9
              · refine hN.of fun l9 ck9 cs9 h9 => ?_
                rw [gs_ne (ne_of ho h9 (by simp))]; exact h9
          case true =>
            (repeat' (first | refine To.seq hxE5 ?_ | refine To.op0 hxE5 (by simp only [go_sem, eqs hxE5, reduceIte, Nat.reduceEqDiff, Nat.reduceAdd, Nat.reduceMul, Nat.reduceLT, Nat.reduceLeDiff, Int.reduceLT, Int.reduceLE, Int.reduceEq, reduceCtorEq, Int.reduceBEq, Int.reduceBNe, Heap.gets, Heap.sets, Heap.get, bytesA_length, bytesA_one, bytesA_plains, List.take_of_length_le, List.drop_of_length_le, Nat.add_zero, V.one, Nat.reduceLeDiff, List.all_cons, List.all_nil, ne_eq, not_false_eq_true, Nat.zero_le, s0, s1, s5, hw, hlen, hlt, ho, g0, g8, ix, hc0, w1, Bool.not_true]; rfl) ?_ | refine To.nop hxE5 ?_ | (refine To.condT hxE5 ?_ ?_; focus (simp only [go_sem, eqs hxE5, reduceIte, Nat.reduceEqDiff, Nat.reduceAdd, Nat.reduceMul, Nat.reduceLT, Nat.reduceLeDiff, Int.reduceLT, Int.reduceLE, Int.reduceEq, reduceCtorEq, Int.reduceBEq, Int.reduceBNe, Heap.gets, Heap.sets, Heap.get, bytesA_length, bytesA_one, bytesA_plains, List.take_of_length_le, List.drop_of_length_le, Nat.add_zero, V.one, Nat.reduceLeDiff, List.all_cons, List.all_nil, ne_eq, not_false_eq_true, Nat.zero_le, s0, s1, s5, hw, hlen, hlt, ho, g0, g8, ix, hc0, w1, Bool.not_true]; done)) | (refine To.condF hxE5 ?_ ?_; focus (simp only [go_sem, eqs hxE5, reduceIte, Nat.reduceEqDiff, Nat.reduceAdd, Nat.reduceMul, Nat.reduceLT, Nat.reduceLeDiff, Int.reduceLT, Int.reduceLE, Int.reduceEq, reduceCtorEq, Int.reduceBEq, Int.reduceBNe, Heap.gets, Heap.sets, Heap.get, bytesA_length, bytesA_one, bytesA_plains, List.take_of_length_le, List.drop_of_length_le, Nat.add_zero, V.one, Nat.reduceLeDiff, List.all_cons, List.all_nil, ne_eq, not_false_eq_true, Nat.zero_le, s0, s1, s5, hw, hlen, hlt, ho, g0, g8, ix, hc0, w1, Bool.not_true]; done)) | refine To.block hxE5 ?_ | refine To.skip hxE5 ?_))
            try simp only [andThen, outOf]
            refine ⟨B.length, by simp, A ++ [(xr, true)], B, by rw [hAB, List.append_assoc]; rfl, ?_, rfl, ?_⟩
            · intro y hy
              rcases List.mem_append.1 hy with h | h
              · exact hA y h
              · rw [List.mem_singleton.1 h]; simp
            · simp only [go_sem, eqs hxE5, reduceIte, Nat.reduceEqDiff, Nat.reduceAdd, Nat.reduceMul, Nat.reduceLT, Nat.reduceLeDiff, Int.reduceLT, Int.reduceLE, Int.reduceEq, reduceCtorEq, Int.reduceBEq, Int.reduceBNe, s0, s1, List.length_append, List.length_singleton]
              try simp
        · have hc0 : (xr.id == id) = false := by simpa using hid
          (repeat' (first | refine To.seq hxE5 ?_ | refine To.op0 hxE5 (by simp only [go_sem, eqs hxE5, reduceIte, Nat.reduceEqDiff, Nat.reduceAdd, Nat.reduceMul, Nat.reduceLT, Nat.reduceLeDiff, Int.reduceLT, Int.reduceLE, Int.reduceEq, reduceCtorEq, Int.reduceBEq, Int.reduceBNe, Heap.gets, Heap.sets, Heap.get, bytesA_length, bytesA_one, bytesA_plains, List.take_of_length_le, List.drop_of_length_le, Nat.add_zero, V.one, Nat.reduceLeDiff, List.all_cons, List.all_nil, ne_eq, not_false_eq_true, Nat.zero_le, s0, s1, s5, hw, hlen, hlt, ho, g0, ix, hc0, w1]; rfl) ?_ | refine To.nop hxE5 ?_ | (refine To.condT hxE5 ?_ ?_; focus (simp only [go_sem, eqs hxE5, reduceIte, Nat.reduceEqDiff, Nat.reduceAdd, Nat.reduceMul, Nat.reduceLT, Nat.reduceLeDiff, Int.reduceLT, Int.reduceLE, Int.reduceEq, reduceCtorEq, Int.reduceBEq, Int.reduceBNe, Heap.gets, Heap.sets, Heap.get, bytesA_length, bytesA_one, bytesA_plains, List.take_of_length_le, List.drop_of_length_le, Nat.add_zero, V.one, Nat.reduceLeDiff, List.all_cons, List.all_nil, ne_eq, not_false_eq_true, Nat.zero_le, s0, s1, s5, hw, hlen, hlt, ho, g0, ix, hc0, w1]; done)) | (refine To.condF hxE5 ?_ ?_; focus (simp only [go_sem, eqs hxE5, reduceIte, Nat.reduceEqDiff, Nat.reduceAdd, Nat.reduceMul, Nat.reduceLT, Nat.reduceLeDiff, Int.reduceLT, Int.reduceLE, Int.reduceEq, reduceCtorEq, Int.reduceBEq, Int.reduceBNe, Heap.gets, Heap.sets, Heap.get, bytesA_length, bytesA_one, bytesA_plains, List.take_of_length_le, List.drop_of_length_le, Nat.add_zero, V.one, Nat.reduceLeDiff, List.all_cons, List.all_nil, ne_eq, not_false_eq_true, Nat.zero_le, s0, s1, s5, hw, hlen, hlt, ho, g0, ix, hc0, w1]; done)) | refine To.block hxE5 ?_ | refine To.skip hxE5 ?_))
          try simp only [andThen, outOf]
          refine ⟨B.length, by simp, A ++ [(xr, xb)], B, by rw [hAB, List.append_assoc]; rfl, ?_, rfl, ?_⟩
          · intro y hy
            rcases List.mem_append.1 hy with h | h
            · exact hA y h
            · rw [List.mem_singleton.1 h]; exact fun h => hid h.1
          · simp only [go_sem, eqs hxE5, reduceIte, Nat.reduceEqDiff, Nat.reduceAdd, Nat.reduceMul, Nat.reduceLT, Nat.reduceLeDiff, Int.reduceLT, Int.reduceLE, Int.reduceEq, reduceCtorEq, Int.reduceBEq, Int.reduceBNe, s0, s1, List.length_append, List.length_singleton]
            try simp
    · exact ⟨[], L, rfl, by simp, rfl, rfl, by simp only [go_sem, eqs hxE5, reduceIte, Nat.reduceEqDiff, Nat.reduceAdd, Nat.reduceMul, Nat.reduceLT, Nat.reduceLeDiff, Int.reduceLT, Int.reduceLE, Int.reduceEq, reduceCtorEq, Int.reduceBEq, Int.reduceBNe]; try simp⟩
  · have h0 : 0 ≤ (closeG id O).1 := by rw [hyo]; exact hop y hy
    have hb : decide (0 ≤ (closeG id O).1) = true := decide_eq_true h0
    have hg : oh1.getD (enter ⟨o, e, d⟩) = ⟨o', e', d'⟩ := hg
    (repeat' (first | refine To.seq hxE5 ?_ | refine To.op0 hxE5 (by simp only [go_sem, eqs hxE5, reduceIte, Nat.reduceEqDiff, Nat.reduceAdd, Nat.reduceMul, Nat.reduceLT, Nat.reduceLeDiff, Int.reduceLT, Int.reduceLE, Int.reduceEq, reduceCtorEq, Int.reduceBEq, Int.reduceBNe]; rfl) ?_ | refine To.nop hxE5 ?_))
    refine To.op hxE5 (by simp only [go_sem, eqs hxE5, reduceIte, Nat.reduceEqDiff, Nat.reduceAdd, Nat.reduceMul, Nat.reduceLT, Nat.reduceLeDiff, Int.reduceLT, Int.reduceLE, Int.reduceEq, reduceCtorEq, Int.reduceBEq, Int.reduceBNe, q1]; rfl) ?_
    rw [hg]
    (repeat' (first | refine To.seq hxE5 ?_ | refine To.op0 hxE5 (by simp only [go_sem, eqs hxE5, reduceIte, Nat.reduceEqDiff, Nat.reduceAdd, Nat.reduceMul, Nat.reduceLT, Nat.reduceLeDiff, Int.reduceLT, Int.reduceLE, Int.reduceEq, reduceCtorEq, Int.reduceBEq, Int.reduceBNe, hb]; rfl) ?_ | refine To.nop hxE5 ?_ | (refine To.condT hxE5 ?_ ?_; focus (simp only [go_sem, eqs hxE5, reduceIte, Nat.reduceEqDiff, Nat.reduceAdd, Nat.reduceMul, Nat.reduceLT, Nat.reduceLeDiff, Int.reduceLT, Int.reduceLE, Int.reduceEq, reduceCtorEq, Int.reduceBEq, Int.reduceBNe, hb]; done)) | refine To.ret hxE5 ?_))
    refine ⟨_, _, fin1 (i := 4) rfl, ?_, ?_⟩
    · simp only [go_sem, eqs hxE5, reduceIte, Nat.reduceEqDiff, Nat.reduceAdd, Nat.reduceMul, Nat.reduceLT, Nat.reduceLeDiff, Int.reduceLT, Int.reduceLE, Int.reduceEq, reduceCtorEq, Int.reduceBEq, Int.reduceBNe, rcan, if_pos h0]
    · rw [if_pos h0]
      exact close_r (h' := ⟨_, _, _⟩) hR hX (by simp only; omega)
end
end Go.Proofs.Ytjbblfoefibeaaa

/- Queues: the document's queue: hear. -/
namespace Go.Proofs.Ytjbblfoefibeaaa
open Go AM
set_option linter.unusedSimpArgs false
set_option linter.unusedVariables false
set_option maxRecDepth 100000

def rows3 (l : List Nt) : List V := (l.map Nt.cs).flatten
theorem rows3_len : ∀ l, (rows3 l).length = l.length * 3
  | [] => rfl
  | x :: l => by
    have := rows3_len l
    have e : rows3 (x :: l) = x.cs ++ rows3 l := rfl
    rw [e, List.length_append, this, List.length_cons]
    simp only [Nt.cs, List.length_cons, List.length_nil]
    omega
theorem rows3_one (l : List Nt) : (rows3 l).all V.one = true := by
  unfold rows3
  simp only [List.all_flatten, List.all_map, List.all_eq_true]
  intro x _
  rfl
theorem rows3_take (l : List Nt) : (rows3 l).take (l.length * 3) = rows3 l := by rw [← rows3_len]; exact List.take_length
theorem rows3_at (A : List Nt) (x : Nt) (B : List Nt) (j : Nat) (hj : j < 3) : (rows3 (A ++ x :: B))[A.length * 3 + j]? = x.cs[j]? := by
  have e : rows3 (A ++ x :: B) = rows3 A ++ (x.cs ++ rows3 B) := by simp [rows3]
  rw [e, List.getElem?_append_right (by rw [rows3_len]; omega), rows3_len, Nat.add_sub_cancel_left, List.getElem?_append_left (by simpa [Nt.cs] using hj)]
section
variable {o : List AM.Obj} {e d w : Nat} {vL vO vN : V} {L : List (Rq × Bool)} {O : List Rq} {N : List Nt} {last : Int} {lost : Bool}
theorem close_rk {h' : Heap} {v : V} {vL' vO' vN' : V} {L' : List (Rq × Bool)} {O' : List Rq} {N' : List Nt} {last' : Int} {lost' : Bool} (hR : RQ h'.o w vL' vO' vN' L' O' N' last' lost') (hX : Rx w o h'.o) (he : h'.e < o.length) (hk : ∀ x, x < o.length → x ≠ w → h'.o[x]? = o[x]?) :
    ∃ o' e' d' vL' vO' vN', (leave ⟨o, e, d⟩ h' v).getD ⟨o, e, d⟩ = ⟨o', e', d'⟩ ∧ RQ o' w vL' vO' vN' L' O' N' last' lost' ∧ Rx w o o' ∧ ∀ x, x < o.length → x ≠ w → o'[x]? = o[x]? := by
  unfold leave
  rw [if_neg (fun h => by have := h.1; simp only at this; omega)]
  exact ⟨_, _, _, _, _, _, rfl, hR, hX, hk⟩
set_option maxHeartbeats 16000000 in
theorem rhear (h : RQ o w vL vO vN L O N last lost) (hN8 : N.length ≤ 1000) :
    ∃ v oh, Den FF E5 47 [.ptr w 0] ⟨o, e, d⟩ = some (v, oh) ∧ v = .val (hearVal N) ∧ ∃ o' e' d' vL' vO' vN', oh.getD ⟨o, e, d⟩ = ⟨o', e', d'⟩ ∧
      RQ o' w vL' vO' vN' L O N.tail last lost ∧ Rx w o o' ∧ ∀ x, x < o.length → x ≠ w → o'[x]? = o[x]? := by
  refine To.denE hxE5 (f := 47) (a := af47) rfl (E5_none rfl) (Nat.le_of_ble_eq_true rfl) ?_
  have h0 := h
  obtain ⟨hw, hL, hO, hN⟩ := h
  have lw := get_lt hw
  have hlen := hN.len
  rw [List.length_map] at hlen
  cases N with
  | nil =>
    simp only [List.length_nil] at hlen
    (repeat' (first | refine To.seq hxE5 ?_ | refine To.op0 hxE5 (by simp only [go_sem, eqs hxE5, reduceIte, Nat.reduceEqDiff, Nat.reduceAdd, Nat.reduceMul, Nat.reduceLT, Nat.reduceLeDiff, Int.reduceBEq, Int.reduceBNe, Heap.gets, Heap.sets, Heap.get, bytesA_length, bytesA_one, bytesA_plains, List.take_of_length_le, List.drop_of_length_le, Nat.add_zero, V.one, Nat.reduceLeDiff, List.all_cons, List.all_nil, ne_eq, not_false_eq_true, Nat.zero_le, hw, hlen, lw, gs_eq, ga_lt, ga_0, ga_k, List.length_set]; rfl) ?_ | refine To.op1 hxE5 (by simp only [go_sem, eqs hxE5, reduceIte, Nat.reduceEqDiff, Nat.reduceAdd, Nat.reduceMul, Nat.reduceLT, Nat.reduceLeDiff, Int.reduceBEq, Int.reduceBNe, Heap.gets, Heap.sets, Heap.get, bytesA_length, bytesA_one, bytesA_plains, List.take_of_length_le, List.drop_of_length_le, Nat.add_zero, V.one, Nat.reduceLeDiff, List.all_cons, List.all_nil, ne_eq, not_false_eq_true, Nat.zero_le, hw, hlen, lw, gs_eq, ga_lt, ga_0, ga_k, List.length_set]; rfl) ?_ | refine To.nop hxE5 ?_ | (refine To.condT hxE5 ?_ ?_; focus (simp only [go_sem, eqs hxE5, reduceIte, Nat.reduceEqDiff, Nat.reduceAdd, Nat.reduceMul, Nat.reduceLT, Nat.reduceLeDiff, Int.reduceBEq, Int.reduceBNe, Heap.gets, Heap.sets, Heap.get, bytesA_length, bytesA_one, bytesA_plains, List.take_of_length_le, List.drop_of_length_le, Nat.add_zero, V.one, Nat.reduceLeDiff, List.all_cons, List.all_nil, ne_eq, not_false_eq_true, Nat.zero_le, hw, hlen, lw, gs_eq, ga_lt, ga_0, ga_k, List.length_set]; done)) | refine To.ret hxE5 ?_))
    refine ⟨_, _, finQT (i := 2) (n := 3) (j := 3) (l := o.length) (o := 0) rfl (by simp only [go_sem, eqs hxE5, reduceIte, Nat.reduceEqDiff, Nat.reduceAdd, Nat.reduceMul, Nat.reduceLT, Nat.reduceLeDiff, Int.reduceBEq, Int.reduceBNe]) (by simp only [go_sem, eqs hxE5, reduceIte, Nat.reduceEqDiff, Nat.reduceAdd, Nat.reduceMul, Nat.reduceLT, Nat.reduceLeDiff, Int.reduceBEq, Int.reduceBNe, Heap.gets, Heap.sets, Heap.get, bytesA_length, bytesA_one, bytesA_plains, List.take_of_length_le, List.drop_of_length_le, Nat.add_zero, V.one, Nat.reduceLeDiff, List.all_cons, List.all_nil, ne_eq, not_false_eq_true, Nat.zero_le, ga_0, ga_k]; try rfl), ?_, ?_⟩
    · simp only [go_sem, eqs hxE5, reduceIte, Nat.reduceEqDiff, Nat.reduceAdd, Nat.reduceMul, Nat.reduceLT, Nat.reduceLeDiff, Int.reduceBEq, Int.reduceBNe, hearVal]; try rfl
    · refine ⟨o, e, d, vL, vO, vN, ?_, h0, Rx.refl, fun _ _ _ => rfl⟩
      unfold leave
      rw [if_pos ⟨by simp only; omega, by simp only [go_sem, eqs hxE5, reduceIte, Nat.reduceEqDiff, Nat.reduceAdd, Nat.reduceMul, Nat.reduceLT, Nat.reduceLeDiff, Int.reduceBEq, Int.reduceBNe]⟩]
      simp only
      rw [if_pos (by omega)]
      rfl
  | cons x t =>
    simp only [List.length_cons] at hlen hN8
    obtain ⟨rfl, hx⟩ | ⟨l, ck, rfl, ho, hck⟩ := hN
    · simp at hx
    have hck' : ck = .gr := by
      rcases hck with h | ⟨_, h⟩
      · exact h
      · simp at h
    subst hck'
    rw [List.length_map, List.length_cons] at hw hlen
    have hnz : (((t.length + 1 : Nat) : Int) == 0) = false := by
      rw [beq_eq_false_iff_ne]; omega
    have lsl := get_lt ho
    have hwl := ne_of hw ho (by simp)
    have g0 : ∀ r e d, (⟨o ++ r, e, d⟩ : Heap).gets l 0 3 = some [.int .i64 x.k, .int .i64 x.i, .str x.nm] := fun r e d => by
      have e9 : ((x :: t).map Nt.cs).flatten = x.cs ++ rows3 t := rfl
      have h9 : x.cs.length = 3 := rfl
      simp only [Heap.gets, ga_lt lsl, ho, e9, List.drop_zero, List.length_append, h9]
      rw [if_neg (by decide), if_pos (by omega), List.take_left' h9]; rfl
    have ix : idxOf (t.length + 1) (.int .i64 0) = some 0 := idxOf_nat (n := t.length + 1) (i := 0) (by omega)
    have r2 : ∀ n, n ≤ 1000 → roomOk n 32 = true := fun n hn => decide_eq_true ⟨by unfold ok1; omega, by unfold ok1; omega⟩
    obtain ⟨y, hst, hyo, hyg⟩ := slL_from (o := o) (l := l) (k := 1) (n := t.length + 1) (s := 3) (xs := (x :: t).map Nt.cs) (x := .t 23) (y := .k (.int .i64 1)) ho (fun r hr => by obtain ⟨n, _, rfl⟩ := List.mem_map.1 hr; rfl) (by simp) (by decide) (by decide) (by omega)
    (repeat' (first | refine To.seq hxE5 ?_ | refine To.op0 hxE5 (by simp only [go_sem, eqs hxE5, reduceIte, Nat.reduceEqDiff, Nat.reduceAdd, Nat.reduceMul, Nat.reduceLT, Nat.reduceLeDiff, Int.reduceBEq, Int.reduceBNe, Heap.sets, Heap.get, bytesA_length, bytesA_one, bytesA_plains, List.take_of_length_le, List.drop_of_length_le, Nat.add_zero, V.one, Nat.reduceLeDiff, List.all_cons, List.all_nil, ne_eq, not_false_eq_true, Nat.zero_le, gs_ne, gs_eq, ga_lt, ga_0, ga_k, sa_lt, sa_0, sa_k, lw, lsl, List.length_set, hw, hlen, hnz, ix, g0]; rfl) ?_ | refine To.op1 hxE5 (by simp only [go_sem, eqs hxE5, reduceIte, Nat.reduceEqDiff, Nat.reduceAdd, Nat.reduceMul, Nat.reduceLT, Nat.reduceLeDiff, Int.reduceBEq, Int.reduceBNe, Heap.sets, Heap.get, bytesA_length, bytesA_one, bytesA_plains, List.take_of_length_le, List.drop_of_length_le, Nat.add_zero, V.one, Nat.reduceLeDiff, List.all_cons, List.all_nil, ne_eq, not_false_eq_true, Nat.zero_le, gs_ne, gs_eq, ga_lt, ga_0, ga_k, sa_lt, sa_0, sa_k, lw, lsl, List.length_set, hw, hlen, hnz, ix, g0]; rfl) ?_ | refine To.nop hxE5 ?_ | (refine To.condF hxE5 ?_ ?_; focus (simp only [go_sem, eqs hxE5, reduceIte, Nat.reduceEqDiff, Nat.reduceAdd, Nat.reduceMul, Nat.reduceLT, Nat.reduceLeDiff, Int.reduceBEq, Int.reduceBNe, Heap.sets, Heap.get, bytesA_length, bytesA_one, bytesA_plains, List.take_of_length_le, List.drop_of_length_le, Nat.add_zero, V.one, Nat.reduceLeDiff, List.all_cons, List.all_nil, ne_eq, not_false_eq_true, Nat.zero_le, gs_ne, gs_eq, ga_lt, ga_0, ga_k, sa_lt, sa_0, sa_k, lw, lsl, List.length_set, hw, hlen, hnz, ix, g0]; done)) | refine To.skip hxE5 ?_))
    refine To.op hxE5 (by rw [o_slL, hst _ _ _ _ rfl rfl]) ?_
    simp only [Option.getD_none]
    obtain ⟨v2, oh2, happ, rs, hgd, _, _, l2, ck2, rfl, ho2, hc2, hl2⟩ := app_lit (o := o ++ [AM.Obj.cells .ex 40 0 [.int .i64 0, .int .i64 0, .str []], AM.Obj.cells .ex 40 0 [.int .i64 x.k, .int .i64 x.i, .str x.nm], AM.Obj.cells .ex 40 0 []]) (e := o.length) (d := min o.length (o.length + 1)) (t := 40) (s := 3) (b := 32) (a := o.length + 2) (n := t.length) (new := rows3 t) (by rw [ga_k rfl]; rfl) (by decide) (rows3_len t) (r2 _ (by omega))
    have hl2' : o.length + 2 ≤ l2 := by
      rcases hl2 with h | h
      · omega
      · rw [h, List.length_append]; simp
    have hy3 : (t.length = 0 ∧ rows3 t = [] ∧ (y = .nils ∨ ∃ a b c d, y = .esl a b c d)) ∨ ∃ l o9, y = .slice l o9 t.length 3 ∧ (⟨o ++ [AM.Obj.cells .ex 40 0 [.int .i64 0, .int .i64 0, .str []], AM.Obj.cells .ex 40 0 [.int .i64 x.k, .int .i64 x.i, .str x.nm], AM.Obj.cells .ex 40 0 []], o.length, min o.length (o.length + 1)⟩ : Heap).gets l o9 (t.length * 3) = some (rows3 t) ∧ (rows3 t).all V.one = true := by
      have := hyg [AM.Obj.cells .ex 40 0 [.int .i64 0, .int .i64 0, .str []], AM.Obj.cells .ex 40 0 [.int .i64 x.k, .int .i64 x.i, .str x.nm], AM.Obj.cells .ex 40 0 []] o.length (min o.length (o.length + 1))
      rw [Nat.add_sub_cancel] at this
      rcases this with ⟨a, b, c⟩ | ⟨a, b, c, f⟩
      · exact .inl ⟨a, b, .inr c⟩
      · exact .inr ⟨a, b, c, f, rows3_one t⟩
    refine To.op hxE5 (by rw [o_app, app_step rfl rfl hy3 happ]) ?_
    rw [hgd]
    (repeat' (first | refine To.seq hxE5 ?_ | refine To.op0 hxE5 (by simp only [go_sem, eqs hxE5, reduceIte, Nat.reduceEqDiff, Nat.reduceAdd, Nat.reduceMul, Nat.reduceLT, Nat.reduceLeDiff, Int.reduceBEq, Int.reduceBNe, Heap.gets, Heap.sets, Heap.get, bytesA_length, bytesA_one, bytesA_plains, List.take_of_length_le, List.drop_of_length_le, Nat.add_zero, V.one, Nat.reduceLeDiff, List.all_cons, List.all_nil, ne_eq, not_false_eq_true, Nat.zero_le, gs_ne, gs_eq, ga_lt, ga_0, ga_k, sa_lt, sa_0, sa_k, lw, lsl, List.length_set, hw]; rfl) ?_ | refine To.op1 hxE5 (by simp only [go_sem, eqs hxE5, reduceIte, Nat.reduceEqDiff, Nat.reduceAdd, Nat.reduceMul, Nat.reduceLT, Nat.reduceLeDiff, Int.reduceBEq, Int.reduceBNe, Heap.gets, Heap.sets, Heap.get, bytesA_length, bytesA_one, bytesA_plains, List.take_of_length_le, List.drop_of_length_le, Nat.add_zero, V.one, Nat.reduceLeDiff, List.all_cons, List.all_nil, ne_eq, not_false_eq_true, Nat.zero_le, gs_ne, gs_eq, ga_lt, ga_0, ga_k, sa_lt, sa_0, sa_k, lw, lsl, List.length_set, hw]; rfl) ?_ | refine To.nop hxE5 ?_ | refine To.ret hxE5 ?_))
    refine ⟨_, _, finQT (i := 2) (n := 3) (j := 3) (l := o.length) (o := 0) rfl (by simp only [go_sem, eqs hxE5, reduceIte, Nat.reduceEqDiff, Nat.reduceAdd, Nat.reduceMul, Nat.reduceLT, Nat.reduceLeDiff, Int.reduceBEq, Int.reduceBNe]) (by simp only [go_sem, eqs hxE5, reduceIte, Nat.reduceEqDiff, Nat.reduceAdd, Nat.reduceMul, Nat.reduceLT, Nat.reduceLeDiff, Int.reduceBEq, Int.reduceBNe, Heap.gets, Heap.sets, Heap.get, bytesA_length, bytesA_one, bytesA_plains, List.take_of_length_le, List.drop_of_length_le, Nat.add_zero, V.one, Nat.reduceLeDiff, List.all_cons, List.all_nil, ne_eq, not_false_eq_true, Nat.zero_le, ga_0, ga_k, List.length_set]; try rfl), ?_, ?_⟩
    · simp only [go_sem, eqs hxE5, reduceIte, Nat.reduceEqDiff, Nat.reduceAdd, Nat.reduceMul, Nat.reduceLT, Nat.reduceLeDiff, Int.reduceBEq, Int.reduceBNe, hearVal]; try rfl
    · have hn2 := ho2
      rw [List.append_assoc] at hn2
      refine close_rk (h' := ⟨_, _, _⟩) (vL' := vL) (vO' := vO) (vN' := .slice l2 0 t.length 3) ⟨?_, hL.keep hw (by decide) _ _, hO.keep hw (by decide) _ _, ?_⟩ ((Rx.set _).trans (Rx.app _)) ?_ ?_
      · rw [ga_lt (by simpa using lw), gs_eq lw]
      · refine Rw.mk' ⟨l2, ck2, rfl, ?_, hc2⟩ (by simp) rfl
        obtain ⟨j, rfl⟩ : ∃ j, l2 = o.length + (j + 2) := ⟨l2 - o.length - 2, by omega⟩
        have hn3 := (ga_k (o := o) (n := o.length) (k := j + 2) rfl).symm.trans hn2
        simp only [List.cons_append, List.nil_append, List.getElem?_cons_succ] at hn3
        rw [ga_k (by simp)]
        simp only [List.getElem?_cons_succ]
        exact hn3
      · simp only; omega
      · intro z hz hzw
        simp only
        rw [ga_lt (by simpa using hz), gs_ne (Ne.symm hzw)]
end
end Go.Proofs.Ytjbblfoefibeaaa

/- Queues: the law's plain notices. -/
namespace Go.Proofs.Ytjbblfoefibeaaa
open Go AM
set_option linter.unusedSimpArgs false
set_option linter.unusedVariables false
set_option maxRecDepth 100000

section
variable {o : List AM.Obj} {e d : Nat}
set_option maxHeartbeats 16000000 in
theorem plain_q {v : V} {ns : List Nt} (hv : RoRows o v 3 (ns.map Nt.cs)) (hl : ns.length ≤ 1000) :
    ∃ r oh, Den FF E5 45 [v] ⟨o, e, d⟩ = some (r, oh) ∧ ∃ v' o' e' d', r = .val v' ∧ oh.getD ⟨o, e, d⟩ = ⟨o', e', d'⟩ ∧
      (∀ x, x < o.length → o'[x]? = o[x]?) ∧ o.length ≤ o'.length ∧ ((v' = .nils ∧ ns = []) ∨ ∃ l, o.length ≤ l ∧ v' = .slice l 0 ns.length 3 ∧ o'[l]? = some (.cells .gr 40 0 (rows3 ns))) := by
  refine To.denE hxE5 (f := 45) (a := af45) rfl (E5_none rfl) (Nat.le_of_ble_eq_true rfl) ?_
  have hlen := hv.len
  rw [List.length_map] at hlen
  (repeat' (first | refine To.seq hxE5 ?_ | refine To.op0 hxE5 (by simp only [go_sem, eqs hxE5, reduceIte, Nat.reduceEqDiff, Nat.reduceAdd, Nat.reduceMul, Nat.reduceLT, Nat.reduceLeDiff, Int.reduceLT, Int.reduceLE, Int.reduceEq, reduceCtorEq, Int.reduceBEq, Int.reduceBNe, hlen]; rfl) ?_ | refine To.nop hxE5 ?_ | refine To.block hxE5 ?_))
  refine To.loop hxE5 (fun k S h' => ∃ i o' d' v', i + k = ns.length ∧ h' = ⟨o', o.length, d'⟩ ∧ (∀ x, x < o.length → o'[x]? = o[x]?) ∧ o.length ≤ o'.length ∧ ((i = 0 ∧ v' = .nils ∧ o' = o ∧ d' = o.length) ∨ (0 < i ∧ ∃ l, o.length ≤ l ∧ v' = .slice l 0 i 3 ∧ o'[l]? = some (.cells .gr 40 0 (rows3 (ns.take i))))) ∧ S 3 = v' ∧ S 6 = v ∧ S 7 = .int .i64 (ns.length : Int) ∧ S 8 = .int .i64 (i : Int)) ?_ ns.length _ _ ?_
  · rintro k S _ ⟨i, o', d', v', hk, rfl, hold, hle, hv', s3, s6, s7, s8⟩
    by_cases hi : i < ns.length
    · have hlt : decide ((i : Int) < (ns.length : Int)) = true := by simp; omega
      obtain ⟨n, hn⟩ : ∃ n, ns[i]? = some n := ⟨ns[i], List.getElem?_eq_getElem hi⟩
      have hn2 : (ns.map Nt.cs)[i]? = some n.cs := by rw [List.getElem?_map, hn]; rfl
      obtain ⟨x, off, t, all, rfl, hx, b1, b2⟩ := hv.idx hn2
      have hx' := (hold x (get_lt hx)).trans hx
      unfold Nt.cs at b1
      have hix : idxOf (ns.map Nt.cs).length (.int .i64 (i : Int)) = some i := idxOf_nat (by simpa using hi)
      have w1 : IntKind.i64.wrap ((i : Int) + 1) = ((i + 1 : Nat) : Int) := by rw [wrap_i64 (by omega) (by omega)]; omega
      have htk : rows3 (ns.take (i + 1)) = rows3 (ns.take i) ++ n.cs := by
        rw [List.take_add_one, hn, Option.toList_some]; simp [rows3]
      rcases hv' with ⟨h00, rfl, rfl, rfl⟩ | ⟨h0, l, hl', rfl, ho⟩
      · have r1 := room32 (n := 1) (by omega)
        (repeat' (first | refine To.seq hxE5 ?_ | refine To.op0 hxE5 (by simp only [go_sem, eqs hxE5, reduceIte, Nat.reduceEqDiff, Nat.reduceAdd, Nat.reduceMul, Nat.reduceLT, Nat.reduceLeDiff, Int.reduceLT, Int.reduceLE, Int.reduceEq, reduceCtorEq, Int.reduceBEq, Int.reduceBNe, Heap.gets, Heap.sets, Heap.get, bytesA_length, bytesA_one, bytesA_plains, List.take_of_length_le, List.drop_of_length_le, Nat.add_zero, V.one, Nat.reduceLeDiff, List.all_cons, List.all_nil, ne_eq, not_false_eq_true, Nat.zero_le, s3, s6, s7, s8, hlt, hix, hx', b1, b2, w1, ga_lt, ga_0, ga_k, sa_lt, sa_0, sa_k, r1]; rfl) ?_ | refine To.op1 hxE5 (by simp only [go_sem, eqs hxE5, reduceIte, Nat.reduceEqDiff, Nat.reduceAdd, Nat.reduceMul, Nat.reduceLT, Nat.reduceLeDiff, Int.reduceLT, Int.reduceLE, Int.reduceEq, reduceCtorEq, Int.reduceBEq, Int.reduceBNe, Heap.gets, Heap.sets, Heap.get, bytesA_length, bytesA_one, bytesA_plains, List.take_of_length_le, List.drop_of_length_le, Nat.add_zero, V.one, Nat.reduceLeDiff, List.all_cons, List.all_nil, ne_eq, not_false_eq_true, Nat.zero_le, s3, s6, s7, s8, hlt, hix, hx', b1, b2, w1, ga_lt, ga_0, ga_k, sa_lt, sa_0, sa_k, r1]; rfl) ?_ | refine To.nop hxE5 ?_ | (refine To.condT hxE5 ?_ ?_; focus (simp only [go_sem, eqs hxE5, reduceIte, Nat.reduceEqDiff, Nat.reduceAdd, Nat.reduceMul, Nat.reduceLT, Nat.reduceLeDiff, Int.reduceLT, Int.reduceLE, Int.reduceEq, reduceCtorEq, Int.reduceBEq, Int.reduceBNe, Heap.gets, Heap.sets, Heap.get, bytesA_length, bytesA_one, bytesA_plains, List.take_of_length_le, List.drop_of_length_le, Nat.add_zero, V.one, Nat.reduceLeDiff, List.all_cons, List.all_nil, ne_eq, not_false_eq_true, Nat.zero_le, s3, s6, s7, s8, hlt, hix, hx', b1, b2, w1, ga_lt, ga_0, ga_k, sa_lt, sa_0, sa_k, r1]; done)) | refine To.block hxE5 ?_ | refine To.skip hxE5 ?_))
        try simp only [andThen, outOf, Heap.new, List.append_assoc, List.cons_append, List.nil_append]
        refine ⟨k - 1, by omega, i + 1, _, _, .slice (o'.length + 2) 0 1 3, by omega, rfl, fun z hz => ga_lt hz, by simp, .inr ⟨by omega, o'.length + 2, by omega, by rw [h00], ?_⟩, ?_⟩
        · rw [ga_k rfl, htk, h00]; simp [Nt.cs, rows3]
        · simp only [go_sem, eqs hxE5, reduceIte, Nat.reduceEqDiff, Nat.reduceAdd, Nat.reduceMul, Nat.reduceLT, Nat.reduceLeDiff, Int.reduceLT, Int.reduceLE, Int.reduceEq, reduceCtorEq, Int.reduceBEq, Int.reduceBNe, s6, s7]
      · have hll := get_lt ho
        have a2 := app_gr (o := o' ++ [.cells .ex 39 0 n.cs, .cells .ex 40 0 n.cs]) (e := o.length) (d := min d' o'.length) (s := 3) (b := 32) (k := i) (j := 1) (new := n.cs) (app_old ho _) (by rw [rows3_len, List.length_take]; omega) (by decide) (by decide) (room32 (by omega))
        unfold Nt.cs at a2
        (repeat' (first | refine To.seq hxE5 ?_ | refine To.op0 hxE5 (by simp only [go_sem, eqs hxE5, reduceIte, Nat.reduceEqDiff, Nat.reduceAdd, Nat.reduceMul, Nat.reduceLT, Nat.reduceLeDiff, Int.reduceLT, Int.reduceLE, Int.reduceEq, reduceCtorEq, Int.reduceBEq, Int.reduceBNe, Heap.gets, Heap.sets, Heap.get, bytesA_length, bytesA_one, bytesA_plains, List.take_of_length_le, List.drop_of_length_le, Nat.add_zero, V.one, Nat.reduceLeDiff, List.all_cons, List.all_nil, ne_eq, not_false_eq_true, Nat.zero_le, s3, s6, s7, s8, hlt, hix, hx', b1, b2, w1, ga_lt, ga_0, ga_k, sa_lt, sa_0, sa_k, a2, hll]; rfl) ?_ | refine To.op1 hxE5 (by simp only [go_sem, eqs hxE5, reduceIte, Nat.reduceEqDiff, Nat.reduceAdd, Nat.reduceMul, Nat.reduceLT, Nat.reduceLeDiff, Int.reduceLT, Int.reduceLE, Int.reduceEq, reduceCtorEq, Int.reduceBEq, Int.reduceBNe, Heap.gets, Heap.sets, Heap.get, bytesA_length, bytesA_one, bytesA_plains, List.take_of_length_le, List.drop_of_length_le, Nat.add_zero, V.one, Nat.reduceLeDiff, List.all_cons, List.all_nil, ne_eq, not_false_eq_true, Nat.zero_le, s3, s6, s7, s8, hlt, hix, hx', b1, b2, w1, ga_lt, ga_0, ga_k, sa_lt, sa_0, sa_k, a2, hll]; rfl) ?_ | refine To.nop hxE5 ?_ | (refine To.condT hxE5 ?_ ?_; focus (simp only [go_sem, eqs hxE5, reduceIte, Nat.reduceEqDiff, Nat.reduceAdd, Nat.reduceMul, Nat.reduceLT, Nat.reduceLeDiff, Int.reduceLT, Int.reduceLE, Int.reduceEq, reduceCtorEq, Int.reduceBEq, Int.reduceBNe, Heap.gets, Heap.sets, Heap.get, bytesA_length, bytesA_one, bytesA_plains, List.take_of_length_le, List.drop_of_length_le, Nat.add_zero, V.one, Nat.reduceLeDiff, List.all_cons, List.all_nil, ne_eq, not_false_eq_true, Nat.zero_le, s3, s6, s7, s8, hlt, hix, hx', b1, b2, w1, ga_lt, ga_0, ga_k, sa_lt, sa_0, sa_k, a2, hll]; done)) | refine To.block hxE5 ?_ | refine To.skip hxE5 ?_))
        try simp only [andThen, outOf, Heap.new, List.append_assoc, List.cons_append, List.nil_append]
        refine ⟨k - 1, by omega, i + 1, _, _, .slice (o'.length + 2) 0 (i + 1) 3, by omega, rfl, fun z hz => ?_, ?_, .inr ⟨by omega, o'.length + 2, by omega, rfl, ?_⟩, ?_⟩
        · rw [ga_lt (by simp; omega), gs_ne (by omega)]; exact hold z hz
        · simp; omega
        · rw [ga_k (by simp), htk]; rfl
        · simp only [go_sem, eqs hxE5, reduceIte, Nat.reduceEqDiff, Nat.reduceAdd, Nat.reduceMul, Nat.reduceLT, Nat.reduceLeDiff, Int.reduceLT, Int.reduceLE, Int.reduceEq, reduceCtorEq, Int.reduceBEq, Int.reduceBNe, s6, s7]
    · have hlt : decide ((i : Int) < (ns.length : Int)) = false := by simp; omega
      (repeat' (first | refine To.seq hxE5 ?_ | refine To.op0 hxE5 (by simp only [go_sem, eqs hxE5, reduceIte, Nat.reduceEqDiff, Nat.reduceAdd, Nat.reduceMul, Nat.reduceLT, Nat.reduceLeDiff, Int.reduceLT, Int.reduceLE, Int.reduceEq, reduceCtorEq, Int.reduceBEq, Int.reduceBNe, s3, s6, s7, s8, hlt]; rfl) ?_ | refine To.nop hxE5 ?_ | (refine To.condF hxE5 ?_ ?_; focus (simp only [go_sem, eqs hxE5, reduceIte, Nat.reduceEqDiff, Nat.reduceAdd, Nat.reduceMul, Nat.reduceLT, Nat.reduceLeDiff, Int.reduceLT, Int.reduceLE, Int.reduceEq, reduceCtorEq, Int.reduceBEq, Int.reduceBNe, s3, s6, s7, s8, hlt]; done)) | refine To.ret hxE5 ?_ | refine To.exit hxE5 ?_))
      refine ⟨_, _, fin1 (i := 2) rfl, ?_⟩
      rcases hv' with ⟨rfl, rfl, rfl, rfl⟩ | ⟨h0, l, hl', rfl, ho⟩
      · refine ⟨.nils, o', e, d, by simp only [go_sem, eqs hxE5, reduceIte, Nat.reduceEqDiff, Nat.reduceAdd, Nat.reduceMul, Nat.reduceLT, Nat.reduceLeDiff, Int.reduceLT, Int.reduceLE, Int.reduceEq, reduceCtorEq, Int.reduceBEq, Int.reduceBNe, s3], ?_, fun _ _ => rfl, Nat.le_refl _, .inl ⟨rfl, List.length_eq_zero_iff.1 (show ns.length = 0 by omega)⟩⟩
        simp only [go_sem, eqs hxE5, reduceIte, Nat.reduceEqDiff, Nat.reduceAdd, Nat.reduceMul, Nat.reduceLT, Nat.reduceLeDiff, Int.reduceLT, Int.reduceLE, Int.reduceEq, reduceCtorEq, Int.reduceBEq, Int.reduceBNe, s3]
        try rfl
      · refine ⟨.slice l 0 i 3, o', min e o.length, min d d', by simp only [go_sem, eqs hxE5, reduceIte, Nat.reduceEqDiff, Nat.reduceAdd, Nat.reduceMul, Nat.reduceLT, Nat.reduceLeDiff, Int.reduceLT, Int.reduceLE, Int.reduceEq, reduceCtorEq, Int.reduceBEq, Int.reduceBNe, s3], ?_, hold, hle, .inr ⟨l, hl', by rw [show i = ns.length by omega], by rw [ho, List.take_of_length_le (by omega)]⟩⟩
        simp only [go_sem, eqs hxE5, reduceIte, Nat.reduceEqDiff, Nat.reduceAdd, Nat.reduceMul, Nat.reduceLT, Nat.reduceLeDiff, Int.reduceLT, Int.reduceLE, Int.reduceEq, reduceCtorEq, Int.reduceBEq, Int.reduceBNe, s3]
        try rfl
  · refine ⟨0, o, _, .nils, by omega, rfl, fun _ _ => rfl, Nat.le_refl _, .inl ⟨rfl, rfl, rfl, rfl⟩, ?_⟩
    simp only [go_sem, eqs hxE5, reduceIte, Nat.reduceEqDiff, Nat.reduceAdd, Nat.reduceMul, Nat.reduceLT, Nat.reduceLeDiff, Int.reduceLT, Int.reduceLE, Int.reduceEq, reduceCtorEq, Int.reduceBEq, Int.reduceBNe]
end
end Go.Proofs.Ytjbblfoefibeaaa

/- Queues: the document's queue: tell. -/
namespace Go.Proofs.Ytjbblfoefibeaaa
open Go AM
set_option linter.unusedSimpArgs false
set_option linter.unusedVariables false
set_option maxRecDepth 100000

theorem rows3_plain : ∀ l, V.plains (rows3 l) = true
  | [] => rfl
  | x :: l => by
    have e : rows3 (x :: l) = x.cs ++ rows3 l := rfl
    rw [e, plains_app, rows3_plain l]; rfl
theorem Rw.src {o r : List AM.Obj} {e9 d9 t e : Nat} {v : V} {xs : List (List V)} {n : Nat} {rows : List V} (h : Rw o v t e xs) (hn : n = xs.length) (hr : rows = xs.flatten) (hl : rows.length = n * e) (h1 : rows.all V.one = true) :
    (n = 0 ∧ rows = [] ∧ (v = .nils ∨ ∃ a b c d, v = .esl a b c d)) ∨ ∃ l o', v = .slice l o' n e ∧ (⟨o ++ r, e9, d9⟩ : Heap).gets l o' (n * e) = some rows ∧ rows.all V.one = true := by
  subst hn hr
  obtain ⟨rfl, rfl⟩ | ⟨l, ck, rfl, ho, _⟩ := h
  · exact .inl ⟨rfl, rfl, .inl rfl⟩
  · refine .inr ⟨l, 0, rfl, ?_, h1⟩
    unfold Heap.gets
    by_cases h0 : xs.length * e = 0
    · rw [if_pos h0, List.length_eq_zero_iff.1 (by omega : xs.flatten.length = 0)]
    · rw [if_neg h0]
      simp only [ga_lt (get_lt ho), ho]
      rw [if_pos (by omega), List.drop_zero, List.take_of_length_le (by omega)]
theorem RQ.lost' {o : List AM.Obj} {w : Nat} {vL vO vN : V} {L : List (Rq × Bool)} {O : List Rq} {N : List Nt} {last : Int} {lost : Bool} (h : RQ o w vL vO vN L O N last lost) (b : Bool) : RQ (o.set w (.cells .ex 85 0 [vL, vO, vN, .int .i64 last, .bool b])) w vL vO vN L O N last b := by
  obtain ⟨hw, hL, hO, hN⟩ := h
  refine ⟨gs_eq (get_lt hw), hL.of fun l ck cs hl => ?_, hO.of fun l ck cs hl => ?_, hN.of fun l ck cs hl => ?_⟩
  all_goals rw [gs_ne (ne_of hw hl (by simp))]; exact hl
section
variable {o : List AM.Obj} {e d w : Nat} {vL vO vN : V} {L : List (Rq × Bool)} {O : List Rq} {N : List Nt} {last : Int} {lost : Bool}
set_option maxHeartbeats 16000000 in
theorem rtell {v : V} {l : List Nt} {lA : Nat} (h : RQ o w vL vO vN L O N last lost) (hN8 : N.length ≤ 16) (hl8 : l.length ≤ 1000) (hv : (v = .nils ∧ l = []) ∨ (v = .slice lA 0 l.length 3 ∧ o[lA]? = some (.cells .gr 40 0 (rows3 l)) ∧ ∀ l3 a b c, vN = .slice l3 a b c → l3 < lA)) :
    ∃ r oh, Den FF E5 44 [.ptr w 0, v] ⟨o, e, d⟩ = some (r, oh) ∧ r = .val (.int .i64 (((tellF l N lost).2.2 : Nat) : Int)) ∧ ∃ o' e' d' vL' vO' vN', oh.getD ⟨o, e, d⟩ = ⟨o', e', d'⟩ ∧
      RQ o' w vL' vO' vN' L O (tellF l N lost).1 last (tellF l N lost).2.1 ∧ Rx w o o' := by
  refine To.denE hxE5 (f := 44) (a := af44) rfl (E5_none rfl) (Nat.le_of_ble_eq_true rfl) ?_
  have hlA : lenLV v = some (.int .i64 (l.length : Int), none) := by
    rcases hv with ⟨rfl, rfl⟩ | ⟨rfl, _⟩ <;> rfl
  (repeat' (first | refine To.seq hxE5 ?_ | refine To.op0 hxE5 (by simp only [go_sem, eqs hxE5, reduceIte, Nat.reduceEqDiff, Nat.reduceAdd, Nat.reduceMul, Nat.reduceLT, Nat.reduceLeDiff, Int.reduceLT, Int.reduceLE, Int.reduceEq, reduceCtorEq, Int.reduceBEq, Int.reduceBNe]; rfl) ?_ | refine To.nop hxE5 ?_ | refine To.block hxE5 ?_))
  refine To.loop hxE5 (fun k S h' => ∃ i o' e' d' vN' s, i + k = l.length ∧ h' = ⟨o', e', d'⟩ ∧ s = (l.take i).foldl tell1 (N, lost, 0) ∧ RQ o' w vL vO vN' L O s.1 last s.2.1 ∧ s.1.length ≤ 16 ∧ Rx w o o' ∧ (v = .nils ∨ (o'[lA]? = some (.cells .gr 40 0 (rows3 l)) ∧ ∀ l3 a b c, vN' = .slice l3 a b c → l3 ≠ lA)) ∧ (e' < o.length ∨ (e' = o.length ∧ o'.length = o.length ∧ (d' < o.length ∨ (o' = o ∧ d' = o.length ∧ s.1 = N ∧ s.2.1 = lost ∧ vN' = vN)))) ∧ S 0 = .ptr w 0 ∧ S 1 = v ∧ S 5 = .int .i64 (s.2.2 : Int) ∧ S 6 = .int .i64 (i : Int)) ?_ l.length _ _ ?_
  · rintro k S _ ⟨i, o', e', d', vN', s, hk, rfl, hs, hR', hs16, hX', hA, hE, s0, s1, s5, s6⟩
    have hw' := hR'.hw
    have lw' := get_lt hw'
    have lw := get_lt h.hw
    have hlen' := hR'.hN.len
    rw [List.length_map] at hlen'
    have hXl := hX'.len
    by_cases hi : i < l.length
    · have hlt : decide ((i : Int) < (l.length : Int)) = true := by simp; omega
      obtain ⟨n, hn⟩ : ∃ n, l[i]? = some n := ⟨l[i], List.getElem?_eq_getElem hi⟩
      rcases hv with ⟨rfl, rfl⟩ | ⟨rfl, _, _⟩
      · simp at hi
      obtain ⟨hA', hAN⟩ : o'[lA]? = some (.cells .gr 40 0 (rows3 l)) ∧ ∀ l3 a b c, vN' = .slice l3 a b c → l3 ≠ lA := by
        rcases hA with h | h
        · cases h
        · exact h
      have lsA := get_lt hA'
      have hwA := ne_of hw' hA' (by simp)
      have gA : ∀ r e d, (⟨o' ++ r, e, d⟩ : Heap).gets lA (i * 3) 3 = some n.cs := by
        intro r e d
        simp only [Heap.gets, ga_lt lsA, hA', rows3_len]
        rw [if_neg (by decide), if_pos (by omega)]
        have e1 : l = l.take i ++ n :: l.drop (i + 1) := by
          have h2 : l[i] = n := by
            have := List.getElem?_eq_getElem hi
            rw [hn] at this; exact (Option.some.inj this).symm
          rw [← h2, ← List.drop_eq_getElem_cons hi, List.take_append_drop]
        have e2 : rows3 l = rows3 (l.take i) ++ (n.cs ++ rows3 (l.drop (i + 1))) := by
          have : rows3 (l.take i ++ n :: l.drop (i + 1)) = rows3 (l.take i) ++ (n.cs ++ rows3 (l.drop (i + 1))) := by simp [rows3]
          rw [← e1] at this; exact this
        rw [e2, List.drop_left' (by rw [rows3_len, List.length_take]; omega), List.take_left' (show n.cs.length = 3 from rfl)]
      have hix : idxOf l.length (.int .i64 (i : Int)) = some i := idxOf_nat hi
      have w1 : IntKind.i64.wrap ((i : Int) + 1) = ((i + 1 : Nat) : Int) := by rw [wrap_i64 (by omega) (by omega)]; omega
      have hcl := tell_len (l.take i) (N, lost, 0)
      rw [← hs] at hcl
      have hcl2 : s.2.2 ≤ i := by simp only [List.length_take] at hcl; omega
      have w2 : IntKind.i64.wrap (((s.2.2 : Nat) : Int) + 1) = ((s.2.2 + 1 : Nat) : Int) := by rw [wrap_i64 (by omega) (by omega)]; omega
      have qN : ∀ h, Den FF E5 18 [.agg [.int .i64 n.k, .int .i64 n.i, .str n.nm]] h = some (.val (.bool n.right), none) := fun h => eRNRight_5 n.k n.i n.nm h
      have hst : (l.take (i + 1)).foldl tell1 (N, lost, 0) = tell1 s n := by
        rw [List.take_add_one, hn, Option.toList_some, List.foldl_append, ← hs]; rfl
      have gA0 : ∀ e d, (⟨o', e, d⟩ : Heap).gets lA (i * 3) 3 = some n.cs := fun e d => by
        have := gA [] e d
        rwa [List.append_nil] at this
      unfold Nt.cs at gA gA0
      cases hr : n.right
      · rw [hr] at qN
        (repeat' (first | refine To.seq hxE5 ?_ | refine To.op0 hxE5 (by simp only [go_sem, eqs hxE5, reduceIte, Nat.reduceEqDiff, Nat.reduceAdd, Nat.reduceMul, Nat.reduceLT, Nat.reduceLeDiff, Int.reduceLT, Int.reduceLE, Int.reduceEq, reduceCtorEq, Int.reduceBEq, Int.reduceBNe, Heap.sets, Heap.get, bytesA_length, bytesA_one, bytesA_plains, List.take_of_length_le, List.drop_of_length_le, Nat.add_zero, V.one, Nat.reduceLeDiff, List.all_cons, List.all_nil, ne_eq, not_false_eq_true, Nat.zero_le, s0, s1, s5, s6, hlA, hlt, hix, hA', gA0, w1, w2, qN]; rfl) ?_ | refine To.nop hxE5 ?_ | (refine To.condT hxE5 ?_ ?_; focus (simp only [go_sem, eqs hxE5, reduceIte, Nat.reduceEqDiff, Nat.reduceAdd, Nat.reduceMul, Nat.reduceLT, Nat.reduceLeDiff, Int.reduceLT, Int.reduceLE, Int.reduceEq, reduceCtorEq, Int.reduceBEq, Int.reduceBNe, Heap.sets, Heap.get, bytesA_length, bytesA_one, bytesA_plains, List.take_of_length_le, List.drop_of_length_le, Nat.add_zero, V.one, Nat.reduceLeDiff, List.all_cons, List.all_nil, ne_eq, not_false_eq_true, Nat.zero_le, s0, s1, s5, s6, hlA, hlt, hix, hA', gA0, w1, w2, qN]; done)) | refine To.block hxE5 ?_ | refine To.exit hxE5 ?_ | refine To.skip hxE5 ?_))
        try simp only [andThen, outOf]
        have ht : tell1 s n = s := by unfold tell1; rw [hr]; rfl
        refine ⟨k - 1, by omega, i + 1, _, _, _, vN', tell1 s n, by omega, rfl, hst.symm, by rw [ht]; exact hR', by rw [ht]; exact hs16, hX', hA, by rw [ht]; exact hE, ?_⟩
        rw [ht]; simp only [go_sem, eqs hxE5, reduceIte, Nat.reduceEqDiff, Nat.reduceAdd, Nat.reduceMul, Nat.reduceLT, Nat.reduceLeDiff, Int.reduceLT, Int.reduceLE, Int.reduceEq, reduceCtorEq, Int.reduceBEq, Int.reduceBNe, s0, s1, s5]
      rw [hr] at qN
      by_cases h16 : s.1.length < 16
      · have h16' : decide (16 ≤ (s.1.length : Int)) = false := decide_eq_false (by omega)
        have hvo : V.only (okL o'.length 2 []) vN' = true := by
          rcases hR'.hN with ⟨rfl, _⟩ | ⟨l3, ck3, rfl, ho3, _⟩
          · rfl
          · simp only [V.only, okL, get_lt ho3, decide_true, Bool.true_or]
        have ht : tell1 s n = (s.1 ++ [n], s.2.1, s.2.2 + 1) := by unfold tell1; rw [hr, if_pos rfl, if_pos h16]
        (repeat' (first | refine To.seq hxE5 ?_ | refine To.op0 hxE5 (by simp only [go_sem, eqs hxE5, reduceIte, Nat.reduceEqDiff, Nat.reduceAdd, Nat.reduceMul, Nat.reduceLT, Nat.reduceLeDiff, Int.reduceLT, Int.reduceLE, Int.reduceEq, reduceCtorEq, Int.reduceBEq, Int.reduceBNe, Heap.sets, Heap.get, bytesA_length, bytesA_one, bytesA_plains, List.take_of_length_le, List.drop_of_length_le, Nat.add_zero, V.one, Nat.reduceLeDiff, List.all_cons, List.all_nil, ne_eq, not_false_eq_true, Nat.zero_le, s0, s1, s5, s6, hlA, hlt, hix, hA', gA, gA0, w1, w2, qN, hw', hlen', h16', lw', lsA, hwA, gs_ne, gs_eq, ga_lt, ga_0, ga_k, sa_lt, sa_0, sa_k, List.length_set, da_0, da_k, Nat.add_assoc, Nat.add_sub_add_left, Nat.add_sub_cancel_left, Nat.sub_self, List.contains_cons, all10, okL10]; rfl) ?_ | refine To.nop hxE5 ?_ | (refine To.condT hxE5 ?_ ?_; focus (simp only [go_sem, eqs hxE5, reduceIte, Nat.reduceEqDiff, Nat.reduceAdd, Nat.reduceMul, Nat.reduceLT, Nat.reduceLeDiff, Int.reduceLT, Int.reduceLE, Int.reduceEq, reduceCtorEq, Int.reduceBEq, Int.reduceBNe, Heap.sets, Heap.get, bytesA_length, bytesA_one, bytesA_plains, List.take_of_length_le, List.drop_of_length_le, Nat.add_zero, V.one, Nat.reduceLeDiff, List.all_cons, List.all_nil, ne_eq, not_false_eq_true, Nat.zero_le, s0, s1, s5, s6, hlA, hlt, hix, hA', gA, gA0, w1, w2, qN, hw', hlen', h16', lw', lsA, hwA, gs_ne, gs_eq, ga_lt, ga_0, ga_k, sa_lt, sa_0, sa_k, List.length_set, da_0, da_k, Nat.add_assoc, Nat.add_sub_add_left, Nat.add_sub_cancel_left, Nat.sub_self, List.contains_cons, all10, okL10]; done)) | (refine To.condF hxE5 ?_ ?_; focus (simp only [go_sem, eqs hxE5, reduceIte, Nat.reduceEqDiff, Nat.reduceAdd, Nat.reduceMul, Nat.reduceLT, Nat.reduceLeDiff, Int.reduceLT, Int.reduceLE, Int.reduceEq, reduceCtorEq, Int.reduceBEq, Int.reduceBNe, Heap.sets, Heap.get, bytesA_length, bytesA_one, bytesA_plains, List.take_of_length_le, List.drop_of_length_le, Nat.add_zero, V.one, Nat.reduceLeDiff, List.all_cons, List.all_nil, ne_eq, not_false_eq_true, Nat.zero_le, s0, s1, s5, s6, hlA, hlt, hix, hA', gA, gA0, w1, w2, qN, hw', hlen', h16', lw', lsA, hwA, gs_ne, gs_eq, ga_lt, ga_0, ga_k, sa_lt, sa_0, sa_k, List.length_set, da_0, da_k, Nat.add_assoc, Nat.add_sub_add_left, Nat.add_sub_cancel_left, Nat.sub_self, List.contains_cons, all10, okL10]; done)) | refine To.block hxE5 ?_ | refine To.skip hxE5 ?_ | refine ToD.op0 (by simp only [go_sem, eqs hxE5, reduceIte, Nat.reduceEqDiff, Nat.reduceAdd, Nat.reduceMul, Nat.reduceLT, Nat.reduceLeDiff, Int.reduceLT, Int.reduceLE, Int.reduceEq, reduceCtorEq, Int.reduceBEq, Int.reduceBNe, Heap.sets, Heap.get, bytesA_length, bytesA_one, bytesA_plains, List.take_of_length_le, List.drop_of_length_le, Nat.add_zero, V.one, Nat.reduceLeDiff, List.all_cons, List.all_nil, ne_eq, not_false_eq_true, Nat.zero_le, s0, s1, s5, s6, hlA, hlt, hix, hA', gA, gA0, w1, w2, qN, hw', hlen', h16', lw', lsA, hwA, gs_ne, gs_eq, ga_lt, ga_0, ga_k, sa_lt, sa_0, sa_k, List.length_set, da_0, da_k, Nat.add_assoc, Nat.add_sub_add_left, Nat.add_sub_cancel_left, Nat.sub_self, List.contains_cons, all10, okL10]; rfl) (by simp only [put_some, put_none]; rfl) ?_ | refine To.draw hxE5 (by decide) ?_ | fail))
        refine ToD.quietM rfl rfl (v := vN') (by simp only [go_sem, eqs hxE5, reduceIte, Nat.reduceEqDiff, Nat.reduceAdd, Nat.reduceMul, Nat.reduceLT, Nat.reduceLeDiff, Int.reduceLT, Int.reduceLE, Int.reduceEq, reduceCtorEq, Int.reduceBEq, Int.reduceBNe, Heap.gets, Heap.sets, Heap.get, bytesA_length, bytesA_one, bytesA_plains, List.take_of_length_le, List.drop_of_length_le, Nat.add_zero, V.one, Nat.reduceLeDiff, List.all_cons, List.all_nil, ne_eq, not_false_eq_true, Nat.zero_le, hw', ga_lt, lw']) hvo ?_
        (repeat' (first | refine ToD.op0 (by simp only [go_sem, eqs hxE5, reduceIte, Nat.reduceEqDiff, Nat.reduceAdd, Nat.reduceMul, Nat.reduceLT, Nat.reduceLeDiff, Int.reduceLT, Int.reduceLE, Int.reduceEq, reduceCtorEq, Int.reduceBEq, Int.reduceBNe, Heap.sets, Heap.get, bytesA_length, bytesA_one, bytesA_plains, List.take_of_length_le, List.drop_of_length_le, Nat.add_zero, V.one, Nat.reduceLeDiff, List.all_cons, List.all_nil, ne_eq, not_false_eq_true, Nat.zero_le, s0, s1, s5, s6, hlA, hlt, hix, hA', gA, gA0, w1, w2, qN, hw', hlen', h16', lw', lsA, hwA, gs_ne, gs_eq, ga_lt, ga_0, ga_k, sa_lt, sa_0, sa_k, List.length_set, da_0, da_k, Nat.add_assoc, Nat.add_sub_add_left, Nat.add_sub_cancel_left, Nat.sub_self, List.contains_cons, all10, okL10]; rfl) (by simp only [put_some, put_none]; rfl) ?_ | refine ToD.op1 (by simp only [go_sem, eqs hxE5, reduceIte, Nat.reduceEqDiff, Nat.reduceAdd, Nat.reduceMul, Nat.reduceLT, Nat.reduceLeDiff, Int.reduceLT, Int.reduceLE, Int.reduceEq, reduceCtorEq, Int.reduceBEq, Int.reduceBNe, Heap.sets, Heap.get, bytesA_length, bytesA_one, bytesA_plains, List.take_of_length_le, List.drop_of_length_le, Nat.add_zero, V.one, Nat.reduceLeDiff, List.all_cons, List.all_nil, ne_eq, not_false_eq_true, Nat.zero_le, s0, s1, s5, s6, hlA, hlt, hix, hA', gA, gA0, w1, w2, qN, hw', hlen', h16', lw', lsA, hwA, gs_ne, gs_eq, ga_lt, ga_0, ga_k, sa_lt, sa_0, sa_k, List.length_set, da_0, da_k, Nat.add_assoc, Nat.add_sub_add_left, Nat.add_sub_cancel_left, Nat.sub_self, List.contains_cons, all10, okL10]; rfl) (by simp only [put_some, put_none]; rfl) (by simp only [KD.app, go_sem, eqs hxE5, reduceIte, Nat.reduceEqDiff, Nat.reduceAdd, Nat.reduceMul, Nat.reduceLT, Nat.reduceLeDiff, Int.reduceLT, Int.reduceLE, Int.reduceEq, reduceCtorEq, Int.reduceBEq, Int.reduceBNe, Heap.sets, Heap.get, bytesA_length, bytesA_one, bytesA_plains, List.take_of_length_le, List.drop_of_length_le, Nat.add_zero, V.one, Nat.reduceLeDiff, List.all_cons, List.all_nil, ne_eq, not_false_eq_true, Nat.zero_le, s0, s1, s5, s6, hlA, hlt, hix, hA', gA, gA0, w1, w2, qN, hw', hlen', h16', lw', lsA, hwA, gs_ne, gs_eq, ga_lt, ga_0, ga_k, sa_lt, sa_0, sa_k, List.length_set, da_0, da_k, Nat.add_assoc, Nat.add_sub_add_left, Nat.add_sub_cancel_left, Nat.sub_self, List.contains_cons, all10, okL10]; rfl) ?_ | fail))
        have r2 : ∀ n, n ≤ 1000 → roomOk n 32 = true := fun n hn => decide_eq_true ⟨by unfold ok1; omega, by unfold ok1; omega⟩
        obtain ⟨v2, oh2, happ, rs, hgd, _, hrs, l2, ck2, rfl, ho2, hc2, hl2⟩ := app_lit (o := o' ++ [.cells .ex 40 0 [], .dead]) (e := o'.length) (d := o'.length) (t := 40) (s := 3) (b := 32) (a := o'.length) (n := s.1.length) (new := rows3 s.1) (by rw [ga_0 rfl]; rfl) (by decide) (rows3_len s.1) (r2 _ (by omega))
        refine ToD.appM rfl rfl rfl (by show (match stepV _ _ _ with | some (v, oh) => some (Out.val v, oh) | none => none) = _; rw [app_step rfl rfl (hR'.hN.src (by simp) rfl (rows3_len s.1) (rows3_one s.1)) happ]) hgd ?_ ?_ ?_ ?_ ?_
        · rw [V.only]
          rcases hl2 with rfl | rfl
          · simp [okL]
          · simp [okL]
        · have hd : (o' ++ [AM.Obj.cells .ex 40 0 [], AM.Obj.dead] ++ rs).drop o'.length = AM.Obj.cells .ex 40 0 [] :: AM.Obj.dead :: rs := by rw [List.append_assoc, List.drop_left' rfl]; rfl
          unfold Heap.only
          simp only
          rw [if_pos (Nat.le_refl _), hd, List.all_cons, List.all_cons, hrs (rows3_plain _)]
          rfl
        · simp only [deadKept, Nat.add_zero, Bool.and_true]
          rw [List.append_assoc, ga_0 rfl, ga_k rfl, ga_k rfl, ga_0 rfl]
          rfl
        · simp only [List.all_cons, List.all_nil, Bool.and_true]
          refine lookA_V (v := .agg [.int .i64 n.k, .int .i64 n.i, .str n.nm]) (d := 38) rfl rfl ?_ rfl
          simp only [go_sem, eqs hxE5, reduceIte, Nat.reduceEqDiff, Nat.reduceAdd, Nat.reduceMul, Nat.reduceLT, Nat.reduceLeDiff, Int.reduceLT, Int.reduceLE, Int.reduceEq, reduceCtorEq, Int.reduceBEq, Int.reduceBNe, gA, List.append_assoc]
          try rfl
        (repeat' (first | refine ToD.op1 (by simp only [go_sem, eqs hxE5, reduceIte, Nat.reduceEqDiff, Nat.reduceAdd, Nat.reduceMul, Nat.reduceLT, Nat.reduceLeDiff, Int.reduceLT, Int.reduceLE, Int.reduceEq, reduceCtorEq, Int.reduceBEq, Int.reduceBNe, Heap.sets, Heap.get, bytesA_length, bytesA_one, bytesA_plains, List.take_of_length_le, List.drop_of_length_le, Nat.add_zero, V.one, Nat.reduceLeDiff, List.all_cons, List.all_nil, ne_eq, not_false_eq_true, Nat.zero_le, s0, s1, s5, s6, hlA, hlt, hix, hA', gA, gA0, w1, w2, qN, hw', hlen', h16', lw', lsA, hwA, gs_ne, gs_eq, ga_lt, ga_0, ga_k, sa_lt, sa_0, sa_k, List.length_set, da_0, da_k, Nat.add_assoc, Nat.add_sub_add_left, Nat.add_sub_cancel_left, Nat.sub_self, List.contains_cons, all10, okL10]; rfl) (by simp only [put_some, put_none]; rfl) (by simp only [KD.app, go_sem, eqs hxE5, reduceIte, Nat.reduceEqDiff, Nat.reduceAdd, Nat.reduceMul, Nat.reduceLT, Nat.reduceLeDiff, Int.reduceLT, Int.reduceLE, Int.reduceEq, reduceCtorEq, Int.reduceBEq, Int.reduceBNe, Heap.sets, Heap.get, bytesA_length, bytesA_one, bytesA_plains, List.take_of_length_le, List.drop_of_length_le, Nat.add_zero, V.one, Nat.reduceLeDiff, List.all_cons, List.all_nil, ne_eq, not_false_eq_true, Nat.zero_le, s0, s1, s5, s6, hlA, hlt, hix, hA', gA, gA0, w1, w2, qN, hw', hlen', h16', lw', lsA, hwA, gs_ne, gs_eq, ga_lt, ga_0, ga_k, sa_lt, sa_0, sa_k, List.length_set, da_0, da_k, Nat.add_assoc, Nat.add_sub_add_left, Nat.add_sub_cancel_left, Nat.sub_self, List.contains_cons, all10, okL10]; rfl) ?_ | fail))
        have ho2' : (o' ++ AM.Obj.cells .ex 40 0 [] :: AM.Obj.cells .ex 40 0 [.int .i64 n.k, .int .i64 n.i, .str n.nm] :: rs)[l2]? = some (.cells ck2 40 0 (rows3 s.1)) := by
          rw [List.append_assoc] at ho2
          rcases hl2 with rfl | rfl
          · rw [ga_0 rfl] at ho2 ⊢; exact ho2
          · rw [List.length_append] at ho2 ⊢
            rw [ga_k rfl] at ho2 ⊢; exact ho2
        have hl2' : o'.length ≤ l2 := by
          rcases hl2 with h | h
          · omega
          · rw [h, List.length_append]; omega
        obtain ⟨v3, oh3, o3, d3, happ3, hgd3, hlen3, hold3, l3, ck3, rfl, ho3, hc3, hl3⟩ := app_more (e := o'.length) (d := o'.length) (b := 32) (k := 1) (new := [.int .i64 n.k, .int .i64 n.i, .str n.nm]) ho2' hc2 (rows3_len s.1) rfl (by decide) (r2 _ (by omega))
        have hold : ∀ x, x < o'.length → o3[x]? = o'[x]? := by
          intro x hx
          rw [hold3 x (by simp only [List.length_append]; omega) (by omega), ga_lt hx]
        have hl3' : o'.length ≤ l3 := by
          rcases hl3 with h | h
          · omega
          · rw [h, List.length_append]; omega
        have h3w : o3[w]? = _ := (hold w lw').trans hw'
        have lw3 := get_lt h3w
        have hwN : w ≠ o'.length := by omega
        have hwN1 : w ≠ o'.length + 1 := by omega
        have gL : (⟨(o' ++ AM.Obj.cells .ex 40 0 [] :: AM.Obj.cells .ex 40 0 [.int .i64 n.k, .int .i64 n.i, .str n.nm] :: rs), o'.length, o'.length⟩ : Heap).gets (o'.length + 1) 0 (1 * 3) = some [.int .i64 n.k, .int .i64 n.i, .str n.nm] := by
          simp only [Heap.gets, ga_k]; rfl
        refine ToD.appM rfl rfl rfl (by show (match stepV _ _ _ with | some (v, oh) => some (Out.val v, oh) | none => none) = _; rw [app_step rfl rfl (.inr ⟨o'.length + 1, 0, rfl, gL, rfl⟩) happ3]) hgd3 (V.only_of_ok (okL10 _) _) (all10 _ _) ?_ rfl ?_
        · simp only [deadKept, Nat.add_zero, Bool.and_true]
          rw [ga_0 rfl, ga_k rfl]
          rfl
        (repeat' (first | refine To.op0 hxE5 (by simp only [go_sem, eqs hxE5, reduceIte, Nat.reduceEqDiff, Nat.reduceAdd, Nat.reduceMul, Nat.reduceLT, Nat.reduceLeDiff, Int.reduceLT, Int.reduceLE, Int.reduceEq, reduceCtorEq, Int.reduceBEq, Int.reduceBNe, Heap.sets, Heap.get, bytesA_length, bytesA_one, bytesA_plains, List.take_of_length_le, List.drop_of_length_le, Nat.add_zero, V.one, Nat.reduceLeDiff, List.all_cons, List.all_nil, ne_eq, not_false_eq_true, Nat.zero_le, s0, s1, s5, s6, hlA, hlt, hix, hA', gA, gA0, w1, w2, qN, hw', hlen', h16', lw', lsA, hwA, gs_ne, gs_eq, ga_lt, ga_0, ga_k, sa_lt, sa_0, sa_k, List.length_set, da_0, da_k, Nat.add_assoc, Nat.add_sub_add_left, Nat.add_sub_cancel_left, Nat.sub_self, List.contains_cons, all10, okL10, h3w, lw3, hwN, hwN1, Bool.not_or_self]; rfl) ?_ | refine To.nop hxE5 ?_ | refine ToD.op0 (by simp only [go_sem, eqs hxE5, reduceIte, Nat.reduceEqDiff, Nat.reduceAdd, Nat.reduceMul, Nat.reduceLT, Nat.reduceLeDiff, Int.reduceLT, Int.reduceLE, Int.reduceEq, reduceCtorEq, Int.reduceBEq, Int.reduceBNe, Heap.sets, Heap.get, bytesA_length, bytesA_one, bytesA_plains, List.take_of_length_le, List.drop_of_length_le, Nat.add_zero, V.one, Nat.reduceLeDiff, List.all_cons, List.all_nil, ne_eq, not_false_eq_true, Nat.zero_le, s0, s1, s5, s6, hlA, hlt, hix, hA', gA, gA0, w1, w2, qN, hw', hlen', h16', lw', lsA, hwA, gs_ne, gs_eq, ga_lt, ga_0, ga_k, sa_lt, sa_0, sa_k, List.length_set, da_0, da_k, Nat.add_assoc, Nat.add_sub_add_left, Nat.add_sub_cancel_left, Nat.sub_self, List.contains_cons, all10, okL10, h3w, lw3, hwN, hwN1, Bool.not_or_self]; rfl) (by simp only [put_some, put_none]; rfl) ?_ | refine ToD.op1 (by simp only [go_sem, eqs hxE5, reduceIte, Nat.reduceEqDiff, Nat.reduceAdd, Nat.reduceMul, Nat.reduceLT, Nat.reduceLeDiff, Int.reduceLT, Int.reduceLE, Int.reduceEq, reduceCtorEq, Int.reduceBEq, Int.reduceBNe, Heap.sets, Heap.get, bytesA_length, bytesA_one, bytesA_plains, List.take_of_length_le, List.drop_of_length_le, Nat.add_zero, V.one, Nat.reduceLeDiff, List.all_cons, List.all_nil, ne_eq, not_false_eq_true, Nat.zero_le, s0, s1, s5, s6, hlA, hlt, hix, hA', gA, gA0, w1, w2, qN, hw', hlen', h16', lw', lsA, hwA, gs_ne, gs_eq, ga_lt, ga_0, ga_k, sa_lt, sa_0, sa_k, List.length_set, da_0, da_k, Nat.add_assoc, Nat.add_sub_add_left, Nat.add_sub_cancel_left, Nat.sub_self, List.contains_cons, all10, okL10, h3w, lw3, hwN, hwN1, Bool.not_or_self]; rfl) (by simp only [put_some, put_none]; rfl) (by simp only [KD.app, go_sem, eqs hxE5, reduceIte, Nat.reduceEqDiff, Nat.reduceAdd, Nat.reduceMul, Nat.reduceLT, Nat.reduceLeDiff, Int.reduceLT, Int.reduceLE, Int.reduceEq, reduceCtorEq, Int.reduceBEq, Int.reduceBNe, Heap.sets, Heap.get, bytesA_length, bytesA_one, bytesA_plains, List.take_of_length_le, List.drop_of_length_le, Nat.add_zero, V.one, Nat.reduceLeDiff, List.all_cons, List.all_nil, ne_eq, not_false_eq_true, Nat.zero_le, s0, s1, s5, s6, hlA, hlt, hix, hA', gA, gA0, w1, w2, qN, hw', hlen', h16', lw', lsA, hwA, gs_ne, gs_eq, ga_lt, ga_0, ga_k, sa_lt, sa_0, sa_k, List.length_set, da_0, da_k, Nat.add_assoc, Nat.add_sub_add_left, Nat.add_sub_cancel_left, Nat.sub_self, List.contains_cons, all10, okL10, h3w, lw3, hwN, hwN1, Bool.not_or_self]; rfl) ?_ | refine ToD.nop ?_))
        try simp only [andThen, outOf]
        refine ⟨k - 1, by omega, i + 1, _, _, _, .slice l3 0 (s.1.length + 1) 3, tell1 s n, by omega, rfl, hst.symm, ?_, ?_, ?_, .inr ⟨?_, ?_⟩, .inl ?_, ?_⟩
        · rw [ht]
          refine ⟨gs_eq lw3, ?_, ?_, ?_⟩
          · refine hR'.hL.of fun l9 ck9 cs9 h9 => ?_
            rw [gs_ne (ne_of hw' h9 (by simp)), hold _ (get_lt h9)]; exact h9
          · refine hR'.hO.of fun l9 ck9 cs9 h9 => ?_
            rw [gs_ne (ne_of hw' h9 (by simp)), hold _ (get_lt h9)]; exact h9
          · have ho4 : (o3.set w (AM.Obj.cells .ex 85 0 [vL, vO, .slice l3 0 (s.1.length + 1) 3, .int .i64 last, .bool s.2.1]))[l3]? = some (.cells ck3 40 0 (rows3 s.1 ++ [.int .i64 n.k, .int .i64 n.i, .str n.nm])) := by
              rw [gs_ne (ne_of h3w ho3 (by simp))]; exact ho3
            exact Rw.mk' ⟨l3, ck3, rfl, ho4, hc3⟩ (by simp) (by simp [rows3, Nt.cs])
        · rw [ht]; simp only [List.length_append, List.length_singleton]; omega
        · refine hX'.trans ⟨?_, fun z u hz hu hg => ?_⟩
          · rw [List.length_set]
            simp only [List.length_append] at hlen3
            omega
          · rw [gs_ne (Ne.symm hz), hold z (get_lt hu)]; exact hu
        · rw [gs_ne hwA, hold _ lsA]; exact hA'
        · rintro a b c d h
          cases h
          omega
        · omega
        · rw [ht]; simp only [go_sem, eqs hxE5, reduceIte, Nat.reduceEqDiff, Nat.reduceAdd, Nat.reduceMul, Nat.reduceLT, Nat.reduceLeDiff, Int.reduceLT, Int.reduceLE, Int.reduceEq, reduceCtorEq, Int.reduceBEq, Int.reduceBNe, s0, s1]
      · have h16' : decide (16 ≤ (s.1.length : Int)) = true := decide_eq_true (by omega)
        have ht : tell1 s n = (s.1, true, s.2.2) := by unfold tell1; rw [hr, if_pos rfl, if_neg h16]
        (repeat' (first | refine To.seq hxE5 ?_ | refine To.op0 hxE5 (by simp only [go_sem, eqs hxE5, reduceIte, Nat.reduceEqDiff, Nat.reduceAdd, Nat.reduceMul, Nat.reduceLT, Nat.reduceLeDiff, Int.reduceLT, Int.reduceLE, Int.reduceEq, reduceCtorEq, Int.reduceBEq, Int.reduceBNe, Heap.sets, Heap.get, bytesA_length, bytesA_one, bytesA_plains, List.take_of_length_le, List.drop_of_length_le, Nat.add_zero, V.one, Nat.reduceLeDiff, List.all_cons, List.all_nil, ne_eq, not_false_eq_true, Nat.zero_le, s0, s1, s5, s6, hlA, hlt, hix, hA', gA0, w1, w2, qN, hw', hlen', h16']; rfl) ?_ | refine To.op1 hxE5 (by simp only [go_sem, eqs hxE5, reduceIte, Nat.reduceEqDiff, Nat.reduceAdd, Nat.reduceMul, Nat.reduceLT, Nat.reduceLeDiff, Int.reduceLT, Int.reduceLE, Int.reduceEq, reduceCtorEq, Int.reduceBEq, Int.reduceBNe, Heap.sets, Heap.get, bytesA_length, bytesA_one, bytesA_plains, List.take_of_length_le, List.drop_of_length_le, Nat.add_zero, V.one, Nat.reduceLeDiff, List.all_cons, List.all_nil, ne_eq, not_false_eq_true, Nat.zero_le, s0, s1, s5, s6, hlA, hlt, hix, hA', gA0, w1, w2, qN, hw', hlen', h16']; rfl) ?_ | refine To.nop hxE5 ?_ | (refine To.condT hxE5 ?_ ?_; focus (simp only [go_sem, eqs hxE5, reduceIte, Nat.reduceEqDiff, Nat.reduceAdd, Nat.reduceMul, Nat.reduceLT, Nat.reduceLeDiff, Int.reduceLT, Int.reduceLE, Int.reduceEq, reduceCtorEq, Int.reduceBEq, Int.reduceBNe, Heap.sets, Heap.get, bytesA_length, bytesA_one, bytesA_plains, List.take_of_length_le, List.drop_of_length_le, Nat.add_zero, V.one, Nat.reduceLeDiff, List.all_cons, List.all_nil, ne_eq, not_false_eq_true, Nat.zero_le, s0, s1, s5, s6, hlA, hlt, hix, hA', gA0, w1, w2, qN, hw', hlen', h16']; done)) | (refine To.condF hxE5 ?_ ?_; focus (simp only [go_sem, eqs hxE5, reduceIte, Nat.reduceEqDiff, Nat.reduceAdd, Nat.reduceMul, Nat.reduceLT, Nat.reduceLeDiff, Int.reduceLT, Int.reduceLE, Int.reduceEq, reduceCtorEq, Int.reduceBEq, Int.reduceBNe, Heap.sets, Heap.get, bytesA_length, bytesA_one, bytesA_plains, List.take_of_length_le, List.drop_of_length_le, Nat.add_zero, V.one, Nat.reduceLeDiff, List.all_cons, List.all_nil, ne_eq, not_false_eq_true, Nat.zero_le, s0, s1, s5, s6, hlA, hlt, hix, hA', gA0, w1, w2, qN, hw', hlen', h16']; done)) | refine To.block hxE5 ?_ | refine To.exit hxE5 ?_ | refine To.skip hxE5 ?_))
        try simp only [andThen, outOf]
        refine ⟨k - 1, by omega, i + 1, _, _, _, vN', tell1 s n, by omega, rfl, hst.symm, by rw [ht]; exact hR'.lost' true, by rw [ht]; exact hs16, hX'.trans (Rx.set _), .inr ⟨?_, hAN⟩, ?_, ?_⟩
        · rw [gs_ne hwA]; exact hA'
        · rcases hE with hE | ⟨h1, h2, _⟩
          · exact .inl (by omega)
          · exact .inr ⟨by omega, by simpa using h2, .inl (by omega)⟩
        · rw [ht]; simp only [go_sem, eqs hxE5, reduceIte, Nat.reduceEqDiff, Nat.reduceAdd, Nat.reduceMul, Nat.reduceLT, Nat.reduceLeDiff, Int.reduceLT, Int.reduceLE, Int.reduceEq, reduceCtorEq, Int.reduceBEq, Int.reduceBNe, s0, s1, s5]
    · have hlt : decide ((i : Int) < (l.length : Int)) = false := by simp; omega
      have hil : l.take i = l := List.take_of_length_le (by omega)
      rw [hil] at hs
      have hs' : s = tellF l N lost := hs
      (repeat' (first | refine To.seq hxE5 ?_ | refine To.op0 hxE5 (by simp only [go_sem, eqs hxE5, reduceIte, Nat.reduceEqDiff, Nat.reduceAdd, Nat.reduceMul, Nat.reduceLT, Nat.reduceLeDiff, Int.reduceLT, Int.reduceLE, Int.reduceEq, reduceCtorEq, Int.reduceBEq, Int.reduceBNe, s0, s1, s5, s6, hlA, hlt]; rfl) ?_ | refine To.nop hxE5 ?_ | (refine To.condF hxE5 ?_ ?_; focus (simp only [go_sem, eqs hxE5, reduceIte, Nat.reduceEqDiff, Nat.reduceAdd, Nat.reduceMul, Nat.reduceLT, Nat.reduceLeDiff, Int.reduceLT, Int.reduceLE, Int.reduceEq, reduceCtorEq, Int.reduceBEq, Int.reduceBNe, s0, s1, s5, s6, hlA, hlt]; done)) | refine To.ret hxE5 ?_ | refine To.exit hxE5 ?_))
      refine ⟨_, _, fin1 (i := 4) rfl, ?_, ?_⟩
      · simp only [go_sem, eqs hxE5, reduceIte, Nat.reduceEqDiff, Nat.reduceAdd, Nat.reduceMul, Nat.reduceLT, Nat.reduceLeDiff, Int.reduceLT, Int.reduceLE, Int.reduceEq, reduceCtorEq, Int.reduceBEq, Int.reduceBNe, s5, hs']
      · rw [← hs']
        rcases hE with hE | ⟨rfl, hE, hd | ⟨rfl, rfl, h1, h2, rfl⟩⟩
        · exact close_r (h' := ⟨_, _, _⟩) hR' hX' hE
        · refine ⟨o', e, min d d', vL, vO, vN', ?_, hR', hX'⟩
          unfold leave
          rw [if_pos ⟨Nat.le_refl _, by simp only [go_sem, eqs hxE5, reduceIte, Nat.reduceEqDiff, Nat.reduceAdd, Nat.reduceMul, Nat.reduceLT, Nat.reduceLeDiff, Int.reduceLT, Int.reduceLE, Int.reduceEq, reduceCtorEq, Int.reduceBEq, Int.reduceBNe, s5]⟩]
          simp only
          rw [if_neg (by omega)]
          simp only [Option.getD_some]
          rw [List.take_of_length_le (by omega)]
        · refine ⟨o', e, d, vL, vO, vN', ?_, by rw [h1, h2]; exact h, Rx.refl⟩
          unfold leave
          rw [if_pos ⟨Nat.le_refl _, by simp only [go_sem, eqs hxE5, reduceIte, Nat.reduceEqDiff, Nat.reduceAdd, Nat.reduceMul, Nat.reduceLT, Nat.reduceLeDiff, Int.reduceLT, Int.reduceLE, Int.reduceEq, reduceCtorEq, Int.reduceBEq, Int.reduceBNe, s5]⟩]
          simp only
          rw [if_pos (Nat.le_refl _)]
          rfl
  · refine ⟨0, o, _, _, vN, (N, lost, 0), by omega, rfl, rfl, h, hN8, Rx.refl, ?_, .inr ⟨rfl, rfl, .inr ⟨rfl, rfl, rfl, rfl, rfl⟩⟩, ?_⟩
    · rcases hv with ⟨rfl, _⟩ | ⟨_, h1, h2⟩
      · exact .inl rfl
      · exact .inr ⟨h1, fun l3 a b c hh => by have := h2 l3 a b c hh; omega⟩
    · simp only [go_sem, eqs hxE5, reduceIte, Nat.reduceEqDiff, Nat.reduceAdd, Nat.reduceMul, Nat.reduceLT, Nat.reduceLeDiff, Int.reduceLT, Int.reduceLE, Int.reduceEq, reduceCtorEq, Int.reduceBEq, Int.reduceBNe]; try simp
end
end Go.Proofs.Ytjbblfoefibeaaa

/- Queues: the document's and the program's state agree: the plain law. -/
namespace Go.Proofs.Ytjbblfoefibeaaa
open Go AM
set_option linter.unusedSimpArgs false
set_option linter.unusedVariables false

/-- The Ids of those that wait still. -/
def wIds (L : List (Rq × Bool)) : List Int := (L.filter fun x => !x.2).map fun x => x.1.id
def oIds (O : List Rq) : List (Int × Int) := O.map fun r => (r.id, r.op)
theorem wIds_put (L : List (Rq × Bool)) (r : Rq) : wIds (L ++ [(r, false)]) = wIds L ++ [r.id] := by simp [wIds]
theorem wIds_mem {L : List (Rq × Bool)} {k : Int} (h : k ∈ wIds L) : ∃ x ∈ L, x.1.id = k := by
  unfold wIds at h
  obtain ⟨x, hx, rfl⟩ := List.mem_map.1 h
  exact ⟨x, (List.mem_filter.1 hx).1, rfl⟩
theorem wIds_t (r : Rq) (L : List (Rq × Bool)) : wIds ((r, true) :: L) = wIds L := by simp [wIds]
theorem wIds_f (r : Rq) (L : List (Rq × Bool)) : wIds ((r, false) :: L) = r.id :: wIds L := by simp [wIds]
theorem take_eq : ∀ {L : List (Rq × Bool)}, L.Pairwise (fun x y => x.1.id < y.1.id) → takeF (wIds L) (L.map (·.1)) = ((takeG L).1, (takeG L).2.map (·.1)) ∧ takeW (wIds L) (takeG L).1 = wIds (takeG L).2
  | [], _ => ⟨rfl, rfl⟩
  | (r, true) :: t, h => by
    obtain ⟨h1, h2⟩ := List.pairwise_cons.1 h
    have ih := take_eq h2
    have hn : (wIds t).contains r.id = false := by
      rw [← Bool.not_eq_true, List.contains_iff_mem]
      intro hm
      obtain ⟨x, hx, he⟩ := wIds_mem hm
      have := h1 x hx
      simp only at this; omega
    rw [wIds_t, List.map_cons, takeF]
    simp only [hn, Bool.false_eq_true, if_false, takeG, if_true]
    exact ih
  | (r, false) :: t, h => by
    rw [wIds_f, List.map_cons, takeF]
    simp [takeG, takeW]
theorem look_eq (k : Int) : ∀ O : List Rq, (∀ x ∈ O, 0 ≤ x.op) → ansVal (lookO k (oIds O)) = rans (closeG k O).1 ∧ ((lookO k (oIds O)).isSome = decide (0 ≤ (closeG k O).1)) ∧ eraseO k (oIds O) = oIds (closeG k O).2
  | [], _ => ⟨rfl, rfl, rfl⟩
  | x :: t, h => by
    obtain ⟨i1, i2, i3⟩ := look_eq k t fun y hy => h y (List.mem_cons_of_mem _ hy)
    have h0 := h x List.mem_cons_self
    have e : oIds (x :: t) = (x.id, x.op) :: oIds t := rfl
    rw [e, lookO, eraseO, closeG]
    by_cases hk : k = x.id
    · rw [if_pos hk, if_pos hk, if_pos hk.symm]
      refine ⟨?_, ?_, rfl⟩
      · simp only [ansVal, rans]
        rw [if_neg (by omega)]
      · simp [h0]
    · rw [if_neg hk, if_neg hk, if_neg (Ne.symm hk)]
      exact ⟨i1, i2, by rw [i3]; rfl⟩
theorem look_none (k : Int) : ∀ O : List Rq, (lookO k (oIds O)).isSome = false → eraseO k (oIds O) = oIds O
  | [], _ => rfl
  | x :: t, h => by
    have e : oIds (x :: t) = (x.id, x.op) :: oIds t := rfl
    rw [e, lookO] at h
    rw [e, eraseO]
    by_cases hk : k = x.id
    · rw [if_pos hk] at h; cases h
    · rw [if_neg hk] at h ⊢
      rw [look_none k t h]
theorem has_eq (k : Int) : ∀ L : List (Rq × Bool), hasG k L = (wIds L).contains k ∧ wIds (cancelG k L) = (wIds L).erase k ∧ (cancelG k L).map (·.1) = L.map (·.1)
  | [] => ⟨rfl, rfl, rfl⟩
  | (r, true) :: t => by
    obtain ⟨i1, i2, i3⟩ := has_eq k t
    rw [hasG, cancelG, wIds_t]
    simp only [Bool.true_eq_false, and_false, if_false]
    exact ⟨i1, by rw [wIds_t]; exact i2, by simp [i3]⟩
  | (r, false) :: t => by
    obtain ⟨i1, i2, i3⟩ := has_eq k t
    rw [hasG, cancelG, wIds_f]
    simp only [and_true]
    by_cases hk : r.id = k
    · rw [if_pos hk, if_pos hk, wIds_t]
      subst hk
      exact ⟨by simp, by simp, rfl⟩
    · rw [if_neg hk, if_neg hk, wIds_f, i1, i2]
      refine ⟨?_, ?_, by simp [i3]⟩
      · rw [List.contains_cons, beq_eq_false_iff_ne.2 (Ne.symm hk), Bool.false_or]
      · rw [List.erase_cons_tail (by simpa using hk)]
theorem cancel_val (k : Int) {L : List (Rq × Bool)} {O : List Rq} (h : ∀ x ∈ O, 0 ≤ x.op) : (if ((lookO k (oIds O)).isSome || (wIds L).contains k) = true then (0 : Int) else 22) = rcan (closeG k O).1 (hasG k L) := by
  rw [(look_eq k O h).2.1, (has_eq k L).1]
  unfold rcan
  by_cases h0 : 0 ≤ (closeG k O).1
  · simp [h0]
  · simp [h0]

/-- What holds of the queue between calls. -/
structure Jv (L : List (Rq × Bool)) (O : List Rq) (N : List Nt) (last : Int) (i : Nat) : Prop where
  a0 : 0 ≤ last
  a1 : last ≤ (i : Int)
  bp : L.Pairwise fun x y => x.1.id < y.1.id
  b1 : ∀ x ∈ L, x.1.id ≤ last
  ob : ∀ x ∈ O, ∀ y ∈ L, x.id ≠ y.1.id
  oo : ∀ x ∈ O, 0 ≤ x.op
  lo : ∀ x ∈ L, 0 ≤ x.1.op
  ol : ∀ x ∈ O, x.id ≤ last
  h1 : L.length ≤ 8
  h2 : N.length ≤ 16
  h3 : O.length ≤ i
section
variable {L : List (Rq × Bool)} {O : List Rq} {N : List Nt} {last : Int} {i : Nat}
theorem Jv.next (h : Jv L O N last i) : Jv L O N last (i + 1) := { h with a1 := by have := h.a1; omega, h3 := by have := h.h3; omega }
theorem right_op {id op ino oth n m : Int} {nm tx : List UInt8} (h : rightR id op ino oth n m nm tx = true) : 0 ≤ op := by
  unfold rightR isOp at h
  simp only [Bool.and_eq_true, decide_eq_true_eq] at h
  omega
theorem Jv.put (h : Jv L O N last i) (r : Rq) (hid : r.id = last + 1) (hr : r.right = true) (h8 : L.length < 8) : Jv (L ++ [(r, false)]) O N (last + 1) (i + 1) := by
  refine ⟨by have := h.a0; omega, by have := h.a1; omega, ?_, ?_, ?_, h.oo, ?_, fun x hx => by have := h.ol x hx; omega, by simp; omega, h.h2, by have := h.h3; omega⟩
  · rw [List.pairwise_append]
    refine ⟨h.bp, List.pairwise_singleton _ _, fun x hx y hy => ?_⟩
    rw [List.mem_singleton.1 hy]
    have := h.b1 x hx
    simp only [hid]; omega
  · intro x hx
    rcases List.mem_append.1 hx with hx | hx
    · have := h.b1 x hx; omega
    · rw [List.mem_singleton.1 hx]; simp only [hid]; omega
  · intro x hx y hy
    rcases List.mem_append.1 hy with hy | hy
    · exact h.ob x hx y hy
    · rw [List.mem_singleton.1 hy]; have := h.ol x hx; simp only [hid]; omega
  · intro x hx
    rcases List.mem_append.1 hx with hx | hx
    · exact h.lo x hx
    · rw [List.mem_singleton.1 hx]; exact right_op hr
theorem takeG_spec : ∀ L : List (Rq × Bool), ∃ pre, (takeG L).1 = none ∧ (takeG L).2 = [] ∨ ∃ r b, (takeG L).1 = some r ∧ L = pre ++ (r, b) :: (takeG L).2
  | [] => ⟨[], .inl ⟨rfl, rfl⟩⟩
  | (r, true) :: t => by
    obtain ⟨pre, h | ⟨r', b, h1, h2⟩⟩ := takeG_spec t
    · exact ⟨[], .inl (by simpa [takeG] using h)⟩
    · refine ⟨(r, true) :: pre, .inr ⟨r', b, by simpa [takeG] using h1, ?_⟩⟩
      simp only [takeG, if_true, List.cons_append, ← h2]
  | (r, false) :: t => ⟨[], .inr ⟨r, false, by simp [takeG], by simp [takeG]⟩⟩
theorem Jv.take (h : Jv L O N last i) : Jv (takeG L).2 (addO O (takeG L).1) N last (i + 1) := by
  obtain ⟨pre, ⟨h1, h2⟩ | ⟨r, b, h1, h2⟩⟩ := takeG_spec L
  · rw [h1, h2]
    exact { h.next with bp := List.Pairwise.nil, b1 := by simp, ob := by simp, lo := by simp, h1 := by simp, h3 := by have := h.h3; simp only [addO]; omega, ol := h.ol, oo := h.oo }
  · rw [h1]
    generalize (takeG L).2 = t at h2
    have hm : (r, b) ∈ L := by rw [h2]; simp
    have hs : ∀ y ∈ t, y ∈ L := fun y hy => by rw [h2]; simp [hy]
    have hbp := h.bp
    rw [h2, List.pairwise_append] at hbp
    obtain ⟨_, hp2, _⟩ := hbp
    obtain ⟨hp3, hp4⟩ := List.pairwise_cons.1 hp2
    refine ⟨h.a0, by have := h.a1; omega, hp4, fun x hx => h.b1 x (hs x hx), ?_, ?_, fun x hx => h.lo x (hs x hx), ?_, ?_, h.h2, ?_⟩
    · intro x hx y hy
      rcases List.mem_append.1 hx with hx | hx
      · exact h.ob x hx y (hs y hy)
      · rw [List.mem_singleton.1 hx]; have := hp3 y hy; simp only at this; omega
    · intro x hx
      rcases List.mem_append.1 hx with hx | hx
      · exact h.oo x hx
      · rw [List.mem_singleton.1 hx]; exact h.lo _ hm
    · intro x hx
      rcases List.mem_append.1 hx with hx | hx
      · exact h.ol x hx
      · rw [List.mem_singleton.1 hx]; exact h.b1 _ hm
    · have := congrArg List.length h2
      have := h.h1
      simp only [List.length_append, List.length_cons] at *; omega
    · have := h.h3; simp only [addO, List.length_append, List.length_singleton]; omega
theorem closeG_sub (k : Int) : ∀ O : List Rq, (∀ x ∈ (closeG k O).2, x ∈ O) ∧ (closeG k O).2.length ≤ O.length
  | [] => ⟨by simp [closeG], by simp [closeG]⟩
  | x :: t => by
    obtain ⟨i1, i2⟩ := closeG_sub k t
    rw [closeG]
    split
    · exact ⟨fun y hy => List.mem_cons_of_mem _ hy, by simp⟩
    · refine ⟨fun y hy => ?_, by simp; omega⟩
      rcases List.mem_cons.1 hy with rfl | hy
      · exact List.mem_cons_self
      · exact List.mem_cons_of_mem _ (i1 y hy)
theorem Jv.close (h : Jv L O N last i) (k : Int) : Jv L (closeG k O).2 N last (i + 1) := by
  obtain ⟨h1, h2⟩ := closeG_sub k O
  exact ⟨h.a0, h.next.a1, h.bp, h.b1, fun x hx => h.ob x (h1 x hx), fun x hx => h.oo x (h1 x hx), h.lo, fun x hx => h.ol x (h1 x hx), h.h1, h.h2, by have := h.h3; omega⟩
theorem cancelG_map (k : Int) (L : List (Rq × Bool)) : (cancelG k L).map (·.1) = L.map (·.1) := (has_eq k L).2.2
theorem Jv.mapped {L' : List (Rq × Bool)} (h : Jv L O N last i) (hm : L'.map (·.1) = L.map (·.1)) : Jv L' O N last i := by
  have hx : ∀ x ∈ L', ∃ y ∈ L, x.1 = y.1 := by
    intro x hx
    have : x.1 ∈ L'.map (·.1) := List.mem_map.2 ⟨x, hx, rfl⟩
    rw [hm] at this
    obtain ⟨y, hy, he⟩ := List.mem_map.1 this
    exact ⟨y, hy, he.symm⟩
  refine ⟨h.a0, h.a1, ?_, ?_, ?_, h.oo, ?_, h.ol, ?_, h.h2, h.h3⟩
  · have h1 : (L.map (·.1)).Pairwise fun x y => x.id < y.id := List.pairwise_map.2 h.bp
    rw [← hm] at h1
    exact (List.pairwise_map (f := fun (x : Rq × Bool) => x.1) (R := fun (x y : Rq) => x.id < y.id)).1 h1
  · intro x hx'; obtain ⟨y, hy, he⟩ := hx x hx'; rw [he]; exact h.b1 y hy
  · intro x hx1 y' hx'; obtain ⟨y, hy, he⟩ := hx y' hx'; rw [he]; exact h.ob x hx1 y hy
  · intro x hx'; obtain ⟨y, hy, he⟩ := hx x hx'; rw [he]; exact h.lo y hy
  · have := congrArg List.length hm
    simp only [List.length_map] at this
    have := h.h1; omega
theorem Jv.notes (h : Jv L O N last i) {N' : List Nt} (hN : N'.length ≤ 16) : Jv L O N' last (i + 1) := { h.next with h2 := hN }
/-- Where an open one was closed, none of its Id waits. -/
theorem Jv.apart (h : Jv L O N last i) {k : Int} (hk : (lookO k (oIds O)).isSome = true) : (wIds L).erase k = wIds L := by
  rw [List.erase_of_not_mem]
  intro hm
  obtain ⟨y, hy, he⟩ := wIds_mem hm
  have : ∀ O : List Rq, (lookO k (oIds O)).isSome = true → ∃ x ∈ O, x.id = k := by
    intro O
    induction O with
    | nil => intro h; cases h
    | cons x t ih =>
      intro h
      have e : oIds (x :: t) = (x.id, x.op) :: oIds t := rfl
      rw [e, lookO] at h
      by_cases hk : k = x.id
      · exact ⟨x, List.mem_cons_self, hk.symm⟩
      · rw [if_neg hk] at h
        obtain ⟨y, hy, he⟩ := ih h
        exact ⟨y, List.mem_cons_of_mem _ hy, he⟩
  obtain ⟨x, hx, hxk⟩ := this O hk
  exact h.ob x hx y hy (by omega)
end
end Go.Proofs.Ytjbblfoefibeaaa

/- Queues: how much is played; a queue that isn't there. -/
namespace Go.Proofs.Ytjbblfoefibeaaa
open Go AM
set_option linter.unusedSimpArgs false
set_option linter.unusedVariables false
set_option maxRecDepth 100000

/-- A notice's cells. -/
def NtOk (n : List V) : Prop := ∃ (k i : Int) (s : List UInt8), n = [.int .i64 k, .int .i64 i, .str s]
/-- An op's cells. -/
def OpOk (o : List AM.Obj) (x : List V) : Prop := ∃ (K N r0 r1 r2 r3 r4 r5 : Int) (nm tx : List UInt8) (Lv : V) (ns : List (List V)),
  x = [.int .i64 K, .int .i64 N, .int .i64 r0, .int .i64 r1, .int .i64 r2, .int .i64 r3, .int .i64 r4, .int .i64 r5, .str nm, .str tx, Lv] ∧ SliceOf o Lv 3 ns ∧ ns.length ≤ maxLen ∧ ∀ n ∈ ns, NtOk n

theorem maxLen_lt : maxLen ≤ 9223372036854775807 := by decide
theorem gtS (s : List UInt8) (k : Nat) : decide (((k : Nat) : Int) < (s.length : Int)) = decide (k < s.length) := by simp

/-- An op has few notices. -/
def SmL (x : List V) : Prop := ∀ v, x[10]? = some v → ∃ n : Nat, lenLV v = some (.int .i64 (n : Int), none) ∧ n ≤ 40
set_option maxHeartbeats 8000000 in
theorem great_le {h : Heap} {v : V} {xs : List (List V)} (hv : SliceOf h.o v 11 xs) (hx : ∀ x ∈ xs, OpOk h.o x) :
    ∃ r oh, Den FF E5 28 [v] h = some (r, oh) ∧ ∃ b, r = .val (.bool b) ∧ oh = none ∧ (b = false → xs.length ≤ 150 ∧ ∀ (j : Nat) (x : List V), xs[j]? = some x → SmL x) := by
  refine To.denE hxE5 (f := 28) (a := af28) rfl (E5_none rfl) (Nat.le_of_ble_eq_true rfl) ?_
  have hl := hv.len
  by_cases hb : 150 < xs.length
  · have d0 : decide ((150 : Int) < (xs.length : Int)) = true := by simp; omega
    (repeat' (first | refine To.seq hxE5 ?_ | refine To.op0 hxE5 (by simp only [go_sem, eqs hxE5, reduceIte, Nat.reduceEqDiff, Nat.reduceAdd, Nat.reduceMul, Nat.reduceLT, Nat.reduceLeDiff, Int.reduceBEq, Int.reduceBNe, hl, d0]; rfl) ?_ | refine To.nop hxE5 ?_ | (refine To.condT hxE5 ?_ ?_; focus (simp only [go_sem, eqs hxE5, reduceIte, Nat.reduceEqDiff, Nat.reduceAdd, Nat.reduceMul, Nat.reduceLT, Nat.reduceLeDiff, Int.reduceBEq, Int.reduceBNe, hl, d0]; done)) | refine To.ret hxE5 ?_))
    refine ⟨_, _, fin1 (i := 2) rfl, true, ?_, ?_⟩
    · simp only [go_sem, eqs hxE5, reduceIte, Nat.reduceEqDiff, Nat.reduceAdd, Nat.reduceMul, Nat.reduceLT, Nat.reduceLeDiff, Int.reduceBEq, Int.reduceBNe]
    · rw [leave_plain (Kp.enter h) (by simp only [go_sem, eqs hxE5, reduceIte, Nat.reduceEqDiff, Nat.reduceAdd, Nat.reduceMul, Nat.reduceLT, Nat.reduceLeDiff, Int.reduceBEq, Int.reduceBNe])]; exact ⟨rfl, fun h => nomatch h⟩
  have d0 : decide ((150 : Int) < (xs.length : Int)) = false := by simp; omega
  (repeat' (first | refine To.seq hxE5 ?_ | refine To.op0 hxE5 (by simp only [go_sem, eqs hxE5, reduceIte, Nat.reduceEqDiff, Nat.reduceAdd, Nat.reduceMul, Nat.reduceLT, Nat.reduceLeDiff, Int.reduceBEq, Int.reduceBNe, hl, d0]; rfl) ?_ | refine To.nop hxE5 ?_ | (refine To.condF hxE5 ?_ ?_; focus (simp only [go_sem, eqs hxE5, reduceIte, Nat.reduceEqDiff, Nat.reduceAdd, Nat.reduceMul, Nat.reduceLT, Nat.reduceLeDiff, Int.reduceBEq, Int.reduceBNe, hl, d0]; done)) | refine To.block hxE5 ?_ | refine To.skip hxE5 ?_))
  refine To.loop hxE5 (fun k S h' => ∃ i o' e' d', i + k = xs.length ∧ h' = ⟨o', e', d'⟩ ∧ (∀ (j : Nat) (x : List V), j < i → xs[j]? = some x → SmL x) ∧ Kp h ⟨o', e', d'⟩ ∧ S 10 = v ∧ S 11 = .int .i64 (xs.length : Int) ∧ S 12 = .int .i64 (i : Int)) ?_ xs.length _ _ ?_
  · rintro k S _ ⟨i, o', e', d', hk, rfl, hsm, hkp, h10, h11, h12⟩
    have kN := hkp.len
    have kE := hkp.e
    have kD := hkp.d
    simp only at kN kE kD
    by_cases hi : i < xs.length
    · have hlt : decide ((i : Int) < (xs.length : Int)) = true := by simp; omega
      obtain ⟨x, hxi⟩ : ∃ x, xs[i]? = some x := ⟨xs[i], List.getElem?_eq_getElem hi⟩
      obtain ⟨l, hvl, hll, hget⟩ := hv.idx hxi
      obtain ⟨K, N, r0, r1, r2, r3, r4, r5, nm, tx, Lv, ns, rfl, hLv, hnl, hns⟩ := hx x (List.mem_of_getElem? hxi)
      rw [hvl] at h10
      have g1 := hget o' e' d' (hkp.get l hll)
      have g1' := fun e d => hget o' e d (hkp.get l hll)
      have hix : idxOf xs.length (.int .i64 (i : Int)) = some i := idxOf_nat hi
      have w1 : IntKind.i64.wrap ((i : Int) + 1) = ((i + 1 : Nat) : Int) := by rw [wrap_i64 (by omega) (by omega)]; omega
      have hone : [V.int .i64 K, .int .i64 N, .int .i64 r0, .int .i64 r1, .int .i64 r2, .int .i64 r3, .int .i64 r4, .int .i64 r5, .str nm, .str tx, Lv].all V.one = true := by
        have h1 := hLv.one
        simp only [List.all_cons, List.all_nil, Bool.and_true, h1]
        rfl
      have sN := sets_new (o := o') (e := e') (d := d') (t := 69) (z := [.int .i64 0, .int .i64 0, .int .i64 0, .int .i64 0, .int .i64 0, .int .i64 0, .int .i64 0, .int .i64 0, .str [], .str [], .nils]) (vs := [V.int .i64 K, .int .i64 N, .int .i64 r0, .int .i64 r1, .int .i64 r2, .int .i64 r3, .int .i64 r4, .int .i64 r5, .str nm, .str tx, Lv]) rfl hone
      have gL := fun r e d => get_new (o := o') (t := 69) (ck := .ex) (j := 10) (vs := [V.int .i64 K, .int .i64 N, .int .i64 r0, .int .i64 r1, .int .i64 r2, .int .i64 r3, .int .i64 r4, .int .i64 r5, .str nm, .str tx, Lv]) rfl r e d
      have gn := fun r e d => get_new (o := o') (t := 69) (ck := .ex) (j := 8) (vs := [V.int .i64 K, .int .i64 N, .int .i64 r0, .int .i64 r1, .int .i64 r2, .int .i64 r3, .int .i64 r4, .int .i64 r5, .str nm, .str tx, Lv]) rfl r e d
      have gt := fun r e d => get_new (o := o') (t := 69) (ck := .ex) (j := 9) (vs := [V.int .i64 K, .int .i64 N, .int .i64 r0, .int .i64 r1, .int .i64 r2, .int .i64 r3, .int .i64 r4, .int .i64 r5, .str nm, .str tx, Lv]) rfl r e d
      have hl2 := hLv.len
      have hl2' := hl2
      have hE1 : h.o.length ≤ if V.plains [V.int .i64 K, .int .i64 N, .int .i64 r0, .int .i64 r1, .int .i64 r2, .int .i64 r3, .int .i64 r4, .int .i64 r5, .str nm, .str tx, Lv] = true then e' else min e' o'.length := by split <;> omega
      generalize (if V.plains [V.int .i64 K, .int .i64 N, .int .i64 r0, .int .i64 r1, .int .i64 r2, .int .i64 r3, .int .i64 r4, .int .i64 r5, .str nm, .str tx, Lv] = true then e' else min e' o'.length) = e1 at sN hE1
      generalize hob : AM.Obj.cells .ex 69 0 [V.int .i64 K, .int .i64 N, .int .i64 r0, .int .i64 r1, .int .i64 r2, .int .i64 r3, .int .i64 r4, .int .i64 r5, .str nm, .str tx, Lv] = ob at *
      have hk2 : Kp h ⟨o' ++ [ob], e1, min d' o'.length⟩ := hkp.app _ hE1 (by omega)
      have hLv2 := hLv.ext hk2.all
      have c1 : ∀ (s : List UInt8) (k : Int), (k < (s.length : Int)) = (decide (k < (s.length : Int)) = true) := fun s k => by simp
      by_cases b1 : 40 < ns.length
      · have d1 : decide ((40 : Int) < (ns.length : Int)) = true := by simp; omega
        (repeat' (first | refine To.seq hxE5 ?_ | refine To.op0 hxE5 (by simp only [go_sem, eqs hxE5, reduceIte, Nat.reduceEqDiff, Nat.reduceAdd, Nat.reduceMul, Nat.reduceLT, Nat.reduceLeDiff, Int.reduceBEq, Int.reduceBNe, h10, h11, h12, hlt, hix, g1', sN, gL, gn, gt, hl2, d1]; rfl) ?_ | refine To.op1 hxE5 (by simp only [go_sem, eqs hxE5, reduceIte, Nat.reduceEqDiff, Nat.reduceAdd, Nat.reduceMul, Nat.reduceLT, Nat.reduceLeDiff, Int.reduceBEq, Int.reduceBNe, h10, h11, h12, hlt, hix, g1', sN, gL, gn, gt, hl2, d1]; rfl) ?_ | refine To.nop hxE5 ?_ | (refine To.condT hxE5 ?_ ?_; focus (simp only [go_sem, eqs hxE5, reduceIte, Nat.reduceEqDiff, Nat.reduceAdd, Nat.reduceMul, Nat.reduceLT, Nat.reduceLeDiff, Int.reduceBEq, Int.reduceBNe, h10, h11, h12, hlt, hix, g1', sN, gL, gn, gt, hl2, d1]; done)) | refine To.block hxE5 ?_ | refine To.ret hxE5 ?_ | refine To.skip hxE5 ?_))
        refine ⟨_, _, fin1 (i := 2) rfl, true, ?_, ?_⟩
        · simp only [go_sem, eqs hxE5, reduceIte, Nat.reduceEqDiff, Nat.reduceAdd, Nat.reduceMul, Nat.reduceLT, Nat.reduceLeDiff, Int.reduceBEq, Int.reduceBNe]
        · rw [leave_plain hk2 (by simp only [go_sem, eqs hxE5, reduceIte, Nat.reduceEqDiff, Nat.reduceAdd, Nat.reduceMul, Nat.reduceLT, Nat.reduceLeDiff, Int.reduceBEq, Int.reduceBNe])]; exact ⟨rfl, fun h => nomatch h⟩
      have d1 : decide ((40 : Int) < (ns.length : Int)) = false := by simp; omega
      have hsm2 : ∀ (j : Nat) (x : List V), j < i + 1 → xs[j]? = some x → SmL x := by
        intro j x hj hjx
        by_cases hji : j = i
        · subst hji
          rw [hxi] at hjx
          cases hjx
          intro v hv'
          cases hv'
          exact ⟨ns.length, hl2', by omega⟩
        · exact hsm j x (by omega) hjx
      by_cases b2 : 1000 < nm.length
      · have d2 : decide ((1000 : Int) < (nm.length : Int)) = true := by simp; omega
        (repeat' (first | refine To.seq hxE5 ?_ | refine To.op0 hxE5 (by simp only [go_sem, eqs hxE5, reduceIte, Nat.reduceEqDiff, Nat.reduceAdd, Nat.reduceMul, Nat.reduceLT, Nat.reduceLeDiff, Int.reduceBEq, Int.reduceBNe, h10, h11, h12, hlt, hix, g1', sN, gL, gn, gt, hl2, d1, d2]; rfl) ?_ | refine To.op1 hxE5 (by simp only [go_sem, eqs hxE5, reduceIte, Nat.reduceEqDiff, Nat.reduceAdd, Nat.reduceMul, Nat.reduceLT, Nat.reduceLeDiff, Int.reduceBEq, Int.reduceBNe, h10, h11, h12, hlt, hix, g1', sN, gL, gn, gt, hl2, d1, d2]; rfl) ?_ | refine To.nop hxE5 ?_ | (refine To.condT hxE5 ?_ ?_; focus (simp only [go_sem, eqs hxE5, reduceIte, Nat.reduceEqDiff, Nat.reduceAdd, Nat.reduceMul, Nat.reduceLT, Nat.reduceLeDiff, Int.reduceBEq, Int.reduceBNe, h10, h11, h12, hlt, hix, g1', sN, gL, gn, gt, hl2, d1, d2]; done)) | refine To.block hxE5 ?_ | refine To.ret hxE5 ?_ | refine To.skip hxE5 ?_))
        refine ⟨_, _, fin1 (i := 2) rfl, true, ?_, ?_⟩
        · simp only [go_sem, eqs hxE5, reduceIte, Nat.reduceEqDiff, Nat.reduceAdd, Nat.reduceMul, Nat.reduceLT, Nat.reduceLeDiff, Int.reduceBEq, Int.reduceBNe]
        · rw [leave_plain hk2 (by simp only [go_sem, eqs hxE5, reduceIte, Nat.reduceEqDiff, Nat.reduceAdd, Nat.reduceMul, Nat.reduceLT, Nat.reduceLeDiff, Int.reduceBEq, Int.reduceBNe])]; exact ⟨rfl, fun h => nomatch h⟩
      have d2 : decide ((1000 : Int) < (nm.length : Int)) = false := by simp; omega
      by_cases b3 : 1000 < tx.length
      · have d3 : decide ((1000 : Int) < (tx.length : Int)) = true := by simp; omega
        (repeat' (first | refine To.seq hxE5 ?_ | refine To.op0 hxE5 (by simp only [go_sem, eqs hxE5, reduceIte, Nat.reduceEqDiff, Nat.reduceAdd, Nat.reduceMul, Nat.reduceLT, Nat.reduceLeDiff, Int.reduceBEq, Int.reduceBNe, h10, h11, h12, hlt, hix, g1', sN, gL, gn, gt, hl2, d1, d2, d3]; rfl) ?_ | refine To.op1 hxE5 (by simp only [go_sem, eqs hxE5, reduceIte, Nat.reduceEqDiff, Nat.reduceAdd, Nat.reduceMul, Nat.reduceLT, Nat.reduceLeDiff, Int.reduceBEq, Int.reduceBNe, h10, h11, h12, hlt, hix, g1', sN, gL, gn, gt, hl2, d1, d2, d3]; rfl) ?_ | refine To.nop hxE5 ?_ | (refine To.condT hxE5 ?_ ?_; focus (simp only [go_sem, eqs hxE5, reduceIte, Nat.reduceEqDiff, Nat.reduceAdd, Nat.reduceMul, Nat.reduceLT, Nat.reduceLeDiff, Int.reduceBEq, Int.reduceBNe, h10, h11, h12, hlt, hix, g1', sN, gL, gn, gt, hl2, d1, d2, d3]; done)) | refine To.block hxE5 ?_ | refine To.ret hxE5 ?_ | refine To.skip hxE5 ?_))
        refine ⟨_, _, fin1 (i := 2) rfl, true, ?_, ?_⟩
        · simp only [go_sem, eqs hxE5, reduceIte, Nat.reduceEqDiff, Nat.reduceAdd, Nat.reduceMul, Nat.reduceLT, Nat.reduceLeDiff, Int.reduceBEq, Int.reduceBNe]
        · rw [leave_plain hk2 (by simp only [go_sem, eqs hxE5, reduceIte, Nat.reduceEqDiff, Nat.reduceAdd, Nat.reduceMul, Nat.reduceLT, Nat.reduceLeDiff, Int.reduceBEq, Int.reduceBNe])]; exact ⟨rfl, fun h => nomatch h⟩
      have d3 : decide ((1000 : Int) < (tx.length : Int)) = false := by simp; omega
      (repeat' (first | refine To.seq hxE5 ?_ | refine To.op0 hxE5 (by simp only [go_sem, eqs hxE5, reduceIte, Nat.reduceEqDiff, Nat.reduceAdd, Nat.reduceMul, Nat.reduceLT, Nat.reduceLeDiff, Int.reduceBEq, Int.reduceBNe, h10, h11, h12, hlt, hix, g1', sN, gL, gn, gt, hl2, d1, d2, d3]; rfl) ?_ | refine To.op1 hxE5 (by simp only [go_sem, eqs hxE5, reduceIte, Nat.reduceEqDiff, Nat.reduceAdd, Nat.reduceMul, Nat.reduceLT, Nat.reduceLeDiff, Int.reduceBEq, Int.reduceBNe, h10, h11, h12, hlt, hix, g1', sN, gL, gn, gt, hl2, d1, d2, d3]; rfl) ?_ | refine To.nop hxE5 ?_ | (refine To.condT hxE5 ?_ ?_; focus (simp only [go_sem, eqs hxE5, reduceIte, Nat.reduceEqDiff, Nat.reduceAdd, Nat.reduceMul, Nat.reduceLT, Nat.reduceLeDiff, Int.reduceBEq, Int.reduceBNe, h10, h11, h12, hlt, hix, g1', sN, gL, gn, gt, hl2, d1, d2, d3]; done)) | (refine To.condF hxE5 ?_ ?_; focus (simp only [go_sem, eqs hxE5, reduceIte, Nat.reduceEqDiff, Nat.reduceAdd, Nat.reduceMul, Nat.reduceLT, Nat.reduceLeDiff, Int.reduceBEq, Int.reduceBNe, h10, h11, h12, hlt, hix, g1', sN, gL, gn, gt, hl2, d1, d2, d3]; done)) | refine To.block hxE5 ?_ | refine To.skip hxE5 ?_))
      refine To.loop hxE5 (fun k S h' => ∃ j o2 e2 d2, j + k = ns.length ∧ h' = ⟨o2, e2, d2⟩ ∧ Kp h ⟨o2, e2, d2⟩ ∧ S 10 = .slice l 0 xs.length 11 ∧ S 11 = .int .i64 (xs.length : Int) ∧ S 12 = .int .i64 (i : Int) ∧ S 35 = Lv ∧ S 36 = .int .i64 (ns.length : Int) ∧ S 37 = .int .i64 (j : Int)) ?_ ns.length _ _ ?_
      · rintro k2 S _ ⟨j, o2, e2, d2', hk2', rfl, hkp2, h10, h11, h12, h35, h36, h37⟩
        have kN2 := hkp2.len
        have kE2 := hkp2.e
        have kD2 := hkp2.d
        simp only at kN2 kE2 kD2
        by_cases hj : j < ns.length
        · have hlt2 : decide ((j : Int) < (ns.length : Int)) = true := by simp; omega
          have hix2 : idxOf ns.length (.int .i64 (j : Int)) = some j := idxOf_nat hj
          obtain ⟨y, hyj⟩ : ∃ y, ns[j]? = some y := ⟨ns[j], List.getElem?_eq_getElem hj⟩
          obtain ⟨l2, hvl2, hll2, hget2⟩ := hLv.idx hyj
          obtain ⟨nk, ni, nsn, rfl⟩ := hns y (List.mem_of_getElem? hyj)
          rw [hvl2] at h35
          have g2 := fun e d => hget2 o2 e d (hkp2.get l2 hll2)
          have w2 : IntKind.i64.wrap ((j : Int) + 1) = ((j + 1 : Nat) : Int) := by rw [wrap_i64 (by omega) (by omega)]; omega
          have sN2 := sets_new (o := o2) (e := e2) (d := d2') (t := 39) (z := [.int .i64 0, .int .i64 0, .str []]) (vs := [.int .i64 nk, .int .i64 ni, .str nsn]) rfl rfl
          have gS2 := fun r e d => get_new (o := o2) (t := 39) (ck := .ex) (j := 2) (vs := [.int .i64 nk, .int .i64 ni, .str nsn]) rfl r e d
          have hk3 : Kp h ⟨o2 ++ [.cells .ex 39 0 [.int .i64 nk, .int .i64 ni, .str nsn]], e2, min d2' o2.length⟩ := hkp2.app _ kE2 (by omega)
          by_cases b4 : 300 < nsn.length
          · have d4 : decide ((300 : Int) < (nsn.length : Int)) = true := by simp; omega
            (repeat' (first | refine To.seq hxE5 ?_ | refine To.op0 hxE5 (by simp only [go_sem, eqs hxE5, reduceIte, Nat.reduceEqDiff, Nat.reduceAdd, Nat.reduceMul, Nat.reduceLT, Nat.reduceLeDiff, Int.reduceBEq, Int.reduceBNe, h10, h11, h12, h35, h36, h37, hlt2, hix2, g2, sN2, gS2, d4]; rfl) ?_ | refine To.op1 hxE5 (by simp only [go_sem, eqs hxE5, reduceIte, Nat.reduceEqDiff, Nat.reduceAdd, Nat.reduceMul, Nat.reduceLT, Nat.reduceLeDiff, Int.reduceBEq, Int.reduceBNe, h10, h11, h12, h35, h36, h37, hlt2, hix2, g2, sN2, gS2, d4]; rfl) ?_ | refine To.nop hxE5 ?_ | (refine To.condT hxE5 ?_ ?_; focus (simp only [go_sem, eqs hxE5, reduceIte, Nat.reduceEqDiff, Nat.reduceAdd, Nat.reduceMul, Nat.reduceLT, Nat.reduceLeDiff, Int.reduceBEq, Int.reduceBNe, h10, h11, h12, h35, h36, h37, hlt2, hix2, g2, sN2, gS2, d4]; done)) | refine To.block hxE5 ?_ | refine To.ret hxE5 ?_ | refine To.skip hxE5 ?_))
            refine ⟨_, _, fin1 (i := 2) rfl, true, ?_, ?_⟩
            · simp only [go_sem, eqs hxE5, reduceIte, Nat.reduceEqDiff, Nat.reduceAdd, Nat.reduceMul, Nat.reduceLT, Nat.reduceLeDiff, Int.reduceBEq, Int.reduceBNe]
            · rw [leave_plain hk3 (by simp only [go_sem, eqs hxE5, reduceIte, Nat.reduceEqDiff, Nat.reduceAdd, Nat.reduceMul, Nat.reduceLT, Nat.reduceLeDiff, Int.reduceBEq, Int.reduceBNe])]; exact ⟨rfl, fun h => nomatch h⟩
          · have d4 : decide ((300 : Int) < (nsn.length : Int)) = false := by simp; omega
            (repeat' (first | refine To.seq hxE5 ?_ | refine To.op0 hxE5 (by simp only [go_sem, eqs hxE5, reduceIte, Nat.reduceEqDiff, Nat.reduceAdd, Nat.reduceMul, Nat.reduceLT, Nat.reduceLeDiff, Int.reduceBEq, Int.reduceBNe, h10, h11, h12, h35, h36, h37, hlt2, hix2, g2, sN2, gS2, d4, w2]; rfl) ?_ | refine To.op1 hxE5 (by simp only [go_sem, eqs hxE5, reduceIte, Nat.reduceEqDiff, Nat.reduceAdd, Nat.reduceMul, Nat.reduceLT, Nat.reduceLeDiff, Int.reduceBEq, Int.reduceBNe, h10, h11, h12, h35, h36, h37, hlt2, hix2, g2, sN2, gS2, d4, w2]; rfl) ?_ | refine To.nop hxE5 ?_ | (refine To.condT hxE5 ?_ ?_; focus (simp only [go_sem, eqs hxE5, reduceIte, Nat.reduceEqDiff, Nat.reduceAdd, Nat.reduceMul, Nat.reduceLT, Nat.reduceLeDiff, Int.reduceBEq, Int.reduceBNe, h10, h11, h12, h35, h36, h37, hlt2, hix2, g2, sN2, gS2, d4, w2]; done)) | (refine To.condF hxE5 ?_ ?_; focus (simp only [go_sem, eqs hxE5, reduceIte, Nat.reduceEqDiff, Nat.reduceAdd, Nat.reduceMul, Nat.reduceLT, Nat.reduceLeDiff, Int.reduceBEq, Int.reduceBNe, h10, h11, h12, h35, h36, h37, hlt2, hix2, g2, sN2, gS2, d4, w2]; done)) | refine To.block hxE5 ?_ | refine To.skip hxE5 ?_))
            try simp only [outOf, andThen]
            refine ⟨k2 - 1, by omega, j + 1, _, _, _, by omega, rfl, hk3, ?_⟩
            simp only [go_sem, eqs hxE5, reduceIte, Nat.reduceEqDiff, Nat.reduceAdd, Nat.reduceMul, Nat.reduceLT, Nat.reduceLeDiff, Int.reduceBEq, Int.reduceBNe, h10, h11, h12, h35, h36, hvl2]
            try trivial
        · have hlt2 : decide ((j : Int) < (ns.length : Int)) = false := by simp; omega
          (repeat' (first | refine To.seq hxE5 ?_ | refine To.op0 hxE5 (by simp only [go_sem, eqs hxE5, reduceIte, Nat.reduceEqDiff, Nat.reduceAdd, Nat.reduceMul, Nat.reduceLT, Nat.reduceLeDiff, Int.reduceBEq, Int.reduceBNe, h10, h11, h12, h35, h36, h37, hlt2, w1]; rfl) ?_ | refine To.nop hxE5 ?_ | (refine To.condF hxE5 ?_ ?_; focus (simp only [go_sem, eqs hxE5, reduceIte, Nat.reduceEqDiff, Nat.reduceAdd, Nat.reduceMul, Nat.reduceLT, Nat.reduceLeDiff, Int.reduceBEq, Int.reduceBNe, h10, h11, h12, h35, h36, h37, hlt2, w1]; done)) | refine To.exit hxE5 ?_))
          try simp only [outOf, andThen, if_true]
          skip
          refine ⟨k - 1, by omega, i + 1, _, _, _, by omega, rfl, hsm2, hkp2, ?_⟩
          simp only [go_sem, eqs hxE5, reduceIte, Nat.reduceEqDiff, Nat.reduceAdd, Nat.reduceMul, Nat.reduceLT, Nat.reduceLeDiff, Int.reduceBEq, Int.reduceBNe, h10, h11, hvl]
          try trivial
      · refine ⟨0, _, _, _, by omega, rfl, hk2, ?_⟩
        simp only [go_sem, eqs hxE5, reduceIte, Nat.reduceEqDiff, Nat.reduceAdd, Nat.reduceMul, Nat.reduceLT, Nat.reduceLeDiff, Int.reduceBEq, Int.reduceBNe, h10, h11, h12, hl2]
        try trivial
    · have hlt : decide ((i : Int) < (xs.length : Int)) = false := by simp; omega
      (repeat' (first | refine To.seq hxE5 ?_ | refine To.op0 hxE5 (by simp only [go_sem, eqs hxE5, reduceIte, Nat.reduceEqDiff, Nat.reduceAdd, Nat.reduceMul, Nat.reduceLT, Nat.reduceLeDiff, Int.reduceBEq, Int.reduceBNe, h10, h11, h12, hlt]; rfl) ?_ | refine To.nop hxE5 ?_ | (refine To.condF hxE5 ?_ ?_; focus (simp only [go_sem, eqs hxE5, reduceIte, Nat.reduceEqDiff, Nat.reduceAdd, Nat.reduceMul, Nat.reduceLT, Nat.reduceLeDiff, Int.reduceBEq, Int.reduceBNe, h10, h11, h12, hlt]; done)) | refine To.ret hxE5 ?_ | refine To.exit hxE5 ?_))
      refine ⟨_, _, fin1 (i := 2) rfl, false, ?_, ?_⟩
      · simp only [go_sem, eqs hxE5, reduceIte, Nat.reduceEqDiff, Nat.reduceAdd, Nat.reduceMul, Nat.reduceLT, Nat.reduceLeDiff, Int.reduceBEq, Int.reduceBNe]
      · rw [leave_plain hkp (by simp only [go_sem, eqs hxE5, reduceIte, Nat.reduceEqDiff, Nat.reduceAdd, Nat.reduceMul, Nat.reduceLT, Nat.reduceLeDiff, Int.reduceBEq, Int.reduceBNe])]; exact ⟨rfl, fun _ => ⟨by omega, fun j x hjx => hsm j x (by have := (List.getElem?_eq_some_iff.1 hjx).1; omega) hjx⟩⟩
  · refine ⟨0, _, _, _, by omega, rfl, fun j x hj => absurd hj (Nat.not_lt_zero j), Kp.enter h, ?_⟩
    simp only [go_sem, eqs hxE5, reduceIte, Nat.reduceEqDiff, Nat.reduceAdd, Nat.reduceMul, Nat.reduceLT, Nat.reduceLeDiff, Int.reduceBEq, Int.reduceBNe]
    try trivial
theorem great_den {h : Heap} {v : V} {xs : List (List V)} (hv : SliceOf h.o v 11 xs) (hx : ∀ x ∈ xs, OpOk h.o x) :
    ∃ r oh, Den FF E5 28 [v] h = some (r, oh) ∧ ∃ b, r = .val (.bool b) ∧ oh = none := by
  obtain ⟨r, oh, a, b, c, d, _⟩ := great_le hv hx
  exact ⟨r, oh, a, b, c, d⟩
end Go.Proofs.Ytjbblfoefibeaaa

/- Queues: both queues in one heap. -/
namespace Go.Proofs.Ytjbblfoefibeaaa
open Go AM
set_option linter.unusedSimpArgs false
set_option linter.unusedVariables false
set_option maxRecDepth 100000

def Ro (o o' : List AM.Obj) : Prop := ∀ (l t : Nat) (all : List V), o[l]? = some (AM.Obj.cells .ro t 0 all) → o'[l]? = some (AM.Obj.cells .ro t 0 all)
section
variable {o o' : List AM.Obj} {q c1 c2 m1 m2 w : Nat} {rq ns : List V} {op wt : List (V × V)} {last last' : Int} {lost lost' : Bool} {vL vO vN : V} {L : List (Rq × Bool)} {O : List Rq} {N : List Nt}
theorem Ro.trans {o'' : List AM.Obj} (h : Ro o o') (k : Ro o' o'') : Ro o o'' := fun l t all hl => k l t all (h l t all hl)
theorem Ro.app (r : List AM.Obj) : Ro o (o ++ r) := fun l t all h => app_old h r
theorem Qx.roA (h : Qx q c1 c2 m1 m2 o o') (hP : PQ o q c1 c2 m1 m2 rq ns op wt last lost) : Ro o o' := fun l t all hl => h.ro hP l t all hl
theorem Rx.roA (h : Rx w o o') (hR : RQ o w vL vO vN L O N last lost) : Ro o o' := fun l t all hl => h.get l _ (ne_of hl hR.hw (by simp)) hl rfl
theorem Qx.old (h : Qx q c1 c2 m1 m2 o o') (hP : PQ o q c1 c2 m1 m2 rq ns op wt last lost) {l t : Nat} {ck : CK} {cs : List V} (hl : o[l]? = some (.cells ck t 0 cs)) (ht : t ≠ 136) : o'[l]? = some (.cells ck t 0 cs) := by
  rw [h.get l (get_lt hl) (ne_of hl hP.hq (by unfold pqC; simp [ht])) (ne_of hl hP.h1 (by simp)) (ne_of hl hP.h2 (by simp)) (ne_of hl hP.h3 (by simp)) (ne_of hl hP.h4 (by simp))]
  exact hl
theorem RQ.qx (hR : RQ o w vL vO vN L O N last lost) (hP : PQ o q c1 c2 m1 m2 rq ns op wt last' lost') (h : Qx q c1 c2 m1 m2 o o') : RQ o' w vL vO vN L O N last lost :=
  ⟨h.old hP hR.hw (by decide), hR.hL.of fun l ck cs hl => h.old hP hl (by decide), hR.hO.of fun l ck cs hl => h.old hP hl (by decide), hR.hN.of fun l ck cs hl => h.old hP hl (by decide)⟩
theorem RQ.app (hR : RQ o w vL vO vN L O N last lost) (r : List AM.Obj) : RQ (o ++ r) w vL vO vN L O N last lost :=
  ⟨app_old hR.hw _, hR.hL.of fun l ck cs hl => app_old hl _, hR.hO.of fun l ck cs hl => app_old hl _, hR.hN.of fun l ck cs hl => app_old hl _⟩
theorem PQ.rx (hP : PQ o q c1 c2 m1 m2 rq ns op wt last' lost') (hR : RQ o w vL vO vN L O N last lost) (h : Rx w o o') : PQ o' q c1 c2 m1 m2 rq ns op wt last' lost' :=
  ⟨h.get _ _ (ne_of hP.hq hR.hw (by unfold pqC; simp)) hP.hq rfl, h.get _ _ (ne_of hP.h1 hR.hw (by simp)) hP.h1 rfl, h.get _ _ (ne_of hP.h2 hR.hw (by simp)) hP.h2 rfl, h.get _ _ (ne_of hP.h3 hR.hw (by simp)) hP.h3 rfl, h.get _ _ (ne_of hP.h4 hR.hw (by simp)) hP.h4 rfl, hP.hm⟩
end

/-- An op of a script. -/
structure Op1 where
  K : Int
  N : Int
  r : Rq
  L : V
  ns : List Nt
def Op1.cs (x : Op1) : List V := [.int .i64 x.K, .int .i64 x.N, .int .i64 x.r.id, .int .i64 x.r.op, .int .i64 x.r.ino, .int .i64 x.r.oth, .int .i64 x.r.n, .int .i64 x.r.m, .str x.r.nm, .str x.r.tx, x.L]
def Op1.fits (o : List AM.Obj) (x : Op1) : Prop := RoRows o x.L 3 (x.ns.map Nt.cs) ∧ x.ns.length ≤ maxLen
theorem RoRows.one {o : List AM.Obj} {v : V} {e : Nat} {xs : List (List V)} (h : RoRows o v e xs) : v.one = true := by
  obtain ⟨h, _⟩ | ⟨l, off, t, all, rfl, _⟩ := h
  · obtain rfl | ⟨a, rfl⟩ | ⟨l, o, k, e, rfl⟩ := h <;> rfl
  · rfl
theorem maxLen_le : maxLen ≤ 9223372036854775807 := by decide
end Go.Proofs.Ytjbblfoefibeaaa

