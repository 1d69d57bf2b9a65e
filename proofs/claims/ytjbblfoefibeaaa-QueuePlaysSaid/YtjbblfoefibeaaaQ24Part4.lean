/- Own texts, joined: Q24QO, Q24QR. -/
import Derived.Test.YtjbblfoefibeaaaQ24Part3
/- Queues: the law that a queue plays as the document says, walked. -/
namespace Go.Proofs.Ytjbblfoefibeaaa
open Go AM
set_option linter.unusedSimpArgs false
set_option linter.unusedVariables false
set_option maxRecDepth 100000

theorem tell_len16 : ∀ (l : List Nt) (s : List Nt × Bool × Nat), s.1.length ≤ 16 → (l.foldl tell1 s).1.length ≤ 16
  | [], s, h => h
  | n :: l, s, h => by
    rw [List.foldl_cons]
    refine tell_len16 l _ ?_
    unfold tell1
    split
    · split
      · simp; omega
      · exact h
    · exact h
theorem cutS2 {Q1 : (Nat → V) → Heap → Prop} {Q2 : Ex → (Nat → V) → Heap → Prop} {S : Nat → V} {h : Heap} (P : (Nat → V) → Prop) (hP : P S) (hk : ∀ S', P S' → andThen Q1 Q2 .norm S' h) : andThen Q1 Q2 .norm S h := hk S hP
theorem ToD.call0 {F : Nat → Option AF} {ext : ExtF} {N : Nat} {x : DO} {l : List DO} {S : Nat → V} {h h' : Heap} {v : V} {oh : Option Heap} {Q : (Nat → V) → Heap → Prop} (hw : wantedA S x.o.g = true) (hp : x.pl = none) (hc : x.o.op.cls = 2) (he : stepA (Den F ext) x.o.op S h = some (.val v, oh)) (hh : oh.getD h = h') (hr : x.rc.all (lookA (Den F ext) S h') = true) (hk : ToD F ext N 0 l (putO S x.o.d v) h' Q) : ToD F ext N 0 (x :: l) S h Q := by
  cases oh with
  | none =>
    simp only [Option.getD_none] at hh
    subst hh
    refine ToD.op (k := .q) ?_ hk
    simp only [outD, hw, if_true, hp, he, true_or]
  | some h2 =>
    simp only [Option.getD_some] at hh
    subst hh
    refine ToD.op (k := .c h2) ?_ hk
    simp only [outD, hw, if_true, hp, he, hc, hr, true_or, and_self]
/-- Both queues, in the same state. -/
def Bo (n : Nat) (o o' : List AM.Obj) (L : List (Rq × Bool)) (O : List Rq) (N : List Nt) (last : Int) (lost : Bool) : Prop :=
  PQ o' (n + 4) n (n + 1) (n + 2) (n + 3) ((L.map (·.1)).map Rq.v) (N.map Nt.v) (entO (oIds O)) (entW (wIds L)) last lost ∧ Ro o o' ∧ ∃ vL vO vN, RQ o' (n + 5) vL vO vN L O N last lost
theorem Bo.app {n : Nat} {o o' : List AM.Obj} {L : List (Rq × Bool)} {O : List Rq} {N : List Nt} {last : Int} {lost : Bool} (h : Bo n o o' L O N last lost) (r : List AM.Obj) : Bo n o (o' ++ r) L O N last lost := by
  obtain ⟨h1, h2, vL, vO, vN, h3⟩ := h
  exact ⟨h1.app r, h2.trans (Ro.app r), vL, vO, vN, h3.app r⟩

set_option maxHeartbeats 64000000 in
theorem lawPlays {o : List AM.Obj} {v : V} {xs : List Op1} (h0 : RoRows o v 11 (xs.map Op1.cs)) (hS : SliceOf o v 11 (xs.map Op1.cs)) (hG : ∀ x ∈ xs.map Op1.cs, OpOk o x) (hf : ∀ x ∈ xs, x.fits o) (hm : xs.length ≤ maxLen) :
    ∃ r oh, Den FF E5 9 [v] ⟨o, 0, 0⟩ = some (r, oh) ∧ r = .val (.bool true) := by
  refine To.denE hxE5 (f := 9) (a := af9) rfl (E5_none rfl) (Nat.le_of_ble_eq_true rfl) ?_
  have hmm := maxLen_le
  have hlen := h0.len
  rw [List.length_map] at hlen
  obtain ⟨rg, ohg, qg, b, rfl, rfl, hle⟩ := great_le (h := ⟨o, o.length, o.length⟩) hS hG
  cases b
  case true =>
    (repeat' (first | refine To.seq hxE5 ?_ | refine To.op0 hxE5 (by simp only [go_sem, eqs hxE5, reduceIte, Nat.reduceEqDiff, Nat.reduceAdd, Nat.reduceMul, Nat.reduceLT, Nat.reduceLeDiff, Int.reduceBEq, Int.reduceBNe, eAwake24_5 (), qg]; rfl) ?_ | refine To.nop hxE5 ?_ | (refine To.condT hxE5 ?_ ?_; focus (simp only [go_sem, eqs hxE5, reduceIte, Nat.reduceEqDiff, Nat.reduceAdd, Nat.reduceMul, Nat.reduceLT, Nat.reduceLeDiff, Int.reduceBEq, Int.reduceBNe, eAwake24_5 (), qg]; done)) | (refine To.condF hxE5 ?_ ?_; focus (simp only [go_sem, eqs hxE5, reduceIte, Nat.reduceEqDiff, Nat.reduceAdd, Nat.reduceMul, Nat.reduceLT, Nat.reduceLeDiff, Int.reduceBEq, Int.reduceBNe, eAwake24_5 (), qg]; done)) | refine To.ret hxE5 ?_ | refine To.skip hxE5 ?_))
    refine ⟨_, _, fin1 (i := 2) rfl, ?_⟩
    simp only [go_sem, eqs hxE5, reduceIte, Nat.reduceEqDiff, Nat.reduceAdd, Nat.reduceMul, Nat.reduceLT, Nat.reduceLeDiff, Int.reduceBEq, Int.reduceBNe]
  obtain ⟨hx150, hsm⟩ := hle rfl
  rw [List.length_map] at hx150
  obtain ⟨r0, oh0, q0, rfl, rr, e0, d0, rfl, hr5, hP0⟩ := new_q (o := o) (e := o.length) (d := o.length)
  have hl1 : (o ++ rr).length = o.length + 5 := by simp [hr5]
  have hro0 : Ro o (o ++ rr) := Ro.app _
  (repeat' (first | refine To.seq hxE5 ?_ | refine To.op0 hxE5 (by simp only [go_sem, eqs hxE5, reduceIte, Nat.reduceEqDiff, Nat.reduceAdd, Nat.reduceMul, Nat.reduceLT, Nat.reduceLeDiff, Int.reduceBEq, Int.reduceBNe, eAwake24_5 (), qg, q0, hlen, hl1]; rfl) ?_ | refine To.op1 hxE5 (by simp only [go_sem, eqs hxE5, reduceIte, Nat.reduceEqDiff, Nat.reduceAdd, Nat.reduceMul, Nat.reduceLT, Nat.reduceLeDiff, Int.reduceBEq, Int.reduceBNe, eAwake24_5 (), qg, q0, hlen, hl1]; rfl) ?_ | refine To.nop hxE5 ?_ | (refine To.condF hxE5 ?_ ?_; focus (simp only [go_sem, eqs hxE5, reduceIte, Nat.reduceEqDiff, Nat.reduceAdd, Nat.reduceMul, Nat.reduceLT, Nat.reduceLeDiff, Int.reduceBEq, Int.reduceBNe, eAwake24_5 (), qg, q0, hlen, hl1]; done)) | refine To.block hxE5 ?_ | refine To.skip hxE5 ?_))
  refine To.loop hxE5 (fun k S h' => ∃ i o' e' d' L O N last lost, i + k = xs.length ∧ h' = ⟨o', e', d'⟩ ∧ Bo o.length o o' L O N last lost ∧ Jv L O N last i ∧ S 3 = .ptr (o.length + 4) 0 ∧ S 4 = .ptr (o.length + 5) 0 ∧ S 34 = v ∧ S 35 = .int .i64 (xs.length : Int) ∧ S 36 = .int .i64 (i : Int)) ?_ xs.length _ _ ?_
  · rintro k S _ ⟨i, o', e', d', L, O, N, last, lost, hk, rfl, hB, hJ, s3, s4, s34, s35, s36⟩
    by_cases hi : i < xs.length
    · have hlt : decide ((i : Int) < (xs.length : Int)) = true := decide_eq_true (by omega)
      obtain ⟨x, hx⟩ : ∃ x, xs[i]? = some x := ⟨xs[i], List.getElem?_eq_getElem hi⟩
      have hx2 : (xs.map Op1.cs)[i]? = some x.cs := by rw [List.getElem?_map, hx]; rfl
      obtain ⟨hL1, hL2⟩ := hf x (List.mem_of_getElem? hx)
      have hL40 : x.ns.length ≤ 40 := by
        obtain ⟨n, h1, h2⟩ := hsm i x.cs hx2 x.L rfl
        rw [hL1.len, List.length_map] at h1
        simp only [Option.some.injEq, Prod.mk.injEq, V.int.injEq, true_and, and_true] at h1
        omega
      have hLone := hL1.one
      have hLm := hLone
      unfold V.one at hLm
      obtain ⟨y, off, t, all, rfl, hy, b1, b2⟩ := h0.idx hx2
      have hy' := hB.2.1 _ _ _ hy
      unfold Op1.cs at b1
      have hix : idxOf (xs.map Op1.cs).length (.int .i64 (i : Int)) = some i := idxOf_nat (by simpa using hi)
      have w1 : IntKind.i64.wrap ((i : Int) + 1) = ((i + 1 : Nat) : Int) := by rw [wrap_i64 (by omega) (by omega)]; omega
      (repeat' (first | refine To.seq hxE5 ?_ | refine To.op0 hxE5 (by simp only [go_sem, eqs hxE5, reduceIte, Nat.reduceEqDiff, Nat.reduceAdd, Nat.reduceMul, Nat.reduceLT, Nat.reduceLeDiff, Int.reduceBEq, Int.reduceBNe, Heap.gets, Heap.sets, Heap.get, bytesA_length, bytesA_one, bytesA_plains, List.take_of_length_le, List.drop_of_length_le, Nat.add_zero, V.one, Nat.reduceLeDiff, List.all_cons, List.all_nil, ne_eq, not_false_eq_true, Nat.zero_le, s3, s4, s34, s35, s36, hlt, hix, hy', b1, b2, hLm, ga_lt, ga_0, ga_k, sa_lt, sa_0, sa_k]; rfl) ?_ | refine To.op1 hxE5 (by simp only [go_sem, eqs hxE5, reduceIte, Nat.reduceEqDiff, Nat.reduceAdd, Nat.reduceMul, Nat.reduceLT, Nat.reduceLeDiff, Int.reduceBEq, Int.reduceBNe, Heap.gets, Heap.sets, Heap.get, bytesA_length, bytesA_one, bytesA_plains, List.take_of_length_le, List.drop_of_length_le, Nat.add_zero, V.one, Nat.reduceLeDiff, List.all_cons, List.all_nil, ne_eq, not_false_eq_true, Nat.zero_le, s3, s4, s34, s35, s36, hlt, hix, hy', b1, b2, hLm, ga_lt, ga_0, ga_k, sa_lt, sa_0, sa_k]; rfl) ?_ | refine To.nop hxE5 ?_ | (refine To.condT hxE5 ?_ ?_; focus (simp only [go_sem, eqs hxE5, reduceIte, Nat.reduceEqDiff, Nat.reduceAdd, Nat.reduceMul, Nat.reduceLT, Nat.reduceLeDiff, Int.reduceBEq, Int.reduceBNe, Heap.gets, Heap.sets, Heap.get, bytesA_length, bytesA_one, bytesA_plains, List.take_of_length_le, List.drop_of_length_le, Nat.add_zero, V.one, Nat.reduceLeDiff, List.all_cons, List.all_nil, ne_eq, not_false_eq_true, Nat.zero_le, s3, s4, s34, s35, s36, hlt, hix, hy', b1, b2, hLm, ga_lt, ga_0, ga_k, sa_lt, sa_0, sa_k]; done)) | refine To.block hxE5 ?_ | refine To.skip hxE5 ?_))
      generalize (if x.L.plain = true then e' else min e' o'.length) = e1
      generalize min d' o'.length = d1
      refine cutS2 (fun S' => S' 3 = .ptr (o.length + 4) 0 ∧ S' 4 = .ptr (o.length + 5) 0 ∧ S' 34 = .slice y off (xs.map Op1.cs).length 11 ∧ S' 35 = .int .i64 (xs.length : Int) ∧ S' 36 = .int .i64 (i : Int) ∧ S' 6 = .ptr o'.length 0 ∧ S' 41 = .int .i64 x.K ∧ S' 42 = .bool (x.K == 0)) (by simp only [go_sem, eqs hxE5, reduceIte, Nat.reduceEqDiff, Nat.reduceAdd, Nat.reduceMul, Nat.reduceLT, Nat.reduceLeDiff, Int.reduceBEq, Int.reduceBNe, s3, s4, s34, s35, s36]) ?_
      clear s3 s4 s34 s35 s36
      rintro S2 ⟨s3, s4, s34, s35, s36, s6, s41, s42⟩
      let box : AM.Obj := .cells .ex 69 0 x.cs
      refine To.mono (Q := fun ex S' h' => ex = .norm ∧ ∃ o2 e2 d2 L O N last lost, h' = ⟨o2, e2, d2⟩ ∧ Bo o.length o o2 L O N last lost ∧ Jv L O N last (i + 1) ∧ S' 3 = .ptr (o.length + 4) 0 ∧ S' 4 = .ptr (o.length + 5) 0 ∧ S' 34 = .slice y off (xs.map Op1.cs).length 11 ∧ S' 35 = .int .i64 (xs.length : Int) ∧ S' 36 = .int .i64 (i : Int)) ?_ ?_
      · have hBb := hB.app [box]
        have hbx : (o' ++ [box])[o'.length]? = some (.cells .ex 69 0 [.int .i64 x.K, .int .i64 x.N, .int .i64 x.r.id, .int .i64 x.r.op, .int .i64 x.r.ino, .int .i64 x.r.oth, .int .i64 x.r.n, .int .i64 x.r.m, .str x.r.nm, .str x.r.tx, x.L]) := by rw [app_get0]; rfl
        change To FF E5 _ S2 ⟨o' ++ [box], e1, d1⟩ _
        generalize o' ++ [box] = ob at *
        obtain ⟨hP, hro, vL, vO, vN, hR⟩ := hBb
        have ha0 := hJ.a0
        have ha1 := hJ.a1
        cases k0 : (x.K == 0)
        case true =>
          rw [k0] at s42
          have hWn : ∀ z ∈ entW (wIds L), ∃ j, z.1 = .int .i64 j ∧ j ≠ last + 1 := by
            intro z hz
            simp only [entW, List.mem_map] at hz
            obtain ⟨j, hj, rfl⟩ := hz
            obtain ⟨u, hu, rfl⟩ := wIds_mem hj
            exact ⟨_, rfl, by have := hJ.b1 u hu; omega⟩
          cases hr : (x.r.at_ (last + 1)).right
          · obtain ⟨v1, oh1, q1, rfl, rfl⟩ := put_no (e := e1) (d := d1) (r := x.r) hP ha0 (by omega) hr
            obtain ⟨v2, oh2, q2, rfl, rfl⟩ := rput_no (e := e1) (d := d1) (r := x.r) hR ha0 (by omega) hr
            unfold Rq.v Rq.cs at q1 q2
            (repeat' (first | refine To.seq hxE5 ?_ | refine To.op0 hxE5 (by simp only [go_sem, eqs hxE5, reduceIte, Nat.reduceEqDiff, Nat.reduceAdd, Nat.reduceMul, Nat.reduceLT, Nat.reduceLeDiff, Int.reduceBEq, Int.reduceBNe, Heap.gets, Heap.sets, Heap.get, bytesA_length, bytesA_one, bytesA_plains, List.take_of_length_le, List.drop_of_length_le, Nat.add_zero, V.one, Nat.reduceLeDiff, List.all_cons, List.all_nil, ne_eq, not_false_eq_true, Nat.zero_le, s3, s4, s34, s35, s36, s6, s41, s42, hbx, q1, q2]; rfl) ?_ | refine To.nop hxE5 ?_ | (refine To.condT hxE5 ?_ ?_; focus (simp only [go_sem, eqs hxE5, reduceIte, Nat.reduceEqDiff, Nat.reduceAdd, Nat.reduceMul, Nat.reduceLT, Nat.reduceLeDiff, Int.reduceBEq, Int.reduceBNe, Heap.gets, Heap.sets, Heap.get, bytesA_length, bytesA_one, bytesA_plains, List.take_of_length_le, List.drop_of_length_le, Nat.add_zero, V.one, Nat.reduceLeDiff, List.all_cons, List.all_nil, ne_eq, not_false_eq_true, Nat.zero_le, s3, s4, s34, s35, s36, s6, s41, s42, hbx, q1, q2]; done)) | (refine To.condF hxE5 ?_ ?_; focus (simp only [go_sem, eqs hxE5, reduceIte, Nat.reduceEqDiff, Nat.reduceAdd, Nat.reduceMul, Nat.reduceLT, Nat.reduceLeDiff, Int.reduceBEq, Int.reduceBNe, Heap.gets, Heap.sets, Heap.get, bytesA_length, bytesA_one, bytesA_plains, List.take_of_length_le, List.drop_of_length_le, Nat.add_zero, V.one, Nat.reduceLeDiff, List.all_cons, List.all_nil, ne_eq, not_false_eq_true, Nat.zero_le, s3, s4, s34, s35, s36, s6, s41, s42, hbx, q1, q2]; done)) | refine To.skip hxE5 ?_))
            refine ⟨rfl, _, _, _, L, O, N, last, lost, rfl, ⟨hP, hro, vL, vO, vN, hR⟩, hJ.next, ?_⟩
            simp only [go_sem, eqs hxE5, reduceIte, Nat.reduceEqDiff, Nat.reduceAdd, Nat.reduceMul, Nat.reduceLT, Nat.reduceLeDiff, Int.reduceBEq, Int.reduceBNe, s3, s4, s34, s35, s36]
          by_cases h8 : L.length < 8
          · obtain ⟨v1, oh1, q1, rfl, o2, d2, hg, hP2, hQ2⟩ := put_ok (e := e1) (d := d1) (r := x.r) hP ha0 (by omega) hr (by simpa using h8) hWn
            have hR2 := hR.qx hP hQ2
            obtain ⟨v2, oh2, q2, rfl, o3, e3, d3, vL3, vO3, vN3, hg3, hR3, hX3⟩ := rput_ok (e := e1) (d := d2) (r := x.r) hR2 ha0 (by omega) hr h8
            have hP3 := hP2.rx hR2 hX3
            have hro3 := (hro.trans (hQ2.roA hP)).trans (hX3.roA hR2)
            have hbx2 := hQ2.old hP hbx (by decide)
            unfold Rq.v Rq.cs at q1 q2
            (repeat' (first | refine To.seq hxE5 ?_ | refine To.op0 hxE5 (by simp only [go_sem, eqs hxE5, reduceIte, Nat.reduceEqDiff, Nat.reduceAdd, Nat.reduceMul, Nat.reduceLT, Nat.reduceLeDiff, Int.reduceBEq, Int.reduceBNe, Heap.gets, Heap.sets, Heap.get, bytesA_length, bytesA_one, bytesA_plains, List.take_of_length_le, List.drop_of_length_le, Nat.add_zero, V.one, Nat.reduceLeDiff, List.all_cons, List.all_nil, ne_eq, not_false_eq_true, Nat.zero_le, s3, s4, s34, s35, s36, s6, s41, s42, hbx]; rfl) ?_ | (refine To.condT hxE5 ?_ ?_; focus (simp only [go_sem, eqs hxE5, reduceIte, Nat.reduceEqDiff, Nat.reduceAdd, Nat.reduceMul, Nat.reduceLT, Nat.reduceLeDiff, Int.reduceBEq, Int.reduceBNe, Heap.gets, Heap.sets, Heap.get, bytesA_length, bytesA_one, bytesA_plains, List.take_of_length_le, List.drop_of_length_le, Nat.add_zero, V.one, Nat.reduceLeDiff, List.all_cons, List.all_nil, ne_eq, not_false_eq_true, Nat.zero_le, s3, s4, s34, s35, s36, s6, s41, s42, hbx]; done))))
            refine To.op hxE5 (by simp only [go_sem, eqs hxE5, reduceIte, Nat.reduceEqDiff, Nat.reduceAdd, Nat.reduceMul, Nat.reduceLT, Nat.reduceLeDiff, Int.reduceBEq, Int.reduceBNe, s3, q1]; rfl) ?_
            rw [hg]
            (repeat' (first | refine To.seq hxE5 ?_ | refine To.op0 hxE5 (by simp only [go_sem, eqs hxE5, reduceIte, Nat.reduceEqDiff, Nat.reduceAdd, Nat.reduceMul, Nat.reduceLT, Nat.reduceLeDiff, Int.reduceBEq, Int.reduceBNe, Heap.gets, Heap.sets, Heap.get, bytesA_length, bytesA_one, bytesA_plains, List.take_of_length_le, List.drop_of_length_le, Nat.add_zero, V.one, Nat.reduceLeDiff, List.all_cons, List.all_nil, ne_eq, not_false_eq_true, Nat.zero_le, s3, s4, s34, s35, s36, s6, s41, s42, hbx2]; rfl) ?_ | refine To.nop hxE5 ?_))
            refine To.op hxE5 (by simp only [go_sem, eqs hxE5, reduceIte, Nat.reduceEqDiff, Nat.reduceAdd, Nat.reduceMul, Nat.reduceLT, Nat.reduceLeDiff, Int.reduceBEq, Int.reduceBNe, s4, q2]; rfl) ?_
            rw [hg3]
            (repeat' (first | refine To.seq hxE5 ?_ | refine To.op0 hxE5 (by simp only [go_sem, eqs hxE5, reduceIte, Nat.reduceEqDiff, Nat.reduceAdd, Nat.reduceMul, Nat.reduceLT, Nat.reduceLeDiff, Int.reduceBEq, Int.reduceBNe, Heap.gets, Heap.sets, Heap.get, bytesA_length, bytesA_one, bytesA_plains, List.take_of_length_le, List.drop_of_length_le, Nat.add_zero, V.one, Nat.reduceLeDiff, List.all_cons, List.all_nil, ne_eq, not_false_eq_true, Nat.zero_le, s3, s4, s34, s35, s36, s6, s41, s42, bne_self_eq_false]; rfl) ?_ | refine To.nop hxE5 ?_ | (refine To.condF hxE5 ?_ ?_; focus (simp only [go_sem, eqs hxE5, reduceIte, Nat.reduceEqDiff, Nat.reduceAdd, Nat.reduceMul, Nat.reduceLT, Nat.reduceLeDiff, Int.reduceBEq, Int.reduceBNe, Heap.gets, Heap.sets, Heap.get, bytesA_length, bytesA_one, bytesA_plains, List.take_of_length_le, List.drop_of_length_le, Nat.add_zero, V.one, Nat.reduceLeDiff, List.all_cons, List.all_nil, ne_eq, not_false_eq_true, Nat.zero_le, s3, s4, s34, s35, s36, s6, s41, s42, bne_self_eq_false]; done)) | refine To.skip hxE5 ?_))
            refine ⟨rfl, _, _, _, L ++ [(x.r.at_ (last + 1), false)], O, N, last + 1, lost, rfl, ⟨?_, hro3, _, _, _, hR3⟩, hJ.put _ rfl hr h8, ?_⟩
            · have e1 : entW (wIds (L ++ [(x.r.at_ (last + 1), false)])) = entW (wIds L) ++ [(.int .i64 (last + 1), .bool true)] := by rw [wIds_put]; simp [entW, Rq.at_]
              have e2 : ((L ++ [(x.r.at_ (last + 1), false)]).map (·.1)).map Rq.v = (L.map (·.1)).map Rq.v ++ [(x.r.at_ (last + 1)).v] := by simp
              rw [e1, e2]; exact hP3
            · simp only [go_sem, eqs hxE5, reduceIte, Nat.reduceEqDiff, Nat.reduceAdd, Nat.reduceMul, Nat.reduceLT, Nat.reduceLeDiff, Int.reduceBEq, Int.reduceBNe, s3, s4, s34, s35, s36]
          · obtain ⟨v1, oh1, q1, rfl, rfl⟩ := put_full (e := e1) (d := d1) (r := x.r) hP ha0 (by omega) hr (by simpa using h8)
            obtain ⟨v2, oh2, q2, rfl, rfl⟩ := rput_full (e := e1) (d := d1) (r := x.r) hR ha0 (by omega) hr h8
            unfold Rq.v Rq.cs at q1 q2
            (repeat' (first | refine To.seq hxE5 ?_ | refine To.op0 hxE5 (by simp only [go_sem, eqs hxE5, reduceIte, Nat.reduceEqDiff, Nat.reduceAdd, Nat.reduceMul, Nat.reduceLT, Nat.reduceLeDiff, Int.reduceBEq, Int.reduceBNe, Heap.gets, Heap.sets, Heap.get, bytesA_length, bytesA_one, bytesA_plains, List.take_of_length_le, List.drop_of_length_le, Nat.add_zero, V.one, Nat.reduceLeDiff, List.all_cons, List.all_nil, ne_eq, not_false_eq_true, Nat.zero_le, s3, s4, s34, s35, s36, s6, s41, s42, hbx, q1, q2]; rfl) ?_ | refine To.nop hxE5 ?_ | (refine To.condT hxE5 ?_ ?_; focus (simp only [go_sem, eqs hxE5, reduceIte, Nat.reduceEqDiff, Nat.reduceAdd, Nat.reduceMul, Nat.reduceLT, Nat.reduceLeDiff, Int.reduceBEq, Int.reduceBNe, Heap.gets, Heap.sets, Heap.get, bytesA_length, bytesA_one, bytesA_plains, List.take_of_length_le, List.drop_of_length_le, Nat.add_zero, V.one, Nat.reduceLeDiff, List.all_cons, List.all_nil, ne_eq, not_false_eq_true, Nat.zero_le, s3, s4, s34, s35, s36, s6, s41, s42, hbx, q1, q2]; done)) | (refine To.condF hxE5 ?_ ?_; focus (simp only [go_sem, eqs hxE5, reduceIte, Nat.reduceEqDiff, Nat.reduceAdd, Nat.reduceMul, Nat.reduceLT, Nat.reduceLeDiff, Int.reduceBEq, Int.reduceBNe, Heap.gets, Heap.sets, Heap.get, bytesA_length, bytesA_one, bytesA_plains, List.take_of_length_le, List.drop_of_length_le, Nat.add_zero, V.one, Nat.reduceLeDiff, List.all_cons, List.all_nil, ne_eq, not_false_eq_true, Nat.zero_le, s3, s4, s34, s35, s36, s6, s41, s42, hbx, q1, q2]; done)) | refine To.skip hxE5 ?_))
            refine ⟨rfl, _, _, _, L, O, N, last, lost, rfl, ⟨hP, hro, vL, vO, vN, hR⟩, hJ.next, ?_⟩
            simp only [go_sem, eqs hxE5, reduceIte, Nat.reduceEqDiff, Nat.reduceAdd, Nat.reduceMul, Nat.reduceLT, Nat.reduceLeDiff, Int.reduceBEq, Int.reduceBNe, s3, s4, s34, s35, s36]
        rw [k0] at s42
        cases k1 : (x.K == 1)
        case true =>
          obtain ⟨v1, oh1, q1, rfl, o2, d2, hg, hP2, hQ2⟩ := take_q (e := e1) (d := d1) hP (fun r hr z hz => by
            obtain ⟨u, hu, rfl⟩ := List.mem_map.1 hz
            obtain ⟨w, hw, rfl⟩ := List.mem_map.1 hr
            exact hJ.ob u hu w hw)
          have hR2 := hR.qx hP hQ2
          have hp : ∃ (a b c d e f : Int) (g h : List UInt8) (u : Bool), takeVal (takeG L).1 = .tuple [.agg [.int .i64 a, .int .i64 b, .int .i64 c, .int .i64 d, .int .i64 e, .int .i64 f, .str g, .str h], .bool u] := by
            cases (takeG L).1 with
            | none => exact ⟨_, _, _, _, _, _, _, _, _, rfl⟩
            | some r => exact ⟨_, _, _, _, _, _, _, _, _, rfl⟩
          obtain ⟨t1, t2⟩ := take_eq hJ.bp
          rw [t1] at q1 hP2
          simp only at q1 hP2
          rw [t2] at hP2
          have hto : takeO (oIds O) (takeG L).1 = oIds (addO O (takeG L).1) := by
            cases (takeG L).1 with
            | none => rfl
            | some r => simp [takeO, addO, oIds]
          rw [hto] at hP2
          obtain ⟨p1, p2, p3, p4, p5, p6, p7, p8, pf, hp⟩ := hp
          have hro2 := hro.trans (hQ2.roA hP)
          have lw2 := get_lt hR2.hw
          obtain ⟨v2, oh2, q2, rfl, o3, e3, d3, vL3, vO3, vN3, hg3, hR3, hX3⟩ := rtake_q (e := e1) (d := min d2 o2.length) (hR2.app [.cells .ex 23 0 [.int .i64 p1, .int .i64 p2, .int .i64 p3, .int .i64 p4, .int .i64 p5, .int .i64 p6, .str p7, .str p8]]) (by have := hJ.h1; omega) (by have := hJ.h3; omega)
          have hP3 := (hP2.app [.cells .ex 23 0 [.int .i64 p1, .int .i64 p2, .int .i64 p3, .int .i64 p4, .int .i64 p5, .int .i64 p6, .str p7, .str p8]]).rx (hR2.app _) hX3
          have hro3 := (hro2.trans (Ro.app [.cells .ex 23 0 [.int .i64 p1, .int .i64 p2, .int .i64 p3, .int .i64 p4, .int .i64 p5, .int .i64 p6, .str p7, .str p8]])).trans (hX3.roA (hR2.app _))
          have hb2 := hX3.get o2.length _ (by omega) (by rw [app_get0]) rfl
          have lb2 := get_lt hb2
          (repeat' (first | refine To.seq hxE5 ?_ | refine To.op0 hxE5 (by simp only [go_sem, eqs hxE5, reduceIte, Nat.reduceEqDiff, Nat.reduceAdd, Nat.reduceMul, Nat.reduceLT, Nat.reduceLeDiff, Int.reduceBEq, Int.reduceBNe, Heap.gets, Heap.sets, Heap.get, bytesA_length, bytesA_one, bytesA_plains, List.take_of_length_le, List.drop_of_length_le, Nat.add_zero, V.one, Nat.reduceLeDiff, List.all_cons, List.all_nil, ne_eq, not_false_eq_true, Nat.zero_le, s3, s4, s34, s35, s36, s6, s41, s42, k1, hbx]; rfl) ?_ | refine To.nop hxE5 ?_ | (refine To.condT hxE5 ?_ ?_; focus (simp only [go_sem, eqs hxE5, reduceIte, Nat.reduceEqDiff, Nat.reduceAdd, Nat.reduceMul, Nat.reduceLT, Nat.reduceLeDiff, Int.reduceBEq, Int.reduceBNe, Heap.gets, Heap.sets, Heap.get, bytesA_length, bytesA_one, bytesA_plains, List.take_of_length_le, List.drop_of_length_le, Nat.add_zero, V.one, Nat.reduceLeDiff, List.all_cons, List.all_nil, ne_eq, not_false_eq_true, Nat.zero_le, s3, s4, s34, s35, s36, s6, s41, s42, k1, hbx]; done)) | (refine To.condF hxE5 ?_ ?_; focus (simp only [go_sem, eqs hxE5, reduceIte, Nat.reduceEqDiff, Nat.reduceAdd, Nat.reduceMul, Nat.reduceLT, Nat.reduceLeDiff, Int.reduceBEq, Int.reduceBNe, Heap.gets, Heap.sets, Heap.get, bytesA_length, bytesA_one, bytesA_plains, List.take_of_length_le, List.drop_of_length_le, Nat.add_zero, V.one, Nat.reduceLeDiff, List.all_cons, List.all_nil, ne_eq, not_false_eq_true, Nat.zero_le, s3, s4, s34, s35, s36, s6, s41, s42, k1, hbx]; done))))
          refine To.op hxE5 (by simp only [go_sem, eqs hxE5, reduceIte, Nat.reduceEqDiff, Nat.reduceAdd, Nat.reduceMul, Nat.reduceLT, Nat.reduceLeDiff, Int.reduceBEq, Int.reduceBNe, s3, q1]; rfl) ?_
          rw [hg]
          rw [hp] at q2 ⊢
          (repeat' (first | refine To.seq hxE5 ?_ | refine To.op0 hxE5 (by simp only [go_sem, eqs hxE5, reduceIte, Nat.reduceEqDiff, Nat.reduceAdd, Nat.reduceMul, Nat.reduceLT, Nat.reduceLeDiff, Int.reduceBEq, Int.reduceBNe, Heap.gets, Heap.sets, Heap.get, bytesA_length, bytesA_one, bytesA_plains, List.take_of_length_le, List.drop_of_length_le, Nat.add_zero, V.one, Nat.reduceLeDiff, List.all_cons, List.all_nil, ne_eq, not_false_eq_true, Nat.zero_le, s3, s4, s34, s35, s36, s6, s41, s42, ga_lt, ga_0, ga_k, sa_lt, sa_0, sa_k]; rfl) ?_ | refine To.op1 hxE5 (by simp only [go_sem, eqs hxE5, reduceIte, Nat.reduceEqDiff, Nat.reduceAdd, Nat.reduceMul, Nat.reduceLT, Nat.reduceLeDiff, Int.reduceBEq, Int.reduceBNe, Heap.gets, Heap.sets, Heap.get, bytesA_length, bytesA_one, bytesA_plains, List.take_of_length_le, List.drop_of_length_le, Nat.add_zero, V.one, Nat.reduceLeDiff, List.all_cons, List.all_nil, ne_eq, not_false_eq_true, Nat.zero_le, s3, s4, s34, s35, s36, s6, s41, s42, ga_lt, ga_0, ga_k, sa_lt, sa_0, sa_k]; rfl) ?_ | refine To.nop hxE5 ?_))
          refine To.op hxE5 (by simp only [go_sem, eqs hxE5, reduceIte, Nat.reduceEqDiff, Nat.reduceAdd, Nat.reduceMul, Nat.reduceLT, Nat.reduceLeDiff, Int.reduceBEq, Int.reduceBNe, s4, q2]; rfl) ?_
          rw [hg3]
          (repeat' (first | refine To.seq hxE5 ?_ | refine To.op0 hxE5 (by simp only [go_sem, eqs hxE5, reduceIte, Nat.reduceEqDiff, Nat.reduceAdd, Nat.reduceMul, Nat.reduceLT, Nat.reduceLeDiff, Int.reduceBEq, Int.reduceBNe, Heap.gets, Heap.sets, Heap.get, bytesA_length, bytesA_one, bytesA_plains, List.take_of_length_le, List.drop_of_length_le, Nat.add_zero, V.one, Nat.reduceLeDiff, List.all_cons, List.all_nil, ne_eq, not_false_eq_true, Nat.zero_le, s3, s4, s34, s35, s36, s6, s41, s42, ga_lt, ga_0, ga_k, sa_lt, sa_0, sa_k, hb2, lb2, bne_self_eq_false, beq_self_eq_true, Bool.and_self, Bool.not_true]; rfl) ?_ | refine To.op1 hxE5 (by simp only [go_sem, eqs hxE5, reduceIte, Nat.reduceEqDiff, Nat.reduceAdd, Nat.reduceMul, Nat.reduceLT, Nat.reduceLeDiff, Int.reduceBEq, Int.reduceBNe, Heap.gets, Heap.sets, Heap.get, bytesA_length, bytesA_one, bytesA_plains, List.take_of_length_le, List.drop_of_length_le, Nat.add_zero, V.one, Nat.reduceLeDiff, List.all_cons, List.all_nil, ne_eq, not_false_eq_true, Nat.zero_le, s3, s4, s34, s35, s36, s6, s41, s42, ga_lt, ga_0, ga_k, sa_lt, sa_0, sa_k, hb2, lb2, bne_self_eq_false, beq_self_eq_true, Bool.and_self, Bool.not_true]; rfl) ?_ | refine To.nop hxE5 ?_ | (refine To.condF hxE5 ?_ ?_; focus (simp only [go_sem, eqs hxE5, reduceIte, Nat.reduceEqDiff, Nat.reduceAdd, Nat.reduceMul, Nat.reduceLT, Nat.reduceLeDiff, Int.reduceBEq, Int.reduceBNe, Heap.gets, Heap.sets, Heap.get, bytesA_length, bytesA_one, bytesA_plains, List.take_of_length_le, List.drop_of_length_le, Nat.add_zero, V.one, Nat.reduceLeDiff, List.all_cons, List.all_nil, ne_eq, not_false_eq_true, Nat.zero_le, s3, s4, s34, s35, s36, s6, s41, s42, ga_lt, ga_0, ga_k, sa_lt, sa_0, sa_k, hb2, lb2, bne_self_eq_false, beq_self_eq_true, Bool.and_self, Bool.not_true]; done)) | refine To.skip hxE5 ?_))
          refine ⟨rfl, _, _, _, (takeG L).2, addO O (takeG L).1, N, last, lost, rfl, Bo.app ⟨hP3, hro3, _, _, _, hR3⟩ _, hJ.take, ?_⟩
          simp only [go_sem, eqs hxE5, reduceIte, Nat.reduceEqDiff, Nat.reduceAdd, Nat.reduceMul, Nat.reduceLT, Nat.reduceLeDiff, Int.reduceBEq, Int.reduceBNe, s3, s4, s34, s35, s36]
        cases k2 : (x.K == 2)
        case true =>
          obtain ⟨v1, oh1, q1, rfl, o2, d2, hg, hP2, hQ2⟩ := answer_q (e := e1) (d := d1) x.N hP
          have hR2 := hR.qx hP hQ2
          obtain ⟨v2, oh2, q2, rfl, o3, e3, d3, vL3, vO3, vN3, hg3, hR3, hX3⟩ := ranswer (e := e1) (d := d2) x.N hR2 (by have := hJ.h3; omega)
          have hP3 := hP2.rx hR2 hX3
          have hro3 := (hro.trans (hQ2.roA hP)).trans (hX3.roA hR2)
          have hbx2 := hQ2.old hP hbx (by decide)
          obtain ⟨u1, u2, u3⟩ := look_eq x.N O hJ.oo
          rw [u1] at q1
          have hP4 : (if (lookO x.N (oIds O)).isSome = true then eraseO x.N (oIds O) else oIds O) = oIds (closeG x.N O).2 := by
            split
            · exact u3
            · rename_i hh
              rw [← u3, look_none x.N O (by simpa using hh)]
          rw [hP4] at hP3
          (repeat' (first | refine To.seq hxE5 ?_ | refine To.op0 hxE5 (by simp only [go_sem, eqs hxE5, reduceIte, Nat.reduceEqDiff, Nat.reduceAdd, Nat.reduceMul, Nat.reduceLT, Nat.reduceLeDiff, Int.reduceBEq, Int.reduceBNe, Heap.gets, Heap.sets, Heap.get, bytesA_length, bytesA_one, bytesA_plains, List.take_of_length_le, List.drop_of_length_le, Nat.add_zero, V.one, Nat.reduceLeDiff, List.all_cons, List.all_nil, ne_eq, not_false_eq_true, Nat.zero_le, s3, s4, s34, s35, s36, s6, s41, s42, k1, k2, hbx]; rfl) ?_ | refine To.nop hxE5 ?_ | (refine To.condT hxE5 ?_ ?_; focus (simp only [go_sem, eqs hxE5, reduceIte, Nat.reduceEqDiff, Nat.reduceAdd, Nat.reduceMul, Nat.reduceLT, Nat.reduceLeDiff, Int.reduceBEq, Int.reduceBNe, Heap.gets, Heap.sets, Heap.get, bytesA_length, bytesA_one, bytesA_plains, List.take_of_length_le, List.drop_of_length_le, Nat.add_zero, V.one, Nat.reduceLeDiff, List.all_cons, List.all_nil, ne_eq, not_false_eq_true, Nat.zero_le, s3, s4, s34, s35, s36, s6, s41, s42, k1, k2, hbx]; done)) | (refine To.condF hxE5 ?_ ?_; focus (simp only [go_sem, eqs hxE5, reduceIte, Nat.reduceEqDiff, Nat.reduceAdd, Nat.reduceMul, Nat.reduceLT, Nat.reduceLeDiff, Int.reduceBEq, Int.reduceBNe, Heap.gets, Heap.sets, Heap.get, bytesA_length, bytesA_one, bytesA_plains, List.take_of_length_le, List.drop_of_length_le, Nat.add_zero, V.one, Nat.reduceLeDiff, List.all_cons, List.all_nil, ne_eq, not_false_eq_true, Nat.zero_le, s3, s4, s34, s35, s36, s6, s41, s42, k1, k2, hbx]; done))))
          refine To.op hxE5 (by simp only [go_sem, eqs hxE5, reduceIte, Nat.reduceEqDiff, Nat.reduceAdd, Nat.reduceMul, Nat.reduceLT, Nat.reduceLeDiff, Int.reduceBEq, Int.reduceBNe, s3, q1]; rfl) ?_
          rw [hg]
          have hp : ∃ a b : Int, rans (closeG x.N O).1 = .tuple [.int .i64 a, .int .i64 b] := by
            unfold rans; split
            · exact ⟨_, _, rfl⟩
            · exact ⟨_, _, rfl⟩
          obtain ⟨pa, pb, hp⟩ := hp
          rw [hp] at q2 ⊢
          (repeat' (first | refine To.seq hxE5 ?_ | refine To.op0 hxE5 (by simp only [go_sem, eqs hxE5, reduceIte, Nat.reduceEqDiff, Nat.reduceAdd, Nat.reduceMul, Nat.reduceLT, Nat.reduceLeDiff, Int.reduceBEq, Int.reduceBNe, Heap.gets, Heap.sets, Heap.get, bytesA_length, bytesA_one, bytesA_plains, List.take_of_length_le, List.drop_of_length_le, Nat.add_zero, V.one, Nat.reduceLeDiff, List.all_cons, List.all_nil, ne_eq, not_false_eq_true, Nat.zero_le, s3, s4, s34, s35, s36, s6, s41, s42, hbx2]; rfl) ?_ | refine To.nop hxE5 ?_))
          refine To.op hxE5 (by simp only [go_sem, eqs hxE5, reduceIte, Nat.reduceEqDiff, Nat.reduceAdd, Nat.reduceMul, Nat.reduceLT, Nat.reduceLeDiff, Int.reduceBEq, Int.reduceBNe, s4, q2]; rfl) ?_
          rw [hg3]
          (repeat' (first | refine To.seq hxE5 ?_ | refine To.op0 hxE5 (by simp only [go_sem, eqs hxE5, reduceIte, Nat.reduceEqDiff, Nat.reduceAdd, Nat.reduceMul, Nat.reduceLT, Nat.reduceLeDiff, Int.reduceBEq, Int.reduceBNe, Heap.gets, Heap.sets, Heap.get, bytesA_length, bytesA_one, bytesA_plains, List.take_of_length_le, List.drop_of_length_le, Nat.add_zero, V.one, Nat.reduceLeDiff, List.all_cons, List.all_nil, ne_eq, not_false_eq_true, Nat.zero_le, s3, s4, s34, s35, s36, s6, s41, s42, bne_self_eq_false]; rfl) ?_ | refine To.nop hxE5 ?_ | (refine To.condF hxE5 ?_ ?_; focus (simp only [go_sem, eqs hxE5, reduceIte, Nat.reduceEqDiff, Nat.reduceAdd, Nat.reduceMul, Nat.reduceLT, Nat.reduceLeDiff, Int.reduceBEq, Int.reduceBNe, Heap.gets, Heap.sets, Heap.get, bytesA_length, bytesA_one, bytesA_plains, List.take_of_length_le, List.drop_of_length_le, Nat.add_zero, V.one, Nat.reduceLeDiff, List.all_cons, List.all_nil, ne_eq, not_false_eq_true, Nat.zero_le, s3, s4, s34, s35, s36, s6, s41, s42, bne_self_eq_false]; done)) | refine To.skip hxE5 ?_))
          refine ⟨rfl, _, _, _, L, (closeG x.N O).2, N, last, lost, rfl, ⟨hP3, hro3, _, _, _, hR3⟩, hJ.close _, ?_⟩
          simp only [go_sem, eqs hxE5, reduceIte, Nat.reduceEqDiff, Nat.reduceAdd, Nat.reduceMul, Nat.reduceLT, Nat.reduceLeDiff, Int.reduceBEq, Int.reduceBNe, s3, s4, s34, s35, s36]
        cases k3 : (x.K == 3)
        case true =>
          obtain ⟨v1, oh1, q1, rfl, o2, d2, hg, hP2, hQ2⟩ := cancel_q (e := e1) (d := d1) x.N hP
          have hR2 := hR.qx hP hQ2
          obtain ⟨v2, oh2, q2, rfl, o3, e3, d3, vL3, vO3, vN3, hg3, hR3, hX3⟩ := rcancel (e := e1) (d := d2) x.N hR2 (by have := hJ.h3; omega) (by have := hJ.h1; omega) hJ.oo
          have hP3 := hP2.rx hR2 hX3
          have hro3 := (hro.trans (hQ2.roA hP)).trans (hX3.roA hR2)
          have hbx2 := hQ2.old hP hbx (by decide)
          obtain ⟨u1, u2, u3⟩ := look_eq x.N O hJ.oo
          rw [cancel_val x.N hJ.oo] at q1
          (repeat' (first | refine To.seq hxE5 ?_ | refine To.op0 hxE5 (by simp only [go_sem, eqs hxE5, reduceIte, Nat.reduceEqDiff, Nat.reduceAdd, Nat.reduceMul, Nat.reduceLT, Nat.reduceLeDiff, Int.reduceBEq, Int.reduceBNe, Heap.gets, Heap.sets, Heap.get, bytesA_length, bytesA_one, bytesA_plains, List.take_of_length_le, List.drop_of_length_le, Nat.add_zero, V.one, Nat.reduceLeDiff, List.all_cons, List.all_nil, ne_eq, not_false_eq_true, Nat.zero_le, s3, s4, s34, s35, s36, s6, s41, s42, k1, k2, k3, hbx]; rfl) ?_ | refine To.nop hxE5 ?_ | (refine To.condT hxE5 ?_ ?_; focus (simp only [go_sem, eqs hxE5, reduceIte, Nat.reduceEqDiff, Nat.reduceAdd, Nat.reduceMul, Nat.reduceLT, Nat.reduceLeDiff, Int.reduceBEq, Int.reduceBNe, Heap.gets, Heap.sets, Heap.get, bytesA_length, bytesA_one, bytesA_plains, List.take_of_length_le, List.drop_of_length_le, Nat.add_zero, V.one, Nat.reduceLeDiff, List.all_cons, List.all_nil, ne_eq, not_false_eq_true, Nat.zero_le, s3, s4, s34, s35, s36, s6, s41, s42, k1, k2, k3, hbx]; done)) | (refine To.condF hxE5 ?_ ?_; focus (simp only [go_sem, eqs hxE5, reduceIte, Nat.reduceEqDiff, Nat.reduceAdd, Nat.reduceMul, Nat.reduceLT, Nat.reduceLeDiff, Int.reduceBEq, Int.reduceBNe, Heap.gets, Heap.sets, Heap.get, bytesA_length, bytesA_one, bytesA_plains, List.take_of_length_le, List.drop_of_length_le, Nat.add_zero, V.one, Nat.reduceLeDiff, List.all_cons, List.all_nil, ne_eq, not_false_eq_true, Nat.zero_le, s3, s4, s34, s35, s36, s6, s41, s42, k1, k2, k3, hbx]; done)) | refine To.draw0 hxE5 ?_ | refine ToD.op0 (by simp only [go_sem, eqs hxE5, reduceIte, Nat.reduceEqDiff, Nat.reduceAdd, Nat.reduceMul, Nat.reduceLT, Nat.reduceLeDiff, Int.reduceBEq, Int.reduceBNe, Heap.gets, Heap.sets, Heap.get, bytesA_length, bytesA_one, bytesA_plains, List.take_of_length_le, List.drop_of_length_le, Nat.add_zero, V.one, Nat.reduceLeDiff, List.all_cons, List.all_nil, ne_eq, not_false_eq_true, Nat.zero_le, s3, s4, s34, s35, s36, s6, s41, s42, k1, k2, k3, hbx]; rfl) (by simp only [put_some, put_none]; rfl) ?_ | fail))
          refine ToD.call0 rfl rfl rfl (by simp only [go_sem, eqs hxE5, reduceIte, Nat.reduceEqDiff, Nat.reduceAdd, Nat.reduceMul, Nat.reduceLT, Nat.reduceLeDiff, Int.reduceBEq, Int.reduceBNe, s3, q1]; rfl) hg ?_ ?_
          · simp only [List.all_cons, List.all_nil, Bool.and_true]
            refine lookA_V (v := .int .i64 x.N) (d := 118) rfl rfl ?_ rfl
            simp only [go_sem, eqs hxE5, reduceIte, Nat.reduceEqDiff, Nat.reduceAdd, Nat.reduceMul, Nat.reduceLT, Nat.reduceLeDiff, Int.reduceBEq, Int.reduceBNe, Heap.gets, Heap.sets, Heap.get, bytesA_length, bytesA_one, bytesA_plains, List.take_of_length_le, List.drop_of_length_le, Nat.add_zero, V.one, Nat.reduceLeDiff, List.all_cons, List.all_nil, ne_eq, not_false_eq_true, Nat.zero_le, s6, hbx2]
          skip
          refine ToD.call0 rfl rfl rfl (by simp only [go_sem, eqs hxE5, reduceIte, Nat.reduceEqDiff, Nat.reduceAdd, Nat.reduceMul, Nat.reduceLT, Nat.reduceLeDiff, Int.reduceBEq, Int.reduceBNe, s4, q2]; rfl) hg3 rfl ?_
          (repeat' (first | (refine To.condF hxE5 ?_ ?_; focus (simp only [go_sem, eqs hxE5, reduceIte, Nat.reduceEqDiff, Nat.reduceAdd, Nat.reduceMul, Nat.reduceLT, Nat.reduceLeDiff, Int.reduceBEq, Int.reduceBNe, Heap.gets, Heap.sets, Heap.get, bytesA_length, bytesA_one, bytesA_plains, List.take_of_length_le, List.drop_of_length_le, Nat.add_zero, V.one, Nat.reduceLeDiff, List.all_cons, List.all_nil, ne_eq, not_false_eq_true, Nat.zero_le, s3, s4, s34, s35, s36, s6, s41, s42, bne_self_eq_false]; done)) | refine To.skip hxE5 ?_ | refine ToD.op0 (by simp only [go_sem, eqs hxE5, reduceIte, Nat.reduceEqDiff, Nat.reduceAdd, Nat.reduceMul, Nat.reduceLT, Nat.reduceLeDiff, Int.reduceBEq, Int.reduceBNe, Heap.gets, Heap.sets, Heap.get, bytesA_length, bytesA_one, bytesA_plains, List.take_of_length_le, List.drop_of_length_le, Nat.add_zero, V.one, Nat.reduceLeDiff, List.all_cons, List.all_nil, ne_eq, not_false_eq_true, Nat.zero_le, s3, s4, s34, s35, s36, s6, s41, s42, bne_self_eq_false]; rfl) (by simp only [put_some, put_none]; rfl) ?_ | refine ToD.nop ?_))
          refine ⟨rfl, _, _, _, if 0 ≤ (closeG x.N O).1 then L else cancelG x.N L, (closeG x.N O).2, N, last, lost, rfl, ⟨?_, hro3, _, _, _, hR3⟩, ?_, ?_⟩
          · rw [u3] at hP3
            by_cases hc : 0 ≤ (closeG x.N O).1
            · rw [if_pos hc]; rwa [hJ.apart (by rw [u2]; simpa using hc)] at hP3
            · rw [if_neg hc, (has_eq x.N L).2.2, (has_eq x.N L).2.1]; exact hP3
          · split
            · exact hJ.close _
            · exact (hJ.close _).mapped (cancelG_map _ _)
          · simp only [go_sem, eqs hxE5, reduceIte, Nat.reduceEqDiff, Nat.reduceAdd, Nat.reduceMul, Nat.reduceLT, Nat.reduceLeDiff, Int.reduceBEq, Int.reduceBNe, s3, s4, s34, s35, s36]
        cases k4 : (x.K == 4)
        case true =>
          obtain ⟨v1, oh1, q1, rfl, o2, d2, hg, hP2, hQ2⟩ := tell_q (e := e1) (d := d1) hP (hL1.of hro) (by omega)
          have hR2 := hR.qx hP hQ2
          have hro2 := hro.trans (hQ2.roA hP)
          have hbx2 := hQ2.old hP hbx (by decide)
          obtain ⟨r9, oh9, q9, v9, o9, e9, d9, rfl, hg9, hold9, hlen9, hv9⟩ := plain_q (e := e1) (d := d2) (hL1.of hro2) (by omega)
          have hX9 : Rx (o.length + 5) o2 o9 := ⟨hlen9, fun z u _ hz _ => (hold9 z (get_lt hz)).trans hz⟩
          have hP9 := hP2.rx hR2 hX9
          have hro9 := hro2.trans (hX9.roA hR2)
          have hR9 : RQ o9 (o.length + 5) vL vO vN L O N last lost :=
            ⟨(hold9 _ (get_lt hR2.hw)).trans hR2.hw, hR2.hL.of fun l ck cs hl => (hold9 _ (get_lt hl)).trans hl, hR2.hO.of fun l ck cs hl => (hold9 _ (get_lt hl)).trans hl, hR2.hN.of fun l ck cs hl => (hold9 _ (get_lt hl)).trans hl⟩
          have hvT : ∃ lA, (v9 = .nils ∧ x.ns = []) ∨ (v9 = .slice lA 0 x.ns.length 3 ∧ o9[lA]? = some (.cells .gr 40 0 (rows3 x.ns)) ∧ ∀ l3 a b c, vN = .slice l3 a b c → l3 < lA) := by
            rcases hv9 with h | ⟨l, hl, h1, h2⟩
            · exact ⟨0, .inl h⟩
            · refine ⟨l, .inr ⟨h1, h2, ?_⟩⟩
              rintro l3 a b c rfl
              rcases hR2.hN with ⟨h, _⟩ | ⟨l4, ck4, h, h4, _⟩
              · cases h
              · cases h
                have := get_lt h4
                omega
          obtain ⟨lA, hvT⟩ := hvT
          obtain ⟨v2, oh2, q2, rfl, o3, e3, d3, vL3, vO3, vN3, hg3, hR3, hX3⟩ := rtell (e := e9) (d := d9) hR9 hJ.h2 (by omega) hvT
          have hP3 := hP9.rx hR9 hX3
          have hro3 := hro9.trans (hX3.roA hR9)
          (repeat' (first | refine To.seq hxE5 ?_ | refine To.op0 hxE5 (by simp only [go_sem, eqs hxE5, reduceIte, Nat.reduceEqDiff, Nat.reduceAdd, Nat.reduceMul, Nat.reduceLT, Nat.reduceLeDiff, Int.reduceBEq, Int.reduceBNe, Heap.gets, Heap.sets, Heap.get, bytesA_length, bytesA_one, bytesA_plains, List.take_of_length_le, List.drop_of_length_le, Nat.add_zero, V.one, Nat.reduceLeDiff, List.all_cons, List.all_nil, ne_eq, not_false_eq_true, Nat.zero_le, s3, s4, s34, s35, s36, s6, s41, s42, k1, k2, k3, k4, hbx]; rfl) ?_ | refine To.nop hxE5 ?_ | (refine To.condT hxE5 ?_ ?_; focus (simp only [go_sem, eqs hxE5, reduceIte, Nat.reduceEqDiff, Nat.reduceAdd, Nat.reduceMul, Nat.reduceLT, Nat.reduceLeDiff, Int.reduceBEq, Int.reduceBNe, Heap.gets, Heap.sets, Heap.get, bytesA_length, bytesA_one, bytesA_plains, List.take_of_length_le, List.drop_of_length_le, Nat.add_zero, V.one, Nat.reduceLeDiff, List.all_cons, List.all_nil, ne_eq, not_false_eq_true, Nat.zero_le, s3, s4, s34, s35, s36, s6, s41, s42, k1, k2, k3, k4, hbx]; done)) | (refine To.condF hxE5 ?_ ?_; focus (simp only [go_sem, eqs hxE5, reduceIte, Nat.reduceEqDiff, Nat.reduceAdd, Nat.reduceMul, Nat.reduceLT, Nat.reduceLeDiff, Int.reduceBEq, Int.reduceBNe, Heap.gets, Heap.sets, Heap.get, bytesA_length, bytesA_one, bytesA_plains, List.take_of_length_le, List.drop_of_length_le, Nat.add_zero, V.one, Nat.reduceLeDiff, List.all_cons, List.all_nil, ne_eq, not_false_eq_true, Nat.zero_le, s3, s4, s34, s35, s36, s6, s41, s42, k1, k2, k3, k4, hbx]; done)) | refine To.draw0 hxE5 ?_ | refine ToD.op0 (by simp only [go_sem, eqs hxE5, reduceIte, Nat.reduceEqDiff, Nat.reduceAdd, Nat.reduceMul, Nat.reduceLT, Nat.reduceLeDiff, Int.reduceBEq, Int.reduceBNe, Heap.gets, Heap.sets, Heap.get, bytesA_length, bytesA_one, bytesA_plains, List.take_of_length_le, List.drop_of_length_le, Nat.add_zero, V.one, Nat.reduceLeDiff, List.all_cons, List.all_nil, ne_eq, not_false_eq_true, Nat.zero_le, s3, s4, s34, s35, s36, s6, s41, s42, k1, k2, k3, k4, hbx]; rfl) (by simp only [put_some, put_none]; rfl) ?_ | fail))
          refine ToD.call0 rfl rfl rfl (by simp only [go_sem, eqs hxE5, reduceIte, Nat.reduceEqDiff, Nat.reduceAdd, Nat.reduceMul, Nat.reduceLT, Nat.reduceLeDiff, Int.reduceBEq, Int.reduceBNe, s3, q1]; rfl) hg ?_ ?_
          · simp only [List.all_cons, List.all_nil, Bool.and_true]
            refine lookA_V (v := x.L) (d := 129) rfl rfl ?_ rfl
            simp only [go_sem, eqs hxE5, reduceIte, Nat.reduceEqDiff, Nat.reduceAdd, Nat.reduceMul, Nat.reduceLT, Nat.reduceLeDiff, Int.reduceBEq, Int.reduceBNe, Heap.gets, Heap.sets, Heap.get, bytesA_length, bytesA_one, bytesA_plains, List.take_of_length_le, List.drop_of_length_le, Nat.add_zero, V.one, Nat.reduceLeDiff, List.all_cons, List.all_nil, ne_eq, not_false_eq_true, Nat.zero_le, s6, hbx2]
          skip
          refine ToD.call0 rfl rfl rfl (by simp only [go_sem, eqs hxE5, reduceIte, Nat.reduceEqDiff, Nat.reduceAdd, Nat.reduceMul, Nat.reduceLT, Nat.reduceLeDiff, Int.reduceBEq, Int.reduceBNe, q9]; rfl) hg9 rfl ?_
          skip
          refine ToD.call0 rfl rfl rfl (by simp only [go_sem, eqs hxE5, reduceIte, Nat.reduceEqDiff, Nat.reduceAdd, Nat.reduceMul, Nat.reduceLT, Nat.reduceLeDiff, Int.reduceBEq, Int.reduceBNe, s4, q2]; rfl) hg3 rfl ?_
          (repeat' (first | (refine To.condF hxE5 ?_ ?_; focus (simp only [go_sem, eqs hxE5, reduceIte, Nat.reduceEqDiff, Nat.reduceAdd, Nat.reduceMul, Nat.reduceLT, Nat.reduceLeDiff, Int.reduceBEq, Int.reduceBNe, Heap.gets, Heap.sets, Heap.get, bytesA_length, bytesA_one, bytesA_plains, List.take_of_length_le, List.drop_of_length_le, Nat.add_zero, V.one, Nat.reduceLeDiff, List.all_cons, List.all_nil, ne_eq, not_false_eq_true, Nat.zero_le, s3, s4, s34, s35, s36, s6, s41, s42, bne_self_eq_false]; done)) | refine To.skip hxE5 ?_ | refine ToD.op0 (by simp only [go_sem, eqs hxE5, reduceIte, Nat.reduceEqDiff, Nat.reduceAdd, Nat.reduceMul, Nat.reduceLT, Nat.reduceLeDiff, Int.reduceBEq, Int.reduceBNe, Heap.gets, Heap.sets, Heap.get, bytesA_length, bytesA_one, bytesA_plains, List.take_of_length_le, List.drop_of_length_le, Nat.add_zero, V.one, Nat.reduceLeDiff, List.all_cons, List.all_nil, ne_eq, not_false_eq_true, Nat.zero_le, s3, s4, s34, s35, s36, s6, s41, s42, bne_self_eq_false]; rfl) (by simp only [put_some, put_none]; rfl) ?_ | refine ToD.nop ?_))
          refine ⟨rfl, _, _, _, L, O, _, last, _, rfl, ⟨hP3, hro3, _, _, _, hR3⟩, hJ.notes (tell_len16 _ _ hJ.h2), ?_⟩
          simp only [go_sem, eqs hxE5, reduceIte, Nat.reduceEqDiff, Nat.reduceAdd, Nat.reduceMul, Nat.reduceLT, Nat.reduceLeDiff, Int.reduceBEq, Int.reduceBNe, s3, s4, s34, s35, s36]
        cases k5 : (x.K == 5)
        case true =>
          obtain ⟨v1, oh1, q1, rfl, o2, d2, hg, hP2, hQ2⟩ := hear_q (e := e1) (d := d1) hP
          have hR2 := hR.qx hP hQ2
          have hro2 := hro.trans (hQ2.roA hP)
          have lw2 := get_lt hR2.hw
          have hp : ∃ (a b : Int) (c : List UInt8) (f : Bool), hearVal N = .tuple [.agg [.int .i64 a, .int .i64 b, .str c], .bool f] := by
            cases N with
            | nil => exact ⟨_, _, _, _, rfl⟩
            | cons n N => exact ⟨_, _, _, _, rfl⟩
          obtain ⟨pa, pb, pc, pf, hp⟩ := hp
          obtain ⟨v2, oh2, q2, rfl, o3, e3, d3, vL3, vO3, vN3, hg3, hR3, hX3, _⟩ := rhear (e := e1) (d := min d2 o2.length) (hR2.app [.cells .ex 39 0 [.int .i64 pa, .int .i64 pb, .str pc]]) (by have := hJ.h2; omega)
          have hP3 := (hP2.app [.cells .ex 39 0 [.int .i64 pa, .int .i64 pb, .str pc]]).rx (hR2.app _) hX3
          have hro3 := (hro2.trans (Ro.app [.cells .ex 39 0 [.int .i64 pa, .int .i64 pb, .str pc]])).trans (hX3.roA (hR2.app _))
          have hb2 := hX3.get o2.length _ (by omega) (by rw [app_get0]) rfl
          have lb2 := get_lt hb2
          (repeat' (first | refine To.seq hxE5 ?_ | refine To.op0 hxE5 (by simp only [go_sem, eqs hxE5, reduceIte, Nat.reduceEqDiff, Nat.reduceAdd, Nat.reduceMul, Nat.reduceLT, Nat.reduceLeDiff, Int.reduceBEq, Int.reduceBNe, Heap.gets, Heap.sets, Heap.get, bytesA_length, bytesA_one, bytesA_plains, List.take_of_length_le, List.drop_of_length_le, Nat.add_zero, V.one, Nat.reduceLeDiff, List.all_cons, List.all_nil, ne_eq, not_false_eq_true, Nat.zero_le, s3, s4, s34, s35, s36, s6, s41, s42, k1, k2, k3, k4, k5, hbx]; rfl) ?_ | refine To.nop hxE5 ?_ | (refine To.condT hxE5 ?_ ?_; focus (simp only [go_sem, eqs hxE5, reduceIte, Nat.reduceEqDiff, Nat.reduceAdd, Nat.reduceMul, Nat.reduceLT, Nat.reduceLeDiff, Int.reduceBEq, Int.reduceBNe, Heap.gets, Heap.sets, Heap.get, bytesA_length, bytesA_one, bytesA_plains, List.take_of_length_le, List.drop_of_length_le, Nat.add_zero, V.one, Nat.reduceLeDiff, List.all_cons, List.all_nil, ne_eq, not_false_eq_true, Nat.zero_le, s3, s4, s34, s35, s36, s6, s41, s42, k1, k2, k3, k4, k5, hbx]; done)) | (refine To.condF hxE5 ?_ ?_; focus (simp only [go_sem, eqs hxE5, reduceIte, Nat.reduceEqDiff, Nat.reduceAdd, Nat.reduceMul, Nat.reduceLT, Nat.reduceLeDiff, Int.reduceBEq, Int.reduceBNe, Heap.gets, Heap.sets, Heap.get, bytesA_length, bytesA_one, bytesA_plains, List.take_of_length_le, List.drop_of_length_le, Nat.add_zero, V.one, Nat.reduceLeDiff, List.all_cons, List.all_nil, ne_eq, not_false_eq_true, Nat.zero_le, s3, s4, s34, s35, s36, s6, s41, s42, k1, k2, k3, k4, k5, hbx]; done))))
          refine To.op hxE5 (by simp only [go_sem, eqs hxE5, reduceIte, Nat.reduceEqDiff, Nat.reduceAdd, Nat.reduceMul, Nat.reduceLT, Nat.reduceLeDiff, Int.reduceBEq, Int.reduceBNe, s3, q1]; rfl) ?_
          rw [hg]
          rw [hp] at q2 ⊢
          (repeat' (first | refine To.seq hxE5 ?_ | refine To.op0 hxE5 (by simp only [go_sem, eqs hxE5, reduceIte, Nat.reduceEqDiff, Nat.reduceAdd, Nat.reduceMul, Nat.reduceLT, Nat.reduceLeDiff, Int.reduceBEq, Int.reduceBNe, Heap.gets, Heap.sets, Heap.get, bytesA_length, bytesA_one, bytesA_plains, List.take_of_length_le, List.drop_of_length_le, Nat.add_zero, V.one, Nat.reduceLeDiff, List.all_cons, List.all_nil, ne_eq, not_false_eq_true, Nat.zero_le, s3, s4, s34, s35, s36, s6, s41, s42, ga_lt, ga_0, ga_k, sa_lt, sa_0, sa_k]; rfl) ?_ | refine To.op1 hxE5 (by simp only [go_sem, eqs hxE5, reduceIte, Nat.reduceEqDiff, Nat.reduceAdd, Nat.reduceMul, Nat.reduceLT, Nat.reduceLeDiff, Int.reduceBEq, Int.reduceBNe, Heap.gets, Heap.sets, Heap.get, bytesA_length, bytesA_one, bytesA_plains, List.take_of_length_le, List.drop_of_length_le, Nat.add_zero, V.one, Nat.reduceLeDiff, List.all_cons, List.all_nil, ne_eq, not_false_eq_true, Nat.zero_le, s3, s4, s34, s35, s36, s6, s41, s42, ga_lt, ga_0, ga_k, sa_lt, sa_0, sa_k]; rfl) ?_ | refine To.nop hxE5 ?_))
          refine To.op hxE5 (by simp only [go_sem, eqs hxE5, reduceIte, Nat.reduceEqDiff, Nat.reduceAdd, Nat.reduceMul, Nat.reduceLT, Nat.reduceLeDiff, Int.reduceBEq, Int.reduceBNe, s4, q2]; rfl) ?_
          rw [hg3]
          (repeat' (first | refine To.seq hxE5 ?_ | refine To.op0 hxE5 (by simp only [go_sem, eqs hxE5, reduceIte, Nat.reduceEqDiff, Nat.reduceAdd, Nat.reduceMul, Nat.reduceLT, Nat.reduceLeDiff, Int.reduceBEq, Int.reduceBNe, Heap.gets, Heap.sets, Heap.get, bytesA_length, bytesA_one, bytesA_plains, List.take_of_length_le, List.drop_of_length_le, Nat.add_zero, V.one, Nat.reduceLeDiff, List.all_cons, List.all_nil, ne_eq, not_false_eq_true, Nat.zero_le, s3, s4, s34, s35, s36, s6, s41, s42, ga_lt, ga_0, ga_k, sa_lt, sa_0, sa_k, hb2, lb2, bne_self_eq_false, beq_self_eq_true, Bool.and_self, Bool.not_true]; rfl) ?_ | refine To.op1 hxE5 (by simp only [go_sem, eqs hxE5, reduceIte, Nat.reduceEqDiff, Nat.reduceAdd, Nat.reduceMul, Nat.reduceLT, Nat.reduceLeDiff, Int.reduceBEq, Int.reduceBNe, Heap.gets, Heap.sets, Heap.get, bytesA_length, bytesA_one, bytesA_plains, List.take_of_length_le, List.drop_of_length_le, Nat.add_zero, V.one, Nat.reduceLeDiff, List.all_cons, List.all_nil, ne_eq, not_false_eq_true, Nat.zero_le, s3, s4, s34, s35, s36, s6, s41, s42, ga_lt, ga_0, ga_k, sa_lt, sa_0, sa_k, hb2, lb2, bne_self_eq_false, beq_self_eq_true, Bool.and_self, Bool.not_true]; rfl) ?_ | refine To.nop hxE5 ?_ | (refine To.condF hxE5 ?_ ?_; focus (simp only [go_sem, eqs hxE5, reduceIte, Nat.reduceEqDiff, Nat.reduceAdd, Nat.reduceMul, Nat.reduceLT, Nat.reduceLeDiff, Int.reduceBEq, Int.reduceBNe, Heap.gets, Heap.sets, Heap.get, bytesA_length, bytesA_one, bytesA_plains, List.take_of_length_le, List.drop_of_length_le, Nat.add_zero, V.one, Nat.reduceLeDiff, List.all_cons, List.all_nil, ne_eq, not_false_eq_true, Nat.zero_le, s3, s4, s34, s35, s36, s6, s41, s42, ga_lt, ga_0, ga_k, sa_lt, sa_0, sa_k, hb2, lb2, bne_self_eq_false, beq_self_eq_true, Bool.and_self, Bool.not_true]; done)) | refine To.skip hxE5 ?_))
          refine ⟨rfl, _, _, _, L, O, N.tail, last, lost, rfl, Bo.app ⟨hP3, hro3, _, _, _, hR3⟩ _, hJ.notes (by rw [List.length_tail]; have := hJ.h2; omega), ?_⟩
          simp only [go_sem, eqs hxE5, reduceIte, Nat.reduceEqDiff, Nat.reduceAdd, Nat.reduceMul, Nat.reduceLT, Nat.reduceLeDiff, Int.reduceBEq, Int.reduceBNe, s3, s4, s34, s35, s36]
        cases k6 : (x.K == 6)
        case true =>
          obtain ⟨v1, oh1, q1, rfl, o2, d2, hg, hP2, hQ2⟩ := lost_q (e := e1) (d := d1) hP
          have hR2 := hR.qx hP hQ2
          have hro2 := hro.trans (hQ2.roA hP)
          have hX3 : Rx (o.length + 5) o2 (o2.set (o.length + 5) (.cells .ex 85 0 [vL, vO, vN, .int .i64 last, .bool false])) := Rx.set _
          have hw0 := hR.hw
          have hw2 := hR2.hw
          (repeat' (first | refine To.seq hxE5 ?_ | refine To.op0 hxE5 (by simp only [go_sem, eqs hxE5, reduceIte, Nat.reduceEqDiff, Nat.reduceAdd, Nat.reduceMul, Nat.reduceLT, Nat.reduceLeDiff, Int.reduceBEq, Int.reduceBNe, Heap.gets, Heap.sets, Heap.get, bytesA_length, bytesA_one, bytesA_plains, List.take_of_length_le, List.drop_of_length_le, Nat.add_zero, V.one, Nat.reduceLeDiff, List.all_cons, List.all_nil, ne_eq, not_false_eq_true, Nat.zero_le, s3, s4, s34, s35, s36, s6, s41, s42, k1, k2, k3, k4, k5, k6, hw0]; rfl) ?_ | refine To.nop hxE5 ?_ | (refine To.condT hxE5 ?_ ?_; focus (simp only [go_sem, eqs hxE5, reduceIte, Nat.reduceEqDiff, Nat.reduceAdd, Nat.reduceMul, Nat.reduceLT, Nat.reduceLeDiff, Int.reduceBEq, Int.reduceBNe, Heap.gets, Heap.sets, Heap.get, bytesA_length, bytesA_one, bytesA_plains, List.take_of_length_le, List.drop_of_length_le, Nat.add_zero, V.one, Nat.reduceLeDiff, List.all_cons, List.all_nil, ne_eq, not_false_eq_true, Nat.zero_le, s3, s4, s34, s35, s36, s6, s41, s42, k1, k2, k3, k4, k5, k6, hw0]; done)) | (refine To.condF hxE5 ?_ ?_; focus (simp only [go_sem, eqs hxE5, reduceIte, Nat.reduceEqDiff, Nat.reduceAdd, Nat.reduceMul, Nat.reduceLT, Nat.reduceLeDiff, Int.reduceBEq, Int.reduceBNe, Heap.gets, Heap.sets, Heap.get, bytesA_length, bytesA_one, bytesA_plains, List.take_of_length_le, List.drop_of_length_le, Nat.add_zero, V.one, Nat.reduceLeDiff, List.all_cons, List.all_nil, ne_eq, not_false_eq_true, Nat.zero_le, s3, s4, s34, s35, s36, s6, s41, s42, k1, k2, k3, k4, k5, k6, hw0]; done)) | refine To.draw0 hxE5 ?_ | refine ToD.op0 (by simp only [go_sem, eqs hxE5, reduceIte, Nat.reduceEqDiff, Nat.reduceAdd, Nat.reduceMul, Nat.reduceLT, Nat.reduceLeDiff, Int.reduceBEq, Int.reduceBNe, Heap.gets, Heap.sets, Heap.get, bytesA_length, bytesA_one, bytesA_plains, List.take_of_length_le, List.drop_of_length_le, Nat.add_zero, V.one, Nat.reduceLeDiff, List.all_cons, List.all_nil, ne_eq, not_false_eq_true, Nat.zero_le, s3, s4, s34, s35, s36, s6, s41, s42, k1, k2, k3, k4, k5, k6, hw0]; rfl) (by simp only [put_some, put_none]; rfl) ?_ | fail))
          refine ToD.call0 rfl rfl rfl (by simp only [go_sem, eqs hxE5, reduceIte, Nat.reduceEqDiff, Nat.reduceAdd, Nat.reduceMul, Nat.reduceLT, Nat.reduceLeDiff, Int.reduceBEq, Int.reduceBNe, s3, q1]; rfl) hg ?_ ?_
          · simp only [List.all_cons, List.all_nil, Bool.and_true]
            refine lookA_V (v := .bool lost) (d := 160) rfl rfl ?_ rfl
            simp only [go_sem, eqs hxE5, reduceIte, Nat.reduceEqDiff, Nat.reduceAdd, Nat.reduceMul, Nat.reduceLT, Nat.reduceLeDiff, Int.reduceBEq, Int.reduceBNe, Heap.gets, Heap.sets, Heap.get, bytesA_length, bytesA_one, bytesA_plains, List.take_of_length_le, List.drop_of_length_le, Nat.add_zero, V.one, Nat.reduceLeDiff, List.all_cons, List.all_nil, ne_eq, not_false_eq_true, Nat.zero_le, s4, hw2]
          (repeat' (first | refine To.op0 hxE5 (by simp only [go_sem, eqs hxE5, reduceIte, Nat.reduceEqDiff, Nat.reduceAdd, Nat.reduceMul, Nat.reduceLT, Nat.reduceLeDiff, Int.reduceBEq, Int.reduceBNe, Heap.gets, Heap.sets, Heap.get, bytesA_length, bytesA_one, bytesA_plains, List.take_of_length_le, List.drop_of_length_le, Nat.add_zero, V.one, Nat.reduceLeDiff, List.all_cons, List.all_nil, ne_eq, not_false_eq_true, Nat.zero_le, s3, s4, s34, s35, s36, s6, s41, s42, hw2, bne_self_eq_false, beq_self_eq_true, Bool.and_self, Bool.not_true]; rfl) ?_ | refine To.op1 hxE5 (by simp only [go_sem, eqs hxE5, reduceIte, Nat.reduceEqDiff, Nat.reduceAdd, Nat.reduceMul, Nat.reduceLT, Nat.reduceLeDiff, Int.reduceBEq, Int.reduceBNe, Heap.gets, Heap.sets, Heap.get, bytesA_length, bytesA_one, bytesA_plains, List.take_of_length_le, List.drop_of_length_le, Nat.add_zero, V.one, Nat.reduceLeDiff, List.all_cons, List.all_nil, ne_eq, not_false_eq_true, Nat.zero_le, s3, s4, s34, s35, s36, s6, s41, s42, hw2, bne_self_eq_false, beq_self_eq_true, Bool.and_self, Bool.not_true]; rfl) ?_ | refine To.nop hxE5 ?_ | (refine To.condF hxE5 ?_ ?_; focus (simp only [go_sem, eqs hxE5, reduceIte, Nat.reduceEqDiff, Nat.reduceAdd, Nat.reduceMul, Nat.reduceLT, Nat.reduceLeDiff, Int.reduceBEq, Int.reduceBNe, Heap.gets, Heap.sets, Heap.get, bytesA_length, bytesA_one, bytesA_plains, List.take_of_length_le, List.drop_of_length_le, Nat.add_zero, V.one, Nat.reduceLeDiff, List.all_cons, List.all_nil, ne_eq, not_false_eq_true, Nat.zero_le, s3, s4, s34, s35, s36, s6, s41, s42, hw2, bne_self_eq_false, beq_self_eq_true, Bool.and_self, Bool.not_true]; done)) | refine To.skip hxE5 ?_ | refine ToD.op0 (by simp only [go_sem, eqs hxE5, reduceIte, Nat.reduceEqDiff, Nat.reduceAdd, Nat.reduceMul, Nat.reduceLT, Nat.reduceLeDiff, Int.reduceBEq, Int.reduceBNe, Heap.gets, Heap.sets, Heap.get, bytesA_length, bytesA_one, bytesA_plains, List.take_of_length_le, List.drop_of_length_le, Nat.add_zero, V.one, Nat.reduceLeDiff, List.all_cons, List.all_nil, ne_eq, not_false_eq_true, Nat.zero_le, s3, s4, s34, s35, s36, s6, s41, s42, hw2, bne_self_eq_false, beq_self_eq_true, Bool.and_self, Bool.not_true]; rfl) (by simp only [put_some, put_none]; rfl) ?_ | refine ToD.nop ?_))
          refine ⟨rfl, _, _, _, L, O, N, last, false, rfl, ⟨hP2.rx hR2 hX3, hro2.trans (hX3.roA hR2), _, _, _, hR2.lost' false⟩, hJ.next, ?_⟩
          simp only [go_sem, eqs hxE5, reduceIte, Nat.reduceEqDiff, Nat.reduceAdd, Nat.reduceMul, Nat.reduceLT, Nat.reduceLeDiff, Int.reduceBEq, Int.reduceBNe, s3, s4, s34, s35, s36]
        cases k7 : (x.K == 7)
        case true =>
          obtain ⟨v1, oh1, q1, v9, o2, e2, d2, rfl, hg, hP2, hQ2, hGr⟩ := drain_q (e := e1) (d := d1) x.N hP (by have := hJ.h2; omega)
          have hR2 := hR.qx hP hQ2
          have hro2 := hro.trans (hQ2.roA hP)
          have hbx2 := hQ2.old hP hbx (by decide)
          have hlen9 : lenLV v9 = some (.int .i64 ((N.take x.N.toNat).length : Int), none) := by
            obtain ⟨rfl, h⟩ | ⟨l, rfl, _⟩ := hGr
            · rw [List.map_eq_nil_iff.1 h]; rfl
            · rw [List.length_map]; rfl
          (repeat' (first | refine To.seq hxE5 ?_ | refine To.op0 hxE5 (by simp only [go_sem, eqs hxE5, reduceIte, Nat.reduceEqDiff, Nat.reduceAdd, Nat.reduceMul, Nat.reduceLT, Nat.reduceLeDiff, Int.reduceBEq, Int.reduceBNe, Heap.gets, Heap.sets, Heap.get, bytesA_length, bytesA_one, bytesA_plains, List.take_of_length_le, List.drop_of_length_le, Nat.add_zero, V.one, Nat.reduceLeDiff, List.all_cons, List.all_nil, ne_eq, not_false_eq_true, Nat.zero_le, s3, s4, s34, s35, s36, s6, s41, s42, k1, k2, k3, k4, k5, k6, k7, hbx]; rfl) ?_ | refine To.nop hxE5 ?_ | (refine To.condT hxE5 ?_ ?_; focus (simp only [go_sem, eqs hxE5, reduceIte, Nat.reduceEqDiff, Nat.reduceAdd, Nat.reduceMul, Nat.reduceLT, Nat.reduceLeDiff, Int.reduceBEq, Int.reduceBNe, Heap.gets, Heap.sets, Heap.get, bytesA_length, bytesA_one, bytesA_plains, List.take_of_length_le, List.drop_of_length_le, Nat.add_zero, V.one, Nat.reduceLeDiff, List.all_cons, List.all_nil, ne_eq, not_false_eq_true, Nat.zero_le, s3, s4, s34, s35, s36, s6, s41, s42, k1, k2, k3, k4, k5, k6, k7, hbx]; done)) | (refine To.condF hxE5 ?_ ?_; focus (simp only [go_sem, eqs hxE5, reduceIte, Nat.reduceEqDiff, Nat.reduceAdd, Nat.reduceMul, Nat.reduceLT, Nat.reduceLeDiff, Int.reduceBEq, Int.reduceBNe, Heap.gets, Heap.sets, Heap.get, bytesA_length, bytesA_one, bytesA_plains, List.take_of_length_le, List.drop_of_length_le, Nat.add_zero, V.one, Nat.reduceLeDiff, List.all_cons, List.all_nil, ne_eq, not_false_eq_true, Nat.zero_le, s3, s4, s34, s35, s36, s6, s41, s42, k1, k2, k3, k4, k5, k6, k7, hbx]; done))))
          refine To.op hxE5 (by simp only [go_sem, eqs hxE5, reduceIte, Nat.reduceEqDiff, Nat.reduceAdd, Nat.reduceMul, Nat.reduceLT, Nat.reduceLeDiff, Int.reduceBEq, Int.reduceBNe, s3, q1]; rfl) ?_
          rw [hg]
          (repeat' (first | refine To.seq hxE5 ?_ | refine To.op0 hxE5 (by simp only [go_sem, eqs hxE5, reduceIte, Nat.reduceEqDiff, Nat.reduceAdd, Nat.reduceMul, Nat.reduceLT, Nat.reduceLeDiff, Int.reduceBEq, Int.reduceBNe, Heap.gets, Heap.sets, Heap.get, bytesA_length, bytesA_one, bytesA_plains, List.take_of_length_le, List.drop_of_length_le, Nat.add_zero, V.one, Nat.reduceLeDiff, List.all_cons, List.all_nil, ne_eq, not_false_eq_true, Nat.zero_le, s3, s4, s34, s35, s36, s6, s41, s42]; rfl) ?_ | refine To.nop hxE5 ?_ | refine To.block hxE5 ?_))
          refine To.loop hxE5 (fun m S h' => ∃ j o3 e3 d3 vL vO vN, j + m = (N.take x.N.toNat).length ∧ h' = ⟨o3, e3, d3⟩ ∧ PQ o3 (o.length + 4) o.length (o.length + 1) (o.length + 2) (o.length + 3) ((L.map (·.1)).map Rq.v) ((N.drop x.N.toNat).map Nt.v) (entO (oIds O)) (entW (wIds L)) last lost ∧ Ro o o3 ∧ RQ o3 (o.length + 5) vL vO vN L O (N.drop j) last lost ∧ GrRows o3 v9 39 3 ((N.take x.N.toNat).map Nt.cs) ∧ o3[o'.length]? = some (.cells .ex 69 0 [.int .i64 x.K, .int .i64 x.N, .int .i64 x.r.id, .int .i64 x.r.op, .int .i64 x.r.ino, .int .i64 x.r.oth, .int .i64 x.r.n, .int .i64 x.r.m, .str x.r.nm, .str x.r.tx, x.L]) ∧ S 3 = .ptr (o.length + 4) 0 ∧ S 4 = .ptr (o.length + 5) 0 ∧ S 34 = .slice y off (xs.map Op1.cs).length 11 ∧ S 35 = .int .i64 (xs.length : Int) ∧ S 36 = .int .i64 (i : Int) ∧ S 6 = .ptr o'.length 0 ∧ S 23 = v9 ∧ S 24 = .int .i64 (j : Int)) ?_ (N.take x.N.toNat).length _ _ ?_
          · rintro m S3 _ ⟨j, o3, e3, d3, vL3, vO3, vN3, hjm, rfl, hP3, hro3, hR3, hGr3, hbx3, w3, w4, w34, w35, w36, w6, w23, w24⟩
            by_cases hj : j < (N.take x.N.toNat).length
            · have hlt2 : decide ((j : Int) < ((N.take x.N.toNat).length : Int)) = true := decide_eq_true (by omega)
              have hlt9 : (N.take x.N.toNat).length = min x.N.toNat N.length := List.length_take
              have hjN : j < N.length := by omega
              obtain ⟨nt, hnt⟩ : ∃ nt, N[j]? = some nt := ⟨N[j], List.getElem?_eq_getElem hjN⟩
              have hdr : N.drop j = nt :: N.drop (j + 1) := by rw [List.drop_eq_getElem_cons hjN]; rw [List.getElem?_eq_getElem hjN] at hnt; cases hnt; rfl
              have hgt : ((N.take x.N.toNat).map Nt.cs)[j]? = some nt.cs := by rw [List.getElem?_map, List.getElem?_take_of_lt (by omega), hnt]; rfl
              obtain ⟨v2, oh2, q2, rfl, o4, e4, d4, vL4, vO4, vN4, hg4, hR4, hX4, hk4⟩ := rhear (e := e3) (d := d3) hR3 (by rw [List.length_drop]; have := hJ.h2; omega)
              rw [hdr] at q2 hR4
              have hnv : hearVal (nt :: N.drop (j + 1)) = .tuple [.agg [.int .i64 nt.k, .int .i64 nt.i, .str nt.nm], .bool true] := rfl
              rcases hGr3 with ⟨_, hG0⟩ | ⟨z, rfl, hz3⟩
              · rw [hG0] at hgt; simp at hgt
              have hz4 := (hk4 z (get_lt hz3) (ne_of hz3 hR3.hw (by simp))).trans hz3
              have hb4 := (hk4 _ (get_lt hbx3) (ne_of hbx3 hR3.hw (by simp))).trans hbx3
              have i3 : ∀ r ∈ (N.take x.N.toNat).map Nt.cs, r.length = 3 := by
                intro r hr
                obtain ⟨n, _, rfl⟩ := List.mem_map.1 hr
                rfl
              obtain ⟨a1, a2⟩ := flat_drop i3 hgt
              have hGr4 : GrRows o4 (.slice z 0 ((N.take x.N.toNat).map Nt.cs).length 3) 39 3 ((N.take x.N.toNat).map Nt.cs) := .inr ⟨z, rfl, hz4⟩
              unfold Nt.cs at a1
              have a3 := eq_true a2
              unfold Nt.cs at a3
              have hz4' := hz4
              unfold Nt.cs at hz4
              have hzl := get_lt hz4
              have ix1 : idxOf ((N.take x.N.toNat).map Nt.cs).length (.int .i64 (j : Int)) = some j := idxOf_nat (by rw [List.length_map]; omega)
              have hm16 : N.length ≤ 16 := hJ.h2
              have w1 : IntKind.i64.wrap ((j : Int) + 1) = ((j + 1 : Nat) : Int) := by rw [wrap_i64 (by omega) (by omega)]; omega
              (repeat' (first | refine To.seq hxE5 ?_ | refine To.op0 hxE5 (by simp only [go_sem, eqs hxE5, reduceIte, Nat.reduceEqDiff, Nat.reduceAdd, Nat.reduceMul, Nat.reduceLT, Nat.reduceLeDiff, Int.reduceBEq, Int.reduceBNe, Heap.gets, Heap.sets, Heap.get, bytesA_length, bytesA_one, bytesA_plains, List.take_of_length_le, List.drop_of_length_le, Nat.add_zero, V.one, Nat.reduceLeDiff, List.all_cons, List.all_nil, ne_eq, not_false_eq_true, Nat.zero_le, w3, w4, w34, w35, w36, w6, w23, w24, hlen9, hlt2]; rfl) ?_ | refine To.nop hxE5 ?_ | (refine To.condT hxE5 ?_ ?_; focus (simp only [go_sem, eqs hxE5, reduceIte, Nat.reduceEqDiff, Nat.reduceAdd, Nat.reduceMul, Nat.reduceLT, Nat.reduceLeDiff, Int.reduceBEq, Int.reduceBNe, Heap.gets, Heap.sets, Heap.get, bytesA_length, bytesA_one, bytesA_plains, List.take_of_length_le, List.drop_of_length_le, Nat.add_zero, V.one, Nat.reduceLeDiff, List.all_cons, List.all_nil, ne_eq, not_false_eq_true, Nat.zero_le, w3, w4, w34, w35, w36, w6, w23, w24, hlen9, hlt2]; done)) | refine To.block hxE5 ?_ | refine To.skip hxE5 ?_))
              refine To.op hxE5 (by simp only [go_sem, eqs hxE5, reduceIte, Nat.reduceEqDiff, Nat.reduceAdd, Nat.reduceMul, Nat.reduceLT, Nat.reduceLeDiff, Int.reduceBEq, Int.reduceBNe, w4, q2]; rfl) ?_
              rw [hg4, hnv]
              (repeat' (first | refine To.seq hxE5 ?_ | refine To.op0 hxE5 (by simp only [go_sem, eqs hxE5, reduceIte, Nat.reduceEqDiff, Nat.reduceAdd, Nat.reduceMul, Nat.reduceLT, Nat.reduceLeDiff, Int.reduceBEq, Int.reduceBNe, Heap.gets, Heap.sets, Heap.get, bytesA_length, bytesA_one, bytesA_plains, List.take_of_length_le, List.drop_of_length_le, Nat.add_zero, V.one, Nat.reduceLeDiff, List.all_cons, List.all_nil, ne_eq, not_false_eq_true, Nat.zero_le, w3, w4, w34, w35, w36, w6, w23, w24, hlen9, hlt2, hz4, hzl, ix1, a1, a3, w1, ga_lt, ga_0, ga_k, sa_lt, sa_0, sa_k, beq_self_eq_true]; rfl) ?_ | refine To.op1 hxE5 (by simp only [go_sem, eqs hxE5, reduceIte, Nat.reduceEqDiff, Nat.reduceAdd, Nat.reduceMul, Nat.reduceLT, Nat.reduceLeDiff, Int.reduceBEq, Int.reduceBNe, Heap.gets, Heap.sets, Heap.get, bytesA_length, bytesA_one, bytesA_plains, List.take_of_length_le, List.drop_of_length_le, Nat.add_zero, V.one, Nat.reduceLeDiff, List.all_cons, List.all_nil, ne_eq, not_false_eq_true, Nat.zero_le, w3, w4, w34, w35, w36, w6, w23, w24, hlen9, hlt2, hz4, hzl, ix1, a1, a3, w1, ga_lt, ga_0, ga_k, sa_lt, sa_0, sa_k, beq_self_eq_true]; rfl) ?_ | refine To.nop hxE5 ?_ | (refine To.condF hxE5 ?_ ?_; focus (simp only [go_sem, eqs hxE5, reduceIte, Nat.reduceEqDiff, Nat.reduceAdd, Nat.reduceMul, Nat.reduceLT, Nat.reduceLeDiff, Int.reduceBEq, Int.reduceBNe, Heap.gets, Heap.sets, Heap.get, bytesA_length, bytesA_one, bytesA_plains, List.take_of_length_le, List.drop_of_length_le, Nat.add_zero, V.one, Nat.reduceLeDiff, List.all_cons, List.all_nil, ne_eq, not_false_eq_true, Nat.zero_le, w3, w4, w34, w35, w36, w6, w23, w24, hlen9, hlt2, hz4, hzl, ix1, a1, a3, w1, ga_lt, ga_0, ga_k, sa_lt, sa_0, sa_k, beq_self_eq_true]; done)) | refine To.skip hxE5 ?_ | refine To.draw0 hxE5 ?_ | refine ToD.op0 (by simp only [go_sem, eqs hxE5, reduceIte, Nat.reduceEqDiff, Nat.reduceAdd, Nat.reduceMul, Nat.reduceLT, Nat.reduceLeDiff, Int.reduceBEq, Int.reduceBNe, Heap.gets, Heap.sets, Heap.get, bytesA_length, bytesA_one, bytesA_plains, List.take_of_length_le, List.drop_of_length_le, Nat.add_zero, V.one, Nat.reduceLeDiff, List.all_cons, List.all_nil, ne_eq, not_false_eq_true, Nat.zero_le, w3, w4, w34, w35, w36, w6, w23, w24, hlen9, hlt2, hz4, hzl, ix1, a1, a3, w1, ga_lt, ga_0, ga_k, sa_lt, sa_0, sa_k, beq_self_eq_true]; rfl) (by simp only [put_some, put_none]; rfl) ?_ | refine ToD.nop ?_))
              simp only [andThen, outOf]
              refine ⟨m - 1, by omega, j + 1, _, _, _, vL4, vO4, vN4, by omega, rfl, (hP3.rx hR3 hX4).app _, (hro3.trans (hX4.roA hR3)).trans (Ro.app _), hR4.app _, .inr ⟨z, rfl, app_old hz4' _⟩, app_old hb4 _, ?_⟩
              simp only [go_sem, eqs hxE5, reduceIte, Nat.reduceEqDiff, Nat.reduceAdd, Nat.reduceMul, Nat.reduceLT, Nat.reduceLeDiff, Int.reduceBEq, Int.reduceBNe, w3, w4, w34, w35, w36, w6, w23]
            · have hlt2 : decide ((j : Int) < ((N.take x.N.toNat).length : Int)) = false := decide_eq_false (by omega)
              (repeat' (first | refine To.seq hxE5 ?_ | refine To.op0 hxE5 (by simp only [go_sem, eqs hxE5, reduceIte, Nat.reduceEqDiff, Nat.reduceAdd, Nat.reduceMul, Nat.reduceLT, Nat.reduceLeDiff, Int.reduceBEq, Int.reduceBNe, Heap.gets, Heap.sets, Heap.get, bytesA_length, bytesA_one, bytesA_plains, List.take_of_length_le, List.drop_of_length_le, Nat.add_zero, V.one, Nat.reduceLeDiff, List.all_cons, List.all_nil, ne_eq, not_false_eq_true, Nat.zero_le, w3, w4, w34, w35, w36, w6, w23, w24, hlen9, hlt2]; rfl) ?_ | refine To.nop hxE5 ?_ | (refine To.condF hxE5 ?_ ?_; focus (simp only [go_sem, eqs hxE5, reduceIte, Nat.reduceEqDiff, Nat.reduceAdd, Nat.reduceMul, Nat.reduceLT, Nat.reduceLeDiff, Int.reduceBEq, Int.reduceBNe, Heap.gets, Heap.sets, Heap.get, bytesA_length, bytesA_one, bytesA_plains, List.take_of_length_le, List.drop_of_length_le, Nat.add_zero, V.one, Nat.reduceLeDiff, List.all_cons, List.all_nil, ne_eq, not_false_eq_true, Nat.zero_le, w3, w4, w34, w35, w36, w6, w23, w24, hlen9, hlt2]; done)) | refine To.exit hxE5 ?_))
              have hw3 := hR3.hw
              have lN3 := hR3.hN.len
              rw [List.length_map] at lN3
              have hlt9 : (N.take x.N.toNat).length = min x.N.toNat N.length := List.length_take
              have m1 : decide ((if 0 > x.N then 0 else x.N) < ((N.take x.N.toNat).length : Int)) = false := decide_eq_false (by rw [hlt9]; split <;> omega)
              have hjl : j = (N.take x.N.toNat).length := by omega
              have hdd : N.drop j = N.drop x.N.toNat := by
                rw [hjl, hlt9]
                by_cases hc : x.N.toNat ≤ N.length
                · rw [Nat.min_eq_left hc]
                · rw [Nat.min_eq_right (by omega), List.drop_eq_nil_of_le (Nat.le_refl _), List.drop_eq_nil_of_le (by omega)]
              by_cases hc : ((N.take x.N.toNat).length : Int) < x.N
              · have c1 : decide (((N.take x.N.toNat).length : Int) < x.N) = true := decide_eq_true hc
                have c2 : decide ((0 : Int) < ((N.drop j).length : Int)) = false := decide_eq_false (by rw [List.length_drop]; omega)
                (repeat' (first | refine To.op0 hxE5 (by simp only [go_sem, eqs hxE5, reduceIte, Nat.reduceEqDiff, Nat.reduceAdd, Nat.reduceMul, Nat.reduceLT, Nat.reduceLeDiff, Int.reduceBEq, Int.reduceBNe, Heap.gets, Heap.sets, Heap.get, bytesA_length, bytesA_one, bytesA_plains, List.take_of_length_le, List.drop_of_length_le, Nat.add_zero, V.one, Nat.reduceLeDiff, List.all_cons, List.all_nil, ne_eq, not_false_eq_true, Nat.zero_le, w3, w4, w34, w35, w36, w6, w23, w24, hlen9, hbx3, hw3, lN3, m1, c1, c2]; rfl) ?_ | refine To.nop hxE5 ?_ | (refine To.condF hxE5 ?_ ?_; focus (simp only [go_sem, eqs hxE5, reduceIte, Nat.reduceEqDiff, Nat.reduceAdd, Nat.reduceMul, Nat.reduceLT, Nat.reduceLeDiff, Int.reduceBEq, Int.reduceBNe, Heap.gets, Heap.sets, Heap.get, bytesA_length, bytesA_one, bytesA_plains, List.take_of_length_le, List.drop_of_length_le, Nat.add_zero, V.one, Nat.reduceLeDiff, List.all_cons, List.all_nil, ne_eq, not_false_eq_true, Nat.zero_le, w3, w4, w34, w35, w36, w6, w23, w24, hlen9, hbx3, hw3, lN3, m1, c1, c2]; done)) | refine To.skip hxE5 ?_))
                refine ⟨rfl, _, _, _, L, O, N.drop j, last, lost, rfl, ⟨by rw [hdd]; exact hP3, hro3, _, _, _, hR3⟩, hJ.notes (by rw [List.length_drop]; have := hJ.h2; omega), ?_⟩
                simp only [go_sem, eqs hxE5, reduceIte, Nat.reduceEqDiff, Nat.reduceAdd, Nat.reduceMul, Nat.reduceLT, Nat.reduceLeDiff, Int.reduceBEq, Int.reduceBNe, w3, w4, w34, w35, w36]
              · have c1 : decide (((N.take x.N.toNat).length : Int) < x.N) = false := decide_eq_false hc
                (repeat' (first | refine To.op0 hxE5 (by simp only [go_sem, eqs hxE5, reduceIte, Nat.reduceEqDiff, Nat.reduceAdd, Nat.reduceMul, Nat.reduceLT, Nat.reduceLeDiff, Int.reduceBEq, Int.reduceBNe, Heap.gets, Heap.sets, Heap.get, bytesA_length, bytesA_one, bytesA_plains, List.take_of_length_le, List.drop_of_length_le, Nat.add_zero, V.one, Nat.reduceLeDiff, List.all_cons, List.all_nil, ne_eq, not_false_eq_true, Nat.zero_le, w3, w4, w34, w35, w36, w6, w23, w24, hlen9, hbx3, hw3, lN3, m1, c1]; rfl) ?_ | refine To.nop hxE5 ?_ | (refine To.condF hxE5 ?_ ?_; focus (simp only [go_sem, eqs hxE5, reduceIte, Nat.reduceEqDiff, Nat.reduceAdd, Nat.reduceMul, Nat.reduceLT, Nat.reduceLeDiff, Int.reduceBEq, Int.reduceBNe, Heap.gets, Heap.sets, Heap.get, bytesA_length, bytesA_one, bytesA_plains, List.take_of_length_le, List.drop_of_length_le, Nat.add_zero, V.one, Nat.reduceLeDiff, List.all_cons, List.all_nil, ne_eq, not_false_eq_true, Nat.zero_le, w3, w4, w34, w35, w36, w6, w23, w24, hlen9, hbx3, hw3, lN3, m1, c1]; done)) | refine To.skip hxE5 ?_))
                refine ⟨rfl, _, _, _, L, O, N.drop j, last, lost, rfl, ⟨by rw [hdd]; exact hP3, hro3, _, _, _, hR3⟩, hJ.notes (by rw [List.length_drop]; have := hJ.h2; omega), ?_⟩
                simp only [go_sem, eqs hxE5, reduceIte, Nat.reduceEqDiff, Nat.reduceAdd, Nat.reduceMul, Nat.reduceLT, Nat.reduceLeDiff, Int.reduceBEq, Int.reduceBNe, w3, w4, w34, w35, w36]
          · refine ⟨0, _, _, _, vL, vO, vN, by omega, rfl, hP2, hro2, by simpa using hR2, hGr, hbx2, ?_⟩
            simp only [go_sem, eqs hxE5, reduceIte, Nat.reduceEqDiff, Nat.reduceAdd, Nat.reduceMul, Nat.reduceLT, Nat.reduceLeDiff, Int.reduceBEq, Int.reduceBNe, s3, s4, s34, s35, s36, s6]
            try simp
        (repeat' (first | refine To.seq hxE5 ?_ | refine To.op0 hxE5 (by simp only [go_sem, eqs hxE5, reduceIte, Nat.reduceEqDiff, Nat.reduceAdd, Nat.reduceMul, Nat.reduceLT, Nat.reduceLeDiff, Int.reduceBEq, Int.reduceBNe, Heap.gets, Heap.sets, Heap.get, bytesA_length, bytesA_one, bytesA_plains, List.take_of_length_le, List.drop_of_length_le, Nat.add_zero, V.one, Nat.reduceLeDiff, List.all_cons, List.all_nil, ne_eq, not_false_eq_true, Nat.zero_le, s3, s4, s34, s35, s36, s6, s41, s42, k1, k2, k3, k4, k5, k6, k7]; rfl) ?_ | refine To.nop hxE5 ?_ | (refine To.condF hxE5 ?_ ?_; focus (simp only [go_sem, eqs hxE5, reduceIte, Nat.reduceEqDiff, Nat.reduceAdd, Nat.reduceMul, Nat.reduceLT, Nat.reduceLeDiff, Int.reduceBEq, Int.reduceBNe, Heap.gets, Heap.sets, Heap.get, bytesA_length, bytesA_one, bytesA_plains, List.take_of_length_le, List.drop_of_length_le, Nat.add_zero, V.one, Nat.reduceLeDiff, List.all_cons, List.all_nil, ne_eq, not_false_eq_true, Nat.zero_le, s3, s4, s34, s35, s36, s6, s41, s42, k1, k2, k3, k4, k5, k6, k7]; done)) | refine To.skip hxE5 ?_))
        refine ⟨rfl, _, _, _, L, O, N, last, lost, rfl, ⟨hP, hro, vL, vO, vN, hR⟩, hJ.next, ?_⟩
        simp only [go_sem, eqs hxE5, reduceIte, Nat.reduceEqDiff, Nat.reduceAdd, Nat.reduceMul, Nat.reduceLT, Nat.reduceLeDiff, Int.reduceBEq, Int.reduceBNe, s3, s4, s34, s35, s36]
      · rintro ex S3 h3 ⟨rfl, o2, e2, d2, L, O, N, last, lost, rfl, hB2, hJ2, t3, t4, t34, t35, t36⟩
        obtain ⟨hP2, hro2, vL, vO, vN, hR2⟩ := hB2
        have qw := waits_q (e := e2) (d := d2) hP2
        have qn := notices_q (e := e2) (d := d2) hP2
        have qo := open_q (e := e2) (d := d2) hP2
        have hw2 := hR2.hw
        have lL := hR2.hL.len
        have lO := hR2.hO.len
        have lN := hR2.hN.len
        rw [List.length_map] at lL lO lN
        simp only [List.length_map, entO, oIds] at qw qn qo
        (repeat' (first | refine To.seq hxE5 ?_ | refine To.op0 hxE5 (by simp only [go_sem, eqs hxE5, reduceIte, Nat.reduceEqDiff, Nat.reduceAdd, Nat.reduceMul, Nat.reduceLT, Nat.reduceLeDiff, Int.reduceBEq, Int.reduceBNe, Heap.gets, Heap.sets, Heap.get, bytesA_length, bytesA_one, bytesA_plains, List.take_of_length_le, List.drop_of_length_le, Nat.add_zero, V.one, Nat.reduceLeDiff, List.all_cons, List.all_nil, ne_eq, not_false_eq_true, Nat.zero_le, t3, t4, t34, t35, t36, qw, qn, qo, hw2, lL, lO, lN, w1, bne_self_eq_false, lookA, V.beq]; rfl) ?_ | refine To.nop hxE5 ?_ | (refine To.condF hxE5 ?_ ?_; focus (simp only [go_sem, eqs hxE5, reduceIte, Nat.reduceEqDiff, Nat.reduceAdd, Nat.reduceMul, Nat.reduceLT, Nat.reduceLeDiff, Int.reduceBEq, Int.reduceBNe, Heap.gets, Heap.sets, Heap.get, bytesA_length, bytesA_one, bytesA_plains, List.take_of_length_le, List.drop_of_length_le, Nat.add_zero, V.one, Nat.reduceLeDiff, List.all_cons, List.all_nil, ne_eq, not_false_eq_true, Nat.zero_le, t3, t4, t34, t35, t36, qw, qn, qo, hw2, lL, lO, lN, w1, bne_self_eq_false, lookA, V.beq]; done)) | refine To.skip hxE5 ?_ | refine To.draw0 hxE5 ?_ | refine ToD.op0 (by simp only [go_sem, eqs hxE5, reduceIte, Nat.reduceEqDiff, Nat.reduceAdd, Nat.reduceMul, Nat.reduceLT, Nat.reduceLeDiff, Int.reduceBEq, Int.reduceBNe, Heap.gets, Heap.sets, Heap.get, bytesA_length, bytesA_one, bytesA_plains, List.take_of_length_le, List.drop_of_length_le, Nat.add_zero, V.one, Nat.reduceLeDiff, List.all_cons, List.all_nil, ne_eq, not_false_eq_true, Nat.zero_le, t3, t4, t34, t35, t36, qw, qn, qo, hw2, lL, lO, lN, w1, bne_self_eq_false, lookA, V.beq]; rfl) (by simp only [put_some, put_none]; rfl) ?_ | refine ToD.nop ?_))
        simp only [andThen, outOf]
        refine ⟨k - 1, by omega, i + 1, _, _, _, L, O, N, last, lost, by omega, rfl, ⟨hP2, hro2, vL, vO, vN, hR2⟩, hJ2, ?_⟩
        simp only [go_sem, eqs hxE5, reduceIte, Nat.reduceEqDiff, Nat.reduceAdd, Nat.reduceMul, Nat.reduceLT, Nat.reduceLeDiff, Int.reduceBEq, Int.reduceBNe, t3, t4, t34, t35, t36]
    · have hlt : decide ((i : Int) < (xs.length : Int)) = false := decide_eq_false (by omega)
      (repeat' (first | refine To.seq hxE5 ?_ | refine To.op0 hxE5 (by simp only [go_sem, eqs hxE5, reduceIte, Nat.reduceEqDiff, Nat.reduceAdd, Nat.reduceMul, Nat.reduceLT, Nat.reduceLeDiff, Int.reduceBEq, Int.reduceBNe, s35, s36, hlt]; rfl) ?_ | refine To.nop hxE5 ?_ | (refine To.condF hxE5 ?_ ?_; focus (simp only [go_sem, eqs hxE5, reduceIte, Nat.reduceEqDiff, Nat.reduceAdd, Nat.reduceMul, Nat.reduceLT, Nat.reduceLeDiff, Int.reduceBEq, Int.reduceBNe, s35, s36, hlt]; done)) | refine To.ret hxE5 ?_ | refine To.exit hxE5 ?_))
      refine ⟨_, _, fin1 (i := 2) rfl, ?_⟩
      simp only [go_sem, eqs hxE5, reduceIte, Nat.reduceEqDiff, Nat.reduceAdd, Nat.reduceMul, Nat.reduceLT, Nat.reduceLeDiff, Int.reduceBEq, Int.reduceBNe]
  · refine ⟨0, _, _, _, [], [], [], 0, false, by omega, rfl, ⟨?_, ?_, .nils, .nils, .nils, ?_⟩, ?_, ?_⟩
    · rw [← List.append_assoc]; exact hP0.app _
    · rw [← List.append_assoc]; exact hro0.trans (Ro.app _)
    · rw [← List.append_assoc]; exact ⟨by rw [ga_0 hl1]; rfl, .inl ⟨rfl, rfl⟩, .inl ⟨rfl, rfl⟩, .inl ⟨rfl, rfl⟩⟩
    · exact ⟨by omega, by omega, List.Pairwise.nil, by simp, by simp, by simp, by simp, by simp, by simp, by simp, by simp⟩
    · simp only [go_sem, eqs hxE5, reduceIte, Nat.reduceEqDiff, Nat.reduceAdd, Nat.reduceMul, Nat.reduceLT, Nat.reduceLeDiff, Int.reduceBEq, Int.reduceBNe, hr5, hl1]
end Go.Proofs.Ytjbblfoefibeaaa

/- Queues: scripts, as they come in. -/
namespace Go.Proofs.Ytjbblfoefibeaaa
open Go AM
set_option linter.unusedSimpArgs false
set_option linter.unusedVariables false
set_option maxRecDepth 100000

abbrev NtTy : Ty := .struct [.int .i64, .int .i64, .str]
abbrev RqTy : Ty := .struct [.int .i64, .int .i64, .int .i64, .int .i64, .int .i64, .int .i64, .str, .str]
abbrev OpTy : Ty := .struct [.int .i64, .int .i64, RqTy, .slice NtTy]
theorem nt_of {o : List AM.Obj} {x : List V} (h : Ty.has o NtTy x) : ∃ n : Nt, x = n.cs := by
  obtain ⟨e0, z0, rfl, ⟨k, rfl, _⟩, e1, z1, rfl, ⟨i, rfl, _⟩, e2, z2, rfl, ⟨s, rfl, _⟩, rfl⟩ := h
  exact ⟨⟨k, i, s⟩, rfl⟩
theorem nts_of {o : List AM.Obj} : ∀ {xs : List (List V)}, (∀ x ∈ xs, Ty.has o NtTy x) → ∃ l : List Nt, xs = l.map Nt.cs
  | [], _ => ⟨[], rfl⟩
  | a :: r, h => by
    obtain ⟨l, hl⟩ := nts_of (xs := r) fun x hx => h x (List.mem_cons_of_mem _ hx)
    obtain ⟨n, hn⟩ := nt_of (h a List.mem_cons_self)
    exact ⟨n :: l, by rw [hl, hn]; rfl⟩
theorem ro_of {o : List AM.Obj} {v : V} {e : Nat} {xs : List (List V)} (h0 : 0 < e) (h : Empty v ∧ xs = [] ∨ ∃ l t, v = .slice l 0 xs.length e ∧ o[l]? = some (AM.Obj.cells .ro t 0 xs.flatten)) (hl : ∀ x ∈ xs, x.length = e) : RoRows o v e xs := by
  rcases h with h | ⟨l, t, rfl, ho⟩
  · exact .inl h
  · refine .inr ⟨l, 0, t, _, rfl, ho, fun k c hk => ?_⟩
    obtain ⟨a, b⟩ := flat_drop hl hk
    exact ⟨by rw [Nat.zero_add]; exact a, by omega, h0⟩
theorem op_of {o : List AM.Obj} {x : List V} (h : Ty.has o OpTy x) : ∃ y : Op1, x = y.cs ∧ y.fits o ∧ OpOk o x := by
  obtain ⟨c0, x0, rfl, ⟨K, rfl, _⟩, c1, x1, rfl, ⟨N, rfl, _⟩, c2, x2, rfl, ⟨d0, y0, rfl, ⟨a0, rfl, _⟩, d1, y1, rfl, ⟨a1, rfl, _⟩, d2, y2, rfl, ⟨a2, rfl, _⟩, d3, y3, rfl, ⟨a3, rfl, _⟩, d4, y4, rfl, ⟨a4, rfl, _⟩, d5, y5, rfl, ⟨a5, rfl, _⟩, d6, y6, rfl, ⟨nm, rfl, _⟩, d7, y7, rfl, ⟨tx, rfl, _⟩, rfl⟩, c3, x3, rfl, hL, rfl⟩ := h
  have hone : c3.length = 1 := size_has _ _ hL
  obtain ⟨Lv, rfl⟩ := List.length_eq_one_iff.1 hone
  obtain ⟨ms, s1, s2, s3⟩ := sliceOf_has (by decide) hL
  have key : ∃ ns : List Nt, ns.length ≤ maxLen ∧ RoRows o Lv 3 (ns.map Nt.cs) := by
    rcases hL with h | ⟨a, h⟩ | ⟨l, n, h, hn, u, xs, h1, h2, h3⟩
    · cases h; exact ⟨[], Nat.zero_le _, .inl ⟨.inl rfl, rfl⟩⟩
    · cases h; exact ⟨[], Nat.zero_le _, .inl ⟨.inr (.inl ⟨a, rfl⟩), rfl⟩⟩
    · cases h
      obtain ⟨ns, rfl⟩ := nts_of h3
      rw [List.length_map] at h2
      refine ⟨ns, by omega, ro_of (by decide) (.inr ⟨l, u, by rw [List.length_map, h2]; rfl, h1⟩) ?_⟩
      intro r hr
      obtain ⟨n, _, rfl⟩ := List.mem_map.1 hr
      rfl
  obtain ⟨ns, hn, hR⟩ := key
  refine ⟨⟨K, N, ⟨a0, a1, a2, a3, a4, a5, nm, tx⟩, Lv, ns⟩, rfl, ⟨hR, hn⟩, K, N, a0, a1, a2, a3, a4, a5, nm, tx, Lv, ms, rfl, s1, s2, fun m hm => ?_⟩
  obtain ⟨n, rfl⟩ := nt_of (s3 m hm)
  exact ⟨_, _, _, rfl⟩
theorem ops_of {o : List AM.Obj} : ∀ {xs : List (List V)}, (∀ x ∈ xs, Ty.has o OpTy x) → ∃ l : List Op1, xs = l.map Op1.cs ∧ (∀ y ∈ l, y.fits o) ∧ ∀ x ∈ l.map Op1.cs, OpOk o x
  | [], _ => ⟨[], rfl, by simp, by simp⟩
  | a :: r, h => by
    obtain ⟨l, hl, hf, hg⟩ := ops_of (xs := r) fun x hx => h x (List.mem_cons_of_mem _ hx)
    obtain ⟨y, rfl, hy, hy2⟩ := op_of (h a List.mem_cons_self)
    refine ⟨y :: l, by rw [hl]; rfl, ?_, ?_⟩
    · intro z hz
      rcases List.mem_cons.1 hz with rfl | hz
      · exact hy
      · exact hf z hz
    · intro z hz
      rcases List.mem_cons.1 hz with rfl | hz
      · exact hy2
      · exact hg z hz
theorem script_of {o : List AM.Obj} {v : V} (h : Ty.arg o (.slice OpTy) v) : ∃ xs : List Op1, xs.length ≤ maxLen ∧ RoRows o v 11 (xs.map Op1.cs) ∧ SliceOf o v 11 (xs.map Op1.cs) ∧ (∀ x ∈ xs.map Op1.cs, OpOk o x) ∧ ∀ x ∈ xs, x.fits o := by
  rcases arg_slice h with rfl | ⟨a, rfl⟩ | ⟨l, n, rfl, hn, u, xs, q1, q2, q3⟩
  · exact ⟨[], Nat.zero_le _, .inl ⟨.inl rfl, rfl⟩, ⟨by simp, by decide, .inl ⟨rfl, rfl⟩⟩, by simp, by simp⟩
  · exact ⟨[], Nat.zero_le _, .inl ⟨.inr (.inl ⟨a, rfl⟩), rfl⟩, ⟨by simp, by decide, .inr (.inl ⟨⟨a, rfl⟩, rfl⟩)⟩, by simp, by simp⟩
  · obtain ⟨k, rfl, k1, k2⟩ := ops_of q3
    have hl : ∀ x ∈ k.map Op1.cs, x.length = 11 := by
      intro r hr
      obtain ⟨n, _, rfl⟩ := List.mem_map.1 hr
      rfl
    have hv : V.slice l 0 n (Ty.slice OpTy).size = V.slice l 0 n 1 := rfl
    rw [List.length_map] at q2
    subst q2
    refine ⟨k, hn, ro_of (by decide) (.inr ⟨l, u, by rw [List.length_map]; rfl, q1⟩) hl, ⟨hl, by decide, .inr (.inr ⟨l, .ro, u, by rw [List.length_map]; rfl, q1⟩)⟩, k2, k1⟩
end Go.Proofs.Ytjbblfoefibeaaa

