/- Own texts, joined: TdSte, TdStf, TdJnn, TdJno, TdJnp, TdJnq, TdStg, TdSth. -/
import Derived.Test.YtfbkeieoeagkdaaTdPart3
/- Store: Keep. -/
namespace Go.Proofs.Ytfbkeieoeagkdaa
open Go AM
set_option linter.unusedSimpArgs false
set_option linter.unusedVariables false
set_option maxRecDepth 100000

theorem entP_ent {np : Nat} {S : List (Nat × Pg)} (h : OkM np S) : (S.map ent).all entP = true := by
  refine List.all_eq_true.2 fun x hx => ?_
  obtain ⟨y, hy, rfl⟩ := List.mem_map.1 hx
  have := h.fit y hy
  simp only [ent, entP, bytesA_length, this.1, bytesA_plains, bytesA_one, decide_true, Bool.and_true]
theorem newK_ent {G : List (Nat × Pg)} (h : (G.map (·.1)).Nodup) (x : Nat × Pg) : newK (G.map ent) (ent x) = !hasK G x.1 := by
  have hm := mapFind_ent x.1 G h
  unfold newK
  rw [show (ent x).1 = .int .i64 (x.1 : Int) from rfl, hm]
  unfold hasK
  cases findC x.1 G <;> rfl
/-- How many pages there are with others. -/
def withN (G S : List (Nat × Pg)) : Nat := G.length + (S.filter fun x => !hasK G x.1).length
/-- Pages, and others over them. -/
def mergeC (G S : List (Nat × Pg)) : List (Nat × Pg) := (G.filter fun e => !(S.any fun x => x.1 == e.1)) ++ S
theorem merged_ent (G S : List (Nat × Pg)) : merged (G.map ent) (S.map ent) = (mergeC G S).map ent := by
  unfold merged mergeC
  rw [List.map_append, List.filter_map]
  congr 2
  refine List.filter_congr fun e _ => ?_
  show (!((S.map ent).any fun x => hitK .i x.1 (ent e))) = _
  rw [List.any_map]
  congr 2
  funext x
  show hitK .i (ent x).1 (ent e) = _
  simp only [hitK, ent, eqK_int]
  have : ((x.1 : Int) == (e.1 : Int)) = (x.1 == e.1) := by
    rw [Bool.eq_iff_iff, beq_iff_eq, beq_iff_eq]; omega
  rw [this]
  cases x.1 == e.1 <;> rfl
theorem mergeC_ok {np : Nat} {G S : List (Nat × Pg)} (hG : OkM np G) (hS : OkM np S) : OkM np (mergeC G S) := by
  refine ⟨?_, fun e he => ?_⟩
  · unfold mergeC
    rw [List.map_append]
    refine List.nodup_append.2 ⟨hG.nd.sublist (List.filter_sublist.map _), hS.nd, fun x hx y hy => ?_⟩
    rintro rfl
    obtain ⟨e, he, rfl⟩ := List.mem_map.1 hx
    obtain ⟨f, hf, hfe⟩ := List.mem_map.1 hy
    have h2 := (List.mem_filter.1 he).2
    have h3 : (S.any fun x => x.1 == e.1) = true := List.any_eq_true.2 ⟨f, hf, by simpa using hfe⟩
    rw [h3] at h2; cases h2
  · rcases List.mem_append.1 he with h | h
    · exact hG.fit e (List.mem_filter.1 h).1
    · exact hS.fit e h
theorem okM_len {np : Nat} {G : List (Nat × Pg)} (h : OkM np G) : G.length ≤ np := by rw [h.keys]; exact keysN_le np G
section
variable {o o1 : List AM.Obj} {e d sp jl dd pg lm st gr a s np : Nat} {seq : Int} {over on : Bool} {ds : DSt} {S G : List (Nat × Pg)}
theorem with_q (hG : o[gr]? = some (.map (G.map ent))) (hS : o[st]? = some (.map (S.map ent))) (hne : gr ≠ st) (kG : OkM np G) (kS : OkM np S) (hnp : np ≤ 1000) : Den FF E2 63 [.map gr, .map st] ⟨o, e, d⟩ = some (.val (.int .i64 (withN G S : Int)), some ⟨o, e, min d st⟩) := by
  refine den_hand rfl rfl ?_
  have l1 := okM_len kG
  have l2 := okM_len kS
  unfold withG
  simp only [hG, hS]
  rw [if_pos ⟨hne, entP_ent kG, entP_ent kS, apart_ent kG.nd, apart_ent kS.nd, by rw [List.length_map, List.length_map]; omega⟩]
  unfold withN
  rw [List.filter_map, List.length_map, List.length_map]
  have : (newK (G.map ent)) ∘ ent = fun x => !hasK G x.1 := by
    funext x
    exact newK_ent kG.nd x
  rw [this]
theorem copy_q (hG : o[gr]? = some (.map (G.map ent))) (hS : o[st]? = some (.map (S.map ent))) (hne : gr ≠ st) (kG : OkM np G) (kS : OkM np S) : Den FF E2 64 [.map gr, .map st] ⟨o, e, d⟩ = some (.val (.tuple []), some ⟨o.set gr (.map ((mergeC G S).map ent)), e, min d (min gr st)⟩) := by
  refine den_hand rfl rfl ?_
  unfold copyG
  simp only [hG, hS]
  rw [if_pos ⟨hne, entP_ent kG, entP_ent kS, apart_ent kG.nd, apart_ent kS.nd⟩, merged_ent]
theorem PS.setG (P : PS o sp jl dd pg lm st gr a s seq over on ds S G) {G' : List (Nat × Pg)} (hk : OkM ds.pgs.length G') : PS (o.set gr (.map (G'.map ent))) sp jl dd pg lm st gr a s seq over on ds S G' := by
  have n0 := ne_map P.hs P.hG
  have n4 := ne_map P.J.hj P.hG
  have n5 := ne_map P.J.P.hd P.hG
  have n6 := ne_map P.J.P.hp P.hG
  refine ⟨by rw [List.getElem?_set_ne (Ne.symm n0)]; exact P.hs, ⟨by rw [List.getElem?_set_ne (Ne.symm n4)]; exact P.J.hj, ?_⟩, by rw [List.getElem?_set_ne (Ne.symm P.n1)]; exact P.hS, List.getElem?_set_self P.lgr, P.n1, P.n2, P.n3, P.okS, hk⟩
  have D := P.J.P
  exact ⟨by rw [List.getElem?_set_ne (Ne.symm n5)]; exact D.hd, by rw [List.getElem?_set_ne (Ne.symm n6)]; exact D.hp, by rw [List.getElem?_set_ne P.n3]; exact D.hm, D.p64, D.c64, D.nd⟩
/-- What a Keep comes to: the error; the next number; is it over; the disk; the step; the group. -/
def dKeepG (on : Bool) (ds : DSt) (a s : Nat) (seq : Int) (G S : List (Nat × Pg)) : Int × Int × Bool × DSt × List (Nat × Pg) :=
  if roomJ s < withN G S then dSync on ds a s seq false G else (0, seq, false, ds, G)
def dKeep (on : Bool) (ds : DSt) (a s : Nat) (seq : Int) (over : Bool) (S G : List (Nat × Pg)) : Int × Int × Bool × DSt × List (Nat × Pg) × List (Nat × Pg) :=
  if over = true then (5, seq, true, ds, S, G)
  else if (dKeepG on ds a s seq G S).1 ≠ 0 then ((dKeepG on ds a s seq G S).1, (dKeepG on ds a s seq G S).2.1, (dKeepG on ds a s seq G S).2.2.1, (dKeepG on ds a s seq G S).2.2.2.1, S, (dKeepG on ds a s seq G S).2.2.2.2)
  else (0, (dKeepG on ds a s seq G S).2.1, (dKeepG on ds a s seq G S).2.2.1, (dKeepG on ds a s seq G S).2.2.2.1, [], mergeC (dKeepG on ds a s seq G S).2.2.2.2 S)
theorem dKeepG_len (on : Bool) (ds : DSt) (a s : Nat) (seq : Int) (G S : List (Nat × Pg)) : (dKeepG on ds a s seq G S).2.2.2.1.pgs.length = ds.pgs.length := by
  unfold dKeepG
  split
  · exact dSync_len _ _ _ _ _ _ _
  · rfl
theorem Sx.trans2 {o2 : List AM.Obj} {st1 gr1 : Nat} (h : Sx sp jl dd pg lm st gr o o1) (h1 : st1 = st ∨ o.length ≤ st1) (h2 : gr1 = gr ∨ o.length ≤ gr1) (k : Sx sp jl dd pg lm st1 gr1 o1 o2) : Sx sp jl dd pg lm st gr o o2 :=
  ⟨Nat.le_trans h.len k.len, fun l hl a b c d e f g => (k.get l (Nat.lt_of_lt_of_le hl h.len) a b c d e (by omega) (by omega)).trans (h.get l hl a b c d e f g)⟩
theorem Sx.setG (x : AM.Obj) : Sx sp jl dd pg lm st gr o (o.set gr x) := ⟨by simp, fun l _ _ _ _ _ _ _ g => List.getElem?_set_ne (Ne.symm g)⟩
set_option maxHeartbeats 8000000 in
theorem skeep_q (P : PS o sp jl dd pg lm st gr a s seq over on ds S G) (ha : a ≤ 100000) (hs : s ≤ 1000000) (hnp : ds.pgs.length ≤ 500) (hs0 : 0 ≤ seq) (hs1 : seq < 2 ^ 59) :
    ∃ r oh, Den FF E2 38 [.ptr sp 0] ⟨o, e, d⟩ = some (r, oh) ∧ r = .val (.int .i64 (dKeep on ds a s seq over S G).1) ∧
      SL sp jl dd pg lm st gr a s on o e d oh (dKeep on ds a s seq over S G).2.1 (dKeep on ds a s seq over S G).2.2.1 (dKeep on ds a s seq over S G).2.2.2.1 (dKeep on ds a s seq over S G).2.2.2.2.1 (dKeep on ds a s seq over S G).2.2.2.2.2 := by
  refine To.denE hxE2 (f := 38) (a := af38) rfl (E2_none rfl) (Nat.le_of_ble_eq_true rfl) ?_
  have hls := P.ls
  have hlst := P.lst
  have hlg := P.lgr
  have q := fun e d => sover_q (e := e) (d := d) P
  unfold dKeep
  cases over
  case true =>
    rw [if_pos rfl]
    (repeat' (first | refine To.seq hxE2 ?_ | refine To.op0 hxE2 (by simp only [go_sem, eqs hxE2, reduceIte, seval, Heap.gets, Heap.sets, Heap.get, bytesA_length, bytesA_one, bytesA_plains, List.take_of_length_le, List.drop_of_length_le, Nat.add_zero, V.one, Nat.reduceLeDiff, List.all_cons, List.all_nil, ne_eq, not_false_eq_true, Nat.zero_le, q]; rfl) ?_ | refine To.nop hxE2 ?_ | (refine To.condT hxE2 ?_ ?_; focus (simp only [go_sem, eqs hxE2, reduceIte, seval, Heap.gets, Heap.sets, Heap.get, bytesA_length, bytesA_one, bytesA_plains, List.take_of_length_le, List.drop_of_length_le, Nat.add_zero, V.one, Nat.reduceLeDiff, List.all_cons, List.all_nil, ne_eq, not_false_eq_true, Nat.zero_le, q]; done)) | refine To.ret hxE2 ?_))
    refine ⟨_, _, fin_k1 (i := 2) (v := .int .i64 5) rfl (by simp only [go_sem, eqs hxE2, reduceIte, seval]) rfl (Kp.enter' _), rfl, ?_⟩
    exact ⟨o, e, d, st, gr, rfl, Sx.refl, .inl rfl, .inl rfl, .inr ⟨rfl, rfl, .inl rfl⟩, P⟩
  rw [if_neg (by decide)]
  have qw := fun e d => with_q (e := e) (d := d) P.hG P.hS (Ne.symm P.n1) P.okG P.okS (by omega : ds.pgs.length ≤ 1000)
  have qr := fun e d => jroom_q (e := e) (d := d) P.J
  (repeat' (first | refine To.seq hxE2 ?_ | refine To.op0 hxE2 (by simp only [go_sem, eqs hxE2, reduceIte, seval, Heap.gets, Heap.sets, Heap.get, bytesA_length, bytesA_one, bytesA_plains, List.take_of_length_le, List.drop_of_length_le, Nat.add_zero, V.one, Nat.reduceLeDiff, List.all_cons, List.all_nil, ne_eq, not_false_eq_true, Nat.zero_le, q, P.hs]; rfl) ?_ | refine To.nop hxE2 ?_ | (refine To.condF hxE2 ?_ ?_; focus (simp only [go_sem, eqs hxE2, reduceIte, seval, Heap.gets, Heap.sets, Heap.get, bytesA_length, bytesA_one, bytesA_plains, List.take_of_length_le, List.drop_of_length_le, Nat.add_zero, V.one, Nat.reduceLeDiff, List.all_cons, List.all_nil, ne_eq, not_false_eq_true, Nat.zero_le, q, P.hs]; done)) | refine To.skip hxE2 ?_ | refine To.draw0 hxE2 ?_ | refine ToD.op0 (by simp only [go_sem, eqs hxE2, reduceIte, seval, Heap.gets, Heap.sets, Heap.get, bytesA_length, bytesA_one, bytesA_plains, List.take_of_length_le, List.drop_of_length_le, Nat.add_zero, V.one, Nat.reduceLeDiff, List.all_cons, List.all_nil, ne_eq, not_false_eq_true, Nat.zero_le, q, P.hs]; rfl) (by simp only [put_some, put_none]; rfl) ?_ | fail))
  refine ToD.callD rfl rfl rfl (by simp only [go_sem, eqs hxE2, reduceIte, seval]; exact qw _ _) rfl ?_ ?_
  · simp only [go_sem, eqs hxE2, reduceIte, seval, Heap.gets, Heap.sets, Heap.get, bytesA_length, bytesA_one, bytesA_plains, List.take_of_length_le, List.drop_of_length_le, Nat.add_zero, V.one, Nat.reduceLeDiff, List.all_cons, List.all_nil, ne_eq, not_false_eq_true, Nat.zero_le, P.hs]
  (repeat' (first | refine ToD.op0 (by simp only [go_sem, eqs hxE2, reduceIte, seval, Heap.gets, Heap.sets, Heap.get, bytesA_length, bytesA_one, bytesA_plains, List.take_of_length_le, List.drop_of_length_le, Nat.add_zero, V.one, Nat.reduceLeDiff, List.all_cons, List.all_nil, ne_eq, not_false_eq_true, Nat.zero_le, q, qr, P.hs]; rfl) (by simp only [put_some, put_none]; rfl) ?_ | refine ToD.nop ?_))
  simp only [andThen]
  have key : ∀ (n : Int) (sq' : Int) (ov' : Bool) (ds' : DSt) (G' : List (Nat × Pg)), dKeepG on ds a s seq G S = (n, sq', ov', ds', G') → ds'.pgs.length = ds.pgs.length := fun n sq' ov' ds' G' h => by
    have := dKeepG_len on ds a s seq G S
    rw [h] at this
    exact this
  refine To.mono (Q := fun ex S' h' => ∃ (o' : List AM.Obj) (e' d' st' gr' : Nat), h' = ⟨o', e', d'⟩ ∧ Sx sp jl dd pg lm st gr o o' ∧ (st' = st ∨ o.length ≤ st') ∧ (gr' = gr ∨ o.length ≤ gr') ∧ Lw sp o o.length o' e' d' ∧ PS o' sp jl dd pg lm st' gr' a s (dKeepG on ds a s seq G S).2.1 (dKeepG on ds a s seq G S).2.2.1 on (dKeepG on ds a s seq G S).2.2.2.1 S (dKeepG on ds a s seq G S).2.2.2.2 ∧
    ((ex = .ret ∧ (dKeepG on ds a s seq G S).1 ≠ 0 ∧ S' 2 = .int .i64 (dKeepG on ds a s seq G S).1) ∨ (ex = .norm ∧ (dKeepG on ds a s seq G S).1 = 0 ∧ S' 0 = .ptr sp 0))) ?_ ?_
  · unfold dKeepG
    by_cases hw : roomJ s < withN G S
    · have hd : decide ((roomJ s : Int) < (withN G S : Int)) = true := decide_eq_true (by omega)
      rw [if_pos hw]
      obtain ⟨r1, oh1, q1, rfl, o1, e1, d1, st1, gr1, hg1, X1, hst1, hgr1, L1, P1⟩ := ssync_q (e := o.length) (d := min o.length st) P ha hs hnp hs0 hs1
      have hlen := dSync_len on ds a s seq false G
      generalize dSync on ds a s seq false G = w at *
      obtain ⟨n, sq', ov', ds', G'⟩ := w
      simp only at P1 q1 hlen ⊢
      (repeat' (first | refine To.seq hxE2 ?_ | refine To.op0 hxE2 (by simp only [go_sem, eqs hxE2, reduceIte, seval, hd]; rfl) ?_ | (refine To.condT hxE2 ?_ ?_; focus (simp only [go_sem, eqs hxE2, reduceIte, seval, hd]; done))))
      refine To.op hxE2 (by simp only [go_sem, eqs hxE2, reduceIte, seval, Option.getD_some, q1]; rfl) ?_
      rw [show oh1.getD ((some (⟨o, o.length, min o.length st⟩ : Heap)).getD (enter ⟨o, e, d⟩)) = ⟨o1, e1, d1⟩ from hg1]
      by_cases hn : n = 0
      · subst hn
        (repeat' (first | refine To.seq hxE2 ?_ | refine To.op0 hxE2 (by simp only [go_sem, eqs hxE2, reduceIte, seval, bne_self_eq_false]; rfl) ?_ | refine To.nop hxE2 ?_ | (refine To.condF hxE2 ?_ ?_; focus (simp only [go_sem, eqs hxE2, reduceIte, seval, bne_self_eq_false]; done)) | refine To.skip hxE2 ?_))
        refine ⟨o1, _, _, st1, gr1, rfl, X1, hst1, hgr1, L1, P1, .inr ⟨rfl, rfl, ?_⟩⟩
        simp only [go_sem, eqs hxE2, reduceIte, seval]
      · have hb : (n != 0) = true := by simpa using hn
        (repeat' (first | refine To.seq hxE2 ?_ | refine To.op0 hxE2 (by simp only [go_sem, eqs hxE2, reduceIte, seval, hb]; rfl) ?_ | refine To.nop hxE2 ?_ | (refine To.condT hxE2 ?_ ?_; focus (simp only [go_sem, eqs hxE2, reduceIte, seval, hb]; done)) | refine To.ret hxE2 ?_))
        refine ⟨o1, _, _, st1, gr1, rfl, X1, hst1, hgr1, L1, P1, .inl ⟨rfl, hn, ?_⟩⟩
        simp only [go_sem, eqs hxE2, reduceIte, seval]
    · have hd : decide ((roomJ s : Int) < (withN G S : Int)) = false := decide_eq_false (by omega)
      rw [if_neg hw]
      (repeat' (first | (refine To.condF hxE2 ?_ ?_; focus (simp only [go_sem, eqs hxE2, reduceIte, seval, hd]; done)) | refine To.skip hxE2 ?_))
      refine ⟨o, _, _, st, gr, rfl, Sx.refl, .inl rfl, .inl rfl, .inr ⟨rfl, rfl, .inl rfl⟩, P, .inr ⟨rfl, rfl, ?_⟩⟩
      simp only [go_sem, eqs hxE2, reduceIte, seval]
  · rintro ex S' _ ⟨o', e', d', st', gr', rfl, X1, hst1, hg1, L1, P1, ⟨rfl, hn, h2⟩ | ⟨rfl, hn, h0⟩⟩
    · rw [if_pos hn]
      refine ⟨_, _, fin1 (i := 2) rfl, by rw [h2], ?_⟩
      rw [h2]
      obtain ⟨e2, d2, hl2, L2⟩ := L1.leave (e := e) (d := d) (v := .int .i64 (dKeepG on ds a s seq G S).1) rfl hls
      exact ⟨o', e2, d2, st', gr', hl2, X1, hst1, hg1, L2, P1⟩
    · rw [if_neg (by simpa using hn)]
      have qc := fun e d => copy_q (e := e) (d := d) P1.hG P1.hS (Ne.symm P1.n1) P1.okG P1.okS
      have P2 := P1.setG (mergeC_ok P1.okG P1.okS)
      obtain ⟨r3, oh3, q3, rfl, o3, e3, d3, st3, hg3, X3, hst3, he3, P3⟩ := sdrop_q (e := e') (d := min d' (min gr' st')) P2
      simp only [andThen]
      (repeat' (first | refine To.seq hxE2 ?_ | refine To.draw0 hxE2 ?_ | refine ToD.op0 (by simp only [go_sem, eqs hxE2, reduceIte, seval, Heap.gets, Heap.sets, Heap.get, bytesA_length, bytesA_one, bytesA_plains, List.take_of_length_le, List.drop_of_length_le, Nat.add_zero, V.one, Nat.reduceLeDiff, List.all_cons, List.all_nil, ne_eq, not_false_eq_true, Nat.zero_le, h0, P1.hs]; rfl) (by simp only [put_some, put_none]; rfl) ?_ | fail))
      refine ToD.callD rfl rfl rfl (by simp only [go_sem, eqs hxE2, reduceIte, seval, h0]; exact qc _ _) rfl rfl ?_
      (repeat' (first | refine To.seq hxE2 ?_ | refine To.op0 hxE2 (by simp only [go_sem, eqs hxE2, reduceIte, seval, Heap.gets, Heap.sets, Heap.get, bytesA_length, bytesA_one, bytesA_plains, List.take_of_length_le, List.drop_of_length_le, Nat.add_zero, V.one, Nat.reduceLeDiff, List.all_cons, List.all_nil, ne_eq, not_false_eq_true, Nat.zero_le, h0]; rfl) ?_ | refine ToD.nop ?_))
      try simp only [andThen]
      refine To.op hxE2 (by simp only [go_sem, eqs hxE2, reduceIte, seval, h0, q3]; rfl) ?_
      rw [show oh3.getD ((some (⟨o'.set gr' (.map ((mergeC (dKeepG on ds a s seq G S).2.2.2.2 S).map ent)), e', min d' (min gr' st')⟩ : Heap)).getD ⟨o', e', d'⟩) = ⟨o3, e3, d3⟩ from hg3]
      (repeat' (first | refine To.seq hxE2 ?_ | refine To.op0 hxE2 (by simp only [go_sem, eqs hxE2, reduceIte, seval]; rfl) ?_ | refine To.nop hxE2 ?_ | refine To.ret hxE2 ?_))
      have X2 : Sx sp jl dd pg lm st gr o o3 := (X1.trans2 hst1 hg1 (Sx.setG _)).trans2 hst1 hg1 X3
      have hle := X1.len
      have hle2 : (o'.set gr' (.map ((mergeC (dKeepG on ds a s seq G S).2.2.2.2 S).map ent))).length = o'.length := List.length_set
      refine ⟨_, _, fin1 (i := 2) rfl, by simp only [go_sem, eqs hxE2, reduceIte, seval], ?_⟩
      rw [leave_low _ (by omega)]
      exact ⟨o3, _, _, st3, gr', rfl, X2, .inr (by omega), hg1, .inl (by omega), P3⟩
end
end Go.Proofs.Ytfbkeieoeagkdaa

/- Store: Open. -/
namespace Go.Proofs.Ytfbkeieoeagkdaa
open Go AM
set_option linter.unusedSimpArgs false
set_option linter.unusedVariables false
set_option maxRecDepth 100000

section
variable {o : List AM.Obj} {e d dd pg lm : Nat} {on down : Bool} {left : Int} {pgs : List Pg} {ca : List (Nat × Pg)}
/-- What Open of a store leaves. -/
def SOpenR (dd pg lm : Nat) (on : Bool) (o : List AM.Obj) (e d : Nat) (a s : Nat) (r : Out) (oh : Option Heap) (w : Int × Int × Int × DSt) : Prop :=
  (w.1 ≠ 0 ∧ r = .val (.tuple [.nilp, .int .i64 w.1]) ∧ ∃ o' e' d', oh.getD ⟨o, e, d⟩ = ⟨o', e', d'⟩ ∧ Dx dd pg lm o o' ∧ PDs o' dd pg lm on w.2.2.2) ∨
  (w.1 = 0 ∧ ∃ sp jl st gr, r = .val (.tuple [.ptr sp 0, .int .i64 0]) ∧ o.length ≤ sp ∧ o.length ≤ jl ∧ o.length ≤ st ∧ o.length ≤ gr ∧ ∃ o' e' d', oh.getD ⟨o, e, d⟩ = ⟨o', e', d'⟩ ∧ o.length ≤ o'.length ∧ (∀ l, l < o.length → l ≠ dd → l ≠ pg → l ≠ lm → o'[l]? = o[l]?) ∧ PS o' sp jl dd pg lm st gr a s w.2.1 false on w.2.2.2 [] [])
set_option maxHeartbeats 8000000 in
theorem sopen_q (P : PD o dd pg lm on down left pgs ca) {a s : Nat} (hr : 1 ≤ roomJ s) (hin : a + s ≤ pgs.length) (hs1 : 1 ≤ s) (hpl : pgs.length ≤ 100000) :
    ∃ r oh, Den FF E2 44 [.ptr dd 0, .int .i64 (a : Int), .int .i64 (s : Int)] ⟨o, e, d⟩ = some (r, oh) ∧ SOpenR dd pg lm on o e d a s r oh (dOpen on ⟨down, left, pgs, ca⟩ a s) := by
  refine To.denE hxE2 (f := 44) (a := af44) rfl (E2_none rfl) (Nat.le_of_ble_eq_true rfl) ?_
  have hld := P.ld
  have hlp := P.lp
  have hlm := P.ll
  obtain ⟨r1, oh1, q1, hR⟩ := open_x (e := o.length) (d := o.length) P hr hin hs1 hpl
  generalize dOpen on ⟨down, left, pgs, ca⟩ a s = w at *
  obtain ⟨er, sq, n, ds⟩ := w
  unfold OpenR at hR
  unfold SOpenR
  simp only at hR ⊢
  rcases hR with ⟨hn, rfl, o1, d1, L1, P1⟩ | ⟨hn, jl, rfl, hjl, o1, rr, e1, d1, hg1, D1, L1, _, _, J1⟩
  · have hb : (er != 0) = true := by simpa using hn
    (repeat' (first | refine To.seq hxE2 ?_ | refine To.op0 hxE2 (by simp only [go_sem, eqs hxE2, reduceIte, seval]; rfl) ?_ | refine To.nop hxE2 ?_))
    refine To.op hxE2 (by simp only [go_sem, eqs hxE2, reduceIte, seval, q1]; rfl) ?_
    rw [show oh1.getD (enter ⟨o, e, d⟩) = ⟨o1, o.length, d1⟩ from L1.eq]
    (repeat' (first | refine To.seq hxE2 ?_ | refine To.op0 hxE2 (by simp only [go_sem, eqs hxE2, reduceIte, seval, hb]; rfl) ?_ | refine To.nop hxE2 ?_ | (refine To.condT hxE2 ?_ ?_; focus (simp only [go_sem, eqs hxE2, reduceIte, seval, hb]; done)) | refine To.ret hxE2 ?_))
    have h5 : ∀ S' : Nat → V, S' 6 = .nilp → S' 7 = .int .i64 er → ∃ v oh, finish af44 ⟨o, e, d⟩ (some (.ret, S', ⟨o1, o.length, d1⟩)) = some (v, oh) ∧ SOpenR dd pg lm on o e d a s v oh (er, sq, n, ds) := by
      intro S' h6 h7
      refine ⟨_, _, fin2 (i := 6) (j := 7) rfl, .inl ⟨hn, by rw [h6, h7], ?_⟩⟩
      rw [h6, h7]
      obtain ⟨d2, hlv, _⟩ := leave_same2 (o := o) (o' := o1) (e := e) (d := d) (d' := d1) (v := .tuple [.nilp, .int .i64 er]) rfl L1.dx.len (fun h => by
        rcases L1.low.2 with L | L
        · exact L
        · omega)
      exact ⟨o1, e, d2, hlv, L1.dx, P1⟩
    exact h5 _ (by simp only [go_sem, eqs hxE2, reduceIte, seval]) (by simp only [go_sem, eqs hxE2, reduceIte, seval])
  · subst hn
    have J1 : PJ (o1 ++ rr) jl dd pg lm a s sq false on ds := J1
    have hl1 := D1.len
    (repeat' (first | refine To.seq hxE2 ?_ | refine To.op0 hxE2 (by simp only [go_sem, eqs hxE2, reduceIte, seval]; rfl) ?_ | refine To.nop hxE2 ?_))
    refine To.op hxE2 (by simp only [go_sem, eqs hxE2, reduceIte, seval, q1]; rfl) ?_
    rw [show oh1.getD (enter ⟨o, e, d⟩) = ⟨o1 ++ rr, e1, d1⟩ from hg1]
    (repeat' (first | refine To.seq hxE2 ?_ | refine To.op0 hxE2 (by simp only [go_sem, eqs hxE2, reduceIte, seval, Heap.gets, Heap.sets, Heap.get, bytesA_length, bytesA_one, bytesA_plains, List.take_of_length_le, List.drop_of_length_le, Nat.add_zero, V.one, Nat.reduceLeDiff, List.all_cons, List.all_nil, ne_eq, not_false_eq_true, Nat.zero_le, bne_self_eq_false]; rfl) ?_ | refine To.op1 hxE2 (by simp only [go_sem, eqs hxE2, reduceIte, seval, Heap.gets, Heap.sets, Heap.get, bytesA_length, bytesA_one, bytesA_plains, List.take_of_length_le, List.drop_of_length_le, Nat.add_zero, V.one, Nat.reduceLeDiff, List.all_cons, List.all_nil, ne_eq, not_false_eq_true, Nat.zero_le, bne_self_eq_false]; rfl) ?_ | refine To.nop hxE2 ?_ | (refine To.condF hxE2 ?_ ?_; focus (simp only [go_sem, eqs hxE2, reduceIte, seval, Heap.gets, Heap.sets, Heap.get, bytesA_length, bytesA_one, bytesA_plains, List.take_of_length_le, List.drop_of_length_le, Nat.add_zero, V.one, Nat.reduceLeDiff, List.all_cons, List.all_nil, ne_eq, not_false_eq_true, Nat.zero_le, bne_self_eq_false]; done)) | refine To.ret hxE2 ?_ | refine To.skip hxE2 ?_))
    have h5 : ∀ S' : Nat → V, S' 6 = .ptr (o1.length + (rr.length + 2)) 0 → S' 7 = .int .i64 0 → ∃ v oh, finish af44 ⟨o, e, d⟩ (some (.ret, S', ⟨o1 ++ (rr ++ [AM.Obj.map [], .map [], stO jl dd a s (o1.length + rr.length) (o1.length + (rr.length + 1))]), e1, d1⟩)) = some (v, oh) ∧ SOpenR dd pg lm on o e d a s v oh (0, sq, n, ds) := by
      intro S' h6 h7
      refine ⟨_, _, fin2 (i := 6) (j := 7) rfl, .inr ⟨rfl, o1.length + (rr.length + 2), jl, o1.length + rr.length, o1.length + (rr.length + 1), by rw [h6, h7], by omega, hjl, by omega, by omega, o1 ++ (rr ++ [AM.Obj.map [], .map [], stO jl dd a s (o1.length + rr.length) (o1.length + (rr.length + 1))]), min e e1, min d d1, ?_, by rw [List.length_append]; omega, fun l hl a b c => ?_, ?_⟩⟩
      · rw [h6, h7, leave_some rfl]; rfl
      · rw [List.getElem?_append_left (by omega)]; exact D1.get l a b c
      · have e3 : o1 ++ (rr ++ [AM.Obj.map [], .map [], stO jl dd a s (o1.length + rr.length) (o1.length + (rr.length + 1))]) = (o1 ++ rr) ++ [AM.Obj.map [], .map [], stO jl dd a s (o1.length + rr.length) (o1.length + (rr.length + 1))] := by rw [List.append_assoc]
        have J2 := J1.app [AM.Obj.map [], .map [], stO jl dd a s (o1.length + rr.length) (o1.length + (rr.length + 1))]
        rw [← e3] at J2
        exact ⟨by rw [app_getk, app_getk]; rfl, J2, by rw [app_getk]; simp, by rw [app_getk, app_getk]; rfl, by omega, by omega, by omega, okM_nil, okM_nil⟩
    exact h5 _ (by simp only [go_sem, eqs hxE2, reduceIte, seval]) (by simp only [go_sem, eqs hxE2, reduceIte, seval])
end
end Go.Proofs.Ytfbkeieoeagkdaa

/- Journal, the plain law: heads, torn and whole. -/
namespace Go.Proofs.Ytfbkeieoeagkdaa
open Go AM
set_option linter.unusedSimpArgs false
set_option linter.unusedVariables false
set_option maxRecDepth 100000

theorem getK4 (p : Pg) (a : Nat) : getK p a 4 = (((0 * 256 + (p.getD a 0).toNat) * 256 + (p.getD (a + 1) 0).toNat) * 256 + (p.getD (a + 2) 0).toNat) * 256 + (p.getD (a + 3) 0).toNat := rfl
theorem getK2 (p : Pg) (a : Nat) : getK p a 2 = (0 * 256 + (p.getD a 0).toNat) * 256 + (p.getD (a + 1) 0).toNat := rfl
theorem byteI_n (n : Nat) (i : Nat) : (byteI (n : Int) i).toNat = n / 2 ^ (8 * i) % 256 := by
  have := byteI_nat (n : Int) i
  have e : ((n / 2 ^ (8 * i) % 256 : Nat) : Int) = (n : Int) / 2 ^ (8 * i) % 256 := by push_cast; rfl
  omega
theorem getK4_0 (p : Pg) : getK p 0 4 = (((0 * 256 + (p.getD 0 0).toNat) * 256 + (p.getD 1 0).toNat) * 256 + (p.getD 2 0).toNat) * 256 + (p.getD 3 0).toNat := rfl
theorem getK4_60 (p : Pg) : getK p 60 4 = (((0 * 256 + (p.getD 60 0).toNat) * 256 + (p.getD 61 0).toNat) * 256 + (p.getD 62 0).toNat) * 256 + (p.getD 63 0).toNat := rfl
section
variable (s : Int) (lv : Bool) (c sm : Int)
theorem headP_0 : (headP s lv c sm).getD 0 0 = byteI s 3 := rfl
theorem headP_1 : (headP s lv c sm).getD 1 0 = byteI s 2 := rfl
theorem headP_2 : (headP s lv c sm).getD 2 0 = byteI s 1 := rfl
theorem headP_3 : (headP s lv c sm).getD 3 0 = byteI s 0 := rfl
theorem headP_4 : (headP s lv c sm).getD 4 0 = byteI (if lv = true then 1 else 0) 0 := rfl
theorem headP_5 : (headP s lv c sm).getD 5 0 = byteI c 1 := rfl
theorem headP_6 : (headP s lv c sm).getD 6 0 = byteI c 0 := rfl
theorem headP_7 : (headP s lv c sm).getD 7 0 = byteI sm 3 := rfl
theorem headP_8 : (headP s lv c sm).getD 8 0 = byteI sm 2 := rfl
theorem headP_9 : (headP s lv c sm).getD 9 0 = byteI sm 1 := rfl
theorem headP_10 : (headP s lv c sm).getD 10 0 = byteI sm 0 := rfl
theorem headP_60 : (headP s lv c sm).getD 60 0 = byteI s 3 := rfl
theorem headP_61 : (headP s lv c sm).getD 61 0 = byteI s 2 := rfl
theorem headP_62 : (headP s lv c sm).getD 62 0 = byteI s 1 := rfl
theorem headP_63 : (headP s lv c sm).getD 63 0 = byteI s 0 := rfl
end
theorem head_seq {s : Nat} (h : s < 256) (lv : Bool) (c sm : Int) : getK (headP s lv c sm) 0 4 = s ∧ getK (headP s lv c sm) 60 4 = s := by
  constructor
  · rw [getK4, headP_0, headP_1, headP_2, headP_3, byteI_n, byteI_n, byteI_n, byteI_n]; omega
  · rw [getK4, headP_60, headP_61, headP_62, headP_63, byteI_n, byteI_n, byteI_n, byteI_n]; omega
theorem head_cnt (s : Int) (lv : Bool) {c : Nat} (h : c < 65536) (sm : Int) : getK (headP s lv c sm) 5 2 = c := by
  rw [getK2, headP_5, headP_6, byteI_n, byteI_n]; omega
theorem head_sum (s : Int) (lv : Bool) (c : Int) {sm : Nat} (h : sm < 2 ^ 32) : getK (headP s lv c sm) 7 4 = sm := by
  rw [getK4, headP_7, headP_8, headP_9, headP_10, byteI_n, byteI_n, byteI_n, byteI_n]; omega
theorem head_live (s : Int) (lv : Bool) (c sm : Int) : liveP (headP s lv c sm) = lv := by
  unfold liveP
  rw [headP_4]
  cases lv <;> rfl
theorem head_whole {s : Nat} (h : s < 256) (lv : Bool) {c : Nat} (hc : c < 65536) {sm : Nat} (hm : sm < 2 ^ 32) : wholeP (headP s lv c sm) = rightH s lv c sm := by
  unfold wholeP
  rw [(head_seq h lv c sm).1, head_live, head_cnt s lv hc, head_sum s lv c hm]
  simp
/-- Low numbers. -/
def seqB (p : Pg) (q : Nat) : Prop := getK p 0 4 ≤ q ∧ getK p 60 4 ≤ q
theorem whole_tail {p : Pg} (h : wholeP p = true) : p.getD 63 0 = p.getD 3 0 ∧ p.getD 60 0 = p.getD 0 0 := by
  unfold wholeP at h
  have h2 := eq_of_beq (Bool.and_eq_true_iff.1 h).2
  constructor
  · rw [← h2, headP_63, headP_3]
  · rw [← h2, headP_60, headP_0]
theorem tear_get {c : Nat} {p q : Pg} (hp : p.length = 64) (hq : q.length = 64) (i : Nat) : (tear c p q).getD i 0 = if i < c then p.getD i 0 else q.getD i 0 := by
  unfold tear
  simp only [List.getD_eq_getElem?_getD]
  by_cases h : i < c
  · rw [if_pos h]
    by_cases h2 : i < 64
    · rw [List.getElem?_append_left (by rw [List.length_take]; omega), List.getElem?_take_of_lt h]
    · rw [List.getElem?_eq_none (by rw [List.length_append, List.length_take, List.length_drop]; omega), List.getElem?_eq_none (by omega)]
  · rw [if_neg h]
    by_cases h3 : c ≤ 64
    · rw [List.getElem?_append_right (by rw [List.length_take]; omega), List.length_take, List.getElem?_drop, show min c p.length = c by omega, show c + (i - c) = i by omega]
    · rw [List.getElem?_eq_none (by rw [List.length_append, List.length_take, List.length_drop]; omega), List.getElem?_eq_none (by omega)]
theorem tear_l64 {c : Nat} {p q : Pg} (hp : p.length = 64) (hq : q.length = 64) (hc : c ≤ 64) : (tear c p q).length = 64 := by
  unfold tear
  rw [List.length_append, List.length_take, List.length_drop]; omega
theorem pg_ext {p q : Pg} (hp : p.length = 64) (hq : q.length = 64) (h : ∀ i, i < 64 → p.getD i 0 = q.getD i 0) : p = q := by
  apply List.ext_getElem?
  intro i
  by_cases hi : i < 64
  · have := h i hi
    simp only [List.getD_eq_getElem?_getD] at this
    rw [List.getElem?_eq_getElem (by omega), List.getElem?_eq_getElem (by omega)] at this ⊢
    simpa using this
  · rw [List.getElem?_eq_none (by omega), List.getElem?_eq_none (by omega)]
/-- A head torn over a page with lower numbers. -/
theorem torn_head {p : Pg} (hp : p.length = 64) {s k : Nat} (h : s < 256) (hk : k < s) (hb : seqB p k) (lv : Bool) (n sm : Int) {c : Nat} (hc : c ≤ 64) :
    tear c (headP s lv n sm) p = headP s lv n sm ∨ (seqB (tear c (headP s lv n sm) p) s ∧ (tear c (headP s lv n sm) p = p ∨ wholeP (tear c (headP s lv n sm) p) = false)) := by
  have hl := headP_len s lv n sm
  obtain ⟨b1, b2⟩ := hb
  have tg := fun i => tear_get (c := c) hl hp i
  have tl := tear_l64 hl hp hc
  rw [getK4_0] at b1
  rw [getK4_60] at b2
  have n0 : (byteI (s : Int) 0).toNat = s := by rw [byteI_n]; omega
  have n1 : (byteI (s : Int) 1).toNat = 0 := by rw [byteI_n]; omega
  have n2 : (byteI (s : Int) 2).toNat = 0 := by rw [byteI_n]; omega
  have n3 : (byteI (s : Int) 3).toNat = 0 := by rw [byteI_n]; omega
  by_cases h64 : c = 64
  · subst h64
    left
    exact pg_ext tl hl fun i hi => by rw [tg, if_pos hi]
  · right
    have g60 : (tear c (headP s lv n sm) p).getD 60 0 = p.getD 60 0 := by
      rw [tg]
      split
      · rw [headP_60]; exact UInt8.toNat_inj.1 (by omega)
      · rfl
    have g61 : (tear c (headP s lv n sm) p).getD 61 0 = p.getD 61 0 := by
      rw [tg]
      split
      · rw [headP_61]; exact UInt8.toNat_inj.1 (by omega)
      · rfl
    have g62 : (tear c (headP s lv n sm) p).getD 62 0 = p.getD 62 0 := by
      rw [tg]
      split
      · rw [headP_62]; exact UInt8.toNat_inj.1 (by omega)
      · rfl
    have g63 : (tear c (headP s lv n sm) p).getD 63 0 = p.getD 63 0 := by
      rw [tg, if_neg (by omega)]
    have g0 : (tear c (headP s lv n sm) p).getD 0 0 = p.getD 0 0 := by
      rw [tg]
      split
      · rw [headP_0]; exact UInt8.toNat_inj.1 (by omega)
      · rfl
    have g1 : (tear c (headP s lv n sm) p).getD 1 0 = p.getD 1 0 := by
      rw [tg]
      split
      · rw [headP_1]; exact UInt8.toNat_inj.1 (by omega)
      · rfl
    have g2 : (tear c (headP s lv n sm) p).getD 2 0 = p.getD 2 0 := by
      rw [tg]
      split
      · rw [headP_2]; exact UInt8.toNat_inj.1 (by omega)
      · rfl
    by_cases h4 : 4 ≤ c
    · have g3 : (tear c (headP s lv n sm) p).getD 3 0 = byteI (s : Int) 0 := by rw [tg, if_pos (by omega), headP_3]
      refine ⟨⟨?_, ?_⟩, .inr ?_⟩
      · rw [getK4_0, g0, g1, g2, g3]; omega
      · rw [getK4_60, g60, g61, g62, g63]; omega
      · cases hw : wholeP (tear c (headP s lv n sm) p)
        · rfl
        · have := (whole_tail hw).1
          rw [g63, g3] at this
          rw [this] at b2
          omega
    · have : tear c (headP s lv n sm) p = p := pg_ext tl hp fun i hi => by
        by_cases hic : i < c
        · rcases (by omega : i = 0 ∨ i = 1 ∨ i = 2) with rfl | rfl | rfl
          · exact g0
          · exact g1
          · exact g2
        · rw [tg, if_neg hic]
      refine ⟨?_, .inl this⟩
      rw [this]
      refine ⟨?_, ?_⟩
      · rw [getK4_0]; omega
      · rw [getK4_60]; omega
end Go.Proofs.Ytfbkeieoeagkdaa

/- Journal, the plain law: crashes and puts. -/
namespace Go.Proofs.Ytfbkeieoeagkdaa
open Go AM
set_option linter.unusedSimpArgs false
set_option linter.unusedVariables false
set_option maxRecDepth 100000

def pgAt (pgs : List Pg) (i : Nat) : Pg := pgs.getD i (zs 64)
theorem pgAt_set {pgs : List Pg} {k i : Nat} {p : Pg} (h : k < pgs.length) : pgAt (pgs.set k p) i = if i = k then p else pgAt pgs i := by
  unfold pgAt
  simp only [List.getD_eq_getElem?_getD]
  by_cases hi : i = k
  · subst hi; rw [List.getElem?_set_self h, if_pos rfl]; rfl
  · rw [List.getElem?_set_ne (Ne.symm hi), if_neg hi]
theorem pgAt_mem {pgs : List Pg} {i : Nat} (h : i < pgs.length) : pgAt pgs i ∈ pgs := by
  unfold pgAt
  rw [List.getD_eq_getElem?_getD, List.getElem?_eq_getElem h]
  exact List.getElem_mem h
theorem pgs_ext {a b : List Pg} (hl : a.length = b.length) (h : ∀ i, i < a.length → pgAt a i = pgAt b i) : a = b := by
  apply List.ext_getElem?
  intro i
  by_cases hi : i < a.length
  · have := h i hi
    unfold pgAt at this
    simp only [List.getD_eq_getElem?_getD] at this
    rw [List.getElem?_eq_getElem hi, List.getElem?_eq_getElem (by omega)] at this ⊢
    simpa using this
  · rw [List.getElem?_eq_none (by omega), List.getElem?_eq_none (by omega)]
def P64 (pgs : List Pg) : Prop := ∀ p ∈ pgs, p.length = 64
theorem P64.at {pgs : List Pg} (h : P64 pgs) (i : Nat) : (pgAt pgs i).length = 64 := by
  by_cases hi : i < pgs.length
  · exact h _ (pgAt_mem hi)
  · unfold pgAt
    rw [List.getD_eq_getElem?_getD, List.getElem?_eq_none (by omega)]; rfl
theorem P64.set {pgs : List Pg} (h : P64 pgs) {k : Nat} {p : Pg} (hp : p.length = 64) : P64 (pgs.set k p) := fun q hq => by
  rcases List.mem_or_eq_of_mem_set hq with hq | rfl
  · exact h q hq
  · exact hp

/-- What a crash may leave of pages. -/
def Torn (pgs : List Pg) (ca : List (Nat × Pg)) (pgs' : List Pg) : Prop :=
  pgs'.length = pgs.length ∧ ∀ i, i < pgs.length → pgAt pgs' i = pgAt pgs i ∨ ∃ p c, findC i ca = some p ∧ c ≤ 64 ∧ pgAt pgs' i = tear c p (pgAt pgs i)
theorem crashN_torn (ca : List (Nat × Pg)) (ch : List UInt8) : ∀ (K : List Nat) (k : Nat) (pgs : List Pg), K.Nodup → (∀ i ∈ K, i < pgs.length ∧ hasK ca i = true) → Torn pgs ca (crashN ca ch k K pgs) ∧ ∀ i, i ∉ K → pgAt (crashN ca ch k K pgs) i = pgAt pgs i
  | [], k, pgs, _, _ => ⟨⟨rfl, fun i _ => .inl rfl⟩, fun _ _ => rfl⟩
  | j :: r, k, pgs, hn, hK => by
    obtain ⟨h1, h2⟩ := List.nodup_cons.1 hn
    obtain ⟨hj, hk⟩ := hK j List.mem_cons_self
    rw [crashN]
    cases hc : ch[k]? with
    | none =>
      obtain ⟨⟨a1, a2⟩, a3⟩ := crashN_torn ca ch r (k + 1) pgs h2 fun i hi => hK i (List.mem_cons_of_mem _ hi)
      exact ⟨⟨a1, a2⟩, fun i hi => a3 i fun h => hi (List.mem_cons_of_mem _ h)⟩
    | some c =>
      simp only
      obtain ⟨⟨a1, a2⟩, a3⟩ := crashN_torn ca ch r (k + 1) (pgs.set j (tear (c.toNat % 65) ((findC j ca).getD (zs 64)) (pgs.getD j (zs 64)))) h2 fun i hi => by
        rw [List.length_set]; exact hK i (List.mem_cons_of_mem _ hi)
      rw [List.length_set] at a1 a2
      refine ⟨⟨a1, fun i hi => ?_⟩, fun i hi => ?_⟩
      · by_cases hij : i = j
        · subst hij
          right
          obtain ⟨p, hp⟩ := Option.isSome_iff_exists.1 hk
          refine ⟨p, c.toNat % 65, hp, by omega, ?_⟩
          rw [a3 i h1, pgAt_set hi, if_pos rfl, hp]; rfl
        · have := a2 i hi
          rw [pgAt_set hj, if_neg hij] at this
          exact this
      · rw [a3 i fun h => hi (List.mem_cons_of_mem _ h), pgAt_set hj, if_neg (by rintro rfl; exact hi List.mem_cons_self)]
theorem crash_torn (ca : List (Nat × Pg)) (ch : List UInt8) (pgs : List Pg) : Torn pgs ca (crashN ca ch 0 (keysN pgs.length ca) pgs) :=
  (crashN_torn ca ch _ 0 pgs (List.Pairwise.filter _ List.nodup_range) fun i hi => by
    obtain ⟨h1, h2⟩ := List.mem_filter.1 hi
    exact ⟨List.mem_range.1 h1, h2⟩).1
theorem Torn.none {pgs pgs' : List Pg} (h : Torn pgs [] pgs') : pgs' = pgs :=
  pgs_ext h.1 fun i hi => by
    rcases h.2 i (by rw [← h.1]; exact hi) with h | ⟨p, c, h, _⟩
    · exact h
    · cases h

/-- Changes laid in. -/
def putAll (pgs : List Pg) (cs : List (Int × Pg)) : List Pg := cs.foldl (fun l c => l.set c.1.toNat c.2) pgs
def caAll (ca : List (Nat × Pg)) (cs : List (Int × Pg)) : List (Nat × Pg) := cs.foldl (fun m c => putC c.1.toNat c.2 m) ca
theorem putAll_len : ∀ (cs : List (Int × Pg)) (pgs : List Pg), (putAll pgs cs).length = pgs.length
  | [], pgs => rfl
  | c :: r, pgs => (putAll_len r _).trans (List.length_set ..)
def inR (n : Nat) (cs : List (Int × Pg)) : Prop := ∀ c ∈ cs, 0 ≤ c.1 ∧ c.1 < (n : Int)
theorem inR.tail {n : Nat} {c : Int × Pg} {r : List (Int × Pg)} (h : inR n (c :: r)) : inR n r := fun x hx => h x (List.mem_cons_of_mem _ hx)
theorem layP_nil (pgs : List Pg) : layP [] pgs = pgs := by
  refine pgs_ext layP_len fun i hi => ?_
  rw [layP_len] at hi
  unfold pgAt
  rw [List.getD_eq_getElem?_getD, layP_get hi]
  simp [findC, List.getD_eq_getElem?_getD, List.getElem?_eq_getElem hi]
theorem layP_put {ca : List (Nat × Pg)} {pgs : List Pg} {k : Nat} {p : Pg} (hk : k < pgs.length) : layP (putC k p ca) pgs = (layP ca pgs).set k p := by
  refine pgs_ext (by rw [layP_len, List.length_set, layP_len]) fun i hi => ?_
  rw [layP_len] at hi
  rw [pgAt_set (by rw [layP_len]; exact hk)]
  unfold pgAt
  simp only [List.getD_eq_getElem?_getD]
  rw [layP_get hi, layP_get hi, findC_putC]
  by_cases h : i = k
  · rw [if_pos h, if_pos h]; rfl
  · rw [if_neg h, if_neg h]
theorem layP_all {pgs : List Pg} : ∀ {cs : List (Int × Pg)} {ca : List (Nat × Pg)}, inR pgs.length cs → layP (caAll ca cs) pgs = putAll (layP ca pgs) cs
  | [], ca, h => rfl
  | c :: r, ca, h => by
    have h1 := h c List.mem_cons_self
    have ih := layP_all (cs := r) (ca := putC c.1.toNat c.2 ca) h.tail
    rw [layP_put (by omega)] at ih
    exact ih
theorem putAll_at : ∀ {cs : List (Int × Pg)} {a b : List Pg}, a.length = b.length → inR a.length cs → (∀ i : Nat, (∀ c ∈ cs, c.1 ≠ (i : Int)) → pgAt a i = pgAt b i) → putAll a cs = putAll b cs
  | [], a, b, hl, _, h => pgs_ext hl fun i _ => h i (fun c hc => by cases hc)
  | c :: r, a, b, hl, hr, h => by
    have h1 := hr c List.mem_cons_self
    refine putAll_at (cs := r) (by simp [hl]) (by rw [List.length_set]; exact hr.tail) fun i hi => ?_
    rw [pgAt_set (by omega), pgAt_set (by omega)]
    by_cases hic : i = c.1.toNat
    · rw [if_pos hic, if_pos hic]
    · rw [if_neg hic, if_neg hic]
      exact h i fun x hx => by
        rcases List.mem_cons.1 hx with rfl | hx
        · omega
        · exact hi x hx
theorem putAll_out : ∀ {cs : List (Int × Pg)} {a : List Pg} {i : Nat}, inR a.length cs → (∀ c ∈ cs, c.1 ≠ (i : Int)) → pgAt (putAll a cs) i = pgAt a i
  | [], a, i, _, _ => rfl
  | c :: r, a, i, hr, h => by
    have h1 := hr c List.mem_cons_self
    have h2 := h c List.mem_cons_self
    have ih := putAll_out (cs := r) (a := a.set c.1.toNat c.2) (i := i) (by rw [List.length_set]; exact hr.tail) fun x hx => h x (List.mem_cons_of_mem _ hx)
    rw [pgAt_set (by omega), if_neg (by omega)] at ih
    exact ih
theorem putAll_twice {cs : List (Int × Pg)} {a : List Pg} (h : inR a.length cs) : putAll (putAll a cs) cs = putAll a cs :=
  putAll_at (putAll_len _ _) (by rw [putAll_len]; exact h) fun i hi => putAll_out h hi
theorem putAll_64 : ∀ {cs : List (Int × Pg)} {a : List Pg}, P64 a → (∀ c ∈ cs, c.2.length = 64) → P64 (putAll a cs)
  | [], a, h, _ => h
  | c :: r, a, h, hc => putAll_64 (cs := r) (h.set (hc c List.mem_cons_self)) fun x hx => hc x (List.mem_cons_of_mem _ hx)
theorem caAll_find : ∀ {cs : List (Int × Pg)} {ca : List (Nat × Pg)} {i : Nat} {p : Pg}, (∀ c ∈ cs, 0 ≤ c.1) → findC i (caAll ca cs) = some p → findC i ca = some p ∨ ((i : Int), p) ∈ cs
  | [], ca, i, p, _, h => .inl h
  | c :: r, ca, i, p, hc, h => by
    rcases caAll_find (cs := r) (fun x hx => hc x (List.mem_cons_of_mem _ hx)) h with h | h
    · rw [findC_putC] at h
      have := hc c List.mem_cons_self
      split at h
      · rename_i hi
        cases h
        right
        have : ((i : Int), c.2) = c := by rw [hi]; exact Prod.ext (by show ((c.1.toNat : Nat) : Int) = c.1; omega) rfl
        rw [this]; exact List.mem_cons_self
      · exact .inl h
    · exact .inr (List.mem_cons_of_mem _ h)
theorem burnB_off {left : Int} : burnB false false left = true ∧ burnD false false left = false := by
  constructor <;> rfl
theorem burnB_on {on : Bool} {left : Int} (h : burnB on false left = false) : on = true := by
  cases on
  · rw [burnB_off.1] at h; cases h
  · rfl
theorem burnD_ok {on : Bool} {left : Int} (h : burnB on false left = true) : burnD on false left = false := by
  cases on
  · exact burnB_off.2
  · unfold burnB at h
    unfold burnD
    simpa using h
/-- What a put does. -/
theorem dPut_sum (on : Bool) : ∀ (cs : List (Int × Pg)) (st : DSt), st.down = false → inR st.pgs.length cs →
    ((dPut on st cs).1 = 0 ∧ (dPut on st cs).2.down = false ∧ (dPut on st cs).2.ca = [] ∧ (dPut on st cs).2.pgs = layP (caAll st.ca cs) st.pgs) ∨
    ((dPut on st cs).1 = 5 ∧ on = true ∧ (dPut on st cs).2.pgs = st.pgs ∧ ∃ k, (dPut on st cs).2.ca = caAll st.ca (cs.take k))
  | [], st, hd, _ => by
    rw [dPut]
    unfold dFlush
    rw [hd]
    cases hB : burnB on false st.left
    · rw [if_pos rfl]; exact .inr ⟨rfl, burnB_on hB, rfl, 0, rfl⟩
    · rw [if_neg (by simp)]; exact .inl ⟨rfl, burnD_ok hB, rfl, rfl⟩
  | c :: r, st, hd, hr => by
    have h1 := hr c List.mem_cons_self
    have h0 : hasE false st.pgs.length c.1 = 0 := by unfold hasE; rw [if_neg (by simp), if_neg (by omega)]
    rw [dPut]
    cases hB : burnB on false st.left
    · have hw : dWrite on st c.1 c.2 = (5, ⟨burnD on false st.left, burnL on false st.left, st.pgs, st.ca⟩) := by
        unfold dWrite; rw [hd, h0, if_neg (by simp), hB, if_pos rfl]
      rw [hw, if_pos (by simp)]
      exact .inr ⟨rfl, burnB_on hB, rfl, 0, rfl⟩
    · have hw : dWrite on st c.1 c.2 = (0, ⟨burnD on false st.left, burnL on false st.left, st.pgs, putC c.1.toNat c.2 st.ca⟩) := by
        unfold dWrite; rw [hd, h0, if_neg (by simp), hB, if_neg (by simp)]
      rw [hw, if_neg (by simp)]
      simp only
      rcases dPut_sum on r ⟨burnD on false st.left, burnL on false st.left, st.pgs, putC c.1.toNat c.2 st.ca⟩ (burnD_ok hB) hr.tail with ⟨a1, a2, a3, a4⟩ | ⟨a1, a2, a3, k, a4⟩
      · exact .inl ⟨a1, a2, a3, a4⟩
      · exact .inr ⟨a1, a2, a3, k + 1, a4⟩
end Go.Proofs.Ytfbkeieoeagkdaa

/- Journal, the plain law: what a crash leaves is mended. -/
namespace Go.Proofs.Ytfbkeieoeagkdaa
open Go AM
set_option linter.unusedSimpArgs false
set_option linter.unusedVariables false
set_option maxRecDepth 100000

theorem P64.of {pgs : List Pg} (h : ∀ i, i < pgs.length → (pgAt pgs i).length = 64) : P64 pgs := fun p hp => by
  obtain ⟨i, hi, rfl⟩ := List.mem_iff_getElem.1 hp
  have := h i hi
  unfold pgAt at this
  rw [List.getD_eq_getElem?_getD, List.getElem?_eq_getElem hi] at this
  exact this
theorem Torn.p64 {pgs pgs' : List Pg} {ca : List (Nat × Pg)} (h : Torn pgs ca pgs') (hp : P64 pgs) (hc : ∀ i p, findC i ca = some p → p.length = 64) : P64 pgs' :=
  P64.of fun i hi => by
    rcases h.2 i (by rw [← h.1]; exact hi) with h | ⟨p, c, h1, h2, h⟩
    · rw [h]; exact hp.at i
    · rw [h]; exact tear_len (hc i p h1) (hp.at i) h2
/-- A put broken off. -/
theorem put_torn {pgs pgs' : List Pg} {cs : List (Int × Pg)} {k : Nat} (hT : Torn pgs (caAll [] (cs.take k)) pgs') (hr : inR pgs.length cs) (hp : P64 pgs) (hc : ∀ c ∈ cs, c.2.length = 64) :
    pgs'.length = pgs.length ∧ P64 pgs' ∧ ∀ i : Nat, (∀ c ∈ cs, c.1 ≠ (i : Int)) → pgAt pgs' i = pgAt pgs i := by
  have hf : ∀ i p, findC i (caAll [] (cs.take k)) = some p → ((i : Int), p) ∈ cs := fun i p h => by
    rcases caAll_find (fun x hx => (hr x (List.mem_of_mem_take hx)).1) h with h | h
    · cases h
    · exact List.mem_of_mem_take h
  refine ⟨hT.1, hT.p64 hp fun i p h => hc _ (hf i p h), fun i hi => ?_⟩
  by_cases hl : i < pgs.length
  · rcases hT.2 i hl with h | ⟨p, c, h1, _⟩
    · exact h
    · exact absurd rfl (hi _ (hf i p h1))
  · have h1 := hT.1
    unfold pgAt
    rw [List.getD_eq_getElem?_getD, List.getD_eq_getElem?_getD, List.getElem?_eq_none (by omega : pgs'.length ≤ i), List.getElem?_eq_none (by omega : pgs.length ≤ i)]
theorem mark_sum {on : Bool} {st : DSt} (hd : st.down = false) (hca : st.ca = []) (hl : st.pgs.length = 60) (h64 : P64 st.pgs) {s k : Nat} (hs : s < 256) (hk : k < s) (hb : seqB (pgAt st.pgs 2) k) {lv : Bool} {c sm : Int} (hr : rightH (s : Int) lv c sm = true) :
    ((dMark on st ((2 : Nat) : Int) (s : Int) lv c sm).1 = 0 ∧ (dMark on st ((2 : Nat) : Int) (s : Int) lv c sm).2.down = false ∧ (dMark on st ((2 : Nat) : Int) (s : Int) lv c sm).2.ca = [] ∧ (dMark on st ((2 : Nat) : Int) (s : Int) lv c sm).2.pgs = st.pgs.set 2 (headP s lv c sm)) ∨
    ((dMark on st ((2 : Nat) : Int) (s : Int) lv c sm).1 = 5 ∧ on = true ∧ ∀ pgs', Torn (dMark on st ((2 : Nat) : Int) (s : Int) lv c sm).2.pgs (dMark on st ((2 : Nat) : Int) (s : Int) lv c sm).2.ca pgs' → pgs' = st.pgs.set 2 (headP s lv c sm) ∨ ∃ p', p'.length = 64 ∧ seqB p' s ∧ (p' = pgAt st.pgs 2 ∨ wholeP p' = false) ∧ pgs' = st.pgs.set 2 p') := by
  unfold dMark
  rw [if_pos hr]
  have hrr : inR st.pgs.length [(((2 : Nat) : Int), headP (s : Int) lv c sm)] := fun x hx => by rw [List.mem_singleton.1 hx, hl]; show (0 : Int) ≤ ((2 : Nat) : Int) ∧ ((2 : Nat) : Int) < ((60 : Nat) : Int); omega
  have hcl : ∀ x ∈ [(((2 : Nat) : Int), headP (s : Int) lv c sm)], x.2.length = 64 := fun x hx => by rw [List.mem_singleton.1 hx]; show (headP (s : Int) lv c sm).length = 64; exact headP_len _ _ _ _
  generalize hH : headP (s : Int) lv c sm = H at *
  rcases dPut_sum on [(((2 : Nat) : Int), H)] st hd hrr with ⟨a1, a2, a3, a4⟩ | ⟨a1, a2, a3, k', a4⟩
  · left
    refine ⟨a1, a2, a3, ?_⟩
    rw [a4, layP_all hrr, hca, layP_nil]; rfl
  · right
    refine ⟨a1, a2, fun pgs' hT => ?_⟩
    rw [a3, a4, hca] at hT
    obtain ⟨b1, b2, b3⟩ := put_torn hT hrr h64 hcl
    have hset : pgs' = st.pgs.set 2 (pgAt pgs' 2) := by
      refine pgs_ext (by rw [b1, List.length_set]) fun i hi => ?_
      rw [pgAt_set (by omega)]
      by_cases h2 : i = 2
      · rw [if_pos h2, h2]
      · rw [if_neg h2]
        exact b3 i fun x hx => by rw [List.mem_singleton.1 hx]; show ((2 : Nat) : Int) ≠ _; omega
    have hold : (pgAt pgs' 2).length = 64 ∧ (pgAt pgs' 2 = pgAt st.pgs 2 ∨ ∃ c', c' ≤ 64 ∧ pgAt pgs' 2 = tear c' H (pgAt st.pgs 2)) := by
      refine ⟨b2.at 2, ?_⟩
      rcases hT.2 2 (by omega) with h | ⟨p, c', h1, h2, h⟩
      · exact .inl h
      · right
        refine ⟨c', h2, ?_⟩
        rcases caAll_find (fun x hx => (hrr x (List.mem_of_mem_take hx)).1) h1 with h1 | h1
        · cases h1
        · have := List.mem_singleton.1 (List.mem_of_mem_take h1)
          rw [h, (Prod.mk.inj this).2]
    obtain ⟨q1, q2⟩ := hold
    rcases q2 with q2 | ⟨c', q2, q3⟩
    · exact .inr ⟨_, q1, by rw [q2]; exact ⟨Nat.le_trans hb.1 (by omega), Nat.le_trans hb.2 (by omega)⟩, .inl q2, hset⟩
    · have hth := torn_head (h64.at 2) hs hk hb lv c sm q2
      rw [hH] at hth
      rcases hth with h | ⟨h1, h2⟩
      · left; rw [hset, q3, h]
      · right
        rw [← q3] at h1 h2
        exact ⟨_, q1, h1, h2, hset⟩

def liveHd (p : Pg) : Bool := wholeP p && liveP p
def fnd (pgs : List Pg) (cnt : Nat) (sm : Int) : Option (List (Int × Pg)) := foundE ⟨false, 0, pgs, []⟩ 2 20 cnt sm
theorem fnd_eq (d : Bool) (left : Int) (pgs : List Pg) (cnt : Nat) (sm : Int) : foundE ⟨d, left, pgs, []⟩ 2 20 cnt sm = fnd pgs cnt sm := rfl
theorem readP_at {pgs : List Pg} {i : Nat} (h : i < pgs.length) : readP false pgs [] (i : Int) = pgAt pgs i := by
  unfold readP
  have h0 : hasE false pgs.length (i : Int) = 0 := by unfold hasE; rw [if_neg (by simp), if_neg (by omega)]
  rw [h0, if_pos rfl]
  rfl
theorem fits20 {cnt : Nat} (h : ¬ roomJ (20 : Nat) < cnt) : listsN cnt + cnt ≤ 19 := by
  by_cases h1 : 1 ≤ cnt
  · have := room_fits (s := 20) (c := cnt) (by omega) h1; omega
  · have : cnt = 0 := by omega
    subst this; decide
theorem allP_at {pgs : List Pg} (hl : pgs.length = 60) {k : Nat} (hk : k ≤ 19) : allP ⟨false, 0, pgs, []⟩ 2 k = (List.range k).map fun i => pgAt pgs (3 + i) := by
  unfold allP
  apply List.map_congr_left
  intro i hi
  have := List.mem_range.1 hi
  show readP false pgs [] ((2 + 1 + i : Nat) : Int) = _
  rw [readP_at (by omega)]
theorem fnd_congr {a b : List Pg} (ha : a.length = 60) (hb : b.length = 60) (h : ∀ i, 3 ≤ i → i < 22 → pgAt a i = pgAt b i) (cnt : Nat) (sm : Int) : fnd a cnt sm = fnd b cnt sm := by
  unfold fnd foundE
  by_cases hc : roomJ (20 : Nat) < cnt
  · rw [if_pos hc, if_pos hc]
  · rw [if_neg hc, if_neg hc]
    have h19 := fits20 hc
    have : allP ⟨false, 0, a, []⟩ 2 (listsN cnt + cnt) = allP ⟨false, 0, b, []⟩ 2 (listsN cnt + cnt) := by
      rw [allP_at ha h19, allP_at hb h19]
      apply List.map_congr_left
      intro i hi
      have := List.mem_range.1 hi
      exact h _ (by omega) (by omega)
    rw [this]
    simp only [ha, hb]
theorem may_in {i : Int} (h : mayB 60 2 20 i = true) : 0 ≤ i ∧ i < 60 ∧ (i < 2 ∨ 22 ≤ i) := by
  unfold mayB at h
  simp only [Bool.and_eq_true, Bool.or_eq_true, decide_eq_true_eq] at h
  omega
/-- Changes of pages that may be changed. -/
def Fine (cs : List (Int × Pg)) : Prop := ∀ c ∈ cs, mayB 60 2 20 c.1 = true ∧ c.2.length = 64
theorem Fine.inR {cs : List (Int × Pg)} (h : Fine cs) {n : Nat} (hn : n = 60) : inR n cs := fun c hc => by
  have := may_in (h c hc).1
  omega
theorem Fine.out {cs : List (Int × Pg)} (h : Fine cs) {i : Nat} (h1 : 2 ≤ i) (h2 : i < 22) : ∀ c ∈ cs, c.1 ≠ (i : Int) := fun c hc => by
  have := may_in (h c hc).1
  omega
theorem fnd_fine {pgs : List Pg} (hl : pgs.length = 60) (h64 : P64 pgs) {cnt : Nat} {sm : Int} {cs : List (Int × Pg)} (h : fnd pgs cnt sm = some cs) : Fine cs := by
  unfold fnd foundE at h
  by_cases hc : roomJ (20 : Nat) < cnt
  · rw [if_pos hc] at h; cases h
  · rw [if_neg hc] at h
    have h19 := fits20 hc
    rw [allP_at hl h19] at h
    split at h
    · rename_i hall
      split at h
      · cases h
        intro c hc2
        refine ⟨by have := List.all_eq_true.1 hall c hc2; simpa [hl] using this, ?_⟩
        obtain ⟨j, hj, rfl⟩ := List.mem_map.1 hc2
        have hj := List.mem_range.1 hj
        show (List.getD _ (listsN cnt + j) []).length = 64
        rw [List.getD_eq_getElem?_getD, List.getElem?_map, List.getElem?_range (by omega)]
        exact h64.at _
      · cases h
    · cases h
/-- A disk from which Open makes what G says. -/
structure OkD (G : List Pg → Prop) (q : Nat) (pgs : List Pg) : Prop where
  len : pgs.length = 60
  p64 : P64 pgs
  seq : seqB (pgAt pgs 2) q
  is : (liveHd (pgAt pgs 2) = true ∧ ∃ cs, fnd pgs (getK (pgAt pgs 2) 5 2) (getK (pgAt pgs 2) 7 4 : Int) = some cs ∧ G (putAll pgs cs)) ∨ (liveHd (pgAt pgs 2) = false ∧ G pgs)
/-- The pages but the region's. -/
def DataEq (a b : List Pg) : Prop := ∀ i, i < 60 → (i < 2 ∨ 22 ≤ i) → pgAt a i = pgAt b i
def Clo (G : List Pg → Prop) : Prop := ∀ a b, DataEq a b → G a → G b
theorem DataEq.set2 {a : List Pg} (h : a.length = 60) (p : Pg) : DataEq a (a.set 2 p) := fun i hi hd => by rw [pgAt_set (by omega), if_neg (by omega)]
theorem live_seq {p : Pg} (h : wholeP p = true) {q : Nat} (hq : getK p 0 4 = q) (hq2 : q < 256) : seqB p q := by
  refine ⟨by omega, ?_⟩
  unfold wholeP at h
  have h2 := eq_of_beq (Bool.and_eq_true_iff.1 h).2
  rw [← h2, hq, (head_seq hq2 _ _ _).2]
  exact Nat.le_refl _
/-- A mark that isn't Live. -/
theorem mark_dead {on : Bool} {st : DSt} (hd : st.down = false) (hca : st.ca = []) (hl : st.pgs.length = 60) (h64 : P64 st.pgs) {s k : Nat} (hs : s < 256) (hk : k < s) (hb : seqB (pgAt st.pgs 2) k) {G : List Pg → Prop} (hG : Clo G) (hg : G st.pgs)
    (hlive : liveHd (pgAt st.pgs 2) = true → ∃ cs, fnd st.pgs (getK (pgAt st.pgs 2) 5 2) (getK (pgAt st.pgs 2) 7 4 : Int) = some cs ∧ putAll st.pgs cs = st.pgs) :
    ((dMark on st ((2 : Nat) : Int) (s : Int) false 0 0).1 = 0 ∧ (dMark on st ((2 : Nat) : Int) (s : Int) false 0 0).2.down = false ∧ (dMark on st ((2 : Nat) : Int) (s : Int) false 0 0).2.ca = [] ∧ (dMark on st ((2 : Nat) : Int) (s : Int) false 0 0).2.pgs = st.pgs.set 2 (headP s false 0 0)) ∨
    ((dMark on st ((2 : Nat) : Int) (s : Int) false 0 0).1 = 5 ∧ on = true ∧ ∀ pgs', Torn (dMark on st ((2 : Nat) : Int) (s : Int) false 0 0).2.pgs (dMark on st ((2 : Nat) : Int) (s : Int) false 0 0).2.ca pgs' → OkD G s pgs') := by
  have hr : rightH (s : Int) false 0 0 = true := by
    unfold rightH
    rw [Bool.and_eq_true_iff]
    exact ⟨decide_eq_true (by omega), rfl⟩
  rcases mark_sum (on := on) hd hca hl h64 hs hk hb hr with h | ⟨a1, a2, a3⟩
  · exact .inl h
  · right
    refine ⟨a1, a2, fun pgs' hT => ?_⟩
    rcases a3 pgs' hT with rfl | ⟨p', b1, b2, b3, rfl⟩
    · have e : pgAt (st.pgs.set 2 (headP s false 0 0)) 2 = headP s false 0 0 := by rw [pgAt_set (by omega), if_pos rfl]
      refine ⟨by rw [List.length_set]; exact hl, h64.set (headP_len _ _ _ _), ?_, .inr ⟨?_, hG _ _ (DataEq.set2 hl _) hg⟩⟩
      · rw [e]; exact ⟨by rw [(head_seq hs _ _ _).1]; exact Nat.le_refl _, by rw [(head_seq hs _ _ _).2]; exact Nat.le_refl _⟩
      · rw [e]; unfold liveHd; rw [head_live, Bool.and_false]
    · have e : pgAt (st.pgs.set 2 p') 2 = p' := by rw [pgAt_set (by omega), if_pos rfl]
      refine ⟨by rw [List.length_set]; exact hl, h64.set b1, by rw [e]; exact b2, ?_⟩
      rw [e]
      cases hlv : liveHd p'
      · exact .inr ⟨rfl, hG _ _ (DataEq.set2 hl _) hg⟩
      · left
        refine ⟨rfl, ?_⟩
        rcases b3 with rfl | b3
        · obtain ⟨cs, c1, c2⟩ := hlive hlv
          have hs2 : st.pgs.set 2 (pgAt st.pgs 2) = st.pgs := pgs_ext (by simp) fun i hi => by
            rw [pgAt_set (by omega)]
            split
            · rename_i h; rw [h]
            · rfl
          rw [hs2]
          exact ⟨cs, c1, by rw [c2]; exact hg⟩
        · unfold liveHd at hlv; rw [b3] at hlv; cases hlv
end Go.Proofs.Ytfbkeieoeagkdaa

/- Journal, the plain law: changes laid are found. -/
namespace Go.Proofs.Ytfbkeieoeagkdaa
open Go AM
set_option linter.unusedSimpArgs false
set_option linter.unusedVariables false
set_option maxRecDepth 100000

theorem OkD.mono {G : List Pg → Prop} {q q' : Nat} {pgs : List Pg} (h : OkD G q pgs) (hq : q ≤ q') : OkD G q' pgs :=
  ⟨h.len, h.p64, ⟨Nat.le_trans h.seq.1 hq, Nat.le_trans h.seq.2 hq⟩, h.is⟩
theorem fromL_cons (a : Int) (p : Pg) (r : List Pg) : fromL a (p :: r) = (a, p) :: fromL (a + 1) r := by
  unfold fromL
  rw [List.mapIdx_cons]
  congr 1
  · unfold fromF; simp
  · congr 1
    funext i p
    unfold fromF
    rw [Prod.mk.injEq]
    exact ⟨by omega, rfl⟩
theorem fromL_in : ∀ {ps : List Pg} {a : Nat} {c : Int × Pg}, c ∈ fromL (a : Int) ps → (a : Int) ≤ c.1 ∧ c.1 < (a : Int) + ps.length ∧ c.2 ∈ ps
  | [], a, c, h => by cases h
  | p :: r, a, c, h => by
    rw [fromL_cons] at h
    rcases List.mem_cons.1 h with rfl | h
    · refine ⟨Int.le_refl _, ?_, List.mem_cons_self⟩
      show (a : Int) < _
      rw [List.length_cons]; omega
    · have := fromL_in (a := a + 1) h
      rw [List.length_cons]
      exact ⟨by omega, by omega, List.mem_cons_of_mem _ this.2.2⟩
theorem putAll_fromL : ∀ {ps : List Pg} {a : Nat} {pgs : List Pg} {i : Nat}, a + ps.length ≤ pgs.length → i < ps.length → pgAt (putAll pgs (fromL (a : Int) ps)) (a + i) = ps.getD i []
  | [], a, pgs, i, _, h => by cases h
  | p :: r, a, pgs, i, hl, hi => by
    rw [List.length_cons] at hl hi
    rw [fromL_cons]
    show pgAt (putAll (pgs.set (a : Int).toNat p) (fromL (a + 1 : Int) r)) (a + i) = _
    rw [Int.toNat_natCast]
    cases i with
    | zero =>
      have h1 := putAll_out (cs := fromL ((a + 1 : Nat) : Int) r) (a := pgs.set a p) (i := a) (fun c hc => by
        have := fromL_in hc
        rw [List.length_set]; omega) (fun c hc => by have := fromL_in hc; omega)
      rw [pgAt_set (by omega), if_pos rfl] at h1
      exact h1
    | succ j =>
      have ih := putAll_fromL (ps := r) (a := a + 1) (pgs := pgs.set a p) (i := j) (by rw [List.length_set]; omega) (by omega)
      rw [show a + (j + 1) = a + 1 + j by omega]
      exact ih
theorem setK2 (p : Pg) (a : Nat) (n : Int) : setK p a 2 n 2 = (p.set (a + 1) (byteI n 0)).set a (byteI n 1) := rfl
theorem getD_set {p : Pg} {k i : Nat} {x : UInt8} (h : k < p.length) : (p.set k x).getD i 0 = if i = k then x else p.getD i 0 := by
  simp only [List.getD_eq_getElem?_getD]
  by_cases hi : i = k
  · subst hi; rw [List.getElem?_set_self h, if_pos rfl]; rfl
  · rw [List.getElem?_set_ne (Ne.symm hi), if_neg hi]
theorem set_get2 {p : Pg} {a i : Nat} {n : Nat} (ha : a + 1 < p.length) (hn : n < 65536) (hd : i = a ∨ i + 1 < a ∨ a + 1 < i) : getK (setK p a 2 (n : Int) 2) i 2 = if i = a then n else getK p i 2 := by
  rw [getK2, getK2, setK2, getD_set (by rw [List.length_set]; omega), getD_set (by omega), getD_set (by rw [List.length_set]; omega), getD_set (by omega)]
  by_cases h : i = a
  · subst h
    rw [if_pos rfl, if_pos rfl, if_neg (by omega), if_pos rfl, byteI_n, byteI_n]; omega
  · rw [if_neg h, if_neg h, if_neg (by omega), if_neg (by omega), if_neg (by omega)]
theorem numsI_get {cs : List (Int × Pg)} (hc : ∀ c ∈ cs, 0 ≤ c.1 ∧ c.1 < 65536) : ∀ (j : Nat), j ≤ cs.length → ∀ i, i < j → ((getK ((numsI cs j).getD (i / 32) []) (i % 32 * 2) 2 : Nat) : Int) = (cs.getD i (0, [])).1
  | 0, _, i, h => by cases h
  | j + 1, hj, i, hi => by
    have hl := numsI_len cs j
    have h64 := numsI_64 cs j (by omega)
    have ih := numsI_get hc j (by omega)
    have hk : j / 32 < (numsI cs j).length := by rw [hl]; unfold listsN; omega
    have hp : ((numsI cs j).getD (j / 32) []).length = 64 := by
      rw [List.getD_eq_getElem?_getD, List.getElem?_eq_getElem hk]
      exact h64 _ (List.getElem_mem hk)
    have hjm : cs.getD j (0, []) ∈ cs := by
      rw [List.getD_eq_getElem?_getD, List.getElem?_eq_getElem (by omega)]
      exact List.getElem_mem _
    have hjr := hc _ hjm
    obtain ⟨n, hn⟩ : ∃ n : Nat, (cs.getD j (0, [])).1 = (n : Int) := ⟨(cs.getD j (0, [])).1.toNat, by omega⟩
    rw [numsI, hn]
    rw [hn] at hjr
    have hget : ∀ k, ((numsI cs j).set (j / 32) (setK ((numsI cs j).getD (j / 32) []) (j % 32 * 2) 2 (n : Int) 2)).getD k [] = if k = j / 32 then setK ((numsI cs j).getD (j / 32) []) (j % 32 * 2) 2 (n : Int) 2 else (numsI cs j).getD k [] := fun k => by
      simp only [List.getD_eq_getElem?_getD]
      by_cases hkk : k = j / 32
      · rw [hkk, List.getElem?_set_self hk, if_pos rfl]; rfl
      · rw [List.getElem?_set_ne (Ne.symm hkk), if_neg hkk]
    rw [hget]
    by_cases hik : i / 32 = j / 32
    · rw [if_pos hik, set_get2 (by omega) (by omega) (by omega)]
      by_cases hij : i = j
      · subst hij; rw [if_pos rfl, hn]
      · rw [if_neg (by omega), ← hik]
        exact ih i (by omega)
    · rw [if_neg hik]
      exact ih i (by omega)
theorem fnd_laid {pgs : List Pg} (hl : pgs.length = 60) {cs : List (Int × Pg)} (hf : Fine cs) (hr : cs.length ≤ roomJ (20 : Nat)) (hp : ∀ i, i < (laidL cs).length → pgAt pgs (3 + i) = (laidL cs).getD i []) : fnd pgs cs.length (sumP (laidL cs) : Int) = some cs := by
  have h19 := fits20 (cnt := cs.length) (by omega)
  have hll := laidL_len cs
  have hall : allP ⟨false, 0, pgs, []⟩ 2 (listsN cs.length + cs.length) = laidL cs := by
    rw [allP_at hl h19]
    apply List.ext_getElem?
    intro i
    by_cases hi : i < listsN cs.length + cs.length
    · have := hp i (by omega)
      rw [List.getElem?_map, List.getElem?_range hi, Option.map_some, this, List.getD_eq_getElem?_getD, List.getElem?_eq_getElem (by omega)]; rfl
    · rw [List.getElem?_eq_none (by simp; omega), List.getElem?_eq_none (by omega)]
  have hfl : foundL (laidL cs) (listsN cs.length) cs.length = cs := by
    apply List.ext_getElem?
    intro i
    by_cases hi : i < cs.length
    · unfold foundL
      rw [List.getElem?_map, List.getElem?_range hi, Option.map_some, List.getElem?_eq_getElem hi]
      have hn := numsI_get (cs := cs) (fun c hc => by have := may_in (hf c hc).1; omega) cs.length (Nat.le_refl _) i hi
      have hnl := numsI_len cs cs.length
      have e1 : (laidL cs).getD (i / 32) [] = (numsI cs cs.length).getD (i / 32) [] := by
        unfold laidL numsL
        rw [List.getD_eq_getElem?_getD, List.getD_eq_getElem?_getD, List.getElem?_append_left (by rw [hnl]; unfold listsN; omega)]
      have e2 : (laidL cs).getD (listsN cs.length + i) [] = (cs[i]'hi).2 := by
        unfold laidL numsL
        rw [List.getD_eq_getElem?_getD, List.getElem?_append_right (by omega), hnl, Nat.add_sub_cancel_left, List.getElem?_map, List.getElem?_eq_getElem hi]; rfl
      rw [e1, e2, hn, List.getD_eq_getElem?_getD, List.getElem?_eq_getElem hi]; rfl
    · rw [List.getElem?_eq_none (by rw [foundL_len]; omega), List.getElem?_eq_none (by omega)]
  unfold fnd foundE
  rw [if_neg (by omega), hall, hfl, if_pos, if_pos rfl]
  refine List.all_eq_true.2 fun c hc => ?_
  simp only [hl]
  exact (hf c hc).1
/-- Changes brought home, and a mark that isn't Live. -/
theorem home {on : Bool} {st : DSt} (hd : st.down = false) (hca : st.ca = []) (hl : st.pgs.length = 60) (h64 : P64 st.pgs) {q : Nat} (hq : q + 1 < 256) (hlv : liveHd (pgAt st.pgs 2) = true) (hs : getK (pgAt st.pgs 2) 0 4 = q) {cs : List (Int × Pg)}
    (hf : fnd st.pgs (getK (pgAt st.pgs 2) 5 2) (getK (pgAt st.pgs 2) 7 4 : Int) = some cs) {G : List Pg → Prop} (hG : Clo G) (hg : G (putAll st.pgs cs)) :
    ((dPut on st cs).1 = 5 ∧ on = true ∧ ∀ pgs', Torn (dPut on st cs).2.pgs (dPut on st cs).2.ca pgs' → OkD G (q + 1) pgs') ∨
    ((dPut on st cs).1 = 0 ∧ (((dMark on (dPut on st cs).2 ((2 : Nat) : Int) ((q + 1 : Nat) : Int) false 0 0).1 = 5 ∧ on = true ∧ ∀ pgs', Torn (dMark on (dPut on st cs).2 ((2 : Nat) : Int) ((q + 1 : Nat) : Int) false 0 0).2.pgs (dMark on (dPut on st cs).2 ((2 : Nat) : Int) ((q + 1 : Nat) : Int) false 0 0).2.ca pgs' → OkD G (q + 1) pgs') ∨
      ((dMark on (dPut on st cs).2 ((2 : Nat) : Int) ((q + 1 : Nat) : Int) false 0 0).1 = 0 ∧ (dMark on (dPut on st cs).2 ((2 : Nat) : Int) ((q + 1 : Nat) : Int) false 0 0).2.down = false ∧ (dMark on (dPut on st cs).2 ((2 : Nat) : Int) ((q + 1 : Nat) : Int) false 0 0).2.ca = [] ∧ (dMark on (dPut on st cs).2 ((2 : Nat) : Int) ((q + 1 : Nat) : Int) false 0 0).2.pgs = (putAll st.pgs cs).set 2 (headP ((q + 1 : Nat) : Int) false 0 0)))) := by
  have hfine := fnd_fine hl h64 hf
  have hin := hfine.inR hl
  have hc64 : ∀ c ∈ cs, c.2.length = 64 := fun c hc => (hfine c hc).2
  have hsq : seqB (pgAt st.pgs 2) q := live_seq (Bool.and_eq_true_iff.1 hlv).1 hs (by omega)
  rcases dPut_sum on cs st hd hin with ⟨a1, a2, a3, a4⟩ | ⟨a1, a2, a3, k, a4⟩
  · right
    refine ⟨a1, ?_⟩
    rw [layP_all hin, hca, layP_nil] at a4
    generalize dPut on st cs = w at *
    obtain ⟨n, st1⟩ := w
    simp only at a1 a2 a3 a4 ⊢
    have l1 : st1.pgs.length = 60 := by rw [a4, putAll_len]; exact hl
    have p1 : P64 st1.pgs := by rw [a4]; exact putAll_64 h64 hc64
    have e2 : pgAt st1.pgs 2 = pgAt st.pgs 2 := by rw [a4]; exact putAll_out hin (hfine.out (Nat.le_refl _) (by decide))
    have hc1 : fnd st1.pgs (getK (pgAt st1.pgs 2) 5 2) (getK (pgAt st1.pgs 2) 7 4 : Int) = some cs := by
      rw [e2, ← hf]
      refine fnd_congr l1 hl (fun i h1 h2 => ?_) _ _
      rw [a4]; exact putAll_out hin (hfine.out (by omega) h2)
    rcases mark_dead (on := on) a2 a3 l1 p1 hq (Nat.lt_succ_self q) (by rw [e2]; exact hsq) hG (by rw [a4]; exact hg) (fun _ => ⟨cs, hc1, by rw [a4]; exact putAll_twice hin⟩) with h | ⟨b1, b2, b3⟩
    · right; rw [a4] at h; exact h
    · exact .inl ⟨b1, b2, b3⟩
  · left
    refine ⟨a1, a2, fun pgs' hT => ?_⟩
    rw [a3, a4, hca] at hT
    obtain ⟨b1, b2, b3⟩ := put_torn hT hin h64 hc64
    have e2 : pgAt pgs' 2 = pgAt st.pgs 2 := b3 2 (hfine.out (Nat.le_refl _) (by decide))
    refine ⟨b1.trans hl, b2, by rw [e2]; exact ⟨Nat.le_trans hsq.1 (Nat.le_succ _), Nat.le_trans hsq.2 (Nat.le_succ _)⟩, .inl ⟨by rw [e2]; exact hlv, cs, ?_, ?_⟩⟩
    · rw [e2, ← hf]
      exact fnd_congr (b1.trans hl) hl (fun i h1 h2 => b3 i (hfine.out (by omega) h2)) _ _
    · rw [putAll_at b1 (by rw [b1]; exact hin) b3]; exact hg
end Go.Proofs.Ytfbkeieoeagkdaa

/- Store: two of them; helps for the law of one step. -/
namespace Go.Proofs.Ytfbkeieoeagkdaa
open Go AM
set_option linter.unusedSimpArgs false
set_option linter.unusedVariables false
set_option maxRecDepth 100000

def orE (a b : Option Pg) : Option Pg := match a with
  | some p => some p
  | none => b
theorem findC_merge (k : Nat) (G S : List (Nat × Pg)) : findC k (mergeC G S) = orE (findC k S) (findC k G) := by
  unfold mergeC findC orE
  rw [List.find?_append]
  by_cases h : (S.any fun x => x.1 == k) = true
  · have h1 : ((G.filter fun e => !(S.any fun x => x.1 == e.1)).find? fun e => e.1 == k) = none := by
      refine List.find?_eq_none.2 fun x hx hk => ?_
      have := (List.mem_filter.1 hx).2
      rw [show x.1 = k by simpa using hk, h] at this
      cases this
    rw [h1]
    obtain ⟨y, hy, hyk⟩ := List.any_eq_true.1 h
    cases hf : S.find? fun e => e.1 == k with
    | some z => rfl
    | none => exact absurd hyk (by simpa using List.find?_eq_none.1 hf y hy)
  · have h' : (S.any fun x => x.1 == k) = false := Bool.eq_false_iff.2 h
    have h2 : (S.find? fun e => e.1 == k) = none := List.find?_eq_none.2 fun x hx hk => by
      have := List.any_eq_false.1 h' x hx
      exact this hk
    rw [h2]
    have h3 : ((G.filter fun e => !(S.any fun x => x.1 == e.1)).find? fun e => e.1 == k) = (G.find? fun e => e.1 == k) := by
      rw [List.find?_filter]
      congr 1
      funext x
      by_cases hx : x.1 = k
      · rw [hx, h']; simp
      · have : (x.1 == k) = false := by simpa using hx
        rw [this]; simp
    rw [h3]
    cases (G.find? fun e => e.1 == k) <;> rfl
theorem withN_le (G S : List (Nat × Pg)) : withN G S ≤ G.length + S.length := Nat.add_le_add_left (List.length_filter_le _ _) _
theorem mergeC_len (G S : List (Nat × Pg)) : (mergeC G S).length ≤ G.length + S.length := by
  unfold mergeC
  rw [List.length_append]
  exact Nat.add_le_add_right (List.length_filter_le _ _) _
theorem putC_len (k : Nat) (p : Pg) : ∀ S : List (Nat × Pg), (putC k p S).length ≤ S.length + 1
  | [] => Nat.le_refl _
  | e :: r => by
    unfold putC
    split
    · exact Nat.le_succ _
    · rw [List.length_cons, List.length_cons]
      exact Nat.succ_le_succ (putC_len k p r)
theorem keysN_congr {np : Nat} {G H : List (Nat × Pg)} (h : ∀ k, findC k G = findC k H) : keysN np G = keysN np H := by
  unfold keysN
  refine List.filter_congr fun i _ => ?_
  unfold hasK
  rw [h]
theorem csG_congr {np : Nat} {G H : List (Nat × Pg)} (h : ∀ k, findC k G = findC k H) : csG np G = csG np H := by
  unfold csG csK
  rw [keysN_congr h]
  refine List.map_congr_left fun i _ => ?_
  rw [h]
theorem len_congr {np : Nat} {G H : List (Nat × Pg)} (hG : OkM np G) (hH : OkM np H) (h : ∀ k, findC k G = findC k H) : G.length = H.length := by rw [hG.keys, hH.keys, keysN_congr h]
theorem dKeep_small {on : Bool} {ds : DSt} {a s : Nat} {seq : Int} {S G : List (Nat × Pg)} (h : withN G S ≤ roomJ s) : dKeep on ds a s seq false S G = (0, seq, false, ds, [], mergeC G S) := by
  have e : dKeepG on ds a s seq G S = (0, seq, false, ds, G) := by unfold dKeepG; rw [if_neg (by omega)]
  unfold dKeep
  rw [if_neg (by decide), e, if_neg (by simp)]
def ownL (sp jl dd pg lm st gr : Nat) : List Nat := [sp, jl, dd, pg, lm, st, gr]
section
variable {o o1 : List AM.Obj} {e d sp jl dd pg lm st gr a s np : Nat} {seq : Int} {over on : Bool} {ds : DSt} {S G : List (Nat × Pg)}
theorem Sx.own (X : Sx sp jl dd pg lm st gr o o1) {l : Nat} (hl : l < o.length) (h : ∀ x ∈ ownL sp jl dd pg lm st gr, x ≠ l) : o1[l]? = o[l]? := by
  refine X.get l hl ?_ ?_ ?_ ?_ ?_ ?_ ?_ <;> exact Ne.symm (h _ (by simp [ownL]))
theorem PS.lt (P : PS o sp jl dd pg lm st gr a s seq over on ds S G) : ∀ x ∈ ownL sp jl dd pg lm st gr, x < o.length := by
  intro x hx
  simp only [ownL, List.mem_cons, List.not_mem_nil, or_false] at hx
  have h1 := P.ls
  have h2 := P.J.lj
  have h3 := P.J.P.ld
  have h4 := P.J.P.lp
  have h5 := P.J.P.ll
  have h6 := P.lst
  have h7 := P.lgr
  rcases hx with rfl | rfl | rfl | rfl | rfl | rfl | rfl <;> assumption
/-- A store beside what turns. -/
theorem PS.keep (P : PS o sp jl dd pg lm st gr a s seq over on ds S G) (h : ∀ x ∈ ownL sp jl dd pg lm st gr, o1[x]? = o[x]?) : PS o1 sp jl dd pg lm st gr a s seq over on ds S G := by
  have D := P.J.P
  exact ⟨by rw [h _ (by simp [ownL])]; exact P.hs, ⟨by rw [h _ (by simp [ownL])]; exact P.J.hj, ⟨by rw [h _ (by simp [ownL])]; exact D.hd, by rw [h _ (by simp [ownL])]; exact D.hp, by rw [h _ (by simp [ownL])]; exact D.hm, D.p64, D.c64, D.nd⟩⟩, by rw [h _ (by simp [ownL])]; exact P.hS, by rw [h _ (by simp [ownL])]; exact P.hG, P.n1, P.n2, P.n3, P.okS, P.okG⟩
theorem Sx.setS (x : AM.Obj) : Sx sp jl dd pg lm st gr o (o.set st x) := ⟨by simp, fun l _ _ _ _ _ _ f _ => List.getElem?_set_ne (Ne.symm f)⟩
/-- Two stores, of which one turns. -/
structure Two (N0 : Nat) (o : List AM.Obj) (A B : List Nat) : Prop where
  D : ∀ x ∈ A, ∀ y ∈ B, x ≠ y
  N : ∀ x ∈ A, N0 ≤ x
  M : ∀ x ∈ B, N0 ≤ x
  l : N0 ≤ o.length
theorem Two.swap {N0 : Nat} {A B : List Nat} (T : Two N0 o A B) : Two N0 o B A := ⟨fun x hx y hy => Ne.symm (T.D y hy x hx), T.M, T.N, T.l⟩
theorem Two.turn {N0 : Nat} {B : List Nat} (T : Two N0 o (ownL sp jl dd pg lm st gr) B) (hB : ∀ y ∈ B, y < o.length) {st' gr' : Nat} (h1 : st' = st ∨ o.length ≤ st') (h2 : gr' = gr ∨ o.length ≤ gr') (hle : o.length ≤ o1.length) : Two N0 o1 (ownL sp jl dd pg lm st' gr') B := by
  have hTD := T.D
  have hTN := T.N
  have hTl := T.l
  simp only [ownL, List.mem_cons, List.not_mem_nil, or_false, forall_eq_or_imp, forall_eq] at hTD hTN
  obtain ⟨d1, d2, d3, d4, d5, d6, d7⟩ := hTD
  obtain ⟨n1, n2, n3, n4, n5, n6, n7⟩ := hTN
  have hB1 : ∀ z, o.length ≤ z → ∀ y ∈ B, z ≠ y := fun z hz y hy => by have := hB y hy; omega
  refine ⟨?_, ?_, T.M, by omega⟩
  · simp only [ownL, List.mem_cons, List.not_mem_nil, or_false, forall_eq_or_imp, forall_eq]
    refine ⟨d1, d2, d3, d4, d5, ?_, ?_⟩
    · rcases h1 with rfl | h1
      · exact d6
      · exact hB1 _ h1
    · rcases h2 with rfl | h2
      · exact d7
      · exact hB1 _ h2
  · simp only [ownL, List.mem_cons, List.not_mem_nil, or_false, forall_eq_or_imp, forall_eq]
    refine ⟨n1, n2, n3, n4, n5, ?_, ?_⟩ <;> omega
/-- What stays of all else. -/
theorem Two.stay {N0 : Nat} {B : List Nat} (T : Two N0 o (ownL sp jl dd pg lm st gr) B) (X : Sx sp jl dd pg lm st gr o o1) : ∀ l, l < N0 → o1[l]? = o[l]? := fun l hl => X.own (Nat.lt_of_lt_of_le hl T.l) fun x hx => by have := T.N x hx; omega
theorem Two.other {N0 : Nat} {B : List Nat} (T : Two N0 o (ownL sp jl dd pg lm st gr) B) (X : Sx sp jl dd pg lm st gr o o1) (hB : ∀ y ∈ B, y < o.length) : ∀ y ∈ B, o1[y]? = o[y]? := fun y hy => X.own (hB y hy) fun x hx => T.D x hx y hy
theorem Two.app {N0 : Nat} {A B : List Nat} (T : Two N0 o A B) (r : List AM.Obj) : Two N0 (o ++ r) A B := ⟨T.D, T.N, T.M, by have := T.l; rw [List.length_append]; omega⟩
set_option maxHeartbeats 4000000 in
theorem sput_law (P : PS o sp jl dd pg lm st gr a s seq over on ds S G) (ha : a ≤ 100000) (hs : s ≤ 1000000) {k : Nat} {p : Pg} (hp : p.length = 64) (h0 : mayE over ds.pgs.length a s (k : Int) = 0) (hf : S.length < roomJ s) :
    ∃ oh o1 d', Den FF E2 37 [.ptr sp 0, .int .i64 (k : Int), .agg (bytesA p)] ⟨o, e, d⟩ = some (.val (.int .i64 0), oh) ∧ oh.getD ⟨o, e, d⟩ = ⟨o1, e, d'⟩ ∧ o1.length = o.length ∧ Sx sp jl dd pg lm st gr o o1 ∧ PS o1 sp jl dd pg lm st gr a s seq over on ds (putC k p S) G := by
  obtain ⟨r, oh, q, rfl, d', hg, P'⟩ := sput_ok (e := e) (d := d) P ha hs hp h0 (.inr hf)
  exact ⟨oh, _, d', q, hg, by simp, Sx.setS _, P'⟩
end
/-- A Commit on a disk that doesn't break. -/
theorem dMark_off {st : DSt} (hd : st.down = false) {a : Int} (ha : 0 ≤ a ∧ a < (st.pgs.length : Int)) {sq : Int} {lv : Bool} {c sm : Int} (hr : rightH sq lv c sm = true) : (dMark false st a sq lv c sm).1 = 0 ∧ (dMark false st a sq lv c sm).2.down = false := by
  unfold dMark
  rw [if_pos hr]
  rcases dPut_sum false [(a, headP sq lv c sm)] st hd (fun c hc => by rw [List.mem_singleton.1 hc]; exact ha) with ⟨h1, h2, _⟩ | ⟨_, h, _⟩
  · exact ⟨h1, h2⟩
  · cases h
theorem dPut_off {st : DSt} (hd : st.down = false) {cs : List (Int × Pg)} (hr : inR st.pgs.length cs) : (dPut false st cs).1 = 0 ∧ (dPut false st cs).2.down = false := by
  rcases dPut_sum false cs st hd hr with ⟨h1, h2, _⟩ | ⟨_, h, _⟩
  · exact ⟨h1, h2⟩
  · cases h
theorem dCommit_off {st : DSt} (hd : st.down = false) {a s : Nat} {seq : Int} (hq : 0 ≤ seq ∧ seq < 1000) {cs : List (Int × Pg)} (hw : wrongE st.pgs.length a s cs = 0) (hn : cs.length ≤ 100) (hin : inR st.pgs.length cs) (hfit : a + 1 + (laidL cs).length ≤ st.pgs.length) : (dCommit false st a s seq false cs).1 = 0 := by
  unfold dCommit
  rw [if_neg (by simp), hw]
  by_cases hc : cs = []
  · rw [if_pos (.inr hc)]
  rw [if_neg (by rintro (h | h); exact h rfl; exact hc h)]
  have hsm := sumP_lt (laidL cs)
  have hcl : 1 ≤ cs.length := by cases cs with
    | nil => exact absurd rfl hc
    | cons c r => simp
  unfold dMake
  have hin1 : inR st.pgs.length (fromL ((a : Int) + 1) (laidL cs)) := fun c hc => by
    have := fromL_in (a := a + 1) hc
    omega
  obtain ⟨a1, a2⟩ := dPut_off hd hin1
  have l1 := dPut_len false (fromL ((a : Int) + 1) (laidL cs)) st
  generalize dPut false st (fromL ((a : Int) + 1) (laidL cs)) = w1 at *
  obtain ⟨n1, st1⟩ := w1
  simp only at a1 a2 l1
  subst a1
  simp only [ne_eq, not_true_eq_false, if_false]
  have hr1 : rightH seq true (cs.length : Int) (sumP (laidL cs) : Int) = true := by
    unfold rightH
    rw [Bool.and_eq_true_iff]
    exact ⟨decide_eq_true (by omega), by rw [if_pos rfl]; exact decide_eq_true (by omega)⟩
  obtain ⟨b1, b2⟩ := dMark_off a2 (a := (a : Int)) (by omega) hr1
  have l2 := dMark_len false st1 (a : Int) seq true (cs.length : Int) (sumP (laidL cs) : Int)
  generalize dMark false st1 (a : Int) seq true (cs.length : Int) (sumP (laidL cs) : Int) = w2 at *
  obtain ⟨n2, st2⟩ := w2
  simp only at b1 b2 l2
  subst b1
  simp only [ne_eq, not_true_eq_false, if_false]
  obtain ⟨c1, c2⟩ := dPut_off b2 (cs := cs) (by rw [l2, l1]; exact hin)
  have l3 := dPut_len false cs st2
  generalize dPut false st2 cs = w3 at *
  obtain ⟨n3, st3⟩ := w3
  simp only at c1 c2 l3
  subst c1
  simp only [ne_eq, not_true_eq_false, if_false]
  have hr2 : rightH (seq + 1) false 0 0 = true := by
    unfold rightH
    rw [Bool.and_eq_true_iff]
    exact ⟨decide_eq_true (by omega), rfl⟩
  exact (dMark_off c2 (a := (a : Int)) (by omega) hr2).1
end Go.Proofs.Ytfbkeieoeagkdaa

/- Store: the law of one step. -/
namespace Go.Proofs.Ytfbkeieoeagkdaa
open Go AM
set_option linter.unusedSimpArgs false
set_option linter.unusedVariables false
set_option maxRecDepth 100000

theorem so1 : (dOpen false ⟨false, 0, List.replicate 40 (zs 64), []⟩ 20 17).1 = 0 := by decide +kernel
theorem so2 : (dOpen false ⟨false, 0, List.replicate 40 (zs 64), []⟩ 20 17).2.1 = 2 := by decide +kernel
theorem so3 : (dOpen false ⟨false, 0, List.replicate 40 (zs 64), []⟩ 20 17).2.2.2.down = false := by decide +kernel
theorem so4 : (dOpen false ⟨false, 0, List.replicate 40 (zs 64), []⟩ 20 17).2.2.2.pgs.length = 40 := by decide +kernel
theorem so5 : roomJ (17 : Nat) = 15 := by decide +kernel
theorem keysN_nd (np : Nat) (G : List (Nat × Pg)) : (keysN np G).Nodup := List.nodup_range.filter _
theorem once_ok {ds : DSt} (hd : ds.down = false) (hl : ds.pgs.length = 40) {G : List (Nat × Pg)} (hG : OkM 40 G) (hk : ∀ e ∈ G, e.1 < 20) (hn : G.length ≤ 14) : (dCommit false ds 20 17 2 false (csG ds.pgs.length G)).1 = 0 := by
  rw [hl]
  have hlen : (csG 40 G).length = G.length := by unfold csG; rw [csK_len, ← hG.keys]
  have hmem : ∀ c ∈ csG 40 G, ∃ k : Nat, c.1 = (k : Int) ∧ k < 20 := fun c hc => by
    unfold csG csK at hc
    obtain ⟨k, hk', rfl⟩ := List.mem_map.1 hc
    obtain ⟨e, he, rfl⟩ := List.mem_map.1 (keysN_mem.1 hk').2
    exact ⟨e.1, rfl, hk e he⟩
  have hll := laidL_len (csG 40 G)
  refine dCommit_off hd ⟨by decide, by decide⟩ ?_ (by omega) (fun c hc => ?_) ?_
  · unfold wrongE goodC
    rw [if_pos, if_neg (by rw [so5]; omega)]
    rw [Bool.and_eq_true_iff]
    refine ⟨List.all_eq_true.2 fun c hc => ?_, decide_eq_true ?_⟩
    · obtain ⟨k, h1, h2⟩ := hmem c hc
      rw [h1, hl]
      unfold mayB
      simp only [Bool.and_eq_true, Bool.or_eq_true, decide_eq_true_eq]
      omega
    · unfold csG csK
      rw [List.map_map]
      exact List.pairwise_map.2 ((keysN_nd 40 G).imp fun h hc => h (Int.ofNat_inj.1 hc))
  · obtain ⟨k, h1, h2⟩ := hmem c hc
    rw [hl]; omega
  · rw [hll, hlen, hl]; unfold listsN; omega
set_option maxHeartbeats 64000000 in
theorem lawOnceS {o : List AM.Obj} {va vl : V} {b : List UInt8} {ps : List Pg} {c : Int} (hA : BArg o va b) (hL : PArg o vl ps) (hc0 : 0 ≤ c) (hc1 : c < 256) :
    ∃ r oh, Den FF E2 9 [va, vl, .int .u8 c] ⟨o, 0, 0⟩ = some (r, oh) ∧ r = .val (.bool true) := by
  refine To.denE hxE2 (f := 9) (a := af9) rfl (E2_none rfl) (Nat.le_of_ble_eq_true rfl) ?_
  have hlen := hA.len
  have fin : ∀ (S : Nat → V) (h' : Heap), S 6 = .bool true → ∃ v oh, finish af9 ⟨o, 0, 0⟩ (some (.ret, S, h')) = some (v, oh) ∧ v = .val (.bool true) := fun S h' h => ⟨_, _, fin1 (i := 6) rfl, by rw [h]⟩
  by_cases h14 : 14 < b.length
  · have d14 : decide ((14 : Int) < (b.length : Int)) = true := decide_eq_true (by omega)
    (repeat' (first | refine To.seq hxE2 ?_ | refine To.op0 hxE2 (by simp only [go_sem, eqs hxE2, reduceIte, seval, eAwake06_2 (), hlen, d14]; rfl) ?_ | refine To.nop hxE2 ?_ | (refine To.condT hxE2 ?_ ?_; focus (simp only [go_sem, eqs hxE2, reduceIte, seval, eAwake06_2 (), hlen, d14]; done)) | (refine To.condF hxE2 ?_ ?_; focus (simp only [go_sem, eqs hxE2, reduceIte, seval, eAwake06_2 (), hlen, d14]; done)) | refine To.ret hxE2 ?_ | refine To.skip hxE2 ?_))
    exact fin _ _ (by simp only [go_sem, eqs hxE2, reduceIte, seval])
  have d14 : decide ((14 : Int) < (b.length : Int)) = false := decide_eq_false (by omega)
  obtain ⟨r0, oh0, q0, rfl, rr, e0, d0, hr3, hg0, P0⟩ := newD_q (o := o) (e := o.length) (d := o.length) (N := 40) (by omega) (by omega)
  have q0 : Den FF E2 12 [.int .i64 40] ⟨o, o.length, o.length⟩ = some (.val (.tuple [.ptr (o.length + 2) 0, .int .i64 0]), oh0) := q0
  have hl1 : (o ++ rr).length = o.length + 3 := by simp [hr3]
  obtain ⟨r1, oh1, q1, rfl, rr1, e1, d1, hr31, hg1, P1⟩ := newD_q (o := o ++ rr) (e := e0) (d := d0) (N := 40) (by omega) (by omega)
  rw [hl1] at P1
  have q1 : Den FF E2 12 [.int .i64 40] ⟨o ++ rr, e0, d0⟩ = some (.val (.tuple [.ptr ((o ++ rr).length + 2) 0, .int .i64 0]), oh1) := q1
  rw [hl1] at q1
  have P0 := P0.app rr1
  have hl2 : (o ++ rr ++ rr1).length = o.length + 6 := by rw [List.length_append, hl1, hr31]
  (repeat' (first | refine To.seq hxE2 ?_ | refine To.op0 hxE2 (by simp only [go_sem, eqs hxE2, reduceIte, seval, eAwake06_2 (), hlen, d14]; rfl) ?_ | refine To.nop hxE2 ?_ | (refine To.condF hxE2 ?_ ?_; focus (simp only [go_sem, eqs hxE2, reduceIte, seval, eAwake06_2 (), hlen, d14]; done)) | refine To.skip hxE2 ?_))
  refine To.op hxE2 (by simp only [go_sem, eqs hxE2, reduceIte, seval, q0]; rfl) ?_
  rw [show oh0.getD (AM.enter ⟨o, 0, 0⟩) = ⟨o ++ rr, e0, d0⟩ from hg0]
  (repeat' (first | refine To.seq hxE2 ?_ | refine To.op0 hxE2 (by simp only [go_sem, eqs hxE2, reduceIte, seval]; rfl) ?_ | refine To.nop hxE2 ?_))
  refine To.op hxE2 (by simp only [go_sem, eqs hxE2, reduceIte, seval, q1]; rfl) ?_
  rw [hg1]
  have hold1 : ∀ l, l < o.length → (o ++ rr ++ rr1)[l]? = o[l]? := fun l hl => by rw [List.append_assoc]; exact List.getElem?_append_left hl
  generalize o ++ rr ++ rr1 = oA at *
  have hw1 := so1
  have hw2 := so2
  have hw3 := so3
  have hw4 := so4
  obtain ⟨r2, oh2, q2, hR2⟩ := sopen_q (e := e1) (d := d1) P0 (a := 20) (s := 17) (by rw [so5]; decide) (by rw [List.length_replicate]; omega) (by omega) (by rw [List.length_replicate]; omega)
  unfold SOpenR at hR2
  rcases hR2 with ⟨h, _⟩ | ⟨_, sp1, jl1, st1, gr1, rfl, b1, b2, b3, b4, oB, e2, d2, hg2, hlB, hfB, Q1⟩
  · exact absurd so1 h
  have q2 : Den FF E2 44 [.ptr (o.length + 2) 0, .int .i64 20, .int .i64 17] ⟨oA, e1, d1⟩ = some (.val (.tuple [.ptr sp1 0, .int .i64 0]), oh2) := q2
  have P2 : PD oB (o.length + 3 + 2) (o.length + 3) (o.length + 3 + 1) false false 0 (List.replicate 40 (zs 64)) [] :=
    ⟨by rw [hfB _ (by omega) (by omega) (by omega) (by omega)]; exact P1.hd, by rw [hfB _ (by omega) (by omega) (by omega) (by omega)]; exact P1.hp, by rw [hfB _ (by omega) (by omega) (by omega) (by omega)]; exact P1.hm, P1.p64, P1.c64, P1.nd⟩
  obtain ⟨r3, oh3, q3, hR3⟩ := sopen_q (e := e2) (d := d2) P2 (a := 20) (s := 17) (by rw [so5]; decide) (by rw [List.length_replicate]; omega) (by omega) (by rw [List.length_replicate]; omega)
  unfold SOpenR at hR3
  rcases hR3 with ⟨h, _⟩ | ⟨_, sp2, jl2, st2, gr2, rfl, c1, c2, c3, c4, oC, e3, d3, hg3, hlC, hfC, Q2⟩
  · exact absurd so1 h
  have q3 : Den FF E2 44 [.ptr (o.length + 3 + 2) 0, .int .i64 20, .int .i64 17] ⟨oB, e2, d2⟩ = some (.val (.tuple [.ptr sp2 0, .int .i64 0]), oh3) := q3
  rw [hw2] at Q1 Q2
  generalize (dOpen false ⟨false, 0, List.replicate 40 (zs 64), []⟩ 20 17).2.2.2 = ds at *
  have ltB := Q1.lt
  have ltC := Q2.lt
  have T0 : Two o.length oC (ownL sp1 jl1 (o.length + 2) o.length (o.length + 1) st1 gr1) (ownL sp2 jl2 (o.length + 3 + 2) (o.length + 3) (o.length + 3 + 1) st2 gr2) := by
    simp only [ownL, List.mem_cons, List.not_mem_nil, or_false, forall_eq_or_imp, forall_eq] at ltB ltC
    refine ⟨fun x hx y hy => ?_, fun x hx => ?_, fun x hx => ?_, by omega⟩
    · simp only [ownL, List.mem_cons, List.not_mem_nil, or_false] at hx hy
      have hx' : (x = o.length + 2 ∨ x = o.length ∨ x = o.length + 1) ∨ (oA.length ≤ x ∧ x < oB.length) := by omega
      have hy' : (y = o.length + 3 + 2 ∨ y = o.length + 3 ∨ y = o.length + 3 + 1) ∨ oB.length ≤ y := by omega
      omega
    · simp only [ownL, List.mem_cons, List.not_mem_nil, or_false] at hx
      omega
    · simp only [ownL, List.mem_cons, List.not_mem_nil, or_false] at hx
      omega
  have Q1 := Q1.keep (o1 := oC) fun x hx => by
    have h1 := ltB x hx
    simp only [ownL, List.mem_cons, List.not_mem_nil, or_false] at hx
    exact hfC x h1 (by omega) (by omega) (by omega)
  (repeat' (first | refine To.seq hxE2 ?_ | refine To.op0 hxE2 (by simp only [go_sem, eqs hxE2, reduceIte, seval]; rfl) ?_ | refine To.nop hxE2 ?_))
  refine To.op hxE2 (by simp only [go_sem, eqs hxE2, reduceIte, seval, q2]; rfl) ?_
  rw [hg2]
  (repeat' (first | refine To.seq hxE2 ?_ | refine To.op0 hxE2 (by simp only [go_sem, eqs hxE2, reduceIte, seval]; rfl) ?_ | refine To.nop hxE2 ?_))
  refine To.op hxE2 (by simp only [go_sem, eqs hxE2, reduceIte, seval, q3]; rfl) ?_
  rw [hg3]
  have hold3 : ∀ l, l < o.length → oC[l]? = o[l]? := fun l hl => by rw [hfC l (by omega) (by omega) (by omega) (by omega), hfB l (by omega) (by omega) (by omega) (by omega)]; exact hold1 l hl
  (repeat' (first | refine To.seq hxE2 ?_ | refine To.op0 hxE2 (by simp only [go_sem, eqs hxE2, reduceIte, seval, hlen, bne_self_eq_false]; rfl) ?_ | refine To.nop hxE2 ?_ | (refine To.condF hxE2 ?_ ?_; focus (simp only [go_sem, eqs hxE2, reduceIte, seval, hlen, bne_self_eq_false]; done)) | refine To.block hxE2 ?_ | refine To.skip hxE2 ?_))
  refine To.loop hxE2 (fun k S h' => ∃ (i : Nat) (o' : List AM.Obj) (e' d' st1 gr1 st2 gr2 : Nat) (S1 G1 S2 : List (Nat × Pg)), i + k = b.length ∧ h' = ⟨o', e', d'⟩ ∧
    PS o' sp1 jl1 (o.length + 2) o.length (o.length + 1) st1 gr1 20 17 2 false false ds S1 G1 ∧ PS o' sp2 jl2 (o.length + 3 + 2) (o.length + 3) (o.length + 3 + 1) st2 gr2 20 17 2 false false ds S2 [] ∧
    Two o.length o' (ownL sp1 jl1 (o.length + 2) o.length (o.length + 1) st1 gr1) (ownL sp2 jl2 (o.length + 3 + 2) (o.length + 3) (o.length + 3 + 1) st2 gr2) ∧ (∀ l, l < o.length → o'[l]? = o[l]?) ∧
    (∀ k, findC k (mergeC G1 S1) = findC k S2) ∧ G1.length + S1.length ≤ i ∧ S2.length ≤ i ∧ (∀ e ∈ S2, e.1 < 20) ∧
    S 1 = vl ∧ S 2 = .int .u8 c ∧ S 7 = .ptr (o.length + 2) 0 ∧ S 9 = .ptr (o.length + 3 + 2) 0 ∧ S 11 = .ptr sp1 0 ∧ S 13 = .ptr sp2 0 ∧ S 48 = va ∧ S 49 = .int .i64 (b.length : Int) ∧ S 50 = .int .i64 (i : Int)) ?_ b.length _ _ ?_
  rotate_left
  · refine ⟨0, oC, _, _, st1, gr1, st2, gr2, [], [], [], by omega, rfl, Q1, Q2, T0, hold3, fun k => rfl, Nat.le_refl _, Nat.le_refl _, fun e h => absurd h List.not_mem_nil, ?_⟩
    simp only [go_sem, eqs hxE2, reduceIte, seval, initS]
  clear hold3 T0 Q1 Q2 ltB ltC hfC hfB q2 q3 q0 q1 P0 P1 P2 hg0 hg1 hg2 hg3
  rintro k S _ ⟨i, o', e', d', st1, gr1, st2, gr2, S1, G1, S2, hk, rfl, Q1, Q2, T, hold, hfe, hn1, hn2, hk20, s1, s2, s7, s9, s11, s13, s48, s49, s50⟩
  by_cases hi : i < b.length
  · have hlt : decide ((i : Int) < (b.length : Int)) = true := decide_eq_true (by omega)
    obtain ⟨x, hx⟩ : ∃ x, b[i]? = some x := ⟨b[i], List.getElem?_eq_getElem hi⟩
    have hb0 : b ≠ [] := by rintro rfl; simp at hi
    obtain ⟨la, ta, rfl, hla⟩ := hA.at_ hb0
    have hla' : o'[la]? = some (.cells .ro ta 0 (bytesA b)) := (hold la (get_lt hla)).trans hla
    have ix : idxOf b.length (.int .i64 (i : Int)) = some i := idxOf_nat hi
    have hbi : (bytesA b)[i]? = some (.int .u8 (x.toNat : Int)) := by rw [bytesA_get, hx]; rfl
    have hpl := hL.len
    (repeat' (first | refine To.seq hxE2 ?_ | refine To.op0 hxE2 (by simp only [go_sem, eqs hxE2, reduceIte, seval, Heap.gets, Heap.sets, Heap.get, bytesA_length, bytesA_one, bytesA_plains, List.take_of_length_le, List.drop_of_length_le, Nat.add_zero, V.one, Nat.reduceLeDiff, List.all_cons, List.all_nil, ne_eq, not_false_eq_true, Nat.zero_le, s1, s2, s7, s9, s11, s13, s48, s49, s50, hlt, ix, hla', hbi, hpl]; rfl) ?_ | refine To.op1 hxE2 (by simp only [go_sem, eqs hxE2, reduceIte, seval, Heap.gets, Heap.sets, Heap.get, bytesA_length, bytesA_one, bytesA_plains, List.take_of_length_le, List.drop_of_length_le, Nat.add_zero, V.one, Nat.reduceLeDiff, List.all_cons, List.all_nil, ne_eq, not_false_eq_true, Nat.zero_le, s1, s2, s7, s9, s11, s13, s48, s49, s50, hlt, ix, hla', hbi, hpl]; rfl) ?_ | refine To.nop hxE2 ?_ | (refine To.condT hxE2 ?_ ?_; focus (simp only [go_sem, eqs hxE2, reduceIte, seval, Heap.gets, Heap.sets, Heap.get, bytesA_length, bytesA_one, bytesA_plains, List.take_of_length_le, List.drop_of_length_le, Nat.add_zero, V.one, Nat.reduceLeDiff, List.all_cons, List.all_nil, ne_eq, not_false_eq_true, Nat.zero_le, s1, s2, s7, s9, s11, s13, s48, s49, s50, hlt, ix, hla', hbi, hpl]; done)) | refine To.block hxE2 ?_ | refine To.skip hxE2 ?_))
    simp only [andThen]
    refine To.mono (Q := fun ex S' h' => ex = .norm ∧ ∃ (p : Pg) (e2 d2 : Nat), p.length = 64 ∧ h' = ⟨o' ++ [.cells .ex 31 0 (bytesA p)], e2, d2⟩ ∧ S' 1 = vl ∧ S' 2 = .int .u8 c ∧ S' 7 = .ptr (o.length + 2) 0 ∧ S' 9 = .ptr (o.length + 3 + 2) 0 ∧ S' 11 = .ptr sp1 0 ∧ S' 13 = .ptr sp2 0 ∧ S' 15 = .int .i64 (i : Int) ∧ S' 16 = .int .u8 (x.toNat : Int) ∧ S' 17 = .ptr o'.length 0 ∧ S' 48 = .slice la 0 b.length 1 ∧ S' 49 = .int .i64 (b.length : Int) ∧ S' 50 = .int .i64 (i : Int)) ?_ ?_
    · by_cases hps : i < ps.length
      · have d36 : decide ((i : Int) < (ps.length : Int)) = true := decide_eq_true (by omega)
        have hp0 : ps ≠ [] := by rintro rfl; simp at hps
        obtain ⟨l2, t2, rfl, hl2⟩ := hL.at_ hp0
        have gl2 : ∀ r, (o' ++ r)[l2]? = some (.cells .ro t2 0 (pgC ps)) := fun r => app_old ((hold l2 (get_lt hl2)).trans hl2) r
        have ix2 : idxOf ps.length (.int .i64 (i : Int)) = some i := idxOf_nat hps
        have hpi : ps[i]? = some ps[i] := List.getElem?_eq_getElem hps
        have hat := pgC_at hL.p64 hpi
        have hkk : (i + 1) * 64 ≤ ps.length * 64 := Nat.mul_le_mul_right 64 hps
        have hle : i * 64 + 64 ≤ (pgC ps).length := by rw [pgC_len hL.p64]; omega
        have h64 := hL.p64 _ (List.getElem_mem hps)
        generalize ps[i] = p at hat h64
        (repeat' (first | refine To.op0 hxE2 (by simp only [go_sem, eqs hxE2, reduceIte, seval, Heap.gets, Heap.sets, Heap.get, bytesA_length, bytesA_one, bytesA_plains, List.take_of_length_le, List.drop_of_length_le, Nat.add_zero, V.one, Nat.reduceLeDiff, List.all_cons, List.all_nil, ne_eq, not_false_eq_true, Nat.zero_le, s1, s50, d36, ix2, gl2, hat, hle, h64, z64_len, z64_drop, z64_one, z64_plains]; rfl) ?_ | refine To.op1 hxE2 (by simp only [go_sem, eqs hxE2, reduceIte, seval, Heap.gets, Heap.sets, Heap.get, bytesA_length, bytesA_one, bytesA_plains, List.take_of_length_le, List.drop_of_length_le, Nat.add_zero, V.one, Nat.reduceLeDiff, List.all_cons, List.all_nil, ne_eq, not_false_eq_true, Nat.zero_le, s1, s50, d36, ix2, gl2, hat, hle, h64, z64_len, z64_drop, z64_one, z64_plains]; rfl) ?_ | refine To.nop hxE2 ?_ | (refine To.condT hxE2 ?_ ?_; focus (simp only [go_sem, eqs hxE2, reduceIte, seval, Heap.gets, Heap.sets, Heap.get, bytesA_length, bytesA_one, bytesA_plains, List.take_of_length_le, List.drop_of_length_le, Nat.add_zero, V.one, Nat.reduceLeDiff, List.all_cons, List.all_nil, ne_eq, not_false_eq_true, Nat.zero_le, s1, s50, d36, ix2, gl2, hat, hle, h64, z64_len, z64_drop, z64_one, z64_plains]; done))))
        refine ⟨rfl, p, _, _, h64, rfl, ?_⟩
        simp only [go_sem, eqs hxE2, reduceIte, seval, s1, s2, s7, s9, s11, s13, s48, s49, s50]
      · have d36 : decide ((i : Int) < (ps.length : Int)) = false := decide_eq_false (by omega)
        (repeat' (first | (refine To.condF hxE2 ?_ ?_; focus (simp only [go_sem, eqs hxE2, reduceIte, seval, Heap.gets, Heap.sets, Heap.get, bytesA_length, bytesA_one, bytesA_plains, List.take_of_length_le, List.drop_of_length_le, Nat.add_zero, V.one, Nat.reduceLeDiff, List.all_cons, List.all_nil, ne_eq, not_false_eq_true, Nat.zero_le, s1, s50, d36]; done)) | refine To.skip hxE2 ?_))
        refine ⟨rfl, zs 64, _, _, rfl, rfl, ?_⟩
        simp only [go_sem, eqs hxE2, reduceIte, seval, s1, s2, s7, s9, s11, s13, s48, s49, s50]
    rintro ex S3 _ ⟨rfl, p, e4, d4, hp64, rfl, s1, s2, s7, s9, s11, s13, s15, s16, s17, s48, s49, s50⟩
    have hk16 : x.toNat % 20 < 20 := Nat.mod_lt _ (by decide)
    have hxl : x.toNat < 256 := x.toNat_lt
    have w1 : IntKind.i64.wrap (x.toNat : Int) = (x.toNat : Int) := wrap_i64 (by omega) (by omega)
    have m1 : Int.tmod (x.toNat : Int) 20 = ((x.toNat % 20 : Nat) : Int) := by rw [Int.tmod_eq_emod_of_nonneg (by omega)]; omega
    have w2 : IntKind.i64.wrap c = c := wrap_i64 (by omega) (by omega)
    have wi : IntKind.i64.wrap ((i : Int) + 1) = ((i + 1 : Nat) : Int) := by rw [wrap_i64 (by omega) (by omega)]; omega
    have htk : List.take 64 (bytesA p) = bytesA p := List.take_of_length_le (by rw [bytesA_length]; omega)
    have h0 : mayE false ds.pgs.length 20 17 ((x.toNat % 20 : Nat) : Int) = 0 := by
      rw [hw4]; unfold mayE; rw [if_neg (by simp), if_neg (by omega)]
    have T1 := T.app [.cells .ex 31 0 (bytesA p)]
    have ltQ1 := Q1.lt
    have Q1 := Q1.app [.cells .ex 31 0 (bytesA p)]
    have Q2 := Q2.app [.cells .ex 31 0 (bytesA p)]
    have gb : (o' ++ [AM.Obj.cells .ex 31 0 (bytesA p)])[o'.length]? = some (.cells .ex 31 0 (bytesA p)) := app_get0 _ _ _
    have hold1 : ∀ l, l < o.length → (o' ++ [AM.Obj.cells .ex 31 0 (bytesA p)])[l]? = o[l]? := fun l hl => by rw [List.getElem?_append_left (by have := T.l; omega)]; exact hold l hl
    have hol : o'.length < (o' ++ [AM.Obj.cells .ex 31 0 (bytesA p)]).length := by simp
    have hnew1 : ∀ z ∈ ownL sp1 jl1 (o.length + 2) o.length (o.length + 1) st1 gr1, z ≠ o'.length := fun z hz h => by
      have := ltQ1 z hz
      omega
    generalize o' ++ [AM.Obj.cells .ex 31 0 (bytesA p)] = oD at *
    obtain ⟨oh1, oE, d5, q1, hg1, hlE, X1, Q1b⟩ := sput_law (e := e4) (d := d4) Q1 (by omega) (by omega) hp64 h0 (by rw [so5]; omega)
    have gbE : oE[o'.length]? = some (.cells .ex 31 0 (bytesA p)) := by rw [X1.own hol hnew1]; exact gb
    have Q2b := Q2.keep (T1.other X1 Q2.lt)
    have T2 := T1.turn Q2.lt (.inl rfl) (.inl rfl) X1.len
    have holdE : ∀ l, l < o.length → oE[l]? = o[l]? := fun l hl => (T1.stay X1 l hl).trans (hold1 l hl)
    obtain ⟨oh2, oF, d6, q2, hg2, hlF, X2, Q2c⟩ := sput_law (e := e4) (d := d5) Q2b (by omega) (by omega) hp64 h0 (by rw [so5]; omega)
    have Q1c := Q1b.keep (T2.swap.other X2 Q1b.lt)
    have T3 := (T2.swap.turn Q1b.lt (.inl rfl) (.inl rfl) X2.len).swap
    have holdF : ∀ l, l < o.length → oF[l]? = o[l]? := fun l hl => (T2.swap.stay X2 l hl).trans (holdE l hl)
    have hfe2 : ∀ k, findC k (mergeC G1 (putC (x.toNat % 20) p S1)) = findC k (putC (x.toNat % 20) p S2) := fun k => by
      rw [findC_merge, findC_putC, findC_putC]
      split
      · rfl
      · rw [← hfe, findC_merge]
    have hp1 := putC_len (x.toNat % 20) p S1
    have hp2 := putC_len (x.toNat % 20) p S2
    have hk2 : ∀ e ∈ putC (x.toNat % 20) p S2, e.1 < 20 := fun e he => by
      rcases putC_mem he with rfl | he
      · exact hk16
      · exact hk20 e he
    clear T T1 T2 Q1 Q2 Q1b Q2b hold hold1 holdE hfe hk20
    generalize putC (x.toNat % 20) p S1 = S1' at *
    generalize putC (x.toNat % 20) p S2 = S2' at *
    simp only [andThen]
    (repeat' (first | refine To.seq hxE2 ?_ | refine To.op0 hxE2 (by simp only [go_sem, eqs hxE2, reduceIte, seval, Heap.gets, Heap.sets, Heap.get, bytesA_length, bytesA_one, bytesA_plains, List.take_of_length_le, List.drop_of_length_le, Nat.add_zero, V.one, Nat.reduceLeDiff, List.all_cons, List.all_nil, ne_eq, not_false_eq_true, Nat.zero_le, s1, s2, s7, s9, s11, s13, s15, s16, s17, s48, s49, s50, gb, w1, m1, htk, hp64]; rfl) ?_ | fail))
    refine To.op hxE2 (by simp only [go_sem, eqs hxE2, reduceIte, seval, q1]; rfl) ?_
    rw [hg1]
    (repeat' (first | refine To.op0 hxE2 (by simp only [go_sem, eqs hxE2, reduceIte, seval, Heap.gets, Heap.sets, Heap.get, bytesA_length, bytesA_one, bytesA_plains, List.take_of_length_le, List.drop_of_length_le, Nat.add_zero, V.one, Nat.reduceLeDiff, List.all_cons, List.all_nil, ne_eq, not_false_eq_true, Nat.zero_le, s1, s2, s7, s9, s11, s13, s15, s16, s17, s48, s49, s50, gbE, w1, m1, htk, hp64, bne_self_eq_false]; rfl) ?_ | fail))
    refine To.op hxE2 (by simp only [go_sem, eqs hxE2, reduceIte, seval, q2]; rfl) ?_
    rw [hg2]
    cases hcb : (Int.tmod (i : Int) 3 == Int.tmod c 3)
    · (repeat' (first | refine To.seq hxE2 ?_ | refine To.op0 hxE2 (by simp only [go_sem, eqs hxE2, reduceIte, seval, Heap.gets, Heap.sets, Heap.get, bytesA_length, bytesA_one, bytesA_plains, List.take_of_length_le, List.drop_of_length_le, Nat.add_zero, V.one, Nat.reduceLeDiff, List.all_cons, List.all_nil, ne_eq, not_false_eq_true, Nat.zero_le, s1, s2, s7, s9, s11, s13, s15, s16, s17, s48, s49, s50, w2, hcb, wi, bne_self_eq_false]; rfl) ?_ | refine To.nop hxE2 ?_ | (refine To.condF hxE2 ?_ ?_; focus (simp only [go_sem, eqs hxE2, reduceIte, seval, Heap.gets, Heap.sets, Heap.get, bytesA_length, bytesA_one, bytesA_plains, List.take_of_length_le, List.drop_of_length_le, Nat.add_zero, V.one, Nat.reduceLeDiff, List.all_cons, List.all_nil, ne_eq, not_false_eq_true, Nat.zero_le, s1, s2, s7, s9, s11, s13, s15, s16, s17, s48, s49, s50, w2, hcb, wi, bne_self_eq_false]; done)) | refine To.skip hxE2 ?_))
      try simp only [andThen, outOf]
      refine ⟨k - 1, by omega, i + 1, oF, _, _, st1, gr1, st2, gr2, S1', G1, S2', by omega, rfl, Q1c, Q2c, T3, holdF, hfe2, by omega, by omega, hk2, ?_⟩
      simp only [go_sem, eqs hxE2, reduceIte, seval, s1, s2, s7, s9, s11, s13, s48, s49]
    · obtain ⟨r7, oh7, q7, rfl, oG, e7, d7, st7, gr7, hg7, X7, hst7, hgr7, _, Q1d⟩ := skeep_q (e := e4) (d := d6) Q1c (by omega) (by omega) (by omega) (by decide) (by decide)
      rw [dKeep_small (by have := withN_le G1 S1'; rw [so5]; omega)] at q7 Q1d
      have hml := mergeC_len G1 S1'
      (repeat' (first | refine To.seq hxE2 ?_ | refine To.op0 hxE2 (by simp only [go_sem, eqs hxE2, reduceIte, seval, Heap.gets, Heap.sets, Heap.get, bytesA_length, bytesA_one, bytesA_plains, List.take_of_length_le, List.drop_of_length_le, Nat.add_zero, V.one, Nat.reduceLeDiff, List.all_cons, List.all_nil, ne_eq, not_false_eq_true, Nat.zero_le, s1, s2, s7, s9, s11, s13, s15, s16, s17, s48, s49, s50, w2, hcb, wi, bne_self_eq_false]; rfl) ?_ | refine To.nop hxE2 ?_ | (refine To.condF hxE2 ?_ ?_; focus (simp only [go_sem, eqs hxE2, reduceIte, seval, Heap.gets, Heap.sets, Heap.get, bytesA_length, bytesA_one, bytesA_plains, List.take_of_length_le, List.drop_of_length_le, Nat.add_zero, V.one, Nat.reduceLeDiff, List.all_cons, List.all_nil, ne_eq, not_false_eq_true, Nat.zero_le, s1, s2, s7, s9, s11, s13, s15, s16, s17, s48, s49, s50, w2, hcb, wi, bne_self_eq_false]; done)) | refine To.skip hxE2 ?_))
      refine To.op hxE2 (by simp only [go_sem, eqs hxE2, reduceIte, seval, q7]; rfl) ?_
      rw [hg7]
      (repeat' (first | refine To.op0 hxE2 (by simp only [go_sem, eqs hxE2, reduceIte, seval, Heap.gets, Heap.sets, Heap.get, bytesA_length, bytesA_one, bytesA_plains, List.take_of_length_le, List.drop_of_length_le, Nat.add_zero, V.one, Nat.reduceLeDiff, List.all_cons, List.all_nil, ne_eq, not_false_eq_true, Nat.zero_le, s1, s2, s7, s9, s11, s13, s15, s16, s17, s48, s49, s50, w2, hcb, wi, bne_self_eq_false]; rfl) ?_ | refine To.nop hxE2 ?_ | (refine To.condF hxE2 ?_ ?_; focus (simp only [go_sem, eqs hxE2, reduceIte, seval, Heap.gets, Heap.sets, Heap.get, bytesA_length, bytesA_one, bytesA_plains, List.take_of_length_le, List.drop_of_length_le, Nat.add_zero, V.one, Nat.reduceLeDiff, List.all_cons, List.all_nil, ne_eq, not_false_eq_true, Nat.zero_le, s1, s2, s7, s9, s11, s13, s15, s16, s17, s48, s49, s50, w2, hcb, wi, bne_self_eq_false]; done)) | refine To.skip hxE2 ?_))
      try simp only [andThen, outOf]
      refine ⟨k - 1, by omega, i + 1, oG, _, _, st7, gr7, st2, gr2, [], mergeC G1 S1', S2', by omega, rfl, Q1d, Q2c.keep (T3.other X7 Q2c.lt), T3.turn Q2c.lt hst7 hgr7 X7.len, fun l hl => (T3.stay X7 l hl).trans (holdF l hl), fun k => ?_, ?_, by omega, hk2, ?_⟩
      · rw [findC_merge, ← hfe2]; rfl
      · show (mergeC G1 S1').length + 0 ≤ i + 1
        omega
      · simp only [go_sem, eqs hxE2, reduceIte, seval, s1, s2, s7, s9, s11, s13, s48, s49]
  · have hlt : decide ((i : Int) < (b.length : Int)) = false := decide_eq_false (by omega)
    obtain rfl : i = b.length := by omega
    (repeat' (first | refine To.seq hxE2 ?_ | refine To.op0 hxE2 (by simp only [go_sem, eqs hxE2, reduceIte, seval, s11, s13, s48, s49, s50, hlt]; rfl) ?_ | refine To.nop hxE2 ?_ | (refine To.condF hxE2 ?_ ?_; focus (simp only [go_sem, eqs hxE2, reduceIte, seval, s11, s13, s48, s49, s50, hlt]; done)) | refine To.exit hxE2 ?_))
    try simp only [andThen, outOf, if_true]
    obtain ⟨r7, oh7, q7, rfl, oG, e7, d7, st7, gr7, hg7, X7, hst7, hgr7, _, Q1d⟩ := skeep_q (e := e') (d := d') Q1 (by omega) (by omega) (by omega) (by decide) (by decide)
    rw [dKeep_small (by have := withN_le G1 S1; rw [so5]; omega)] at q7 Q1d
    have Q2d := Q2.keep (T.other X7 Q2.lt)
    have T2 := T.turn Q2.lt hst7 hgr7 X7.len
    obtain ⟨r8, oh8, q8, rfl, oH, e8, d8, st8, gr8, hg8, X8, hst8, hgr8, _, Q2e⟩ := skeep_q (e := e7) (d := d7) Q2d (by omega) (by omega) (by omega) (by decide) (by decide)
    rw [dKeep_small (by have := withN_le [] S2; rw [so5]; simp only [List.length_nil] at this; omega)] at q8 Q2e
    have Q1e := Q1d.keep (T2.swap.other X8 Q1d.lt)
    have T3 := (T2.swap.turn Q1d.lt hst8 hgr8 X8.len).swap
    have hfeq : ∀ k, findC k (mergeC G1 S1) = findC k (mergeC [] S2) := fun k => by
      rw [hfe, findC_merge]
      cases findC k S2 <;> rfl
    have hGl := len_congr Q1e.okG Q2e.okG hfeq
    have qg1 := fun e d => sgroup_q (e := e) (d := d) Q1e
    have qg2 := fun e d => sgroup_q (e := e) (d := d) Q2e
    simp only at qg1 qg2 Q1e Q2e
    rw [hGl] at qg1
    have hcs : csG ds.pgs.length (mergeC G1 S1) = csG ds.pgs.length (mergeC [] S2) := csG_congr hfeq
    have hmB : ∀ e ∈ mergeC [] S2, e.1 < 20 := fun e he => by
      rcases List.mem_append.1 he with h | h
      · cases h
      · exact hk20 e h
    have hmL := mergeC_len [] S2
    simp only [List.length_nil] at hmL
    have hw0 := once_ok hw3 hw4 (by rw [← hw4]; exact Q2e.okG) hmB (by omega)
    have hcl := (dCommit_len false ds 20 17 2 false (csG ds.pgs.length (mergeC [] S2))).trans hw4
    obtain ⟨r9, oh9, q9, rfl, oI, e9, d9, st9, gr9, hg9, X9, hst9, hgr9, _, Q1f⟩ := ssync_q (e := e8) (d := d8) Q1e (by omega) (by omega) (by omega) (by decide) (by decide)
    have hS1 : dSync false ds 20 17 2 false (mergeC G1 S1) = (0, (dCommit false ds 20 17 2 false (csG ds.pgs.length (mergeC [] S2))).2.1, (dCommit false ds 20 17 2 false (csG ds.pgs.length (mergeC [] S2))).2.2.1, (dCommit false ds 20 17 2 false (csG ds.pgs.length (mergeC [] S2))).2.2.2, []) := by
      unfold dSync
      rw [if_neg (by decide), hcs, hw0, if_pos rfl]
    rw [hS1] at q9 Q1f
    have Q2f := Q2e.keep (T3.other X9 Q2e.lt)
    have T4 := T3.turn Q2e.lt hst9 hgr9 X9.len
    obtain ⟨ra, oha, qa, rfl, oJ, ea, da, sta, gra, hga, Xa, hsta, hgra, _, Q2g⟩ := ssync_q (e := e9) (d := d9) Q2f (by omega) (by omega) (by omega) (by decide) (by decide)
    have hS2 : dSync false ds 20 17 2 false (mergeC [] S2) = (0, (dCommit false ds 20 17 2 false (csG ds.pgs.length (mergeC [] S2))).2.1, (dCommit false ds 20 17 2 false (csG ds.pgs.length (mergeC [] S2))).2.2.1, (dCommit false ds 20 17 2 false (csG ds.pgs.length (mergeC [] S2))).2.2.2, []) := by
      unfold dSync
      rw [if_neg (by decide), hw0, if_pos rfl]
    rw [hS2] at qa Q2g
    have Q1g := Q1f.keep (T4.swap.other Xa Q1f.lt)
    simp only at q9 qa Q1g Q2g
    generalize (dCommit false ds 20 17 2 false (csG ds.pgs.length (mergeC [] S2))).2.2.2 = dsF at *
    have qg3 := fun e d => sgroup_q (e := e) (d := d) Q1g
    have qs3 := fun e d => sstep_q (e := e) (d := d) Q2g
    have qg3 : ∀ e d, Den FF E2 41 [.ptr sp1 0] ⟨oJ, e, d⟩ = some (.val (.int .i64 0), none) := qg3
    have qs3 : ∀ e d, Den FF E2 40 [.ptr sp2 0] ⟨oJ, e, d⟩ = some (.val (.int .i64 0), none) := qs3
    refine To.op hxE2 (by simp only [go_sem, eqs hxE2, reduceIte, seval, s11, q7]; rfl) ?_
    rw [hg7]
    (repeat' (first | refine To.op0 hxE2 (by simp only [go_sem, eqs hxE2, reduceIte, seval, s7, s9, s11, s13, bne_self_eq_false]; rfl) ?_ | fail))
    refine To.op hxE2 (by simp only [go_sem, eqs hxE2, reduceIte, seval, s13, q8]; rfl) ?_
    rw [hg8]
    (repeat' (first | refine To.op0 hxE2 (by simp only [go_sem, eqs hxE2, reduceIte, seval, s7, s9, s11, s13, bne_self_eq_false, qg1, qg2]; rfl) ?_ | fail))
    refine To.op hxE2 (by simp only [go_sem, eqs hxE2, reduceIte, seval, s11, q9]; rfl) ?_
    rw [hg9]
    (repeat' (first | refine To.op0 hxE2 (by simp only [go_sem, eqs hxE2, reduceIte, seval, s7, s9, s11, s13, bne_self_eq_false]; rfl) ?_ | fail))
    refine To.op hxE2 (by simp only [go_sem, eqs hxE2, reduceIte, seval, s13, qa]; rfl) ?_
    rw [hga]
    (repeat' (first | refine To.seq hxE2 ?_ | refine To.op0 hxE2 (by simp only [go_sem, eqs hxE2, reduceIte, seval, s7, s9, s11, s13, bne_self_eq_false]; rfl) ?_ | refine To.nop hxE2 ?_ | (refine To.condF hxE2 ?_ ?_; focus (simp only [go_sem, eqs hxE2, reduceIte, seval, s7, s9, s11, s13, bne_self_eq_false]; done)) | refine To.block hxE2 ?_ | refine To.skip hxE2 ?_))
    have PA := Q1g.J.P
    have PB := Q2g.J.P
    refine To.loop hxE2 (fun m S h' => ∃ (i d' : Nat), i + m = 20 ∧ h' = ⟨oJ, ea, d'⟩ ∧ S 7 = .ptr (o.length + 2) 0 ∧ S 9 = .ptr (o.length + 3 + 2) 0 ∧ S 11 = .ptr sp1 0 ∧ S 13 = .ptr sp2 0 ∧ S 18 = .int .i64 (i : Int)) ?_ 20 _ _ ?_
    rotate_left
    · refine ⟨0, _, by omega, rfl, ?_⟩
      simp only [go_sem, eqs hxE2, reduceIte, seval, s7, s9, s11, s13]
    rintro m S4 _ ⟨i, d', hm, rfl, t7, t9, t11, t13, t18⟩
    by_cases hi2 : i < 20
    · have hlt2 : decide ((i : Int) < 20) = true := decide_eq_true (by omega)
      have wi : IntKind.i64.wrap ((i : Int) + 1) = ((i + 1 : Nat) : Int) := by rw [wrap_i64 (by omega) (by omega)]; omega
      have ql1 := fun e d => lasts_q (e := e) (d := d) PA (i : Int)
      have ql2 := fun e d => lasts_q (e := e) (d := d) PB (i : Int)
      have hl64 : (lastP dsF.pgs (i : Int)).length = 64 := by
        unfold lastP
        rw [if_neg (by omega), Int.toNat_natCast, List.getD_eq_getElem?_getD, List.getElem?_eq_getElem (by omega)]
        exact PA.p64 _ (List.getElem_mem _)
      have hek : eqKs (kdsOf [(64, .i)]) (bytesA (lastP dsF.pgs (i : Int))) (bytesA (lastP dsF.pgs (i : Int))) = some true := by rw [eqB64 hl64 hl64, beq_self_eq_true]
      generalize lastP dsF.pgs (i : Int) = q at *
      (repeat' (first | refine To.seq hxE2 ?_ | refine To.op0 hxE2 (by simp only [go_sem, eqs hxE2, reduceIte, seval, Heap.gets, Heap.sets, Heap.get, bytesA_length, bytesA_one, bytesA_plains, List.take_of_length_le, List.drop_of_length_le, Nat.add_zero, V.one, Nat.reduceLeDiff, List.all_cons, List.all_nil, ne_eq, not_false_eq_true, Nat.zero_le, t7, t9, t18, hlt2, ql1, ql2, hek, wi]; rfl) ?_ | refine To.nop hxE2 ?_ | (refine To.condT hxE2 ?_ ?_; focus (simp only [go_sem, eqs hxE2, reduceIte, seval, Heap.gets, Heap.sets, Heap.get, bytesA_length, bytesA_one, bytesA_plains, List.take_of_length_le, List.drop_of_length_le, Nat.add_zero, V.one, Nat.reduceLeDiff, List.all_cons, List.all_nil, ne_eq, not_false_eq_true, Nat.zero_le, t7, t9, t18, hlt2, ql1, ql2, hek, wi]; done)) | (refine To.condF hxE2 ?_ ?_; focus (simp only [go_sem, eqs hxE2, reduceIte, seval, Heap.gets, Heap.sets, Heap.get, bytesA_length, bytesA_one, bytesA_plains, List.take_of_length_le, List.drop_of_length_le, Nat.add_zero, V.one, Nat.reduceLeDiff, List.all_cons, List.all_nil, ne_eq, not_false_eq_true, Nat.zero_le, t7, t9, t18, hlt2, ql1, ql2, hek, wi]; done)) | refine To.block hxE2 ?_ | refine To.skip hxE2 ?_))
      try simp only [andThen, outOf]
      refine ⟨m - 1, by omega, i + 1, _, by omega, rfl, ?_⟩
      simp only [go_sem, eqs hxE2, reduceIte, seval, t7, t9, t11, t13]
    · have hlt2 : decide ((i : Int) < 20) = false := decide_eq_false (by omega)
      (repeat' (first | refine To.seq hxE2 ?_ | refine To.op0 hxE2 (by simp only [go_sem, eqs hxE2, reduceIte, seval, t18, hlt2]; rfl) ?_ | refine To.nop hxE2 ?_ | (refine To.condF hxE2 ?_ ?_; focus (simp only [go_sem, eqs hxE2, reduceIte, seval, t18, hlt2]; done)) | refine To.exit hxE2 ?_))
      try simp only [andThen, outOf, if_true]
      (repeat' (first | refine To.op0 hxE2 (by simp only [go_sem, eqs hxE2, reduceIte, seval, t11, t13, qg3, qs3, beq_self_eq_true]; rfl) ?_ | refine To.nop hxE2 ?_ | refine To.ret hxE2 ?_))
      exact fin _ _ (by simp only [go_sem, eqs hxE2, reduceIte, seval])
end Go.Proofs.Ytfbkeieoeagkdaa

