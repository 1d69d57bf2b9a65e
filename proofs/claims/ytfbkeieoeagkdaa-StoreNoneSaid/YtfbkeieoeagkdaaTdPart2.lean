/- Own texts, joined: TdSb, TdJ, TdSn, TdJb, TdN, TdL, TdSl. -/
import Derived.Test.YtfbkeieoeagkdaaTdPart1
/- Store: maps.Copy by hand. -/
namespace Go.Proofs.Ytfbkeieoeagkdaa
open Go AM
set_option linter.unusedSimpArgs false
set_option linter.unusedVariables false
set_option maxRecDepth 100000

/-- Entries laid over those that are there. -/
def merged (esd L : List (V × V)) : List (V × V) := (esd.filter fun e => !(L.any fun x => hitK .i x.1 e)) ++ L
def atD (eq : List (V × V)) (i : Nat) : V × V := eq.getD i (.nilp, .nilp)
theorem atD_all (eq : List (V × V)) : (List.range eq.length).map (atD eq) = eq := by
  apply List.ext_getElem?
  intro i
  unfold atD
  by_cases hi : i < eq.length
  · rw [List.getElem?_map, List.getElem?_range hi, List.getElem?_eq_getElem hi]
    simp [List.getD_eq_getElem?_getD, List.getElem?_eq_getElem hi]
  · rw [List.getElem?_eq_none (by simp; omega), List.getElem?_eq_none (by omega)]
theorem done_ents {eq : List (V × V)} {done : List Nat} (hnd : done.Nodup) (hlt : ∀ i ∈ done, i < eq.length) (hall : ∀ i, i < eq.length → i ∈ done) : (done.map (atD eq)).Perm eq := by
  have hp : done.Perm (List.range eq.length) := (List.perm_ext_iff_of_nodup hnd List.nodup_range).2 fun i => by
    rw [List.mem_range]
    exact ⟨hlt i, hall i⟩
  have := hp.map (atD eq)
  rwa [atD_all] at this
theorem atD_get {eq : List (V × V)} {i : Nat} {e : V × V} (h : eq[i]? = some e) : atD eq i = e := by
  unfold atD
  rw [List.getD_eq_getElem?_getD, h]; rfl
theorem any_perm {α : Type} {L L' : List α} {p : α → Bool} (hp : L.Perm L') : L.any p = L'.any p := by
  rw [Bool.eq_iff_iff, List.any_eq_true, List.any_eq_true]
  exact ⟨fun ⟨x, h1, h2⟩ => ⟨x, hp.mem_iff.1 h1, h2⟩, fun ⟨x, h1, h2⟩ => ⟨x, hp.mem_iff.2 h1, h2⟩⟩
theorem merged_perm {esd L L' : List (V × V)} (hp : L.Perm L') : (merged esd L).Perm (merged esd L') := by
  unfold merged
  have : (fun e => !(L.any fun x => hitK .i x.1 e)) = (fun e => !(L'.any fun x => hitK .i x.1 e)) := by
    funext e
    rw [any_perm hp]
  rw [this]
  exact hp.append_left _
theorem merged_nil (esd : List (V × V)) : esd.Perm (merged esd []) := by
  unfold merged
  rw [List.append_nil]
  exact List.Perm.of_eq (List.filter_eq_self.2 fun _ _ => rfl).symm
theorem merged_mem {esd L : List (V × V)} {e : V × V} (h : e ∈ merged esd L) : e ∈ esd ∨ e ∈ L := by
  rcases List.mem_append.1 h with h | h
  · exact .inl (List.mem_filter.1 h).1
  · exact .inr h
theorem hit_key {k : Int} {e : V × V} (hk : ∃ j, e.1 = .int .i64 j) : hitK .i (.int .i64 k) e = true ↔ e.1 = .int .i64 k := by
  obtain ⟨j, hj⟩ := hk
  simp only [hitK, hj, eqK_int]
  by_cases h : k = j
  · subst h; simp
  · have : (k == j) = false := by simpa using h
    rw [this]
    simp only [Bool.false_eq_true, V.int.injEq, true_and, false_iff]
    exact fun hc => h hc.symm
theorem merged_ok {esd L : List (V × V)} (h1 : esd.all entP = true) (h2 : L.all entP = true) (a1 : apart esd = true) (a2 : apart L = true) : (merged esd L).all entP = true ∧ apart (merged esd L) = true := by
  have hall : (merged esd L).all entP = true := List.all_eq_true.2 fun e he => by
    rcases merged_mem he with h | h
    · exact List.all_eq_true.1 h1 e h
    · exact List.all_eq_true.1 h2 e h
  refine ⟨hall, (apart_iff (entP_key hall)).2 ?_⟩
  unfold merged
  rw [List.map_append]
  refine List.nodup_append.2 ⟨?_, (apart_iff (entP_key h2)).1 a2, fun x hx y hy => ?_⟩
  · exact ((apart_iff (entP_key h1)).1 a1).sublist (List.filter_sublist.map _)
  · rintro rfl
    obtain ⟨e, he, rfl⟩ := List.mem_map.1 hx
    obtain ⟨f, hf, hfe⟩ := List.mem_map.1 hy
    obtain ⟨he1, he2⟩ := List.mem_filter.1 he
    obtain ⟨k, hk⟩ := entP_key h2 f hf
    have : hitK .i f.1 e = true := by
      rw [hk]
      exact (hit_key (entP_key h1 e he1)).2 (by rw [← hfe, hk])
    have h3 : (L.any fun x => hitK .i x.1 e) = true := List.any_eq_true.2 ⟨f, hf, this⟩
    rw [h3] at he2; cases he2
/-- One entry more laid over them. -/
theorem merged_put {esd L es' : List (V × V)} {k : Int} {v : V} (h1 : esd.all entP = true) (h2 : L.all entP = true) (a1 : apart esd = true) (a2 : apart L = true) (hp : es'.Perm (merged esd L)) (hk : ∀ e ∈ L, e.1 ≠ .int .i64 k) :
    ∃ es2, mapPut .i (.int .i64 k) v es' = some es2 ∧ es2.Perm (merged esd ((.int .i64 k, v) :: L)) := by
  obtain ⟨m1, m2⟩ := merged_ok h1 h2 a1 a2
  obtain ⟨es2, h3⟩ := mapPut_ex (x := v) (okM_perm hp (okM_int m1 m2 k))
  refine ⟨es2, h3, (mapPut_spec h3).2.trans ?_⟩
  refine ((hp.filter _).cons _).trans ?_
  have e1 : (merged esd L).filter (fun e => !hitK .i (.int .i64 k) e) = (esd.filter fun e => !(((V.int .i64 k, v) :: L).any fun x => hitK .i x.1 e)) ++ L := by
    unfold merged
    rw [List.filter_append, List.filter_filter]
    congr 1
    · refine List.filter_congr fun e he => ?_
      rw [List.any_cons, Bool.not_or]
    · refine List.filter_eq_self.2 fun e he => ?_
      have : hitK .i (.int .i64 k) e = false := by
        rw [Bool.eq_false_iff]
        exact fun hc => hk e he ((hit_key (entP_key h2 e he)).1 hc)
      rw [this]; rfl
  rw [e1]
  unfold merged
  exact List.perm_middle.symm

def copyG : List V → Heap → Option (Out × Option Heap)
  | [.map ld, .map ls], h => match h.o[ld]?, h.o[ls]? with
    | some (.map esd), some (.map ess) =>
      if ld ≠ ls ∧ esd.all entP = true ∧ ess.all entP = true ∧ apart esd = true ∧ apart ess = true then
        some (.val (.tuple []), some ⟨h.o.set ld (.map (merged esd ess)), h.e, min h.d (min ld ls)⟩)
      else none
    | _, _ => none
  | _, _ => none

theorem restore2 {o ho : List AM.Obj} {ld ls : Nat} {x y : AM.Obj} (hq : o[ls]? = some x) (hld : ld < o.length) (hlen : o.length ≤ ho.length) (hne : ld ≠ ls) (hold : ∀ l, l < o.length → l ≠ ls → l ≠ ld → ho[l]? = o[l]?) : ((ho.set ls x).set ld y).take o.length = o.set ld y := by
  have hls := get_lt hq
  apply List.ext_getElem?
  intro i
  rw [List.getElem?_take]
  by_cases hi : i < o.length
  · rw [if_pos hi]
    by_cases h1 : i = ld
    · subst h1
      rw [List.getElem?_set_self (by simp; omega), List.getElem?_set_self hi]
    · rw [List.getElem?_set_ne (Ne.symm h1), List.getElem?_set_ne (Ne.symm h1)]
      by_cases h2 : i = ls
      · subst h2
        rw [List.getElem?_set_self (by omega), hq]
      · rw [List.getElem?_set_ne (Ne.symm h2)]
        exact hold i hi h2 h1
  · rw [if_neg hi, List.getElem?_eq_none (by simp; omega)]

set_option maxHeartbeats 8000000 in
theorem copy_go {o : List AM.Obj} {e d ld ls : Nat} {esd ess : List (V × V)} (hP : o[ld]? = some (.map esd)) (hQ : o[ls]? = some (.map ess)) (hne : ld ≠ ls) (hp : esd.all entP = true) (hq : ess.all entP = true) (hap : apart esd = true) (haq : apart ess = true) {ι : Map} {w : World} (hr : HR ι o w) :
    Calls Try.prog 64 (V.reals ι [.map ld, .map ls]).toArray w fun e1 w' => ∃ κ, Nx ι ⟨o, e, d⟩ w κ ⟨o.set ld (.map (merged esd ess)), e, min d (min ld ls)⟩ w' ∧ OutOk κ (o.set ld (.map (merged esd ess))).length e1 (.val (.tuple [])) := by
  have lld := get_lt hP
  have lls := get_lt hQ
  refine calls_body (h2 := ⟨o.set ld (.map (merged esd ess)), e, min d (min ld ls)⟩) (h := ⟨o, e, d⟩) (args := [.map ld, .map ls]) Try.func64 rfl rfl hr ⟨lld, lls, trivial⟩ (Nat.le_of_ble_eq_true rfl) fun a hs hd => ?_
  let Inv : List (V × V) → List Nat → (Nat → V) → Heap → Prop := fun eq done S hc => S 0 = .map ld ∧ done.Nodup ∧ (∀ i ∈ done, i < eq.length) ∧ (∃ es', hc.o[ld]? = some (.map es') ∧ es'.Perm (merged esd (done.map (atD eq)))) ∧ o.length < hc.o.length ∧ (∀ l, l < o.length → l ≠ ls → l ≠ ld → hc.o[l]? = o[l]?) ∧ hc.e = o.length ∧ min ld ls ≤ hc.d
  refine range_block hcall0 mixed (ds := []) (PA := [⟨some 6, .mv (.t 1), none⟩]) (RC := [⟨some 11, .extract (.t 10) 0, none⟩, ⟨some 12, .extract (.t 10) 1, none⟩, ⟨some 5, .alloc 31 z64, none⟩, ⟨some 4, .mv (.t 11), none⟩, ⟨none, .store 64 (.t 5) (.t 12), none⟩])
    (AB := .region [⟨some 13, .mv (.t 0), none⟩, ⟨some 14, .mv (.t 4), none⟩, ⟨some 15, .load (some 64) (.t 5), none⟩, ⟨none, .mapSet .i (.t 13) (.t 14) (.t 15), none⟩] false)
    (k := 4) rfl rfl rfl rfl rfl (by kernel_rfl) Try.underlying113 (Nat.le_of_ble_eq_true rfl) rfl rfl rfl rfl rfl rfl rfl rfl rfl rfl rfl (by kernel_rfl) (by kernel_rfl) (Nat.le_of_ble_eq_true rfl) (Nat.le_of_ble_eq_true rfl) (Nat.le_of_ble_eq_true rfl) (by decide) (by decide)
    (h := enter ⟨o, e, d⟩) hr hs hd (h1 := ⟨o, o.length, o.length⟩) (by simp only [go_sem, eqs hxE0, reduceIte, Nat.reduceEqDiff, Nat.reduceAdd, Nat.reduceMul, Nat.reduceLT, Nat.reduceLeDiff, Int.reduceLT, Int.reduceLE, Int.reduceEq, reduceCtorEq, Int.reduceBEq, Int.reduceBNe, Int.reduceToNat, Nat.reduceSub, Nat.reduceDiv, Int.reduceNeg, Int.reduceAdd, Int.reduceSub, Int.reduceMul, initS]; rfl) (es := ess) (lm := ls) (by simp only [go_sem, eqs hxE0, reduceIte, Nat.reduceEqDiff, Nat.reduceAdd, Nat.reduceMul, Nat.reduceLT, Nat.reduceLeDiff, Int.reduceLT, Int.reduceLE, Int.reduceEq, reduceCtorEq, Int.reduceBEq, Int.reduceBNe, Int.reduceToNat, Nat.reduceSub, Nat.reduceDiv, Int.reduceNeg, Int.reduceAdd, Int.reduceSub, Int.reduceMul]) hQ (fun e he => ?_) Inv ?_ ?_ ?_ ?_ ?_
  · obtain ⟨k, pg, rfl, _, h2, _⟩ := entP_inv (List.all_eq_true.1 hq e he)
    exact ⟨rfl, h2⟩
  · rintro eq done S hc x ⟨h1, h3, h4, ⟨es', h5, h5'⟩, h6, h7, h8, h9⟩
    refine ⟨h1, h3, h4, ⟨es', ?_, h5'⟩, by simpa using h6, fun l hl a b => ?_, h8, ?_⟩
    · show (hc.o.set o.length _)[ld]? = _
      rw [List.getElem?_set_ne (by omega)]; exact h5
    · show (hc.o.set o.length _)[l]? = _
      rw [List.getElem?_set_ne (by omega)]; exact h7 l hl a b
    · show _ ≤ min hc.d o.length
      omega
  · rintro eq done S hc v u ⟨h1, h2⟩
    exact ⟨by simp only [go_sem, eqs hxE0, reduceIte, Nat.reduceEqDiff, Nat.reduceAdd, Nat.reduceMul, Nat.reduceLT, Nat.reduceLeDiff, Int.reduceLT, Int.reduceLE, Int.reduceEq, reduceCtorEq, Int.reduceBEq, Int.reduceBNe, Int.reduceToNat, Nat.reduceSub, Nat.reduceDiv, Int.reduceNeg, Int.reduceAdd, Int.reduceSub, Int.reduceMul, h1], h2⟩
  · rintro eq hpm done S hc i en ⟨h1, h3, h4, ⟨es', h5, h5'⟩, h6, h7, h8, h9⟩ hit hi hnot ⟨x1, hx1⟩ ⟨x2, hx2⟩
    have heq := all_perm hpm hq
    have haeq := apart_perm hpm (entP_key hq) haq
    obtain ⟨k, pgv, rfl, hpl64, hpp, hpo⟩ := entP_inv (List.all_eq_true.1 heq en (List.mem_of_getElem? hi))
    obtain ⟨ho, he, hd'⟩ := hc
    simp only at h5 h6 h7 h8 h9 hx1 hx2
    have hkey : V.key .i (.int .i64 k) = true := rfl
    have hil : i < eq.length := (List.getElem?_eq_some_iff.1 hi).1
    have hnl : (i :: done).Nodup := List.nodup_cons.2 ⟨hnot, h3⟩
    have hlt' : ∀ j ∈ i :: done, j < eq.length := fun j hj => by
      rcases List.mem_cons.1 hj with rfl | hj
      · exact hil
      · exact h4 j hj
    have hz : List.drop 64 z64 = [] := rfl
    have hz2 : z64.length = 64 := rfl
    have htk : List.take 64 pgv = pgv := List.take_of_length_le (by omega)
    have hsub : ∀ {l : List Nat}, (∀ j ∈ l, j < eq.length) → ∀ x ∈ l.map (atD eq), ∃ j ∈ l, eq[j]? = some x := fun hl x hx => by
      obtain ⟨j, hj, rfl⟩ := List.mem_map.1 hx
      have hjl := hl j hj
      refine ⟨j, hj, ?_⟩
      unfold atD
      rw [List.getD_eq_getElem?_getD, List.getElem?_eq_getElem hjl]; rfl
    have hLall : (done.map (atD eq)).all entP = true := List.all_eq_true.2 fun x hx => by
      obtain ⟨j, _, hj⟩ := hsub h4 x hx
      exact List.all_eq_true.1 heq x (List.mem_of_getElem? hj)
    have hLap : apart (done.map (atD eq)) = true := by
      refine (apart_iff (entP_key hLall)).2 ?_
      rw [List.map_map, List.nodup_iff_pairwise_ne, List.pairwise_map]
      refine (List.nodup_iff_pairwise_ne.1 h3).imp_of_mem fun {x y} hx hy hxy => ?_
      intro hc
      obtain ⟨kx, hkx⟩ := entP_key hLall (atD eq x) (List.mem_map_of_mem hx)
      have gx : eq[x]? = some (atD eq x) := by unfold atD; rw [List.getD_eq_getElem?_getD, List.getElem?_eq_getElem (h4 x hx)]; rfl
      have gy : eq[y]? = some (atD eq y) := by unfold atD; rw [List.getD_eq_getElem?_getD, List.getElem?_eq_getElem (h4 y hy)]; rfl
      exact hxy (apart_key haeq gx gy ⟨.i64, kx, hkx, by rw [← hkx]; exact hc.symm⟩)
    have hnk : ∀ x ∈ done.map (atD eq), x.1 ≠ .int .i64 k := fun x hx hc => by
      obtain ⟨j, hj, hjx⟩ := hsub h4 x hx
      have := apart_key haeq hjx hi ⟨.i64, k, hc, rfl⟩
      subst this
      exact hnot hj
    obtain ⟨es2, hput, hes2⟩ := merged_put (v := .agg pgv) hp hLall hap hLap h5' hnk
    have gp : ∀ r, (ho ++ r)[ld]? = some (.map es') := fun r => app_old h5 r
    have hst : ∀ x r, (ho ++ r).set ld x = ho.set ld x ++ r := fun x r => List.set_append_left _ _ (by omega)
    refine ⟨_, _, .norm, _, _, (by simp only [go_sem, eqs hxE0, reduceIte, Nat.reduceEqDiff, Nat.reduceAdd, Nat.reduceMul, Nat.reduceLT, Nat.reduceLeDiff, Int.reduceLT, Int.reduceLE, Int.reduceEq, reduceCtorEq, Int.reduceBEq, Int.reduceBNe, Int.reduceToNat, Nat.reduceSub, Nat.reduceDiv, Int.reduceNeg, Int.reduceAdd, Int.reduceSub, Int.reduceMul, Heap.gets, Heap.sets, Heap.get, bytesA_length, bytesA_one, bytesA_plains, List.take_of_length_le, List.drop_of_length_le, Nat.add_zero, V.one, Nat.reduceLeDiff, List.all_cons, List.all_nil, ne_eq, not_false_eq_true, Nat.zero_le, hpl64, hpo, hpp, hz, hz2]; rfl), (by simp only [exec, go_sem, eqs hxE0, reduceIte, Nat.reduceEqDiff, Nat.reduceAdd, Nat.reduceMul, Nat.reduceLT, Nat.reduceLeDiff, Int.reduceLT, Int.reduceLE, Int.reduceEq, reduceCtorEq, Int.reduceBEq, Int.reduceBNe, Int.reduceToNat, Nat.reduceSub, Nat.reduceDiv, Int.reduceNeg, Int.reduceAdd, Int.reduceSub, Int.reduceMul, Heap.gets, Heap.sets, Heap.get, bytesA_length, bytesA_one, bytesA_plains, List.take_of_length_le, List.drop_of_length_le, Nat.add_zero, V.one, Nat.reduceLeDiff, List.all_cons, List.all_nil, ne_eq, not_false_eq_true, Nat.zero_le, h1, gp, hkey, hput, hpl64, hpo, hpp, htk, hst, Heap.setMap]; rfl), .inl rfl, ?_, ?_, ?_, ?_⟩
    · simp only [go_sem, eqs hxE0, reduceIte, Nat.reduceEqDiff, Nat.reduceAdd, Nat.reduceMul, Nat.reduceLT, Nat.reduceLeDiff, Int.reduceLT, Int.reduceLE, Int.reduceEq, reduceCtorEq, Int.reduceBEq, Int.reduceBNe, Int.reduceToNat, Nat.reduceSub, Nat.reduceDiv, Int.reduceNeg, Int.reduceAdd, Int.reduceSub, Int.reduceMul]; exact hit
    · show (ho.set ld _ ++ [_])[o.length]? = ho[o.length]?
      rw [List.getElem?_append_left (by simp; omega), List.getElem?_set_ne (by omega)]
    · show (ho.set ld _ ++ [_])[ls]? = ho[ls]?
      rw [List.getElem?_append_left (by simp; omega), List.getElem?_set_ne hne]
    · refine ⟨by simp only [go_sem, eqs hxE0, reduceIte, Nat.reduceEqDiff, Nat.reduceAdd, Nat.reduceMul, Nat.reduceLT, Nat.reduceLeDiff, Int.reduceLT, Int.reduceLE, Int.reduceEq, reduceCtorEq, Int.reduceBEq, Int.reduceBNe, Int.reduceToNat, Nat.reduceSub, Nat.reduceDiv, Int.reduceNeg, Int.reduceAdd, Int.reduceSub, Int.reduceMul, h1], hnl, hlt', ⟨es2, ?_, ?_⟩, ?_, fun l hl a b => ?_, h8, ?_⟩
      · show (ho.set ld _ ++ [_])[ld]? = _
        rw [List.getElem?_append_left (by simp; omega), List.getElem?_set_self (by omega)]
      · rw [List.map_cons, atD_get hi]; exact hes2
      · show o.length < (ho.set ld _ ++ [_]).length
        simp; omega
      · show (ho.set ld _ ++ [_])[l]? = _
        rw [List.getElem?_append_left (by simp; omega), List.getElem?_set_ne (Ne.symm b)]
        exact h7 l hl a b
      · show _ ≤ min (min hd' ho.length) ld
        omega
  · intro eq hpm xi xm
    refine ⟨by simp only [go_sem, eqs hxE0, reduceIte, Nat.reduceEqDiff, Nat.reduceAdd, Nat.reduceMul, Nat.reduceLT, Nat.reduceLeDiff, Int.reduceLT, Int.reduceLE, Int.reduceEq, reduceCtorEq, Int.reduceBEq, Int.reduceBNe, Int.reduceToNat, Nat.reduceSub, Nat.reduceDiv, Int.reduceNeg, Int.reduceAdd, Int.reduceSub, Int.reduceMul, initS], List.nodup_nil, by simp, ⟨esd, ?_, merged_nil esd⟩, by simp, fun l hl b _ => ?_, rfl, ?_⟩
    · show ((o ++ [AM.Obj.raw xi]).set ls _)[ld]? = _
      rw [List.getElem?_set_ne (Ne.symm hne), List.getElem?_append_left lld]; exact hP
    · show ((o ++ [AM.Obj.raw xi]).set ls _)[l]? = _
      rw [List.getElem?_set_ne (Ne.symm b), List.getElem?_append_left hl]
    · show _ ≤ min o.length ls
      omega
  · rintro eq hpm κ3 a3 w3 S3 ⟨ho, he, hd'⟩ done hn3 hs3 hd3 ⟨h1, h3, h4, ⟨es', h5, h5'⟩, h6, h7, h8, h9⟩ hall ⟨x, hx⟩
    simp only at h5 h6 h7 h8 h9 hx
    subst h8
    have hfin : es'.Perm (merged esd ess) := h5'.trans (merged_perm ((done_ents h3 h4 hall).trans hpm))
    obtain ⟨m1, m2⟩ := merged_ok hp hq hap haq
    have h5s : (ho.set ls (.map ess))[ld]? = some (.map es') := by rw [List.getElem?_set_ne (Ne.symm hne)]; exact h5
    have hmsc : ∀ n, (AM.Obj.map (merged esd ess)).sc n := fun n x hx => by
      obtain ⟨k, pg, rfl, _, hpl, _⟩ := entP_inv (List.all_eq_true.1 m1 x hx)
      exact ⟨trivial, V.sc_of_plain _ _ hpl⟩
    have hn4 : Nx κ3 ⟨ho.set ls (.map ess), o.length, min hd' ls⟩ w3 κ3 ⟨(ho.set ls (.map ess)).set ld (.map (merged esd ess)), o.length, min (min hd' ls) ld⟩ w3 := by
      obtain ⟨en, cl, eq2, hb, hpm2, hr2⟩ := hn3.hr.obj ld _ h5s
      exact Nx.upd hn3.hr h5s rfl rfl _ _ rfl rfl rfl rfl (fun _ _ => rfl) ⟨en, cl, eq2, hb, hpm2.trans hfin, hr2⟩ (hmsc _) (Nat.le_refl _) (Nat.min_le_left _ _) (Nat.min_le_right _ _) (.inr fun n _ => hmsc n)
    have hs4 : SR κ3 S3 Try.f64.ntmps a3.tmps ((ho.set ls (.map ess)).set ld (.map (merged esd ess))).length := by rw [List.length_set, List.length_set]; exact hs3
    refine ⟨.inl rfl, κ3, S3, _, hn3.trans hn4, hs4, hd3, [], rfl, rfl, ?_⟩
    have hlv : leave ⟨o, e, d⟩ ⟨(ho.set ls (.map ess)).set ld (.map (merged esd ess)), o.length, min (min hd' ls) ld⟩ (.tuple []) = some ⟨o.set ld (.map (merged esd ess)), e, min d (min (min hd' ls) ld)⟩ := by
      unfold leave
      simp only
      rw [if_pos ⟨Nat.le_refl _, rfl⟩, if_neg (by omega), restore2 hQ lld (by omega) hne h7]
    show ((leave _ _ (.tuple [])).getD _).o = _ ∧ ((leave _ _ (.tuple [])).getD _).e = _ ∧ _ ≤ ((leave _ _ (.tuple [])).getD _).d
    rw [show leave (⟨o, e, d⟩ : Heap) ⟨(ho.set ls (.map ess)).set ld (.map (merged esd ess)), o.length, min (min hd' ls) ld⟩ (.tuple []) = _ from hlv]
    exact ⟨rfl, rfl, by show min d (min ld ls) ≤ min d (min (min hd' ls) ld); omega⟩

theorem copyOk (args : List V) (h : Heap) (out : Out) (oh : Option Heap) (he : copyG args h = some (out, oh)) : callOk Try.prog 64 = true ∧ ∀ ι w, HR ι h.o w → V.scs h.o.length args →
    Calls Try.prog 64 (V.reals ι args).toArray w fun e w' => ∃ κ, Nx ι h w κ (oh.getD h) w' ∧ OutOk κ (oh.getD h).o.length e out := by
  refine ⟨by kernel_rfl, fun ι w hr hsc => ?_⟩
  obtain ⟨o, e, d⟩ := h
  unfold copyG at he
  split at he
  · rename_i ld ls
    simp only at he
    split at he
    · rename_i esd ess hP hQ
      split at he
      · rename_i hc
        obtain ⟨h1, h2, h3, h4, h5⟩ := hc
        cases he
        exact copy_go hP hQ h1 h2 h3 h4 h5 hr
      · cases he
    · cases he
  · cases he
end Go.Proofs.Ytfbkeieoeagkdaa

/- Disk: the functions by hand in one table; the document's example. -/
namespace Go.Proofs.Ytfbkeieoeagkdaa
open Go AM
set_option linter.unusedSimpArgs false
set_option linter.unusedVariables false
set_option maxRecDepth 100000

def t1 : HandT
  | 50 => some sortedH
  | 16 => some flushG
  | 63 => some withG
  | 64 => some copyG
  | _ => none
theorem ok1 : HandOk Try.prog t1 := by
  intro f k args h out oh hk he
  unfold t1 at hk
  split at hk
  · cases hk; exact sortedHOk args h out oh he
  · cases hk; exact flushOk args h out oh he
  · cases hk; exact withOk args h out oh he
  · cases hk; exact copyOk args h out oh he
  · cases hk
def g1 : Nat → Option Ans := fun _ => none
def E1 : ExtF := extH g1 t1
theorem hxE1 : ExtMono E1 := extH_mono g1 t1
theorem plE1 : ExtSound Try.prog (plainExt g1) := plain0_sound
theorem sndE1 : ExtSound Try.prog E1 := extH_sound plE1 ok1
theorem E1_none {f : Nat} (h : g1 f = none) (h' : t1 f = none := by rfl) (c : CallF) : E1 c f = none := extH_none h h' c
def tAwake : Ans
  | [] => some (.bool true)
  | _ => none
theorem okAwake03 : SpOk FF E1 11 tAwake := by
  intro args v h hpl
  unfold tAwake at h
  split at h
  · cases h
    exact ⟨rfl, none, Den_of hxE1 (k := 100) (by kernel_rfl)⟩
  · cases h
end Go.Proofs.Ytfbkeieoeagkdaa

/- Store, journal: the document's examples. -/
namespace Go.Proofs.Ytfbkeieoeagkdaa
open Go AM
set_option linter.unusedSimpArgs false
set_option linter.unusedVariables false
set_option maxRecDepth 100000

theorem okAwake05 : SpOk FF E1 29 tAwake := by
  intro args v h hpl
  unfold tAwake at h
  split at h
  · cases h
    exact ⟨rfl, none, Den_of hxE1 (k := 200) (by kernel_rfl)⟩
  · cases h
theorem okAwake06 : SpOk FF E1 34 tAwake := by
  intro args v h hpl
  unfold tAwake at h
  split at h
  · cases h
    exact ⟨rfl, none, Den_of hxE1 (k := 200) (by kernel_rfl)⟩
  · cases h
end Go.Proofs.Ytfbkeieoeagkdaa

/- Disk, journal, store: the layer of the document's examples. -/
namespace Go.Proofs.Ytfbkeieoeagkdaa
open Go AM
set_option linter.unusedSimpArgs false
set_option linter.unusedVariables false
set_option maxRecDepth 100000

def g2 : Nat → Option Ans := addG g1 [(11, tAwake), (29, tAwake), (34, tAwake)]
def E2 : ExtF := extH g2 t1
theorem hxE2 : ExtMono E2 := extH_mono g2 t1
theorem plE2 : ExtSound Try.prog (plainExt g2) := addH_sound mixed ffok sndE1 plE1 (by
  intro p hp
  simp only [List.mem_cons, List.not_mem_nil, or_false] at hp
  rcases hp with rfl | rfl | rfl
  · exact okAwake03
  · exact okAwake05
  · exact okAwake06)
theorem sndE2 : ExtSound Try.prog E2 := extH_sound plE2 ok1
theorem E2_none {f : Nat} (h : g2 f = none) (h' : t1 f = none := by rfl) (c : CallF) : E2 c f = none := extH_none h h' c
theorem eAwake03_2 (_ : Unit) (h : Heap) : Den FF E2 11 [] h = some (.val (.bool true), none) := denH_plain (sp := tAwake) h rfl (by rfl) (by first | (simp [V.plains, V.plain, bytesA_plains]; done) | rfl)
theorem eAwake05_2 (_ : Unit) (h : Heap) : Den FF E2 29 [] h = some (.val (.bool true), none) := denH_plain (sp := tAwake) h rfl (by rfl) (by first | (simp [V.plains, V.plain, bytesA_plains]; done) | rfl)
theorem eAwake06_2 (_ : Unit) (h : Heap) : Den FF E2 34 [] h = some (.val (.bool true), none) := denH_plain (sp := tAwake) h rfl (by rfl) (by first | (simp [V.plains, V.plain, bytesA_plains]; done) | rfl)
end Go.Proofs.Ytfbkeieoeagkdaa

/- Disk: a disk that isn't there. -/
namespace Go.Proofs.Ytfbkeieoeagkdaa
open Go AM
set_option linter.unusedSimpArgs false
set_option linter.unusedVariables false
set_option maxRecDepth 100000

def tnDown : Ans
  | [.nilp] => some (.bool true)
  | _ => none
def tnZero : Ans
  | [.nilp] => some (.int .i64 0)
  | _ => none
def tnLasts : Ans
  | [.nilp, .int .i64 _] => some (.agg z64)
  | _ => none
def tnFuse : Ans
  | [.nilp, .int .i64 _] => some (.tuple [])
  | _ => none
def tnHas : Ans
  | [.nilp, .int .i64 _] => some (.int .i64 5)
  | _ => none
def tnRead : Ans
  | [.nilp, .int .i64 _] => some (.tuple [.agg z64, .int .i64 5])
  | _ => none
def tnWrite : Ans
  | [.nilp, .int .i64 _, .agg _] => some (.int .i64 5)
  | _ => none
theorem okNDown : SpOk FF E2 19 tnDown := by
  intro args v h hpl
  unfold tnDown at h
  split at h
  · cases h
    exact ⟨rfl, none, Den_of hxE2 (k := 100) (by kernel_rfl)⟩
  · cases h
theorem okNPages : SpOk FF E2 27 tnZero := by
  intro args v h hpl
  unfold tnZero at h
  split at h
  · cases h
    exact ⟨rfl, none, Den_of hxE2 (k := 100) (by kernel_rfl)⟩
  · cases h
theorem okNCached : SpOk FF E2 15 tnZero := by
  intro args v h hpl
  unfold tnZero at h
  split at h
  · cases h
    exact ⟨rfl, none, Den_of hxE2 (k := 100) (by kernel_rfl)⟩
  · cases h
theorem okNLasts : SpOk FF E2 14 tnLasts := by
  intro args v h hpl
  unfold tnLasts at h
  split at h
  · rename_i n
    cases h
    exact ⟨rfl, none, Den_of hxE2 (k := 100) (by kernel_rfl)⟩
  · cases h
theorem okNFuse : SpOk FF E2 18 tnFuse := by
  intro args v h hpl
  unfold tnFuse at h
  split at h
  · rename_i n
    cases h
    exact ⟨rfl, none, Den_of hxE2 (k := 100) (by kernel_rfl)⟩
  · cases h
theorem okNHas : SpOk FF E2 48 tnHas := by
  intro args v h hpl
  unfold tnHas at h
  split at h
  · rename_i n
    cases h
    exact ⟨rfl, none, Den_of hxE2 (k := 100) (by kernel_rfl)⟩
  · cases h
theorem okNRead : SpOk FF E2 17 tnRead := by
  intro args v h hpl
  unfold tnRead at h
  split at h
  · rename_i n
    cases h
    exact ⟨rfl, none, Den_of hxE2 (k := 100) (by kernel_rfl)⟩
  · cases h
theorem okNWrite : SpOk FF E2 13 tnWrite := by
  intro args v h hpl
  unfold tnWrite at h
  split at h
  · rename_i n p
    cases h
    exact ⟨rfl, none, Den_of hxE2 (k := 100) (by kernel_rfl)⟩
  · cases h
def g3 : Nat → Option Ans := addG g2 [(19, tnDown), (27, tnZero), (15, tnZero), (14, tnLasts), (18, tnFuse), (17, tnRead), (13, tnWrite)]
def E3 : ExtF := extH g3 t1
theorem hxE3 : ExtMono E3 := extH_mono g3 t1
theorem plE3 : ExtSound Try.prog (plainExt g3) := addH_sound mixed ffok sndE2 plE2 (by
  intro p hp
  simp only [List.mem_cons, List.not_mem_nil, or_false] at hp
  rcases hp with rfl | rfl | rfl | rfl | rfl | rfl | rfl
  · exact okNDown
  · exact okNPages
  · exact okNCached
  · exact okNLasts
  · exact okNFuse
  · exact okNRead
  · exact okNWrite)
theorem sndE3 : ExtSound Try.prog E3 := extH_sound plE3 ok1
theorem E3_none {f : Nat} (h : g3 f = none) (h' : t1 f = none := by rfl) (c : CallF) : E3 c f = none := extH_none h h' c
theorem eAwake03_3 (_ : Unit) (h : Heap) : Den FF E3 11 [] h = some (.val (.bool true), none) := denH_plain (sp := tAwake) h rfl (by rfl) (by first | (simp [V.plains, V.plain, bytesA_plains]; done) | rfl)
theorem eAwake05_3 (_ : Unit) (h : Heap) : Den FF E3 29 [] h = some (.val (.bool true), none) := denH_plain (sp := tAwake) h rfl (by rfl) (by first | (simp [V.plains, V.plain, bytesA_plains]; done) | rfl)
theorem eAwake06_3 (_ : Unit) (h : Heap) : Den FF E3 34 [] h = some (.val (.bool true), none) := denH_plain (sp := tAwake) h rfl (by rfl) (by first | (simp [V.plains, V.plain, bytesA_plains]; done) | rfl)
theorem enDown_3 (_ : Unit) (h : Heap) : Den FF E3 19 [.nilp] h = some (.val (.bool true), none) := denH_plain (sp := tnDown) h rfl (by rfl) (by first | (simp [V.plains, V.plain, bytesA_plains]; done) | rfl)
theorem enPages_3 (_ : Unit) (h : Heap) : Den FF E3 27 [.nilp] h = some (.val (.int .i64 0), none) := denH_plain (sp := tnZero) h rfl (by rfl) (by first | (simp [V.plains, V.plain, bytesA_plains]; done) | rfl)
theorem enCached_3 (_ : Unit) (h : Heap) : Den FF E3 15 [.nilp] h = some (.val (.int .i64 0), none) := denH_plain (sp := tnZero) h rfl (by rfl) (by first | (simp [V.plains, V.plain, bytesA_plains]; done) | rfl)
theorem enLasts_3 (n : Int) (h : Heap) : Den FF E3 14 [.nilp, .int .i64 n] h = some (.val (.agg z64), none) := denH_plain (sp := tnLasts) h rfl (by rfl) (by first | (simp [V.plains, V.plain, bytesA_plains]; done) | rfl)
theorem enFuse_3 (n : Int) (h : Heap) : Den FF E3 18 [.nilp, .int .i64 n] h = some (.val (.tuple []), none) := denH_plain (sp := tnFuse) h rfl (by rfl) (by first | (simp [V.plains, V.plain, bytesA_plains]; done) | rfl)
theorem enRead_3 (n : Int) (h : Heap) : Den FF E3 17 [.nilp, .int .i64 n] h = some (.val (.tuple [.agg z64, .int .i64 5]), none) := denH_plain (sp := tnRead) h rfl (by rfl) (by first | (simp [V.plains, V.plain, bytesA_plains]; done) | rfl)
theorem enWrite_3 (n : Int) (p : List UInt8) (h : Heap) : Den FF E3 13 [.nilp, .int .i64 n, .agg (bytesA p)] h = some (.val (.int .i64 5), none) := denH_plain (sp := tnWrite) h rfl (by rfl) (by first | (simp [V.plains, V.plain, bytesA_plains]; done) | rfl)
end Go.Proofs.Ytfbkeieoeagkdaa

/- Disk: the law of a disk that isn't there. -/
namespace Go.Proofs.Ytfbkeieoeagkdaa
open Go AM
set_option linter.unusedSimpArgs false
set_option linter.unusedVariables false
set_option maxRecDepth 100000

theorem z64_len : z64.length = 64 := rfl
theorem z64_drop : List.drop 64 z64 = [] := rfl
theorem z64_take : List.take 64 z64 = z64 := rfl
theorem z64_one : z64.all V.one = true := rfl
theorem z64_plains : V.plains z64 = true := rfl
theorem z64_eqk : eqKs (kdsOf [(64, .i)]) z64 z64 = some true := rfl
theorem crash_nil (v : V) (h : Heap) : Den FF E3 20 [.nilp, v] h = some (.val (.tuple []), none) := by
  refine To.den hxE3 (f := 20) (a := af20) rfl (E3_none rfl) (Nat.le_of_ble_eq_true rfl) ?_
  (repeat' (first | refine To.seq hxE3 ?_ | refine To.op0 hxE3 (by simp only [go_sem, eqs hxE3, reduceIte, Nat.reduceEqDiff, Nat.reduceAdd, Nat.reduceMul, Nat.reduceLT, Nat.reduceLeDiff, Int.reduceLT, Int.reduceLE, Int.reduceEq, reduceCtorEq, Int.reduceBEq, Int.reduceBNe, Int.reduceToNat, Nat.reduceSub, Nat.reduceDiv, Int.reduceNeg, Int.reduceAdd, Int.reduceSub, Int.reduceMul]; rfl) ?_ | refine To.op1 hxE3 (by simp only [go_sem, eqs hxE3, reduceIte, Nat.reduceEqDiff, Nat.reduceAdd, Nat.reduceMul, Nat.reduceLT, Nat.reduceLeDiff, Int.reduceLT, Int.reduceLE, Int.reduceEq, reduceCtorEq, Int.reduceBEq, Int.reduceBNe, Int.reduceToNat, Nat.reduceSub, Nat.reduceDiv, Int.reduceNeg, Int.reduceAdd, Int.reduceSub, Int.reduceMul]; rfl) ?_ | refine To.nop hxE3 ?_ | (refine To.condT hxE3 ?_ ?_; focus (simp only [go_sem, eqs hxE3, reduceIte, Nat.reduceEqDiff, Nat.reduceAdd, Nat.reduceMul, Nat.reduceLT, Nat.reduceLeDiff, Int.reduceLT, Int.reduceLE, Int.reduceEq, reduceCtorEq, Int.reduceBEq, Int.reduceBNe, Int.reduceToNat, Nat.reduceSub, Nat.reduceDiv, Int.reduceNeg, Int.reduceAdd, Int.reduceSub, Int.reduceMul]; done)) | (refine To.condF hxE3 ?_ ?_; focus (simp only [go_sem, eqs hxE3, reduceIte, Nat.reduceEqDiff, Nat.reduceAdd, Nat.reduceMul, Nat.reduceLT, Nat.reduceLeDiff, Int.reduceLT, Int.reduceLE, Int.reduceEq, reduceCtorEq, Int.reduceBEq, Int.reduceBNe, Int.reduceToNat, Nat.reduceSub, Nat.reduceDiv, Int.reduceNeg, Int.reduceAdd, Int.reduceSub, Int.reduceMul]; done)) | refine To.block hxE3 ?_ | refine To.scope hxE3 ?_ | refine To.ret hxE3 ?_ | refine To.exit hxE3 ?_ | refine To.skip hxE3 ?_ | refine To.label hxE3 ?_))
  simp only [andThen, outOf]
  rw [fin0 rfl, leave_plain (Kp.enter h) rfl]
theorem flush_nilE (h : Heap) : Den FF E3 16 [.nilp] h = some (.val (.int .i64 5), none) := den_hand rfl rfl rfl

set_option maxHeartbeats 4000000 in
theorem lawNone (o : List AM.Obj) (n : Int) (p : List UInt8) (hp : p.length = 64) : ∃ r oh, Den FF E3 6 [.int .i64 n, .agg (bytesA p)] ⟨o, 0, 0⟩ = some (r, oh) ∧ r = .val (.bool true) := by
  refine To.denE hxE3 (f := 6) (a := af6) rfl (E3_none rfl) (Nat.le_of_ble_eq_true rfl) ?_
  have htk : List.take 64 (bytesA p) = bytesA p := List.take_of_length_le (by rw [bytesA_length]; omega)
  (repeat' (first | refine To.seq hxE3 ?_ | refine To.op0 hxE3 (by simp only [go_sem, eqs hxE3, reduceIte, Nat.reduceEqDiff, Nat.reduceAdd, Nat.reduceMul, Nat.reduceLT, Nat.reduceLeDiff, Int.reduceLT, Int.reduceLE, Int.reduceEq, reduceCtorEq, Int.reduceBEq, Int.reduceBNe, Int.reduceToNat, Nat.reduceSub, Nat.reduceDiv, Int.reduceNeg, Int.reduceAdd, Int.reduceSub, Int.reduceMul, Heap.gets, Heap.sets, Heap.get, bytesA_length, bytesA_one, bytesA_plains, List.take_of_length_le, List.drop_of_length_le, Nat.add_zero, V.one, Nat.reduceLeDiff, List.all_cons, List.all_nil, ne_eq, not_false_eq_true, Nat.zero_le, eAwake03_3 (), enDown_3 (), enPages_3 (), enCached_3 (), enLasts_3, enFuse_3, enRead_3, enWrite_3, crash_nil, flush_nilE, z64_len, z64_drop, z64_take, z64_one, z64_plains, z64_eqk, hp, htk]; rfl) ?_ | refine To.op1 hxE3 (by simp only [go_sem, eqs hxE3, reduceIte, Nat.reduceEqDiff, Nat.reduceAdd, Nat.reduceMul, Nat.reduceLT, Nat.reduceLeDiff, Int.reduceLT, Int.reduceLE, Int.reduceEq, reduceCtorEq, Int.reduceBEq, Int.reduceBNe, Int.reduceToNat, Nat.reduceSub, Nat.reduceDiv, Int.reduceNeg, Int.reduceAdd, Int.reduceSub, Int.reduceMul, Heap.gets, Heap.sets, Heap.get, bytesA_length, bytesA_one, bytesA_plains, List.take_of_length_le, List.drop_of_length_le, Nat.add_zero, V.one, Nat.reduceLeDiff, List.all_cons, List.all_nil, ne_eq, not_false_eq_true, Nat.zero_le, eAwake03_3 (), enDown_3 (), enPages_3 (), enCached_3 (), enLasts_3, enFuse_3, enRead_3, enWrite_3, crash_nil, flush_nilE, z64_len, z64_drop, z64_take, z64_one, z64_plains, z64_eqk, hp, htk]; rfl) ?_ | refine To.nop hxE3 ?_ | (refine To.condT hxE3 ?_ ?_; focus (simp only [go_sem, eqs hxE3, reduceIte, Nat.reduceEqDiff, Nat.reduceAdd, Nat.reduceMul, Nat.reduceLT, Nat.reduceLeDiff, Int.reduceLT, Int.reduceLE, Int.reduceEq, reduceCtorEq, Int.reduceBEq, Int.reduceBNe, Int.reduceToNat, Nat.reduceSub, Nat.reduceDiv, Int.reduceNeg, Int.reduceAdd, Int.reduceSub, Int.reduceMul, Heap.gets, Heap.sets, Heap.get, bytesA_length, bytesA_one, bytesA_plains, List.take_of_length_le, List.drop_of_length_le, Nat.add_zero, V.one, Nat.reduceLeDiff, List.all_cons, List.all_nil, ne_eq, not_false_eq_true, Nat.zero_le, eAwake03_3 (), enDown_3 (), enPages_3 (), enCached_3 (), enLasts_3, enFuse_3, enRead_3, enWrite_3, crash_nil, flush_nilE, z64_len, z64_drop, z64_take, z64_one, z64_plains, z64_eqk, hp, htk]; done)) | (refine To.condF hxE3 ?_ ?_; focus (simp only [go_sem, eqs hxE3, reduceIte, Nat.reduceEqDiff, Nat.reduceAdd, Nat.reduceMul, Nat.reduceLT, Nat.reduceLeDiff, Int.reduceLT, Int.reduceLE, Int.reduceEq, reduceCtorEq, Int.reduceBEq, Int.reduceBNe, Int.reduceToNat, Nat.reduceSub, Nat.reduceDiv, Int.reduceNeg, Int.reduceAdd, Int.reduceSub, Int.reduceMul, Heap.gets, Heap.sets, Heap.get, bytesA_length, bytesA_one, bytesA_plains, List.take_of_length_le, List.drop_of_length_le, Nat.add_zero, V.one, Nat.reduceLeDiff, List.all_cons, List.all_nil, ne_eq, not_false_eq_true, Nat.zero_le, eAwake03_3 (), enDown_3 (), enPages_3 (), enCached_3 (), enLasts_3, enFuse_3, enRead_3, enWrite_3, crash_nil, flush_nilE, z64_len, z64_drop, z64_take, z64_one, z64_plains, z64_eqk, hp, htk]; done)) | refine To.block hxE3 ?_ | refine To.scope hxE3 ?_ | refine To.ret hxE3 ?_ | refine To.exit hxE3 ?_ | refine To.skip hxE3 ?_ | refine To.label hxE3 ?_))
  refine ⟨_, _, fin1 (i := 4) rfl, ?_⟩
  simp only [go_sem, eqs hxE3, reduceIte, Nat.reduceEqDiff, Nat.reduceAdd, Nat.reduceMul, Nat.reduceLT, Nat.reduceLeDiff, Int.reduceLT, Int.reduceLE, Int.reduceEq, reduceCtorEq, Int.reduceBEq, Int.reduceBNe, Int.reduceToNat, Nat.reduceSub, Nat.reduceDiv, Int.reduceNeg, Int.reduceAdd, Int.reduceSub, Int.reduceMul]
end Go.Proofs.Ytfbkeieoeagkdaa

/- Store: a store that isn't there. -/
namespace Go.Proofs.Ytfbkeieoeagkdaa
open Go AM
set_option linter.unusedSimpArgs false
set_option linter.unusedVariables false
set_option maxRecDepth 100000

def tsDrop : Ans
  | [.nilp] => some (.tuple [])
  | _ => none
def tsErr : Ans
  | [.nilp] => some (.int .i64 5)
  | _ => none
def tsRoom : Ans
  | [.int .i64 0] => some (.int .i64 0)
  | _ => none
theorem okSRead : SpOk FF E2 36 tnRead := by
  intro args v h hpl
  unfold tnRead at h
  split at h
  · rename_i n
    cases h
    exact ⟨rfl, none, Den_of hxE2 (k := 100) (by kernel_rfl)⟩
  · cases h
theorem okSPut : SpOk FF E2 37 tnWrite := by
  intro args v h hpl
  unfold tnWrite at h
  split at h
  · rename_i n p
    cases h
    exact ⟨rfl, none, Den_of hxE2 (k := 100) (by kernel_rfl)⟩
  · cases h
theorem okSDrop : SpOk FF E2 35 tsDrop := by
  intro args v h hpl
  unfold tsDrop at h
  split at h
  · cases h
    exact ⟨rfl, none, Den_of hxE2 (k := 100) (by kernel_rfl)⟩
  · cases h
theorem okSKeep : SpOk FF E2 38 tsErr := by
  intro args v h hpl
  unfold tsErr at h
  split at h
  · cases h
    exact ⟨rfl, none, Den_of hxE2 (k := 100) (by kernel_rfl)⟩
  · cases h
theorem okSSync : SpOk FF E2 39 tsErr := by
  intro args v h hpl
  unfold tsErr at h
  split at h
  · cases h
    exact ⟨rfl, none, Den_of hxE2 (k := 100) (by kernel_rfl)⟩
  · cases h
theorem okSStep : SpOk FF E2 40 tnZero := by
  intro args v h hpl
  unfold tnZero at h
  split at h
  · cases h
    exact ⟨rfl, none, Den_of hxE2 (k := 100) (by kernel_rfl)⟩
  · cases h
theorem okSGroup : SpOk FF E2 41 tnZero := by
  intro args v h hpl
  unfold tnZero at h
  split at h
  · cases h
    exact ⟨rfl, none, Den_of hxE2 (k := 100) (by kernel_rfl)⟩
  · cases h
theorem okSOver : SpOk FF E2 42 tnDown := by
  intro args v h hpl
  unfold tnDown at h
  split at h
  · cases h
    exact ⟨rfl, none, Den_of hxE2 (k := 100) (by kernel_rfl)⟩
  · cases h
set_option maxHeartbeats 4000000 in
theorem okSRoom : SpOk FF E2 43 tsRoom := by
  intro args v h hpl
  unfold tsRoom at h
  split at h
  · cases h
    exact ⟨rfl, none, Den_of hxE2 (k := 700) (by kernel_rfl)⟩
  · cases h
def g4 : Nat → Option Ans := addG g2 [(36, tnRead), (37, tnWrite), (35, tsDrop), (38, tsErr), (39, tsErr), (40, tnZero), (41, tnZero), (42, tnDown), (43, tsRoom)]
def E4 : ExtF := extH g4 t1
theorem hxE4 : ExtMono E4 := extH_mono g4 t1
theorem plE4 : ExtSound Try.prog (plainExt g4) := addH_sound mixed ffok sndE2 plE2 (by
  intro p hp
  simp only [List.mem_cons, List.not_mem_nil, or_false] at hp
  rcases hp with rfl | rfl | rfl | rfl | rfl | rfl | rfl | rfl | rfl
  · exact okSRead
  · exact okSPut
  · exact okSDrop
  · exact okSKeep
  · exact okSSync
  · exact okSStep
  · exact okSGroup
  · exact okSOver
  · exact okSRoom)
theorem sndE4 : ExtSound Try.prog E4 := extH_sound plE4 ok1
theorem E4_none {f : Nat} (h : g4 f = none) (h' : t1 f = none := by rfl) (c : CallF) : E4 c f = none := extH_none h h' c
theorem eAwake03_4 (_ : Unit) (h : Heap) : Den FF E4 11 [] h = some (.val (.bool true), none) := denH_plain (sp := tAwake) h rfl (by rfl) (by first | (simp [V.plains, V.plain, bytesA_plains]; done) | rfl)
theorem eAwake05_4 (_ : Unit) (h : Heap) : Den FF E4 29 [] h = some (.val (.bool true), none) := denH_plain (sp := tAwake) h rfl (by rfl) (by first | (simp [V.plains, V.plain, bytesA_plains]; done) | rfl)
theorem eAwake06_4 (_ : Unit) (h : Heap) : Den FF E4 34 [] h = some (.val (.bool true), none) := denH_plain (sp := tAwake) h rfl (by rfl) (by first | (simp [V.plains, V.plain, bytesA_plains]; done) | rfl)
theorem esRead_4 (n : Int) (h : Heap) : Den FF E4 36 [.nilp, .int .i64 n] h = some (.val (.tuple [.agg z64, .int .i64 5]), none) := denH_plain (sp := tnRead) h rfl (by rfl) (by first | (simp [V.plains, V.plain, bytesA_plains]; done) | rfl)
theorem esPut_4 (n : Int) (p : List UInt8) (h : Heap) : Den FF E4 37 [.nilp, .int .i64 n, .agg (bytesA p)] h = some (.val (.int .i64 5), none) := denH_plain (sp := tnWrite) h rfl (by rfl) (by first | (simp [V.plains, V.plain, bytesA_plains]; done) | rfl)
theorem esDrop_4 (_ : Unit) (h : Heap) : Den FF E4 35 [.nilp] h = some (.val (.tuple []), none) := denH_plain (sp := tsDrop) h rfl (by rfl) (by first | (simp [V.plains, V.plain, bytesA_plains]; done) | rfl)
theorem esKeep_4 (_ : Unit) (h : Heap) : Den FF E4 38 [.nilp] h = some (.val (.int .i64 5), none) := denH_plain (sp := tsErr) h rfl (by rfl) (by first | (simp [V.plains, V.plain, bytesA_plains]; done) | rfl)
theorem esSync_4 (_ : Unit) (h : Heap) : Den FF E4 39 [.nilp] h = some (.val (.int .i64 5), none) := denH_plain (sp := tsErr) h rfl (by rfl) (by first | (simp [V.plains, V.plain, bytesA_plains]; done) | rfl)
theorem esStep_4 (_ : Unit) (h : Heap) : Den FF E4 40 [.nilp] h = some (.val (.int .i64 0), none) := denH_plain (sp := tnZero) h rfl (by rfl) (by first | (simp [V.plains, V.plain, bytesA_plains]; done) | rfl)
theorem esGroup_4 (_ : Unit) (h : Heap) : Den FF E4 41 [.nilp] h = some (.val (.int .i64 0), none) := denH_plain (sp := tnZero) h rfl (by rfl) (by first | (simp [V.plains, V.plain, bytesA_plains]; done) | rfl)
theorem esOver_4 (_ : Unit) (h : Heap) : Den FF E4 42 [.nilp] h = some (.val (.bool true), none) := denH_plain (sp := tnDown) h rfl (by rfl) (by first | (simp [V.plains, V.plain, bytesA_plains]; done) | rfl)
theorem esRoom_4 (_ : Unit) (h : Heap) : Den FF E4 43 [.int .i64 0] h = some (.val (.int .i64 0), none) := denH_plain (sp := tsRoom) h rfl (by rfl) (by first | (simp [V.plains, V.plain, bytesA_plains]; done) | rfl)

set_option maxHeartbeats 4000000 in
theorem lawStoreNone (o : List AM.Obj) (n : Int) (p : List UInt8) (hp : p.length = 64) : ∃ r oh, Den FF E4 8 [.int .i64 n, .agg (bytesA p)] ⟨o, 0, 0⟩ = some (r, oh) ∧ r = .val (.bool true) := by
  refine To.denE hxE4 (f := 8) (a := af8) rfl (E4_none rfl) (Nat.le_of_ble_eq_true rfl) ?_
  have htk : List.take 64 (bytesA p) = bytesA p := List.take_of_length_le (by rw [bytesA_length]; omega)
  (repeat' (first | refine To.seq hxE4 ?_ | refine To.op0 hxE4 (by simp only [go_sem, eqs hxE4, reduceIte, Nat.reduceEqDiff, Nat.reduceAdd, Nat.reduceMul, Nat.reduceLT, Nat.reduceLeDiff, Int.reduceLT, Int.reduceLE, Int.reduceEq, reduceCtorEq, Int.reduceBEq, Int.reduceBNe, Int.reduceToNat, Nat.reduceSub, Nat.reduceDiv, Int.reduceNeg, Int.reduceAdd, Int.reduceSub, Int.reduceMul, Heap.gets, Heap.sets, Heap.get, bytesA_length, bytesA_one, bytesA_plains, List.take_of_length_le, List.drop_of_length_le, Nat.add_zero, V.one, Nat.reduceLeDiff, List.all_cons, List.all_nil, ne_eq, not_false_eq_true, Nat.zero_le, eAwake06_4 (), esRead_4, esPut_4, esDrop_4 (), esKeep_4 (), esSync_4 (), esStep_4 (), esGroup_4 (), esOver_4 (), esRoom_4 (), z64_len, z64_drop, z64_take, z64_one, z64_plains, z64_eqk, hp, htk]; rfl) ?_ | refine To.op1 hxE4 (by simp only [go_sem, eqs hxE4, reduceIte, Nat.reduceEqDiff, Nat.reduceAdd, Nat.reduceMul, Nat.reduceLT, Nat.reduceLeDiff, Int.reduceLT, Int.reduceLE, Int.reduceEq, reduceCtorEq, Int.reduceBEq, Int.reduceBNe, Int.reduceToNat, Nat.reduceSub, Nat.reduceDiv, Int.reduceNeg, Int.reduceAdd, Int.reduceSub, Int.reduceMul, Heap.gets, Heap.sets, Heap.get, bytesA_length, bytesA_one, bytesA_plains, List.take_of_length_le, List.drop_of_length_le, Nat.add_zero, V.one, Nat.reduceLeDiff, List.all_cons, List.all_nil, ne_eq, not_false_eq_true, Nat.zero_le, eAwake06_4 (), esRead_4, esPut_4, esDrop_4 (), esKeep_4 (), esSync_4 (), esStep_4 (), esGroup_4 (), esOver_4 (), esRoom_4 (), z64_len, z64_drop, z64_take, z64_one, z64_plains, z64_eqk, hp, htk]; rfl) ?_ | refine To.nop hxE4 ?_ | (refine To.condT hxE4 ?_ ?_; focus (simp only [go_sem, eqs hxE4, reduceIte, Nat.reduceEqDiff, Nat.reduceAdd, Nat.reduceMul, Nat.reduceLT, Nat.reduceLeDiff, Int.reduceLT, Int.reduceLE, Int.reduceEq, reduceCtorEq, Int.reduceBEq, Int.reduceBNe, Int.reduceToNat, Nat.reduceSub, Nat.reduceDiv, Int.reduceNeg, Int.reduceAdd, Int.reduceSub, Int.reduceMul, Heap.gets, Heap.sets, Heap.get, bytesA_length, bytesA_one, bytesA_plains, List.take_of_length_le, List.drop_of_length_le, Nat.add_zero, V.one, Nat.reduceLeDiff, List.all_cons, List.all_nil, ne_eq, not_false_eq_true, Nat.zero_le, eAwake06_4 (), esRead_4, esPut_4, esDrop_4 (), esKeep_4 (), esSync_4 (), esStep_4 (), esGroup_4 (), esOver_4 (), esRoom_4 (), z64_len, z64_drop, z64_take, z64_one, z64_plains, z64_eqk, hp, htk]; done)) | (refine To.condF hxE4 ?_ ?_; focus (simp only [go_sem, eqs hxE4, reduceIte, Nat.reduceEqDiff, Nat.reduceAdd, Nat.reduceMul, Nat.reduceLT, Nat.reduceLeDiff, Int.reduceLT, Int.reduceLE, Int.reduceEq, reduceCtorEq, Int.reduceBEq, Int.reduceBNe, Int.reduceToNat, Nat.reduceSub, Nat.reduceDiv, Int.reduceNeg, Int.reduceAdd, Int.reduceSub, Int.reduceMul, Heap.gets, Heap.sets, Heap.get, bytesA_length, bytesA_one, bytesA_plains, List.take_of_length_le, List.drop_of_length_le, Nat.add_zero, V.one, Nat.reduceLeDiff, List.all_cons, List.all_nil, ne_eq, not_false_eq_true, Nat.zero_le, eAwake06_4 (), esRead_4, esPut_4, esDrop_4 (), esKeep_4 (), esSync_4 (), esStep_4 (), esGroup_4 (), esOver_4 (), esRoom_4 (), z64_len, z64_drop, z64_take, z64_one, z64_plains, z64_eqk, hp, htk]; done)) | refine To.block hxE4 ?_ | refine To.scope hxE4 ?_ | refine To.ret hxE4 ?_ | refine To.exit hxE4 ?_ | refine To.skip hxE4 ?_ | refine To.label hxE4 ?_))
  refine ⟨_, _, fin1 (i := 4) rfl, ?_⟩
  simp only [go_sem, eqs hxE4, reduceIte, Nat.reduceEqDiff, Nat.reduceAdd, Nat.reduceMul, Nat.reduceLT, Nat.reduceLeDiff, Int.reduceLT, Int.reduceLE, Int.reduceEq, reduceCtorEq, Int.reduceBEq, Int.reduceBNe, Int.reduceToNat, Nat.reduceSub, Nat.reduceDiv, Int.reduceNeg, Int.reduceAdd, Int.reduceSub, Int.reduceMul]
end Go.Proofs.Ytfbkeieoeagkdaa

