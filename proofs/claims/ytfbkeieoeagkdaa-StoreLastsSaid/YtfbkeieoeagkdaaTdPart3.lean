/- Own texts, joined: TdJnk, TdJnl, TdJnm, TdSta, TdStb, TdStc, TdStd, TdSte, TdStf, TdSti, TdStj, TdJnn, TdJno, TdStg, TdJsp, TdJsq, TdJsr, TdStk, TdStl. -/
import Derived.Test.YtfbkeieoeagkdaaTdPart2
/- Journal: what a Live head tells of. -/
namespace Go.Proofs.Ytfbkeieoeagkdaa
open Go AM
set_option linter.unusedSimpArgs false
set_option linter.unusedVariables false
set_option maxRecDepth 100000

theorem roomF_fits (size : Int) : ∀ k n, roomF size k n = n ∨ 1 + (listsN (roomF size k n) : Int) + (roomF size k n : Int) ≤ size
  | 0, n => .inl rfl
  | k + 1, n => by
    unfold roomF
    split
    · rename_i h
      rcases roomF_fits size k (n + 1) with h1 | h1
      · rw [h1]; right; omega
      · exact .inr h1
    · exact .inl rfl
theorem room_fits {s c : Nat} (h : c ≤ roomJ s) (h1 : 1 ≤ c) : 1 + listsN c + c ≤ s := by
  rcases roomF_fits s 512 0 with h2 | h2
  · unfold roomJ at h; omega
  · have : listsN c ≤ listsN (roomJ s) := by unfold listsN; omega
    unfold roomJ at h this
    omega
def allP (st : DSt) (a k : Nat) : List Pg := (List.range k).map fun i => readP false st.pgs st.ca ((a + 1 + i : Nat) : Int)
def foundL (all : List Pg) (n cnt : Nat) : List (Int × Pg) := (List.range cnt).map fun i => ((getK (all.getD (i / 32) []) (i % 32 * 2) 2 : Int), all.getD (n + i) [])
def foundE (st : DSt) (a s cnt : Nat) (sm : Int) : Option (List (Int × Pg)) :=
  if roomJ s < cnt then none
  else if (foundL (allP st a (listsN cnt + cnt)) (listsN cnt) cnt).all (fun c => mayB st.pgs.length a s c.1) = true then
    (if (sumP (allP st a (listsN cnt + cnt)) : Int) = sm then some (foundL (allP st a (listsN cnt + cnt)) (listsN cnt) cnt) else none)
  else none
theorem allP_succ (st : DSt) (a k : Nat) : allP st a (k + 1) = allP st a k ++ [readP false st.pgs st.ca ((a + 1 + k : Nat) : Int)] := by
  unfold allP
  rw [List.range_succ, List.map_append]; rfl
theorem allP_len (st : DSt) (a k : Nat) : (allP st a k).length = k := by simp [allP]
theorem foundL_succ (all : List Pg) (n k : Nat) : foundL all n (k + 1) = foundL all n k ++ [((getK (all.getD (k / 32) []) (k % 32 * 2) 2 : Int), all.getD (n + k) [])] := by
  unfold foundL
  rw [List.range_succ, List.map_append]; rfl
theorem foundL_len (all : List Pg) (n k : Nat) : (foundL all n k).length = k := by simp [foundL]
theorem foundL_take (all : List Pg) (n : Nat) {i k : Nat} (h : i ≤ k) : (foundL all n k).take i = foundL all n i := by
  unfold foundL
  rw [← List.map_take, List.take_range, Nat.min_eq_left h]
section
variable {o : List AM.Obj} {e d dd pg lm : Nat} {on : Bool} {left : Int} {pgs : List Pg} {ca : List (Nat × Pg)}
theorem allP_64 (P : PD o dd pg lm on false left pgs ca) {a k : Nat} (h : a + 1 + k ≤ pgs.length) : ∀ p ∈ allP ⟨false, left, pgs, ca⟩ a k, p.length = 64 := by
  intro p hp
  obtain ⟨i, hi, rfl⟩ := List.mem_map.1 hp
  have hi := List.mem_range.1 hi
  exact readP_64 P (a + 1 + i) (by omega)
/-- What found gives back. -/
def FoundR (o : List AM.Obj) (e d : Nat) (r : Out) (oh : Option Heap) (x : Option (List (Int × Pg))) : Prop :=
  ∃ v rr e' d', r = .val (.tuple [v, .int .i64 (if x.isSome = true then 0 else 5)]) ∧ Gr o e d oh rr e' d' ∧ ∀ cs, x = some cs → ChRow (o ++ rr) v cs
theorem fin_found {S : Nat → V} {r1 : List AM.Obj} {d1 : Nat} {v : V} {x : Option (List (Int × Pg))} (h4 : S 4 = v) (h5 : S 5 = .int .i64 (if x.isSome = true then 0 else 5)) (hd : o.length ≤ d1) (hv : v.plain = true → ∀ cs, x = some cs → ChRow o v cs) (hv2 : v.plain = false → ∀ cs, x = some cs → ChRow (o ++ r1) v cs) :
    ∃ r oh, finish af74 ⟨o, e, d⟩ (some (.ret, S, ⟨o ++ r1, o.length, d1⟩)) = some (r, oh) ∧ FoundR o e d r oh x := by
  refine ⟨_, _, fin2 (i := 4) (j := 5) rfl, ?_⟩
  rw [h4, h5]
  obtain ⟨rr, e2, d2, hgr, hrr⟩ := leave_grow (o := o) (e := e) (d := d) (e' := o.length) (d' := d1) (rr := r1) (v := .tuple [v, .int .i64 (if x.isSome = true then 0 else 5)]) (fun _ => .inr hd) (Nat.le_refl _) hd
  refine ⟨v, rr, e2, d2, rfl, hgr, fun cs hcs => ?_⟩
  cases hp : v.plain
  · rw [hrr (by simp [V.plain, V.plains, hp])]
    exact hv2 hp cs hcs
  · exact (hv hp cs hcs).app rr
set_option maxHeartbeats 32000000 in
theorem found_x (P : PD o dd pg lm on false left pgs ca) {a s cnt : Nat} {sq : Int} {lv : Bool} {sm : Int} (hin : a + s ≤ pgs.length) (hpl : pgs.length ≤ 100000) (hc1 : 1 ≤ cnt) (hc5 : cnt ≤ 512) :
    ∃ r oh, Den FF E2 74 [.agg (regV dd a s), .agg (headV sq lv cnt sm)] ⟨o, e, d⟩ = some (r, oh) ∧ FoundR o e d r oh (foundE ⟨false, left, pgs, ca⟩ a s cnt sm) := by
  refine To.denE hxE2 (f := 74) (a := af74) rfl (E2_none rfl) (Nat.le_of_ble_eq_true rfl) ?_
  have hL : listsN cnt ≤ 100 := by unfold listsN; omega
  have qr := fun r e d => room_q (o := o ++ r) (e := e) (d := d) (size := (s : Int))
  have ql := fun r e d => lists_q (o := o ++ r) (e := e) (d := d) (n := cnt) (by omega)
  have hrv : regV dd a s = [.ptr dd 0, .int .i64 (a : Int), .int .i64 (s : Int)] := rfl
  have hhv : headV sq lv cnt sm = [.int .i64 sq, .bool lv, .int .i64 (cnt : Int), .int .u32 sm] := rfl
  unfold foundE
  by_cases hroom : roomJ s < cnt
  · rw [if_pos hroom]
    have d1 : decide ((roomJ s : Int) < (cnt : Int)) = true := decide_eq_true (by omega)
    (repeat' (first | refine To.seq hxE2 ?_ | refine To.op0 hxE2 (by simp only [go_sem, reduceIte, seval, hrv, hhv]; rfl) ?_ | refine To.op1 hxE2 (by simp only [go_sem, reduceIte, seval, hrv, hhv]; rfl) ?_ | refine To.nop hxE2 ?_ | (refine To.condT hxE2 ?_ ?_; focus (simp only [go_sem, reduceIte, seval]; done)) | refine To.ret hxE2 ?_ | refine To.draw0 hxE2 ?_ | refine ToD.op0 (by simp only [go_sem, reduceIte, seval, Heap.get, Nat.add_zero, Nat.reduceLeDiff, qr, d1]; rfl) (by simp only [put_some]; rfl) ?_ | refine ToD.nop ?_))
    exact fin_found (v := .nils) (x := none) (by simp only [go_sem, reduceIte, seval]) (by simp only [go_sem, reduceIte, seval]; rfl) (by omega) (fun _ cs h => by cases h) (fun _ cs h => by cases h)
  rw [if_neg hroom]
  have d1 : decide ((roomJ s : Int) < (cnt : Int)) = false := decide_eq_false (by omega)
  have hfit := room_fits (s := s) (c := cnt) (by omega) hc1
  have wN : IntKind.i64.wrap ((listsN cnt : Int) + (cnt : Int)) = ((listsN cnt + cnt : Nat) : Int) := by rw [wrap_i64 (by omega) (by omega)]; omega
  have hst : ∀ k, allP ⟨false, left, pgs, ca⟩ a k = (List.range k).map fun i => readP false pgs ca ((a + 1 + i : Nat) : Int) := fun k => rfl
  (repeat' (first | refine To.seq hxE2 ?_ | refine To.op0 hxE2 (by simp only [go_sem, reduceIte, seval, Heap.get, hrv, hhv, ql, wN]; rfl) ?_ | refine To.op1 hxE2 (by simp only [go_sem, reduceIte, seval, hrv, hhv]; rfl) ?_ | refine To.nop hxE2 ?_ | (refine To.condF hxE2 ?_ ?_; focus (simp only [go_sem, reduceIte, seval]; done)) | refine To.block hxE2 ?_ | refine To.skip hxE2 ?_ | refine To.draw0 hxE2 ?_ | refine ToD.op0 (by simp only [go_sem, reduceIte, seval, Heap.get, Nat.add_zero, Nat.reduceLeDiff, qr, d1]; rfl) (by simp only [put_some]; rfl) ?_ | refine ToD.nop ?_))
  refine To.loop hxE2 (fun m S h' => ∃ (i d1 : Nat) (r : List AM.Obj) (v : V), i + m = listsN cnt + cnt ∧ h' = ⟨o ++ r, o.length, d1⟩ ∧ o.length ≤ d1 ∧ (o ++ r)[o.length]? = some (.cells .ex 100 0 [.ptr dd 0, .int .i64 (a : Int), .int .i64 (s : Int)]) ∧ (o ++ r)[o.length + 1]? = some (.cells .ex 103 0 [.int .i64 sq, .bool lv, .int .i64 (cnt : Int), .int .u32 sm]) ∧
    GrowX (o ++ r) o.length v 31 64 ((allP ⟨false, left, pgs, ca⟩ a i).map bytesA) ∧ S 2 = .ptr o.length 0 ∧ S 3 = .ptr (o.length + 1) 0 ∧ S 6 = .int .i64 (listsN cnt : Int) ∧ S 7 = v ∧ S 26 = .int .i64 ((listsN cnt + cnt : Nat) : Int) ∧ S 27 = .int .i64 (i : Int)) ?_ (listsN cnt + cnt) _ _ ?_
  · rintro m S _ ⟨i, d1', r, v, hm, rfl, hd, hreg, hhd, hG, s2, s3, s6, s7, s26, s27⟩
    by_cases hi : i < listsN cnt + cnt
    · have hlt : decide ((i : Int) < ((listsN cnt + cnt : Nat) : Int)) = true := decide_eq_true (by omega)
      have wi : IntKind.i64.wrap ((i : Int) + 1) = ((i + 1 : Nat) : Int) := by rw [wrap_i64 (by omega) (by omega)]; omega
      have w1 : IntKind.i64.wrap ((a : Int) + 1) = (a : Int) + 1 := wrap_i64 (by omega) (by omega)
      have w2 : IntKind.i64.wrap ((a : Int) + 1 + (i : Int)) = ((a + 1 + i : Nat) : Int) := by rw [wrap_i64 (by omega) (by omega)]; omega
      have q := fun e d => read_q (e := e) (d := d) (P.app r) ((a + 1 + i : Nat) : Int)
      have h0 : hasE false pgs.length ((a + 1 + i : Nat) : Int) = 0 := by unfold hasE; rw [if_neg (by simp), if_neg (by rintro (h | h) <;> omega)]
      have h64 := readP_64 P (a + 1 + i) (by omega)
      have hsu : allP ⟨false, left, pgs, ca⟩ a (i + 1) = allP ⟨false, left, pgs, ca⟩ a i ++ [readP false pgs ca ((a + 1 + i : Nat) : Int)] := allP_succ _ a i
      rw [h0] at q
      generalize readP false pgs ca ((a + 1 + i : Nat) : Int) = p at *
      have htk : List.take 64 (bytesA p) = bytesA p := List.take_of_length_le (by rw [bytesA_length]; omega)
      have hdr : List.drop 64 (bytesA p) = [] := List.drop_eq_nil_of_le (by rw [bytesA_length]; omega)
      have gb : ∀ x : AM.Obj, (o ++ (r ++ [x]))[o.length + r.length]? = some x := fun x => by
        rw [app_getk]; simp
      have gb2 : ∀ x y : AM.Obj, (o ++ (r ++ [x, y]))[o.length + (r.length + 1)]? = some y := fun x y => by
        rw [app_getk, app_getk]; rfl
      have hrows : ∀ y ∈ (allP ⟨false, left, pgs, ca⟩ a i).map bytesA, y.length = 64 := fun y hy => by
        obtain ⟨q, hq, rfl⟩ := List.mem_map.1 hy
        rw [bytesA_length]
        exact allP_64 P (by omega) q hq
      have hln : ((allP ⟨false, left, pgs, ca⟩ a i).map bytesA).length ≤ 1000 := by rw [List.length_map, allP_len]; omega
      obtain ⟨v', r', D', hA, hG', hD1, hD2, _, hkeep⟩ := grow1 (o := o) (r := r ++ [.cells .ex 31 0 (bytesA p), .cells .ex 31 0 (bytesA p)]) (b := 64) (by rw [← List.append_assoc]; exact hG.app) (by decide) hrows (x := bytesA p) (by rw [bytesA_length]; exact h64) (room_small (by omega) (by decide)) (room_small (by decide) (by decide)) o.length (min d1' (o.length + r.length))
      have hreg' := hkeep o.length _ _ _ (by rw [← List.append_assoc]; exact app_old hreg _) (by decide)
      have hhd' := hkeep (o.length + 1) _ _ _ (by rw [← List.append_assoc]; exact app_old hhd _) (by decide)
      (repeat' (first | refine To.seq hxE2 ?_ | refine To.op0 hxE2 (by simp only [go_sem, reduceIte, seval, Heap.gets, Heap.sets, Heap.get, bytesA_length, bytesA_one, bytesA_plains, List.take_of_length_le, Nat.add_zero, ne_eq, not_false_eq_true, Nat.zero_le, s2, s7, s26, s27, hlt, wi, w1, w2, hreg, q, h64, gb, gb2, hA, bne_self_eq_false, z64_len, z64_drop, List.append_nil]; rfl) ?_ | refine To.op1 hxE2 (by simp only [go_sem, reduceIte, seval, Heap.gets, Heap.sets, bytesA_length, bytesA_one, bytesA_plains, List.take_of_length_le, ne_eq, not_false_eq_true, Nat.zero_le, h64, gb, gb2, hA, z64_len, z64_drop, List.append_nil]; rfl) ?_ | refine To.nop hxE2 ?_ | (refine To.condT hxE2 ?_ ?_; focus (simp only [go_sem, reduceIte, seval]; done)) | (refine To.condF hxE2 ?_ ?_; focus (simp only [go_sem, reduceIte, seval]; done)) | refine To.block hxE2 ?_ | refine To.skip hxE2 ?_))
      try simp only [andThen]
      refine ⟨m - 1, by omega, i + 1, D', r', v', by omega, rfl, by omega, hreg', hhd', ?_, ?_⟩
      · rw [hsu, List.map_append]; exact hG'
      · simp only [go_sem, reduceIte, seval, s2, s3, s6, s26]
    · have hlt : decide ((i : Int) < ((listsN cnt + cnt : Nat) : Int)) = false := decide_eq_false (by omega)
      obtain rfl : i = listsN cnt + cnt := by omega
      have hall64 := allP_64 P (a := a) (k := listsN cnt + cnt) (by omega)
      have halen := allP_len ⟨false, left, pgs, ca⟩ a (listsN cnt + cnt)
      generalize hall : allP ⟨false, left, pgs, ca⟩ a (listsN cnt + cnt) = all at *
      obtain ⟨mm, ck, rfl, hmm, hmb⟩ : ∃ mm ck, v = .slice mm 0 (listsN cnt + cnt) 64 ∧ (o ++ r)[mm]? = some (.cells ck 31 0 (pgC all)) ∧ o.length ≤ mm := by
        rcases hG with ⟨_, h⟩ | ⟨mm, ck, h1, h2, h3, _⟩
        · have : all = [] := by simpa using h
          rw [this] at halen
          simp only [List.length_nil] at halen
          omega
        · rw [List.length_map, halen] at h1
          refine ⟨mm, ck, h1, ?_, h3⟩
          rw [h2]; unfold pgC; rw [List.flatMap_def]
      have hcnt : ∀ r2, (o ++ (r ++ r2))[o.length + 1]? = some (.cells .ex 103 0 [.int .i64 sq, .bool lv, .int .i64 (cnt : Int), .int .u32 sm]) := fun r2 => by rw [← List.append_assoc]; exact app_old hhd _
      (repeat' (first | refine To.seq hxE2 ?_ | refine To.op0 hxE2 (by simp only [go_sem, reduceIte, seval, Heap.get, s3, s26, s27, hlt]; rfl) ?_ | refine To.nop hxE2 ?_ | (refine To.condF hxE2 ?_ ?_; focus (simp only [go_sem, reduceIte, seval]; done)) | refine To.exit hxE2 ?_))
      try simp only []
      (repeat' (first | refine To.op0 hxE2 (by simp only [go_sem, reduceIte, seval, Heap.get, hhd]; rfl) ?_ | refine To.nop hxE2 ?_ | refine To.block hxE2 ?_))
      refine To.loop hxE2 (fun m S h' => ∃ (i d1 : Nat) (r : List AM.Obj) (v : V), i + m = cnt ∧ h' = ⟨o ++ r, o.length, d1⟩ ∧ o.length ≤ d1 ∧ (o ++ r)[o.length]? = some (.cells .ex 100 0 [.ptr dd 0, .int .i64 (a : Int), .int .i64 (s : Int)]) ∧ (o ++ r)[o.length + 1]? = some (.cells .ex 103 0 [.int .i64 sq, .bool lv, .int .i64 (cnt : Int), .int .u32 sm]) ∧
        (o ++ r)[mm]? = some (.cells ck 31 0 (pgC all)) ∧ GrowX (o ++ r) o.length v 73 65 ((foundL all (listsN cnt) i).map chC) ∧ (foundL all (listsN cnt) i).all (fun c => mayB pgs.length a s c.1) = true ∧
        S 2 = .ptr o.length 0 ∧ S 3 = .ptr (o.length + 1) 0 ∧ S 6 = .int .i64 (listsN cnt : Int) ∧ S 7 = .slice mm 0 (listsN cnt + cnt) 64 ∧ S 11 = v ∧ S 50 = .int .i64 (cnt : Int) ∧ S 51 = .int .i64 (i : Int)) ?_ cnt _ _ ?_
      · rintro m2 S2 _ ⟨i, d2', r2, v, hm2, rfl, hd2, hreg2, hhd2, hmm2, hG2, hmay2, s2, s3, s6, s7, s11, s50, s51⟩
        by_cases hi : i < cnt
        · have hlt2 : decide ((i : Int) < (cnt : Int)) = true := decide_eq_true (by omega)
          have wi : IntKind.i64.wrap ((i : Int) + 1) = ((i + 1 : Nat) : Int) := by rw [wrap_i64 (by omega) (by omega)]; omega
          have t1 : Int.tdiv (i : Int) 32 = ((i / 32 : Nat) : Int) := by rw [Int.tdiv_eq_ediv_of_nonneg (by omega)]; omega
          have w1 : IntKind.i64.wrap ((i / 32 : Nat) : Int) = ((i / 32 : Nat) : Int) := wrap_i64 (by omega) (by omega)
          have t2 : Int.tmod (i : Int) 32 = ((i % 32 : Nat) : Int) := by rw [Int.tmod_eq_emod_of_nonneg (by omega)]; omega
          have w2 : IntKind.i64.wrap (((i % 32 : Nat) : Int) * 2) = ((i % 32 * 2 : Nat) : Int) := by rw [wrap_i64 (by omega) (by omega)]; omega
          have w3 : IntKind.i64.wrap ((listsN cnt : Int) + (i : Int)) = ((listsN cnt + i : Nat) : Int) := by rw [wrap_i64 (by omega) (by omega)]; omega
          have hk : i / 32 < listsN cnt + cnt := by omega
          have ix : idxOf (listsN cnt + cnt) (.int .i64 ((i / 32 : Nat) : Int)) = some (i / 32) := idxOf_nat hk
          have ix3 : idxOf (listsN cnt + cnt) (.int .i64 ((listsN cnt + i : Nat) : Int)) = some (listsN cnt + i) := idxOf_nat (by omega)
          have hfs := foundL_succ all (listsN cnt) i
          have hft := foundL_take all (listsN cnt) (i := i + 1) (k := cnt) (by omega)
          have hi2 : i % 32 * 2 + 2 ≤ 64 := by omega
          generalize i / 32 = k at *
          generalize i % 32 * 2 = i2 at *
          have hg : all[k]? = some (all[k]'(by omega)) := List.getElem?_eq_getElem (by omega)
          have hgd : all.getD k [] = all[k]'(by omega) := by rw [List.getD_eq_getElem?_getD, hg]; rfl
          have hg3 : all[listsN cnt + i]? = some (all[listsN cnt + i]'(by omega)) := List.getElem?_eq_getElem (by omega)
          have hgd3 : all.getD (listsN cnt + i) [] = all[listsN cnt + i]'(by omega) := by rw [List.getD_eq_getElem?_getD, hg3]; rfl
          rw [hgd, hgd3] at hfs
          have hp64 := hall64 _ (List.getElem_mem (by omega : k < all.length))
          have hp643 := hall64 _ (List.getElem_mem (by omega : listsN cnt + i < all.length))
          have hat := pgC_at hall64 hg
          have hat3 := pgC_at hall64 hg3
          have hk1 : (k + 1) * 64 ≤ all.length * 64 := Nat.mul_le_mul_right 64 (by omega)
          have hk3 : (listsN cnt + i + 1) * 64 ≤ all.length * 64 := Nat.mul_le_mul_right 64 (by omega)
          have hle : k * 64 + 64 ≤ (pgC all).length := by rw [pgC_len hall64]; omega
          have hle3 : (listsN cnt + i) * 64 + 64 ≤ (pgC all).length := by rw [pgC_len hall64]; omega
          generalize all[k]'(by omega) = p at *
          generalize all[listsN cnt + i]'(by omega) = p3 at *
          have qg : ∀ r e d, Den FF E2 71 [.agg (bytesA p), .int .i64 (i2 : Int), .int .i64 2] ⟨o ++ r, e, d⟩ = some (.val (.int .i64 (getK p i2 2 : Int)), none) := fun r e d => get_q hp64 (s := 2) (by omega) (by omega) hi2
          have qm := fun r e d => may_q (e := e) (d := d) (P.app r) (a := a) (s := s) (by omega) (by omega) (getK p i2 2 : Int)
          rw [hrv] at qm
          generalize (getK p i2 2 : Int) = x at *
          cases hmay : mayB pgs.length a s x
          · rw [hmay] at qm
            have hno : ¬ (foundL all (listsN cnt) cnt).all (fun c => mayB pgs.length a s c.1) = true := by
              intro h
              have h2 := List.all_eq_true.1 h (x, p3) (List.mem_of_mem_take (i := i + 1) (by rw [hft, hfs]; simp))
              rw [hmay] at h2; cases h2
            rw [if_neg hno]
            (repeat' (first | refine To.seq hxE2 ?_ | refine To.op0 hxE2 (by simp only [go_sem, reduceIte, seval, Heap.gets, List.take_of_length_le, s2, s7, s50, s51, hlt2, t1, w1, t2, w2, ix, hmm2, hat, hle, qg, hreg2, qm]; rfl) ?_ | refine To.nop hxE2 ?_ | (refine To.condT hxE2 ?_ ?_; focus (simp only [go_sem, reduceIte, seval]; done)) | refine To.block hxE2 ?_ | refine To.ret hxE2 ?_ | refine To.skip hxE2 ?_))
            exact fin_found (v := .nils) (x := none) (by simp only [go_sem, reduceIte, seval]) (by simp only [go_sem, reduceIte, seval]; rfl) hd2 (fun _ cs h => by cases h) (fun _ cs h => by cases h)
          · rw [hmay] at qm
            have htk : List.take 64 (bytesA p3) = bytesA p3 := List.take_of_length_le (by rw [bytesA_length]; omega)
            have hdr : List.drop 64 (bytesA p3) = [] := List.drop_eq_nil_of_le (by rw [bytesA_length]; omega)
            have hzd : List.drop 1 z65 = z64 := rfl
            have gb : ∀ y : AM.Obj, (o ++ (r2 ++ [y]))[o.length + r2.length]? = some y := fun y => by
              rw [app_getk]; simp
            have htk65 : List.take 65 (V.int .i64 x :: bytesA p3) = V.int .i64 x :: bytesA p3 := List.take_of_length_le (by rw [List.length_cons, bytesA_length]; omega)
            have hf64 : ∀ c ∈ foundL all (listsN cnt) i, c.2.length = 64 := fun c hc => by
              obtain ⟨j, hj, rfl⟩ := List.mem_map.1 hc
              have hj := List.mem_range.1 hj
              have hgj : all[listsN cnt + j]? = some (all[listsN cnt + j]'(by omega)) := List.getElem?_eq_getElem (by omega)
              show (all.getD (listsN cnt + j) []).length = 64
              rw [List.getD_eq_getElem?_getD, hgj]
              exact hall64 _ (List.getElem_mem _)
            have hrows : ∀ y ∈ (foundL all (listsN cnt) i).map chC, y.length = 65 := fun y hy => by
              obtain ⟨c, hc, rfl⟩ := List.mem_map.1 hy
              exact chC_len (hf64 c hc)
            have hln : ((foundL all (listsN cnt) i).map chC).length ≤ 1000 := by rw [List.length_map, foundL_len]; omega
            obtain ⟨v', r', D', hA, hG', hD1, hD2, _, hkeep⟩ := grow1 (o := o) (r := r2 ++ [.cells .ex 73 0 (V.int .i64 x :: bytesA p3)]) (b := 72) (by rw [← List.append_assoc]; exact hG2.app) (by decide) hrows (x := V.int .i64 x :: bytesA p3) (by rw [List.length_cons, bytesA_length]; omega) (room_small (by omega) (by decide)) (room_small (by decide) (by decide)) o.length d2'
            have hreg' := hkeep o.length _ _ _ (by rw [← List.append_assoc]; exact app_old hreg2 _) (by decide)
            have hhd' := hkeep (o.length + 1) _ _ _ (by rw [← List.append_assoc]; exact app_old hhd2 _) (by decide)
            have hmm' := hkeep mm _ _ _ (by rw [← List.append_assoc]; exact app_old hmm2 _) (by decide)
            (repeat' (first | refine To.seq hxE2 ?_ | refine To.op0 hxE2 (by simp only [go_sem, reduceIte, seval, Heap.gets, bytesA_length, bytesA_one, List.take_of_length_le, V.one, Nat.reduceLeDiff, List.all_cons, s2, s6, s7, s11, s50, s51, hlt2, wi, t1, w1, t2, w2, w3, ix, ix3, hmm2, hat, hle, hat3, hle3, hp643, qg, hreg2, qm, hzd, gb, hA, z64_len, z64_drop, z65_len, z65_drop, List.append_nil]; rfl) ?_ | refine To.op1 hxE2 (by simp only [go_sem, reduceIte, seval, Heap.gets, bytesA_length, bytesA_one, List.take_of_length_le, V.one, List.all_cons, hp643, gb, hA, z65_len, z65_drop, List.append_nil]; rfl) ?_ | refine To.nop hxE2 ?_ | (refine To.condT hxE2 ?_ ?_; focus (simp only [go_sem, reduceIte, seval]; done)) | (refine To.condF hxE2 ?_ ?_; focus (simp only [go_sem, reduceIte, seval]; done)) | refine To.block hxE2 ?_ | refine To.skip hxE2 ?_))
            try simp only [andThen]
            skip
            try simp only [andThen, outOf]
            refine ⟨m2 - 1, by omega, i + 1, D', r', v', by omega, rfl, by omega, hreg', hhd', hmm', ?_, ?_, ?_⟩
            · rw [hfs, List.map_append]; exact hG'
            · rw [hfs, List.all_append, hmay2]; simp [hmay]
            · simp only [go_sem, reduceIte, seval, s2, s3, s6, s7, s50]
        · have hlt2 : decide ((i : Int) < (cnt : Int)) = false := decide_eq_false (by omega)
          obtain rfl : i = cnt := by omega
          rw [if_pos hmay2]
          have hrow : PgRow (o ++ r2) (.slice mm 0 (listsN i + i) 64) all := ⟨by rw [halen]; rfl, fun _ => ⟨mm, ck, 31, by rw [halen], hmm2⟩, hall64⟩
          have qs := fun e d => sumPages_q (e := e) (d := d) hrow (by omega)
          have hf64 : ∀ c ∈ foundL all (listsN i) i, c.2.length = 64 := fun c hc => by
            obtain ⟨j, hj, rfl⟩ := List.mem_map.1 hc
            have hj := List.mem_range.1 hj
            have hgj : all[listsN i + j]? = some (all[listsN i + j]'(by omega)) := List.getElem?_eq_getElem (by omega)
            show (all.getD (listsN i + j) []).length = 64
            rw [List.getD_eq_getElem?_getD, hgj]
            exact hall64 _ (List.getElem_mem _)
          have hsl : V.beq (.int .u32 sm) (.int .u32 sm) = true := by simp [V.beq]
          by_cases hsum : (sumP all : Int) = sm
          · rw [if_pos hsum]
            have hb : ((sumP all : Int) != sm) = false := by simp [hsum]
            generalize (sumP all : Int) = sa at *
            (repeat' (first | refine To.seq hxE2 ?_ | refine To.op0 hxE2 (by simp only [go_sem, reduceIte, seval, s50, s51, hlt2]; rfl) ?_ | refine To.nop hxE2 ?_ | (refine To.condF hxE2 ?_ ?_; focus (simp only [go_sem, reduceIte, seval]; done)) | refine To.exit hxE2 ?_ | refine To.draw0 hxE2 ?_ | refine ToD.op0 (by simp only [go_sem, reduceIte, seval, Heap.get, Nat.add_zero, List.all_nil, s3, s7]; rfl) (by simp only [put_some]; rfl) ?_ | fail))
            try simp only []
            (repeat' (first | refine To.seq hxE2 ?_ | refine To.op0 hxE2 (by simp only [go_sem, reduceIte, seval, s11]; rfl) ?_ | refine To.nop hxE2 ?_ | (refine To.condF hxE2 ?_ ?_; focus (simp only [go_sem, reduceIte, seval]; done)) | refine To.ret hxE2 ?_ | refine To.skip hxE2 ?_ | refine ToD.op0 (by simp only [go_sem, reduceIte, seval, Heap.get, hhd2, qs, hb]; rfl) (by simp only [put_some]; rfl) ?_ | refine ToD.nop ?_))
            refine fin_found (v := v) (x := some _) (by simp only [go_sem, reduceIte, seval]) (by simp only [go_sem, reduceIte, seval]; rfl) hd2 (fun hp => ?_) (fun _ cs h => by cases h; exact ChRow.grow hG2 hf64)
            rcases hG2 with ⟨_, h⟩ | ⟨_, _, rfl, _⟩
            · have : foundL all (listsN i) i = [] := by simpa using h
              have := congrArg List.length this
              rw [foundL_len] at this
              simp only [List.length_nil] at this
              omega
            · cases hp
          · rw [if_neg hsum]
            have hb : ((sumP all : Int) != sm) = true := by simp [hsum]
            generalize (sumP all : Int) = sa at *
            (repeat' (first | refine To.seq hxE2 ?_ | refine To.op0 hxE2 (by simp only [go_sem, reduceIte, seval, s50, s51, hlt2]; rfl) ?_ | refine To.nop hxE2 ?_ | (refine To.condF hxE2 ?_ ?_; focus (simp only [go_sem, reduceIte, seval]; done)) | refine To.exit hxE2 ?_ | refine To.draw0 hxE2 ?_ | refine ToD.op0 (by simp only [go_sem, reduceIte, seval, Heap.get, Nat.add_zero, List.all_nil, s3, s7]; rfl) (by simp only [put_some]; rfl) ?_ | fail))
            try simp only []
            (repeat' (first | refine To.seq hxE2 ?_ | refine To.op0 hxE2 (by simp only [go_sem, seval]; rfl) ?_ | refine To.nop hxE2 ?_ | (refine To.condT hxE2 ?_ ?_; focus (simp only [go_sem, reduceIte, seval]; done)) | refine To.ret hxE2 ?_ | refine ToD.op0 (by simp only [go_sem, reduceIte, seval, Heap.get, hhd2, qs, hb]; rfl) (by simp only [put_some]; rfl) ?_ | refine ToD.nop ?_))
            exact fin_found (v := .nils) (x := none) (by simp only [go_sem, reduceIte, seval]) (by simp only [go_sem, reduceIte, seval]; rfl) hd2 (fun _ cs h => by cases h) (fun _ cs h => by cases h)
      · refine ⟨0, d1', r, .nils, by omega, rfl, hd, hreg, hhd, hmm, .inl ⟨rfl, rfl⟩, rfl, ?_⟩
        simp only [go_sem, reduceIte, seval, s2, s3, s6, s7]
  · refine ⟨0, o.length, [.cells .ex 100 0 [.ptr dd 0, .int .i64 (a : Int), .int .i64 (s : Int)], .cells .ex 103 0 [.int .i64 sq, .bool lv, .int .i64 (cnt : Int), .int .u32 sm]], .nils, by omega, rfl, Nat.le_refl _, app_get0 _ _ _, app_getk _ _ 1, .inl ⟨rfl, rfl⟩, ?_⟩
    simp only [go_sem, reduceIte, seval]
end
end Go.Proofs.Ytfbkeieoeagkdaa

/- Journal: redo; Open. -/
namespace Go.Proofs.Ytfbkeieoeagkdaa
open Go AM
set_option linter.unusedSimpArgs false
set_option linter.unusedVariables false
set_option maxRecDepth 100000

def dRedo (on : Bool) (st : DSt) (a s : Nat) (sq : Int) (cnt : Nat) (sm : Int) : Int × Int × DSt :=
  match foundE st a s cnt sm with
  | none => (0, 5, st)
  | some cs =>
    if (dPut on st cs).1 ≠ 0 then (0, (dPut on st cs).1, (dPut on st cs).2)
    else ((cs.length : Int), (dMark on (dPut on st cs).2 a (sq + 1) false 0 0).1, (dMark on (dPut on st cs).2 a (sq + 1) false 0 0).2)
theorem foundE_len {st : DSt} {a s cnt : Nat} {sm : Int} {cs : List (Int × Pg)} (h : foundE st a s cnt sm = some cs) : cs.length = cnt := by
  unfold foundE at h
  split at h
  · cases h
  · split at h
    · split at h
      · cases h; exact foundL_len _ _ _
      · cases h
    · cases h
section
variable {o : List AM.Obj} {e d dd pg lm : Nat} {on : Bool} {left : Int} {pgs : List Pg} {ca : List (Nat × Pg)}
theorem fin_lv3 {a : AF} {i j : Nat} (hr : a.res = [.t i, .t j]) {n m : Int} {S : Nat → V} (hS : S i = .int .i64 n) (hS2 : S j = .int .i64 m) {o1 r1 : List AM.Obj} {e1 d1 : Nat} (D : Dx dd pg lm o o1) (L : Low dd pg lm o o1 o.length d1) (he : o.length ≤ e1) (h1 : dd < o.length) (h2 : pg < o.length) (h3 : lm < o.length) {st : DSt} (P1 : PDs o1 dd pg lm on st) {w : Int × Int × DSt} (hw : w = (n, m, st)) :
    ∃ v oh, finish a ⟨o, e, d⟩ (some (.ret, S, ⟨o1 ++ r1, e1, d1⟩)) = some (v, oh) ∧ v = .val (.tuple [.int .i64 w.1, .int .i64 w.2.1]) ∧ ∃ o' d', Lv dd pg lm o e d oh o' d' ∧ PDs o' dd pg lm on w.2.2 := by
  subst hw
  refine ⟨_, _, fin2 (i := i) (j := j) hr, by rw [hS, hS2], ?_⟩
  obtain ⟨d2, q1, q2, q3, q4⟩ := leave_app2 (o := o) (o' := o1) (r := r1) (e := e) (d := d) (e' := e1) (d' := d1) (v := .tuple [.int .i64 n, .int .i64 m]) rfl D.len he (fun h => by
    rcases L.2 with L | L
    · exact L
    · omega)
  refine ⟨o1, d2, ⟨by rw [hS, hS2]; exact q1, D, q4, ?_⟩, P1⟩
  rcases q2 with q2 | q2
  · exact .inl q2
  · rcases L.2 with L | L
    · exact .inl L
    · exact .inr (by omega)
set_option maxHeartbeats 32000000 in
theorem redo_x (P : PD o dd pg lm on false left pgs ca) {a s cnt : Nat} {sq : Int} {lv : Bool} {sm : Int} (hin : a + s ≤ pgs.length) (hpl : pgs.length ≤ 100000) (hc1 : 1 ≤ cnt) (hc5 : cnt ≤ 512) (hq0 : 0 ≤ sq) (hq1 : sq < 2 ^ 59) :
    ∃ r oh, Den FF E2 56 [.agg (regV dd a s), .agg (headV sq lv cnt sm)] ⟨o, e, d⟩ = some (r, oh) ∧ r = .val (.tuple [.int .i64 (dRedo on ⟨false, left, pgs, ca⟩ a s sq cnt sm).1, .int .i64 (dRedo on ⟨false, left, pgs, ca⟩ a s sq cnt sm).2.1]) ∧ ∃ o' d', Lv dd pg lm o e d oh o' d' ∧ PDs o' dd pg lm on (dRedo on ⟨false, left, pgs, ca⟩ a s sq cnt sm).2.2 := by
  refine To.denE hxE2 (f := 56) (a := af56) rfl (E2_none rfl) (Nat.le_of_ble_eq_true rfl) ?_
  have lD := P.ld
  have lP := P.lp
  have lM := P.ll
  have hrv : regV dd a s = [.ptr dd 0, .int .i64 (a : Int), .int .i64 (s : Int)] := rfl
  have hhv : headV sq lv cnt sm = [.int .i64 sq, .bool lv, .int .i64 (cnt : Int), .int .u32 sm] := rfl
  obtain ⟨r0, oh0, q0, v0, rr0, e0, d0, rfl, G0, hx⟩ := found_x (e := o.length) (d := o.length) (P.app [.cells .ex 100 0 [.ptr dd 0, .int .i64 (a : Int), .int .i64 (s : Int)], .cells .ex 103 0 [.int .i64 sq, .bool lv, .int .i64 (cnt : Int), .int .u32 sm]]) (sq := sq) (lv := lv) (sm := sm) hin hpl hc1 hc5
  have he0 : e0 = o.length := by have := G0.e; rw [List.length_append] at this; omega
  have hd0 : d0 = o.length := by have := G0.d; rw [List.length_append] at this; omega
  subst he0 hd0
  rw [hrv, hhv] at q0
  have g0 := G0.eq
  rw [List.append_assoc] at g0
  have ht3 : List.take 3 [V.ptr dd 0, .int .i64 (a : Int), .int .i64 (s : Int)] = [V.ptr dd 0, .int .i64 (a : Int), .int .i64 (s : Int)] := rfl
  unfold dRedo
  cases hf : foundE ⟨false, left, pgs, ca⟩ a s cnt sm with
  | none =>
    rw [hf] at q0
    simp only [Option.isSome_none, Bool.false_eq_true, if_false] at q0
    (repeat' (first | refine To.seq hxE2 ?_ | refine To.op0 hxE2 (by simp only [go_sem, reduceIte, seval, Heap.gets, List.take_of_length_le, hrv, hhv]; rfl) ?_ | refine To.op1 hxE2 (by simp only [go_sem, reduceIte, seval, hrv, hhv]; rfl) ?_ | refine To.nop hxE2 ?_))
    refine To.op hxE2 (by simp only [go_sem, reduceIte, seval, q0]; rfl) ?_
    rw [g0]
    (repeat' (first | refine To.seq hxE2 ?_ | refine To.op0 hxE2 (by simp only [go_sem, reduceIte, seval]; rfl) ?_ | refine To.nop hxE2 ?_ | (refine To.condT hxE2 ?_ ?_; focus (simp only [go_sem, reduceIte, seval]; done)) | refine To.ret hxE2 ?_))
    exact fin_lv3 (i := 4) (j := 5) (n := 0) (m := 5) rfl (by simp only [go_sem, reduceIte, seval]) (by simp only [go_sem, reduceIte, seval]) Dx.refl Low.refl (Nat.le_refl _) lD lP lM P rfl
  | some cs =>
    rw [hf] at q0
    simp only [Option.isSome_some, if_true] at q0
    have hrow := hx cs hf
    rw [List.append_assoc] at hrow
    have hlen := foundE_len hf
    have hl := hrow.len
    simp only
    have hreg : ∀ (o1 : List AM.Obj) x r, o1.length = o.length → (o1 ++ (x :: r))[o.length]? = some x := fun o1 x r h => by rw [← h]; exact app_get0 _ _ _
    have hhd : ∀ (o1 : List AM.Obj) (x y : AM.Obj) r, o1.length = o.length → (o1 ++ (x :: y :: r))[o.length + 1]? = some y := fun o1 x y r h => by rw [← h]; exact app_getk _ _ 1
    obtain ⟨r2, oh2, q2, rfl, o2', d2, L2, P2⟩ := rput_x (e := o.length) (d := o.length) (a := (a : Int)) (s := (s : Int)) (P.app ([.cells .ex 100 0 [.ptr dd 0, .int .i64 (a : Int), .int .i64 (s : Int)], .cells .ex 103 0 [.int .i64 sq, .bool lv, .int .i64 (cnt : Int), .int .u32 sm]] ++ rr0)) hrow (by omega)
    obtain ⟨o2, rfl, D2⟩ := L2.dx.split lD lP lM
    have hl2 := D2.len
    have P2' := PD.chop P2 (by omega) (by omega) (by omega)
    have M2 := L2.low.chop
    have g2 := L2.eq
    rw [hrv] at q2
    obtain ⟨n1, st1, hw1⟩ : ∃ n1 st1, dPut on ⟨false, left, pgs, ca⟩ cs = (n1, st1) := ⟨_, _, rfl⟩
    rw [hw1] at q2 P2' ⊢
    simp only at q2 P2' ⊢
    have g0r := hreg o (.cells .ex 100 0 [.ptr dd 0, .int .i64 (a : Int), .int .i64 (s : Int)]) (.cells .ex 103 0 [.int .i64 sq, .bool lv, .int .i64 (cnt : Int), .int .u32 sm] :: rr0) rfl
    have g2r := hreg o2 (.cells .ex 100 0 [.ptr dd 0, .int .i64 (a : Int), .int .i64 (s : Int)]) (.cells .ex 103 0 [.int .i64 sq, .bool lv, .int .i64 (cnt : Int), .int .u32 sm] :: rr0) hl2
    have g2h := hhd o2 (.cells .ex 100 0 [.ptr dd 0, .int .i64 (a : Int), .int .i64 (s : Int)]) (.cells .ex 103 0 [.int .i64 sq, .bool lv, .int .i64 (cnt : Int), .int .u32 sm]) rr0 hl2
    simp only [List.cons_append, List.nil_append] at q2 g0 g2
    (repeat' (first | refine To.seq hxE2 ?_ | refine To.op0 hxE2 (by simp only [go_sem, reduceIte, seval, Heap.gets, List.take_of_length_le, hrv, hhv]; rfl) ?_ | refine To.op1 hxE2 (by simp only [go_sem, reduceIte, seval, hrv, hhv]; rfl) ?_ | refine To.nop hxE2 ?_))
    refine To.op hxE2 (by simp only [go_sem, reduceIte, seval, q0]; rfl) ?_
    rw [g0]
    (repeat' (first | refine To.seq hxE2 ?_ | refine To.op0 hxE2 (by simp only [go_sem, reduceIte, seval, Heap.gets, List.take_of_length_le, g0r, bne_self_eq_false]; rfl) ?_ | refine To.nop hxE2 ?_ | (refine To.condF hxE2 ?_ ?_; focus (simp only [go_sem, reduceIte, seval]; done)) | refine To.skip hxE2 ?_))
    refine To.op hxE2 (by simp only [go_sem, reduceIte, seval, q2]; rfl) ?_
    rw [g2]
    (repeat' (first | refine To.seq hxE2 ?_ | refine To.op0 hxE2 (by simp only [go_sem, reduceIte, seval]; rfl) ?_ | refine To.nop hxE2 ?_))
    by_cases hz1 : n1 = 0
    case neg =>
      have hb : (n1 != 0) = true := by simpa using hz1
      (repeat' (first | refine To.seq hxE2 ?_ | refine To.op0 hxE2 (by simp only [go_sem, reduceIte, seval, hb]; rfl) ?_ | refine To.nop hxE2 ?_ | (refine To.condT hxE2 ?_ ?_; focus (simp only [go_sem, reduceIte, seval, hb]; done)) | refine To.ret hxE2 ?_))
      exact fin_lv3 (i := 4) (j := 5) (n := 0) (m := n1) rfl (by simp only [go_sem, reduceIte, seval]) (by simp only [go_sem, reduceIte, seval]) D2 M2 (Nat.le_refl _) lD lP lM P2' (by rw [if_pos (by simpa using hz1)])
    subst hz1
    rw [if_neg (by simp)]
    obtain ⟨r3, oh3, q3, rfl, o3', d3, L3, P3⟩ := mark_x (e := o.length) (d := d2) (a := (a : Int)) (s := (s : Int)) (sq := sq + 1) (lv := false) (c := 0) (sm := 0) (P2'.app (.cells .ex 100 0 [.ptr dd 0, .int .i64 (a : Int), .int .i64 (s : Int)] :: .cells .ex 103 0 [.int .i64 sq, .bool lv, .int .i64 (cnt : Int), .int .u32 sm] :: rr0)) (by omega) (by omega)
    obtain ⟨o3, rfl, D3⟩ := L3.dx.split (by omega) (by omega) (by omega)
    have hl3 := D3.len
    have P3' := PD.chop P3 (by omega) (by omega) (by omega)
    have M3 := M2.trans L3.low.chop
    have g3 := L3.eq
    have hw2 : dMark on ⟨st1.down, st1.left, st1.pgs, st1.ca⟩ a (sq + 1) false 0 0 = dMark on st1 a (sq + 1) false 0 0 := rfl
    rw [hw2] at q3 P3'
    have hhv2 : headV (sq + 1) false 0 0 = [.int .i64 (sq + 1), .bool false, .int .i64 0, .int .u32 0] := rfl
    rw [hrv, hhv2] at q3
    have wq : IntKind.i64.wrap (sq + 1) = sq + 1 := wrap_i64 (by omega) (by omega)
    generalize dMark on st1 a (sq + 1) false 0 0 = w2 at *
    obtain ⟨n2, st2⟩ := w2
    simp only at q3 P3' ⊢
    (repeat' (first | refine To.seq hxE2 ?_ | refine To.op0 hxE2 (by simp only [go_sem, reduceIte, seval, Heap.gets, Heap.get, List.take_of_length_le, Nat.add_zero, Nat.reduceLeDiff, hl, g2r, g2h, wq, bne_self_eq_false]; rfl) ?_ | (refine To.condF hxE2 ?_ ?_; focus (simp only [go_sem, reduceIte, seval, bne_self_eq_false]; done)) | refine To.skip hxE2 ?_))
    refine To.op hxE2 (by simp only [go_sem, reduceIte, seval, q3]; rfl) ?_
    rw [g3]
    (repeat' (first | refine To.op0 hxE2 (by simp only [go_sem, reduceIte, seval]; rfl) ?_ | refine To.nop hxE2 ?_ | refine To.ret hxE2 ?_))
    exact fin_lv3 (i := 4) (j := 5) (n := (cs.length : Int)) (m := n2) rfl (by simp only [go_sem, reduceIte, seval]) (by simp only [go_sem, reduceIte, seval]) (D2.trans D3) M3 (Nat.le_refl _) lD lP lM P3' rfl
end
end Go.Proofs.Ytfbkeieoeagkdaa

/- Journal: Open. -/
namespace Go.Proofs.Ytfbkeieoeagkdaa
open Go AM
set_option linter.unusedSimpArgs false
set_option linter.unusedVariables false
set_option maxRecDepth 100000

def openB (w : Int × Int × DSt) (sq : Int) : Int × Int × Int × DSt := if w.2.1 ≠ 0 then (w.2.1, 0, 0, w.2.2) else (0, sq, w.1, w.2.2)
def openM (w : Int × DSt) (sq : Int) : Int × Int × Int × DSt := if w.1 ≠ 0 then (w.1, 0, 0, w.2) else (0, sq, 0, w.2)
def dOpenP (on : Bool) (st : DSt) (a s : Nat) (p : Pg) : Int × Int × Int × DSt :=
  if (wholeP p && liveP p) = true then openB (dRedo on st a s (getK p 0 4 : Int) (getK p 5 2) (getK p 7 4 : Int)) ((getK p 0 4 : Int) + 2)
  else openM (dMark on st a (nextP p : Int) false 0 0) ((nextP p : Int) + 1)
/-- Open's error, the journal's number, the changes made, the disk's state. -/
def dOpen (on : Bool) (st : DSt) (a s : Nat) : Int × Int × Int × DSt :=
  if st.down = true then (5, 0, 0, st) else dOpenP on st a s (readP false st.pgs st.ca (a : Int))
section
variable {o : List AM.Obj} {e d dd pg lm : Nat} {on down : Bool} {left : Int} {pgs : List Pg} {ca : List (Nat × Pg)}
theorem fin3 {a : AF} {h : Heap} {S : Nat → V} {h' : Heap} {i j k : Nat} (hr : a.res = [.t i, .t j, .t k]) : finish a h (some (.ret, S, h')) = some (.val (.tuple [S i, S j, S k]), leave h h' (.tuple [S i, S j, S k])) := by
  simp only [finish, hr, resAll, resOne, resV]; rfl
/-- What Open leaves. -/
def OpenR (dd pg lm : Nat) (on : Bool) (o : List AM.Obj) (e d : Nat) (a s : Nat) (r : Out) (oh : Option Heap) (w : Int × Int × Int × DSt) : Prop :=
  (w.1 ≠ 0 ∧ r = .val (.tuple [.nilp, .int .i64 0, .int .i64 w.1]) ∧ ∃ o' d', Lv dd pg lm o e d oh o' d' ∧ PDs o' dd pg lm on w.2.2.2) ∨
  (w.1 = 0 ∧ ∃ jl, r = .val (.tuple [.ptr jl 0, .int .i64 w.2.2.1, .int .i64 0]) ∧ o.length ≤ jl ∧ ∃ o' rr e' d', oh.getD ⟨o, e, d⟩ = ⟨o' ++ rr, e', d'⟩ ∧ Dx dd pg lm o o' ∧ Low dd pg lm o o' d d' ∧ min e o.length ≤ e' ∧ e' ≤ e ∧ PJ (o' ++ rr) jl dd pg lm a s w.2.1 false on w.2.2.2)
theorem fin_open_no {S : Nat → V} {n : Int} (h6 : S 6 = .nilp) (h7 : S 7 = .int .i64 0) (h8 : S 8 = .int .i64 n) {o1 r1 : List AM.Obj} {e1 d1 : Nat} (D : Dx dd pg lm o o1) (L : Low dd pg lm o o1 o.length d1) (he : o.length ≤ e1) (h1 : dd < o.length) (h2 : pg < o.length) (h3 : lm < o.length) {st : DSt} (P1 : PDs o1 dd pg lm on st) {a s : Nat} (hn : n ≠ 0) :
    ∃ v oh, finish af31 ⟨o, e, d⟩ (some (.ret, S, ⟨o1 ++ r1, e1, d1⟩)) = some (v, oh) ∧ OpenR dd pg lm on o e d a s v oh (n, 0, 0, st) := by
  refine ⟨_, _, fin3 (i := 6) (j := 7) (k := 8) rfl, .inl ⟨hn, by rw [h6, h7, h8], ?_⟩⟩
  obtain ⟨d2, q1, q2, q3, q4⟩ := leave_app2 (o := o) (o' := o1) (r := r1) (e := e) (d := d) (e' := e1) (d' := d1) (v := .tuple [.nilp, .int .i64 0, .int .i64 n]) rfl D.len he (fun h => by
    rcases L.2 with L | L
    · exact L
    · omega)
  refine ⟨o1, d2, ⟨by rw [h6, h7, h8]; exact q1, D, q4, ?_⟩, P1⟩
  rcases q2 with q2 | q2
  · exact .inl q2
  · rcases L.2 with L | L
    · exact .inl L
    · exact .inr (by omega)
theorem fin_open {S : Nat → V} {n sq : Int} {jl : Nat} (h6 : S 6 = .ptr jl 0) (h7 : S 7 = .int .i64 n) (h8 : S 8 = .int .i64 0) {o1 r1 : List AM.Obj} {e1 d1 : Nat} (D : Dx dd pg lm o o1) (L : Low dd pg lm o o1 o.length d1) (he : o.length ≤ e1) (h1 : dd < o.length) (h2 : pg < o.length) (h3 : lm < o.length) {st : DSt} {a s : Nat} (hj : o.length ≤ jl) (J : PJ (o1 ++ r1) jl dd pg lm a s sq false on st) :
    ∃ v oh, finish af31 ⟨o, e, d⟩ (some (.ret, S, ⟨o1 ++ r1, e1, d1⟩)) = some (v, oh) ∧ OpenR dd pg lm on o e d a s v oh (0, sq, n, st) := by
  refine ⟨_, _, fin3 (i := 6) (j := 7) (k := 8) rfl, .inr ⟨rfl, jl, by rw [h6, h7, h8], hj, o1, r1, min e e1, min d d1, ?_, D, ⟨Nat.min_le_left _ _, ?_⟩, by omega, Nat.min_le_left _ _, J⟩⟩
  · rw [h6, h7, h8]
    unfold leave
    simp only
    rw [if_neg (by simp [V.plain, V.plains])]; rfl
  · rcases L.2 with L | L
    · exact .inl L
    · exact .inr (by omega)
set_option maxHeartbeats 32000000 in
theorem open_x (P : PD o dd pg lm on down left pgs ca) {a s : Nat} (hr : 1 ≤ roomJ s) (hin : a + s ≤ pgs.length) (hs1 : 1 ≤ s) (hpl : pgs.length ≤ 100000) :
    ∃ r oh, Den FF E2 31 [.ptr dd 0, .int .i64 (a : Int), .int .i64 (s : Int)] ⟨o, e, d⟩ = some (r, oh) ∧ OpenR dd pg lm on o e d a s r oh (dOpen on ⟨down, left, pgs, ca⟩ a s) := by
  refine To.denE hxE2 (f := 31) (a := af31) rfl (E2_none rfl) (Nat.le_of_ble_eq_true rfl) ?_
  have lD := P.ld
  have lP := P.lp
  have lM := P.ll
  have qd := fun r e d => down_q (e := e) (d := d) (P.app r)
  have qp := fun r e d => pages_q (e := e) (d := d) (P.app r)
  have qrd := fun r e d => read_q (e := e) (d := d) (P.app r) (a : Int)
  have qr := fun r e d => room_q (o := o ++ r) (e := e) (d := d) (size := (s : Int))
  have qd0 := fun e d => down_q (e := e) (d := d) P
  have qp0 := fun e d => pages_q (e := e) (d := d) P
  have qr0 := fun e d => room_q (o := o) (e := e) (d := d) (size := (s : Int))
  have hrv : regV dd a s = [.ptr dd 0, .int .i64 (a : Int), .int .i64 (s : Int)] := rfl
  unfold dOpen
  cases hdn : down
  case true =>
    subst hdn
    have h0 : hasE true pgs.length (a : Int) = 5 := by unfold hasE; rw [if_pos rfl]
    have hz : readP true pgs ca (a : Int) = List.replicate 64 0 := rfl
    rw [h0] at qrd
    have h64 : (bytesA (readP true pgs ca (a : Int))).length = 64 := by rw [bytesA_length, hz]; rfl
    generalize readP true pgs ca (a : Int) = p at *
    have htk : List.take 64 (bytesA p) = bytesA p := List.take_of_length_le (by omega)
    have hdr : List.drop 64 (bytesA p) = [] := List.drop_eq_nil_of_le (by omega)
    (repeat' (first | refine To.seq hxE2 ?_ | refine To.op0 hxE2 (by simp only [go_sem, reduceIte, seval, Heap.sets, bytesA_one, bytesA_plains, List.drop_of_length_le, V.one, Nat.reduceLeDiff, List.all_cons, List.all_nil, ne_eq, not_false_eq_true, Nat.zero_le, qd0, qrd, h64, z64_len, z64_drop, List.append_nil]; rfl) ?_ | refine To.op1 hxE2 (by simp only [go_sem, reduceIte, seval, Heap.sets, bytesA_one, bytesA_plains, List.drop_of_length_le, V.one, List.all_cons, List.all_nil, ne_eq, not_false_eq_true, Nat.zero_le, h64, z64_len, z64_drop, List.append_nil]; rfl) ?_ | refine To.nop hxE2 ?_ | (refine To.condT hxE2 ?_ ?_; focus (simp only [go_sem, reduceIte, seval]; done)) | (refine To.condF hxE2 ?_ ?_; focus (simp only [go_sem, reduceIte, seval]; done)) | refine To.ret hxE2 ?_ | refine To.skip hxE2 ?_))
    exact fin_open_no (n := 5) (by simp only [go_sem, reduceIte, seval]) (by simp only [go_sem, reduceIte, seval]) (by simp only [go_sem, reduceIte, seval]) Dx.refl (Low.refl.less (by omega)) (by omega) lD lP lM P (by decide)
  subst hdn
  have h0 : hasE false pgs.length (a : Int) = 0 := by unfold hasE; rw [if_neg (by simp), if_neg (by rintro (h | h) <;> omega)]
  have h64 := readP_64 P a (by omega)
  rw [h0] at qrd
  have hrl := roomJ_le (s : Int)
  have b1 : ((roomJ (s : Int) : Int) == 0) = false := by simp; omega
  have b2 : decide ((a : Int) < 0) = false := decide_eq_false (by omega)
  have b3 : decide ((pgs.length : Int) < (a : Int)) = false := decide_eq_false (by omega)
  have w1 : IntKind.i64.wrap ((pgs.length : Int) - (a : Int)) = (pgs.length : Int) - (a : Int) := wrap_i64 (by omega) (by omega)
  have b4 : decide ((pgs.length : Int) - (a : Int) < (s : Int)) = false := decide_eq_false (by omega)
  simp only [Bool.false_eq_true, if_false]
  generalize readP false pgs ca (a : Int) = p at *
  unfold dOpenP
  have qdec := fun r e d => decode_q (o := o ++ r) (e := e) (d := d) h64
  have hbl : (bytesA p).length = 64 := by rw [bytesA_length]; exact h64
  have htk : List.take 64 (bytesA p) = bytesA p := List.take_of_length_le (by omega)
  have hdr : List.drop 64 (bytesA p) = [] := List.drop_eq_nil_of_le (by omega)
  have gp : ∀ (x y : AM.Obj) r, (o ++ (x :: y :: r))[o.length + 1]? = some y := fun x y r => app_getk _ _ 1
  have gh : ∀ (x y z : AM.Obj) r, (o ++ (x :: y :: z :: r))[o.length + 2]? = some z := fun x y z r => app_getk _ _ 2
  have s0 : getK p 0 4 < 4294967296 := getK_lt p 0 4
  have hm1 : min o.length (o.length + 1) = o.length := by omega
  have hm2 : min o.length (o.length + 2) = o.length := by omega
  have hpc : pgC [p] = bytesA p := by simp [pgC]
  have s3 : getK p 60 4 < 4294967296 := getK_lt p 60 4
  have hnx : nextP p ≤ 4294967296 := by unfold nextP; omega
  cases hw : wholeP p
  · rw [hw] at qdec
    simp only [Bool.false_and, Bool.false_eq_true, if_false] at qdec ⊢
    have hv0 : headV 0 false 0 0 = [.int .i64 0, .bool false, .int .i64 0, .int .u32 0] := rfl
    rw [hv0] at qdec
    have qn := fun e d => next_q (o := o ++ [.cells .ex 100 0 [.ptr dd 0, .int .i64 (a : Int), .int .i64 (s : Int)], .cells .ex 31 0 (bytesA p), .cells .ex 103 0 [.int .i64 0, .bool false, .int .i64 0, .int .u32 0], .cells .ex 31 0 (bytesA p)]) (e := e) (d := d) (v := .slice (o.length + 3) 0 1 64) (p := p) ⟨rfl, fun _ => ⟨o.length + 3, .ex, 31, rfl, by rw [app_getk _ _ 3, hpc]; rfl⟩, fun x hx => by rw [List.mem_singleton.1 hx]; exact h64⟩
    (repeat' (first | refine To.seq hxE2 ?_ | refine To.op0 hxE2 (by simp only [go_sem, reduceIte, seval, Heap.gets, Heap.sets, bytesA_one, bytesA_plains, List.take_of_length_le, List.drop_of_length_le, V.one, Nat.reduceLeDiff, List.all_cons, List.all_nil, ne_eq, not_false_eq_true, Nat.zero_le, qd0, qp0, qr0, qrd, qdec, b1, b2, b3, b4, w1, hbl, gp, gh, z64_len, z64_drop, List.append_nil, bne_self_eq_false, hm1, hm2, qn]; rfl) ?_ | refine To.op1 hxE2 (by simp only [go_sem, reduceIte, seval, Heap.sets, bytesA_one, bytesA_plains, List.drop_of_length_le, V.one, List.all_cons, List.all_nil, ne_eq, not_false_eq_true, Nat.zero_le, hbl, gp, gh, z64_len, z64_drop, List.append_nil, hm1, hm2]; rfl) ?_ | refine To.nop hxE2 ?_ | (refine To.condF hxE2 ?_ ?_; focus (simp only [go_sem, reduceIte, seval]; done)) | refine To.skip hxE2 ?_))
    obtain ⟨r2, oh2, q2, rfl, o2', d2, L2, P2⟩ := mark_x (e := o.length) (d := o.length) (a := (a : Int)) (s := (s : Int)) (sq := (nextP p : Int)) (lv := false) (c := 0) (sm := 0) (P.app [.cells .ex 100 0 [.ptr dd 0, .int .i64 (a : Int), .int .i64 (s : Int)], .cells .ex 31 0 (bytesA p), .cells .ex 103 0 [.int .i64 0, .bool false, .int .i64 0, .int .u32 0], .cells .ex 31 0 (bytesA p)]) (by omega) (by omega)
    obtain ⟨o2, rfl, D2⟩ := L2.dx.split lD lP lM
    have hl2 := D2.len
    have P2' := PD.chop P2 (by omega) (by omega) (by omega)
    have M2 := L2.low.chop
    have g2 := L2.eq
    have hhv2 : headV (nextP p : Int) false 0 0 = [.int .i64 (nextP p : Int), .bool false, .int .i64 0, .int .u32 0] := rfl
    rw [hrv, hhv2] at q2
    have gr2 : ∀ x r, (o2 ++ (x :: r))[o.length]? = some x := fun x r => by rw [← hl2]; exact app_get0 _ _ _
    have wn : IntKind.i64.wrap ((nextP p : Int) + 1) = (nextP p : Int) + 1 := wrap_i64 (by omega) (by omega)
    generalize dMark on ⟨false, left, pgs, ca⟩ (a : Int) (nextP p : Int) false 0 0 = w2 at *
    obtain ⟨n2, st2⟩ := w2
    simp only at q2 P2' ⊢
    refine To.op hxE2 (by simp only [go_sem, reduceIte, seval, q2]; rfl) ?_
    rw [g2]
    (repeat' (first | refine To.seq hxE2 ?_ | refine To.op0 hxE2 (by simp only [go_sem, reduceIte, seval]; rfl) ?_ | refine To.nop hxE2 ?_))
    unfold openM
    simp only
    by_cases hz : n2 = 0
    case neg =>
      have hb : (n2 != 0) = true := by simpa using hz
      rw [if_pos (by simpa using hz)]
      (repeat' (first | refine To.seq hxE2 ?_ | refine To.op0 hxE2 (by simp only [go_sem, reduceIte, seval, hb]; rfl) ?_ | refine To.nop hxE2 ?_ | (refine To.condT hxE2 ?_ ?_; focus (simp only [go_sem, reduceIte, seval, hb]; done)) | refine To.ret hxE2 ?_))
      exact fin_open_no (n := n2) (by simp only [go_sem, reduceIte, seval]) (by simp only [go_sem, reduceIte, seval]) (by simp only [go_sem, reduceIte, seval]) D2 M2 (Nat.le_refl _) lD lP lM P2' hz
    subst hz
    rw [if_neg (by simp)]
    have hJ : ∀ r x, (o2 ++ (r ++ [x]))[o2.length + r.length]? = some x := fun r x => by rw [app_getk]; simp
    (repeat' (first | refine To.seq hxE2 ?_ | refine To.op0 hxE2 (by simp only [go_sem, reduceIte, seval, Heap.gets, List.take_of_length_le, List.drop_of_length_le, Nat.reduceLeDiff, gr2, wn, bne_self_eq_false]; rfl) ?_ | refine To.op1 hxE2 (by simp only [go_sem, reduceIte, seval]; rfl) ?_ | refine To.nop hxE2 ?_ | (refine To.condF hxE2 ?_ ?_; focus (simp only [go_sem, reduceIte, seval, bne_self_eq_false]; done)) | refine To.ret hxE2 ?_ | refine To.skip hxE2 ?_))
    refine fin_open (jl := o2.length + 4) (by simp only [go_sem, reduceIte, seval]) (by simp only [go_sem, reduceIte, seval]) (by simp only [go_sem, reduceIte, seval]) D2 M2 (Nat.le_refl _) lD lP lM (by omega) ⟨?_, PD.app P2' _⟩
    exact hJ [_, _, _, _] _
  · rw [hw] at qdec
    simp only [Bool.true_and, if_true] at qdec ⊢
    have hv1 : headV (getK p 0 4 : Int) (liveP p) (getK p 5 2 : Int) (getK p 7 4 : Int) = [.int .i64 (getK p 0 4 : Int), .bool (liveP p), .int .i64 (getK p 5 2 : Int), .int .u32 (getK p 7 4 : Int)] := rfl
    rw [hv1] at qdec
    cases hlv : liveP p
    · rw [hlv] at qdec
      simp only [Bool.false_eq_true, if_false]
      have qn := fun e d => next_q (o := o ++ [.cells .ex 100 0 [.ptr dd 0, .int .i64 (a : Int), .int .i64 (s : Int)], .cells .ex 31 0 (bytesA p), .cells .ex 103 0 [.int .i64 (getK p 0 4 : Int), .bool false, .int .i64 (getK p 5 2 : Int), .int .u32 (getK p 7 4 : Int)], .cells .ex 31 0 (bytesA p)]) (e := e) (d := d) (v := .slice (o.length + 3) 0 1 64) (p := p) ⟨rfl, fun _ => ⟨o.length + 3, .ex, 31, rfl, by rw [app_getk _ _ 3, hpc]; rfl⟩, fun x hx => by rw [List.mem_singleton.1 hx]; exact h64⟩
      (repeat' (first | refine To.seq hxE2 ?_ | refine To.op0 hxE2 (by simp only [go_sem, reduceIte, seval, Heap.gets, Heap.sets, Heap.get, bytesA_one, bytesA_plains, List.take_of_length_le, List.drop_of_length_le, V.one, Nat.reduceLeDiff, List.all_cons, List.all_nil, ne_eq, not_false_eq_true, Nat.zero_le, qd0, qp0, qr0, qrd, qdec, b1, b2, b3, b4, w1, hbl, gp, gh, z64_len, z64_drop, List.append_nil, bne_self_eq_false, hm1, hm2, qn]; rfl) ?_ | refine To.op1 hxE2 (by simp only [go_sem, reduceIte, seval, Heap.sets, bytesA_one, bytesA_plains, List.drop_of_length_le, V.one, List.all_cons, List.all_nil, ne_eq, not_false_eq_true, Nat.zero_le, hbl, gp, gh, z64_len, z64_drop, List.append_nil, hm1, hm2]; rfl) ?_ | refine To.nop hxE2 ?_ | (refine To.condF hxE2 ?_ ?_; focus (simp only [go_sem, reduceIte, seval]; done)) | refine To.skip hxE2 ?_))
      obtain ⟨r2, oh2, q2, rfl, o2', d2, L2, P2⟩ := mark_x (e := o.length) (d := o.length) (a := (a : Int)) (s := (s : Int)) (sq := (nextP p : Int)) (lv := false) (c := 0) (sm := 0) (P.app [.cells .ex 100 0 [.ptr dd 0, .int .i64 (a : Int), .int .i64 (s : Int)], .cells .ex 31 0 (bytesA p), .cells .ex 103 0 [.int .i64 (getK p 0 4 : Int), .bool false, .int .i64 (getK p 5 2 : Int), .int .u32 (getK p 7 4 : Int)], .cells .ex 31 0 (bytesA p)]) (by omega) (by omega)
      obtain ⟨o2, rfl, D2⟩ := L2.dx.split lD lP lM
      have hl2 := D2.len
      have P2' := PD.chop P2 (by omega) (by omega) (by omega)
      have M2 := L2.low.chop
      have g2 := L2.eq
      have hhv2 : headV (nextP p : Int) false 0 0 = [.int .i64 (nextP p : Int), .bool false, .int .i64 0, .int .u32 0] := rfl
      rw [hrv, hhv2] at q2
      have gr2 : ∀ x r, (o2 ++ (x :: r))[o.length]? = some x := fun x r => by rw [← hl2]; exact app_get0 _ _ _
      have wn : IntKind.i64.wrap ((nextP p : Int) + 1) = (nextP p : Int) + 1 := wrap_i64 (by omega) (by omega)
      generalize dMark on ⟨false, left, pgs, ca⟩ (a : Int) (nextP p : Int) false 0 0 = w2 at *
      obtain ⟨n2, st2⟩ := w2
      simp only at q2 P2' ⊢
      refine To.op hxE2 (by simp only [go_sem, reduceIte, seval, q2]; rfl) ?_
      rw [g2]
      (repeat' (first | refine To.seq hxE2 ?_ | refine To.op0 hxE2 (by simp only [go_sem, reduceIte, seval]; rfl) ?_ | refine To.nop hxE2 ?_))
      unfold openM
      simp only
      by_cases hz : n2 = 0
      case neg =>
        have hb : (n2 != 0) = true := by simpa using hz
        rw [if_pos (by simpa using hz)]
        (repeat' (first | refine To.seq hxE2 ?_ | refine To.op0 hxE2 (by simp only [go_sem, reduceIte, seval, hb]; rfl) ?_ | refine To.nop hxE2 ?_ | (refine To.condT hxE2 ?_ ?_; focus (simp only [go_sem, reduceIte, seval, hb]; done)) | refine To.ret hxE2 ?_))
        exact fin_open_no (n := n2) (by simp only [go_sem, reduceIte, seval]) (by simp only [go_sem, reduceIte, seval]) (by simp only [go_sem, reduceIte, seval]) D2 M2 (Nat.le_refl _) lD lP lM P2' hz
      subst hz
      rw [if_neg (by simp)]
      have hJ : ∀ r x, (o2 ++ (r ++ [x]))[o2.length + r.length]? = some x := fun r x => by rw [app_getk]; simp
      (repeat' (first | refine To.seq hxE2 ?_ | refine To.op0 hxE2 (by simp only [go_sem, reduceIte, seval, Heap.gets, List.take_of_length_le, List.drop_of_length_le, Nat.reduceLeDiff, gr2, wn, bne_self_eq_false]; rfl) ?_ | refine To.op1 hxE2 (by simp only [go_sem, reduceIte, seval]; rfl) ?_ | refine To.nop hxE2 ?_ | (refine To.condF hxE2 ?_ ?_; focus (simp only [go_sem, reduceIte, seval, bne_self_eq_false]; done)) | refine To.ret hxE2 ?_ | refine To.skip hxE2 ?_))
      refine fin_open (jl := o2.length + 4) (by simp only [go_sem, reduceIte, seval]) (by simp only [go_sem, reduceIte, seval]) (by simp only [go_sem, reduceIte, seval]) D2 M2 (Nat.le_refl _) lD lP lM (by omega) ⟨?_, PD.app P2' _⟩
      exact hJ [_, _, _, _] _
    · rw [hlv] at qdec
      simp only [if_true]
      have hri : rightH (getK p 0 4) true (getK p 5 2) (getK p 7 4) = true := by
        unfold wholeP at hw
        rw [hlv] at hw
        exact (Bool.and_eq_true_iff.1 hw).1
      have hcn : 1 ≤ getK p 5 2 ∧ getK p 5 2 ≤ 512 := by
        unfold rightH at hri
        have := of_decide_eq_true ((Bool.and_eq_true_iff.1 hri).2)
        omega
      (repeat' (first | refine To.seq hxE2 ?_ | refine To.op0 hxE2 (by simp only [go_sem, reduceIte, seval, Heap.gets, Heap.sets, Heap.get, bytesA_one, bytesA_plains, List.take_of_length_le, List.drop_of_length_le, V.one, Nat.reduceLeDiff, List.all_cons, List.all_nil, ne_eq, not_false_eq_true, Nat.zero_le, qd0, qp0, qr0, qrd, qdec, b1, b2, b3, b4, w1, hbl, gp, gh, z64_len, z64_drop, List.append_nil, bne_self_eq_false, hm1, hm2]; rfl) ?_ | refine To.op1 hxE2 (by simp only [go_sem, reduceIte, seval, Heap.sets, bytesA_one, bytesA_plains, List.drop_of_length_le, V.one, List.all_cons, List.all_nil, ne_eq, not_false_eq_true, Nat.zero_le, hbl, gp, gh, z64_len, z64_drop, List.append_nil, hm1, hm2]; rfl) ?_ | refine To.nop hxE2 ?_ | (refine To.condT hxE2 ?_ ?_; focus (simp only [go_sem, reduceIte, seval]; done)) | (refine To.condF hxE2 ?_ ?_; focus (simp only [go_sem, reduceIte, seval]; done)) | refine To.skip hxE2 ?_))
      obtain ⟨r2, oh2, q2, rfl, o2', d2, L2, P2⟩ := redo_x (e := o.length) (d := o.length) (sq := (getK p 0 4 : Int)) (lv := true) (sm := (getK p 7 4 : Int)) (P.app [.cells .ex 100 0 [.ptr dd 0, .int .i64 (a : Int), .int .i64 (s : Int)], .cells .ex 31 0 (bytesA p), .cells .ex 103 0 [.int .i64 (getK p 0 4 : Int), .bool true, .int .i64 (getK p 5 2 : Int), .int .u32 (getK p 7 4 : Int)]]) hin hpl hcn.1 hcn.2 (by omega) (by omega)
      obtain ⟨o2, rfl, D2⟩ := L2.dx.split lD lP lM
      have hl2 := D2.len
      have P2' := PD.chop P2 (by omega) (by omega) (by omega)
      have M2 := L2.low.chop
      have g2 := L2.eq
      have hhv2 : headV (getK p 0 4 : Int) true (getK p 5 2 : Int) (getK p 7 4 : Int) = [.int .i64 (getK p 0 4 : Int), .bool true, .int .i64 (getK p 5 2 : Int), .int .u32 (getK p 7 4 : Int)] := rfl
      rw [hrv, hhv2] at q2
      have gr2 : ∀ x r, (o2 ++ (x :: r))[o.length]? = some x := fun x r => by rw [← hl2]; exact app_get0 _ _ _
      have gh2 : ∀ x y z r, (o2 ++ (x :: y :: z :: r))[o.length + 2]? = some z := fun x y z r => by rw [← hl2]; exact app_getk _ _ 2
      have wn : IntKind.i64.wrap ((getK p 0 4 : Int) + 2) = (getK p 0 4 : Int) + 2 := wrap_i64 (by omega) (by omega)
      generalize dRedo on ⟨false, left, pgs, ca⟩ a s (getK p 0 4 : Int) (getK p 5 2) (getK p 7 4 : Int) = w2 at *
      obtain ⟨n1, n2, st2⟩ := w2
      simp only at q2 P2' ⊢
      refine To.op hxE2 (by simp only [go_sem, reduceIte, seval, q2]; rfl) ?_
      rw [g2]
      (repeat' (first | refine To.seq hxE2 ?_ | refine To.op0 hxE2 (by simp only [go_sem, reduceIte, seval]; rfl) ?_ | refine To.nop hxE2 ?_))
      unfold openB
      simp only
      by_cases hz : n2 = 0
      case neg =>
        have hb : (n2 != 0) = true := by simpa using hz
        rw [if_pos (by simpa using hz)]
        (repeat' (first | refine To.seq hxE2 ?_ | refine To.op0 hxE2 (by simp only [go_sem, reduceIte, seval, hb]; rfl) ?_ | refine To.nop hxE2 ?_ | (refine To.condT hxE2 ?_ ?_; focus (simp only [go_sem, reduceIte, seval, hb]; done)) | refine To.ret hxE2 ?_))
        exact fin_open_no (n := n2) (by simp only [go_sem, reduceIte, seval]) (by simp only [go_sem, reduceIte, seval]) (by simp only [go_sem, reduceIte, seval]) D2 M2 (Nat.le_refl _) lD lP lM P2' hz
      subst hz
      rw [if_neg (by simp)]
      have hJ : ∀ r x, (o2 ++ (r ++ [x]))[o2.length + r.length]? = some x := fun r x => by rw [app_getk]; simp
      (repeat' (first | refine To.seq hxE2 ?_ | refine To.op0 hxE2 (by simp only [go_sem, reduceIte, seval, Heap.gets, Heap.get, List.take_of_length_le, List.drop_of_length_le, Nat.add_zero, Nat.reduceLeDiff, gr2, gh2, wn, bne_self_eq_false]; rfl) ?_ | refine To.op1 hxE2 (by simp only [go_sem, reduceIte, seval]; rfl) ?_ | refine To.nop hxE2 ?_ | (refine To.condF hxE2 ?_ ?_; focus (simp only [go_sem, reduceIte, seval, bne_self_eq_false]; done)) | refine To.ret hxE2 ?_ | refine To.skip hxE2 ?_))
      refine fin_open (jl := o2.length + 3) (by simp only [go_sem, reduceIte, seval]) (by simp only [go_sem, reduceIte, seval]) (by simp only [go_sem, reduceIte, seval]) D2 M2 (Nat.le_refl _) lD lP lM (by omega) ⟨?_, PD.app P2' _⟩
      exact hJ [_, _, _] _
end
end Go.Proofs.Ytfbkeieoeagkdaa

/- Store: a store in memory; calls that read. -/
namespace Go.Proofs.Ytfbkeieoeagkdaa
open Go AM
set_option linter.unusedSimpArgs false
set_option linter.unusedVariables false
set_option maxRecDepth 100000

/-- Pages by their numbers, fit for a map. -/
structure OkM (np : Nat) (m : List (Nat × Pg)) : Prop where
  nd : (m.map (·.1)).Nodup
  fit : ∀ e ∈ m, e.2.length = 64 ∧ e.1 < np
/-- A store in memory. -/
structure PS (o : List AM.Obj) (sp jl dd pg lm st gr : Nat) (a s : Nat) (seq : Int) (over on : Bool) (ds : DSt) (S G : List (Nat × Pg)) : Prop where
  hs : o[sp]? = some (.cells .ex 115 0 [.ptr jl 0, .ptr dd 0, .int .i64 (a : Int), .int .i64 (s : Int), .map st, .map gr])
  J : PJ o jl dd pg lm a s seq over on ds
  hS : o[st]? = some (.map (S.map ent))
  hG : o[gr]? = some (.map (G.map ent))
  n1 : st ≠ gr
  n2 : st ≠ lm
  n3 : gr ≠ lm
  okS : OkM ds.pgs.length S
  okG : OkM ds.pgs.length G
def mayE (over : Bool) (np a s : Nat) (i : Int) : Int := if over = true then 5 else if i < 0 ∨ (np : Int) ≤ i ∨ ((a : Int) ≤ i ∧ i < (a : Int) + s) then 22 else 0
section
variable {o : List AM.Obj} {e d sp jl dd pg lm st gr a s : Nat} {seq : Int} {over on : Bool} {ds : DSt} {S G : List (Nat × Pg)}
theorem PS.ls (P : PS o sp jl dd pg lm st gr a s seq over on ds S G) : sp < o.length := get_lt P.hs
theorem PS.lst (P : PS o sp jl dd pg lm st gr a s seq over on ds S G) : st < o.length := get_lt P.hS
theorem PS.lgr (P : PS o sp jl dd pg lm st gr a s seq over on ds S G) : gr < o.length := get_lt P.hG
theorem PS.app (P : PS o sp jl dd pg lm st gr a s seq over on ds S G) (r : List AM.Obj) : PS (o ++ r) sp jl dd pg lm st gr a s seq over on ds S G :=
  ⟨app_old P.hs r, P.J.app r, app_old P.hS r, app_old P.hG r, P.n1, P.n2, P.n3, P.okS, P.okG⟩
theorem sover_q (P : PS o sp jl dd pg lm st gr a s seq over on ds S G) : Den FF E2 42 [.ptr sp 0] ⟨o, e, d⟩ = some (.val (.bool over), none) := by
  refine To.den hxE2 (f := 42) (a := af42) rfl (E2_none rfl) (Nat.le_of_ble_eq_true rfl) ?_
  have q := fun e d => jover_q (e := e) (d := d) P.J
  (repeat' (first | refine To.seq hxE2 ?_ | refine To.op0 hxE2 (by simp only [go_sem, reduceIte, seval, Heap.get, Nat.add_zero, P.hs, q]; rfl) ?_ | refine To.nop hxE2 ?_ | refine To.ret hxE2 ?_))
  try simp only [andThen, outOf]
  exact fin_k1 (i := 2) (v := .bool over) rfl (by simp only [go_sem, reduceIte, seval]) rfl (Kp.enter' _)
set_option maxHeartbeats 4000000 in
theorem smay_q (P : PS o sp jl dd pg lm st gr a s seq over on ds S G) (ha : a ≤ 100000) (hs : s ≤ 1000000) (i : Int) : Den FF E2 62 [.ptr sp 0, .int .i64 i] ⟨o, e, d⟩ = some (.val (.int .i64 (mayE over ds.pgs.length a s i)), none) := by
  refine To.den hxE2 (f := 62) (a := af62) rfl (E2_none rfl) (Nat.le_of_ble_eq_true rfl) ?_
  have q := fun e d => sover_q (e := e) (d := d) P
  have qp := fun e d => pages_q (e := e) (d := d) P.J.P
  unfold mayE
  cases over
  case true =>
    rw [if_pos rfl]
    (repeat' (first | refine To.seq hxE2 ?_ | refine To.op0 hxE2 (by simp only [go_sem, reduceIte, seval, q]; rfl) ?_ | refine To.nop hxE2 ?_ | (refine To.condT hxE2 ?_ ?_; focus (simp only [go_sem, reduceIte, seval]; done)) | refine To.block hxE2 ?_ | refine To.ret hxE2 ?_))
    exact fin_k1 (i := 4) (v := .int .i64 5) rfl (by simp only [go_sem, reduceIte, seval]) rfl (Kp.enter' _)
  rw [if_neg (by decide)]
  have wa : IntKind.i64.wrap ((a : Int) + (s : Int)) = (a : Int) + (s : Int) := wrap_i64 (by omega) (by omega)
  by_cases h1 : i < 0
  · have d1 : decide (i < 0) = true := decide_eq_true h1
    rw [if_pos (.inl h1)]
    (repeat' (first | refine To.seq hxE2 ?_ | refine To.op0 hxE2 (by simp only [go_sem, reduceIte, seval, q]; rfl) ?_ | refine To.nop hxE2 ?_ | (refine To.condT hxE2 ?_ ?_; focus (simp only [go_sem, reduceIte, seval]; done)) | (refine To.condF hxE2 ?_ ?_; focus (simp only [go_sem, reduceIte, seval]; done)) | refine To.block hxE2 ?_ | refine To.ret hxE2 ?_ | refine To.draw0 hxE2 ?_ | refine ToD.op0 (by simp only [go_sem, reduceIte, seval, d1]; rfl) (by simp only [put_some]; rfl) ?_ | refine ToD.nop ?_))
    exact fin_k1 (i := 4) (v := .int .i64 22) rfl (by simp only [go_sem, reduceIte, seval]) rfl (Kp.enter' _)
  have d1 : decide (i < 0) = false := decide_eq_false h1
  by_cases h2 : (ds.pgs.length : Int) ≤ i
  · have d2 : decide ((ds.pgs.length : Int) ≤ i) = true := decide_eq_true h2
    rw [if_pos (.inr (.inl h2))]
    (repeat' (first | refine To.seq hxE2 ?_ | refine To.op0 hxE2 (by simp only [go_sem, reduceIte, seval, q]; rfl) ?_ | refine To.nop hxE2 ?_ | (refine To.condT hxE2 ?_ ?_; focus (simp only [go_sem, reduceIte, seval]; done)) | (refine To.condF hxE2 ?_ ?_; focus (simp only [go_sem, reduceIte, seval]; done)) | refine To.block hxE2 ?_ | refine To.ret hxE2 ?_ | refine To.draw0 hxE2 ?_ | refine ToD.op0 (by simp only [go_sem, reduceIte, seval, Heap.get, Nat.add_zero, qp, P.hs, d1, d2]; rfl) (by simp only [put_some]; rfl) ?_ | refine ToD.nop ?_))
    exact fin_k1 (i := 4) (v := .int .i64 22) rfl (by simp only [go_sem, reduceIte, seval]) rfl (Kp.enter' _)
  have d2 : decide ((ds.pgs.length : Int) ≤ i) = false := decide_eq_false h2
  by_cases h3 : (a : Int) ≤ i
  · have d3 : decide ((a : Int) ≤ i) = true := decide_eq_true h3
    by_cases h4 : i < (a : Int) + (s : Int)
    · have d4 : decide (i < (a : Int) + (s : Int)) = true := decide_eq_true h4
      rw [if_pos (.inr (.inr ⟨h3, h4⟩))]
      (repeat' (first | refine To.seq hxE2 ?_ | refine To.op0 hxE2 (by simp only [go_sem, reduceIte, seval, q]; rfl) ?_ | refine To.nop hxE2 ?_ | (refine To.condT hxE2 ?_ ?_; focus (simp only [go_sem, reduceIte, seval]; done)) | (refine To.condF hxE2 ?_ ?_; focus (simp only [go_sem, reduceIte, seval]; done)) | refine To.block hxE2 ?_ | refine To.ret hxE2 ?_ | refine To.draw0 hxE2 ?_ | refine ToD.op0 (by simp only [go_sem, reduceIte, seval, Heap.get, Nat.add_zero, qp, P.hs, d1, d2, d3, d4, wa]; rfl) (by simp only [put_some]; rfl) ?_ | refine ToD.nop ?_))
      exact fin_k1 (i := 4) (v := .int .i64 22) rfl (by simp only [go_sem, reduceIte, seval]) rfl (Kp.enter' _)
    · have d4 : decide (i < (a : Int) + (s : Int)) = false := decide_eq_false h4
      rw [if_neg (by omega)]
      (repeat' (first | refine To.seq hxE2 ?_ | refine To.op0 hxE2 (by simp only [go_sem, reduceIte, seval, q]; rfl) ?_ | refine To.nop hxE2 ?_ | (refine To.condF hxE2 ?_ ?_; focus (simp only [go_sem, reduceIte, seval]; done)) | refine To.block hxE2 ?_ | refine To.ret hxE2 ?_ | refine To.skip hxE2 ?_ | refine To.draw0 hxE2 ?_ | refine ToD.op0 (by simp only [go_sem, reduceIte, seval, Heap.get, Nat.add_zero, qp, P.hs, d1, d2, d3, d4, wa]; rfl) (by simp only [put_some]; rfl) ?_ | refine ToD.nop ?_))
      exact fin_k1 (i := 4) (v := .int .i64 0) rfl (by simp only [go_sem, reduceIte, seval]) rfl (Kp.enter' _)
  · have d3 : decide ((a : Int) ≤ i) = false := decide_eq_false h3
    rw [if_neg (by omega)]
    (repeat' (first | refine To.seq hxE2 ?_ | refine To.op0 hxE2 (by simp only [go_sem, reduceIte, seval, q]; rfl) ?_ | refine To.nop hxE2 ?_ | (refine To.condF hxE2 ?_ ?_; focus (simp only [go_sem, reduceIte, seval]; done)) | refine To.block hxE2 ?_ | refine To.ret hxE2 ?_ | refine To.skip hxE2 ?_ | refine To.draw0 hxE2 ?_ | refine ToD.op0 (by simp only [go_sem, reduceIte, seval, Heap.get, Nat.add_zero, qp, P.hs, d1, d2, d3]; rfl) (by simp only [put_some]; rfl) ?_ | refine ToD.nop ?_))
    exact fin_k1 (i := 4) (v := .int .i64 0) rfl (by simp only [go_sem, reduceIte, seval]) rfl (Kp.enter' _)
end
end Go.Proofs.Ytfbkeieoeagkdaa

/- Store: Put, Read. -/
namespace Go.Proofs.Ytfbkeieoeagkdaa
open Go AM
set_option linter.unusedSimpArgs false
set_option linter.unusedVariables false
set_option maxRecDepth 100000

theorem mayE_ok {over : Bool} {np a s : Nat} {i : Int} (h : mayE over np a s i = 0) : over = false ∧ ∃ k : Nat, i = (k : Int) ∧ k < np ∧ ¬ (a ≤ k ∧ k < a + s) := by
  unfold mayE at h
  split at h
  · cases h
  · rename_i hd
    split at h
    · cases h
    · rename_i hi
      obtain ⟨k, rfl⟩ := Int.eq_ofNat_of_zero_le (a := i) (by omega)
      exact ⟨by simpa using hd, k, rfl, by omega, by omega⟩
theorem okM_put {np k : Nat} {p : Pg} {S : List (Nat × Pg)} (h : OkM np S) (hp : p.length = 64) (hk : k < np) : OkM np (putC k p S) :=
  ⟨putC_nodup h.nd, fun x hx => by
    rcases putC_mem hx with rfl | hx
    · exact ⟨hp, hk⟩
    · exact h.fit x hx⟩
section
variable {o : List AM.Obj} {e d sp jl dd pg lm st gr a s : Nat} {seq : Int} {over on : Bool} {ds : DSt} {S G : List (Nat × Pg)}
set_option maxHeartbeats 4000000 in
theorem sput_no (P : PS o sp jl dd pg lm st gr a s seq over on ds S G) (ha : a ≤ 100000) (hs : s ≤ 1000000) {i : Int} {p : Pg} (hp : p.length = 64) (h0 : mayE over ds.pgs.length a s i ≠ 0) : Den FF E2 37 [.ptr sp 0, .int .i64 i, .agg (bytesA p)] ⟨o, e, d⟩ = some (.val (.int .i64 (mayE over ds.pgs.length a s i)), none) := by
  refine To.den hxE2 (f := 37) (a := af37) rfl (E2_none rfl) (Nat.le_of_ble_eq_true rfl) ?_
  have q := fun r e d => smay_q (e := e) (d := d) (P.app r) ha hs i
  have hb : (mayE over ds.pgs.length a s i != 0) = true := by simpa using h0
  generalize mayE over ds.pgs.length a s i = er at q hb ⊢
  (repeat' (first | refine To.seq hxE2 ?_ | refine To.op0 hxE2 (by simp only [go_sem, reduceIte, seval, q, hb]; rfl) ?_ | refine To.op1 hxE2 (by simp only [go_sem, seval]; rfl) ?_ | refine To.nop hxE2 ?_ | (refine To.condT hxE2 ?_ ?_; focus (simp only [go_sem, reduceIte, seval]; done)) | refine To.ret hxE2 ?_))
  try simp only [andThen]
  exact fin_k1 (i := 6) (v := .int .i64 er) rfl (by simp only [go_sem, reduceIte, seval]) rfl (kp_app (by omega) (by omega))
set_option maxHeartbeats 4000000 in
theorem sput_full (P : PS o sp jl dd pg lm st gr a s seq over on ds S G) (ha : a ≤ 100000) (hs : s ≤ 1000000) {k : Nat} {p : Pg} (hp : p.length = 64) (h0 : mayE over ds.pgs.length a s (k : Int) = 0) (hf : findC k S = none) (hl : roomJ s ≤ S.length) : Den FF E2 37 [.ptr sp 0, .int .i64 (k : Int), .agg (bytesA p)] ⟨o, e, d⟩ = some (.val (.int .i64 28), none) := by
  refine To.den hxE2 (f := 37) (a := af37) rfl (E2_none rfl) (Nat.le_of_ble_eq_true rfl) ?_
  have q := fun r e d => smay_q (e := e) (d := d) (P.app r) ha hs (k : Int)
  rw [h0] at q
  have qr := fun r e d => jroom_q (e := e) (d := d) (P.J.app r)
  have gs := fun r => app_old P.hs r
  have gS := fun r => app_old P.hS r
  have hkey : V.key .i (.int .i64 (k : Int)) = true := rfl
  have hmf := mapFind_ent k S P.okS.nd
  rw [hf] at hmf
  have hd : decide ((roomJ s : Int) ≤ (S.length : Int)) = true := decide_eq_true (by omega)
  (repeat' (first | refine To.seq hxE2 ?_ | refine To.op0 hxE2 (by simp only [go_sem, reduceIte, seval, Heap.sets, Heap.get, ne_eq, not_false_eq_true, Nat.zero_le, q, gs, gS, hkey, hmf, z64_len, z64_drop, z64_one, z64_plains, bne_self_eq_false, Option.isSome_none, Option.getD_none, Option.map_none]; rfl) ?_ | refine To.op1 hxE2 (by simp only [go_sem, reduceIte, seval, Heap.sets, ne_eq, not_false_eq_true, Nat.zero_le, z64_len, z64_drop, z64_one, z64_plains]; rfl) ?_ | refine To.nop hxE2 ?_ | (refine To.condT hxE2 ?_ ?_; focus (simp only [go_sem, reduceIte, seval]; done)) | (refine To.condF hxE2 ?_ ?_; focus (simp only [go_sem, reduceIte, seval]; done)) | refine To.ret hxE2 ?_ | refine To.skip hxE2 ?_ | refine To.draw0 hxE2 ?_ | refine ToD.op0 (by simp only [go_sem, reduceIte, seval, Heap.get, Nat.add_zero, qr, gs, gS, hd, List.length_map]; rfl) (by simp only [put_some]; rfl) ?_ | refine ToD.nop ?_))
  try simp only [andThen]
  exact fin_k1 (i := 6) (v := .int .i64 28) rfl (by simp only [go_sem, reduceIte, seval]) rfl (kp_app (by omega) (by omega))
theorem PS.putS (P : PS o sp jl dd pg lm st gr a s seq over on ds S G) {k : Nat} {p : Pg} (hp : p.length = 64) (hk : k < ds.pgs.length) : PS (o.set st (.map ((putC k p S).map ent))) sp jl dd pg lm st gr a s seq over on ds (putC k p S) G := by
  have n0 := ne_map P.hs P.hS
  have n4 := ne_map P.J.hj P.hS
  have n5 := ne_map P.J.P.hd P.hS
  have n6 := ne_map P.J.P.hp P.hS
  refine ⟨by rw [List.getElem?_set_ne (Ne.symm n0)]; exact P.hs, ⟨by rw [List.getElem?_set_ne (Ne.symm n4)]; exact P.J.hj, ?_⟩, List.getElem?_set_self P.lst, by rw [List.getElem?_set_ne P.n1]; exact P.hG, P.n1, P.n2, P.n3, okM_put P.okS hp hk, P.okG⟩
  have D := P.J.P
  exact ⟨by rw [List.getElem?_set_ne (Ne.symm n5)]; exact D.hd, by rw [List.getElem?_set_ne (Ne.symm n6)]; exact D.hp, by rw [List.getElem?_set_ne P.n2]; exact D.hm, D.p64, D.c64, D.nd⟩
set_option maxHeartbeats 4000000 in
theorem sput_ok (P : PS o sp jl dd pg lm st gr a s seq over on ds S G) (ha : a ≤ 100000) (hs : s ≤ 1000000) {k : Nat} {p : Pg} (hp : p.length = 64) (h0 : mayE over ds.pgs.length a s (k : Int) = 0) (hf : findC k S ≠ none ∨ S.length < roomJ s) :
    ∃ r oh, Den FF E2 37 [.ptr sp 0, .int .i64 (k : Int), .agg (bytesA p)] ⟨o, e, d⟩ = some (r, oh) ∧ r = .val (.int .i64 0) ∧ ∃ d', oh.getD ⟨o, e, d⟩ = ⟨o.set st (.map ((putC k p S).map ent)), e, d'⟩ ∧ PS (o.set st (.map ((putC k p S).map ent))) sp jl dd pg lm st gr a s seq over on ds (putC k p S) G := by
  refine To.denE hxE2 (f := 37) (a := af37) rfl (E2_none rfl) (Nat.le_of_ble_eq_true rfl) ?_
  have q := fun r e d => smay_q (e := e) (d := d) (P.app r) ha hs (k : Int)
  rw [h0] at q
  have qr := fun r e d => jroom_q (e := e) (d := d) (P.J.app r)
  have gs := fun r => app_old P.hs r
  have gS := fun r => app_old P.hS r
  have hkey : V.key .i (.int .i64 (k : Int)) = true := rfl
  have hmf := mapFind_ent k S P.okS.nd
  have hmp := mapPut_ent k p S P.okS.nd
  have hlst := P.lst
  have gb : ∀ (x : AM.Obj) r, (o ++ (x :: r))[o.length]? = some x := fun x r => app_get0 _ _ _
  have hst : ∀ x r, (o ++ r).set st x = o.set st x ++ r := fun x r => set_app _ _ _ hlst
  have htk : List.take 64 (bytesA p) = bytesA p := List.take_of_length_le (by rw [bytesA_length]; omega)
  obtain ⟨_, k', hk', hk, _⟩ := mayE_ok h0
  obtain rfl : k = k' := by omega
  have hfin : ∀ (S' : Nat → V) (d1 : Nat) (r : List AM.Obj), S' 6 = .int .i64 0 → d1 ≤ st → ∃ rr oh, finish af37 ⟨o, e, d⟩ (some (.ret, S', ⟨o.set st (.map ((putC k p S).map ent)) ++ r, o.length, d1⟩)) = some (rr, oh) ∧ rr = .val (.int .i64 0) ∧ ∃ d', oh.getD ⟨o, e, d⟩ = ⟨o.set st (.map ((putC k p S).map ent)), e, d'⟩ ∧ PS (o.set st (.map ((putC k p S).map ent))) sp jl dd pg lm st gr a s seq over on ds (putC k p S) G := by
    intro S' d1 r h6 hd1
    refine ⟨_, _, fin1 (i := 6) rfl, by rw [h6], ?_⟩
    rw [h6]
    obtain ⟨d2, hlv, _⟩ := leave_app2 (o := o) (o' := o.set st (.map ((putC k p S).map ent))) (r := r) (e := e) (d := d) (e' := o.length) (d' := d1) (v := .int .i64 0) rfl (by simp) (Nat.le_refl _) (fun h => by omega)
    exact ⟨d2, hlv, P.putS hp hk⟩
  cases hfc : findC k S with
  | some p0 =>
    rw [hfc] at hmf
    have hp64 : p0.length = 64 := by
      unfold findC at hfc
      obtain ⟨x, hx, rfl⟩ := Option.map_eq_some_iff.1 hfc
      exact (P.okS.fit x (List.mem_of_find?_eq_some hx)).1
    have htk0 : List.take 64 (bytesA p0) = bytesA p0 := List.take_of_length_le (by rw [bytesA_length]; omega)
    (repeat' (first | refine To.seq hxE2 ?_ | refine To.op0 hxE2 (by simp only [go_sem, reduceIte, seval, Heap.sets, Heap.get, bytesA_length, bytesA_one, bytesA_plains, ne_eq, not_false_eq_true, Nat.zero_le, q, gs, gS, hkey, hmf, hp64, z64_len, z64_drop, bne_self_eq_false, Option.isSome_some, Option.getD_some, Option.map_some]; rfl) ?_ | refine To.op1 hxE2 (by simp only [go_sem, reduceIte, seval, Heap.sets, bytesA_length, bytesA_one, bytesA_plains, ne_eq, not_false_eq_true, Nat.zero_le, hp64, z64_len, z64_drop]; rfl) ?_ | refine To.nop hxE2 ?_ | (refine To.condF hxE2 ?_ ?_; focus (simp only [go_sem, reduceIte, seval]; done)) | refine To.ret hxE2 ?_ | refine To.skip hxE2 ?_ | refine To.draw0 hxE2 ?_ | refine ToD.op0 (by simp only [go_sem, reduceIte, seval, Heap.gets, Heap.get, bytesA_length, bytesA_plains, List.take_of_length_le, Nat.add_zero, List.all_nil, gs, gS, gb, hkey, hmp, hp, hst, Heap.setMap]; rfl) (by simp only [put_some]; rfl) ?_ | refine ToD.op1 (by simp only [go_sem, reduceIte, seval, bytesA_plains, List.all_nil, gS, hkey, hmp, hst, Heap.setMap]; rfl) (by simp only [put_none]; rfl) (by simp only [KD.app, go_sem, seval]; rfl) ?_ | refine ToD.nop ?_))
    try simp only [andThen, outOf]
    exact hfin _ _ _ (by simp only [go_sem, reduceIte, seval]) (by omega)
  | none =>
    rw [hfc] at hmf
    have hlt : S.length < roomJ s := by
      rcases hf with hf | hf
      · exact absurd hfc hf
      · exact hf
    have hd : decide ((roomJ s : Int) ≤ (S.length : Int)) = false := decide_eq_false (by omega)
    (repeat' (first | refine To.seq hxE2 ?_ | refine To.op0 hxE2 (by simp only [go_sem, reduceIte, seval, Heap.sets, Heap.get, ne_eq, not_false_eq_true, Nat.zero_le, q, gs, gS, hkey, hmf, z64_len, z64_drop, z64_one, z64_plains, bne_self_eq_false, Option.isSome_none, Option.getD_none, Option.map_none]; rfl) ?_ | refine To.op1 hxE2 (by simp only [go_sem, reduceIte, seval, Heap.sets, ne_eq, not_false_eq_true, Nat.zero_le, z64_len, z64_drop, z64_one, z64_plains]; rfl) ?_ | refine To.nop hxE2 ?_ | (refine To.condF hxE2 ?_ ?_; focus (simp only [go_sem, reduceIte, seval]; done)) | refine To.ret hxE2 ?_ | refine To.skip hxE2 ?_ | refine To.draw0 hxE2 ?_ | refine ToD.op0 (by simp only [go_sem, reduceIte, seval, Heap.gets, Heap.get, bytesA_length, bytesA_plains, List.take_of_length_le, Nat.add_zero, List.all_nil, qr, gs, gS, gb, hkey, hmp, hp, hd, hst, Heap.setMap, List.length_map]; rfl) (by simp only [put_some]; rfl) ?_ | refine ToD.op1 (by simp only [go_sem, reduceIte, seval, bytesA_plains, List.all_nil, gS, hkey, hmp, hst, Heap.setMap]; rfl) (by simp only [put_none]; rfl) (by simp only [KD.app, go_sem, seval]; rfl) ?_ | refine ToD.nop ?_))
    try simp only [andThen, outOf]
    exact hfin _ _ _ (by simp only [go_sem, reduceIte, seval]) (by omega)
end
end Go.Proofs.Ytfbkeieoeagkdaa

/- Store: pages as changes. -/
namespace Go.Proofs.Ytfbkeieoeagkdaa
open Go AM
set_option linter.unusedSimpArgs false
set_option linter.unusedVariables false
set_option maxRecDepth 100000

def csK (G : List (Nat × Pg)) (K : List Nat) : List (Int × Pg) := K.map fun i : Nat => ((i : Int), (findC i G).getD (zs 64))
/-- Pages as changes, by their numbers. -/
def csG (np : Nat) (G : List (Nat × Pg)) : List (Int × Pg) := csK G (keysN np G)
theorem csK_succ (G : List (Nat × Pg)) {K : List Nat} {i k : Nat} (h : K[i]? = some k) : csK G (K.take (i + 1)) = csK G (K.take i) ++ [((k : Int), (findC k G).getD (zs 64))] := by
  unfold csK
  rw [List.take_add_one, h, Option.toList_some, List.map_append]; rfl
theorem findC_64 {np k : Nat} {G : List (Nat × Pg)} {p : Pg} (h : OkM np G) (hf : findC k G = some p) : p.length = 64 := by
  unfold findC at hf
  obtain ⟨x, hx, rfl⟩ := Option.map_eq_some_iff.1 hf
  exact (h.fit x (List.mem_of_find?_eq_some hx)).1
theorem csK_64 {np : Nat} {G : List (Nat × Pg)} (h : OkM np G) {K : List Nat} : ∀ c ∈ csK G K, c.2.length = 64 := fun c hc => by
  obtain ⟨i, _, rfl⟩ := List.mem_map.1 hc
  show ((findC i G).getD (zs 64)).length = 64
  cases hf : findC i G with
  | none => rfl
  | some p => exact findC_64 h hf
theorem csK_len (G : List (Nat × Pg)) (K : List Nat) : (csK G K).length = K.length := List.length_map ..
theorem OkM.small {np : Nat} {G : List (Nat × Pg)} (h : OkM np G) (hn : np ≤ 1000000) : ∀ e ∈ G, e.1 < 1000000 := fun e he => by have := (h.fit e he).2; omega
theorem OkM.keys {np : Nat} {G : List (Nat × Pg)} (h : OkM np G) : G.length = (keysN np G).length := by
  have h0 := isort_keys h.nd fun e he => (h.fit e he).2
  have h1 := (isort_perm (G.map fun e => (e.1 : Int))).length_eq
  rw [h0] at h1
  simpa using h1.symm
theorem keysN_le (np : Nat) (G : List (Nat × Pg)) : (keysN np G).length ≤ np := Nat.le_trans (List.length_filter_le _ _) (by rw [List.length_range]; exact Nat.le_refl _)
section
variable {o : List AM.Obj} {e d gr np : Nat} {G : List (Nat × Pg)}
theorem keys2_q : Den FF E2 82 [.map gr] ⟨o, o.length, o.length⟩ = some (.val (.fn 91 [] [.ptr o.length 0]), some ⟨o ++ [.cells .ex 113 0 [.map gr]], o.length, o.length⟩) := by
  refine To.den hxE2 (f := 82) (a := af82) rfl (E2_none rfl) (Nat.le_of_ble_eq_true rfl) ?_
  (repeat' (first | refine To.seq hxE2 ?_ | refine To.op0 hxE2 (by simp only [go_sem, reduceIte, seval]; rfl) ?_ | refine To.op1 hxE2 (by simp only [go_sem, seval]; rfl) ?_ | refine To.nop hxE2 ?_ | refine To.ret hxE2 ?_))
  try simp only [andThen, outOf]
  rw [fin1 (i := 2) rfl, leave_some (by simp only [go_sem, reduceIte, seval])]
  simp only [go_sem, reduceIte, seval]
theorem sorted2_nil {b t : Nat} {r : List AM.Obj} {e d : Nat} (hm : (o ++ r)[gr]? = some (.map [])) (hb : (o ++ r)[b]? = some (.cells .ex t 0 [.map gr])) :
    Den FF E2 50 [.fn 91 [] [.ptr b 0]] ⟨o ++ r, e, d⟩ = some (.val .nils, none) := by
  refine den_hand rfl rfl (sortedH_of2 ?_)
  unfold sortedG2
  simp only [hb, hm, keysOf]
  rw [if_pos ⟨rfl, Nat.zero_le _⟩, if_pos trivial]
theorem sorted2_some (hn : np ≤ 1000) (hG : OkM np G) (hc : G ≠ []) {b t : Nat} {r : List AM.Obj} {e d : Nat} (hm : (o ++ r)[gr]? = some (.map (G.map ent))) (hb : (o ++ r)[b]? = some (.cells .ex t 0 [.map gr])) :
    Den FF E2 50 [.fn 91 [] [.ptr b 0]] ⟨o ++ r, e, d⟩ = some (.val (.slice (o ++ r).length 0 (keysN np G).length 1), some ⟨(o ++ r) ++ [.cells .gr 3 0 ((keysN np G).map fun i : Nat => V.int .i64 (i : Int))], e, d⟩) := by
  refine den_hand rfl rfl (sortedH_of2 ?_)
  have hlen : G.length ≤ 1000000 := by
    rw [hG.keys]
    have := keysN_le np G
    omega
  have hne : ¬ (G.map fun e => (e.1 : Int)) = [] := by simpa using hc
  unfold sortedG2
  simp only [hb, hm, keysOf_ent (hG.small (by omega))]
  rw [if_pos ⟨apart_ent hG.nd, by rw [List.length_map]; exact hlen⟩, if_neg hne, isort_keys hG.nd fun e he => (hG.fit e he).2, List.map_map, List.length_map, hG.keys]
  rfl
set_option maxHeartbeats 8000000 in
theorem changes_x (hn : np ≤ 1000) (hG : OkM np G) (hm : o[gr]? = some (.map (G.map ent))) :
    ∃ r oh, Den FF E2 65 [.map gr] ⟨o, e, d⟩ = some (r, oh) ∧ ∃ v rr e' d', r = .val v ∧ Gr o e d oh rr e' d' ∧ ChRow (o ++ rr) v (csG np G) := by
  refine To.denE hxE2 (f := 65) (a := af65) rfl (E2_none rfl) (Nat.le_of_ble_eq_true rfl) ?_
  have hK := keysN_le np G
  have hKm : ∀ i ∈ keysN np G, i ∈ G.map (·.1) := fun i hi => (keysN_mem.1 hi).2
  have hc0 : G = [] → keysN np G = [] := fun h => List.eq_nil_of_length_eq_zero (by rw [← hG.keys, h]; rfl)
  have qk := keys2_q (o := o) (gr := gr)
  have hmr : ∀ r, (o ++ r)[gr]? = some (.map (G.map ent)) := fun r => app_old hm r
  have qs : ∃ kv kr, Den FF E2 50 [.fn 91 [] [.ptr o.length 0]] ⟨o ++ [.cells .ex 113 0 [.map gr]], o.length, o.length⟩ = some (.val kv, kr) ∧ (∃ r, kr.getD ⟨o ++ [.cells .ex 113 0 [.map gr]], o.length, o.length⟩ = ⟨o ++ r, o.length, o.length⟩ ∧
      (keysN np G ≠ [] → kv = .slice (o.length + 1) 0 (keysN np G).length 1 ∧ (o ++ r)[o.length + 1]? = some (.cells .gr 3 0 ((keysN np G).map fun i : Nat => V.int .i64 (i : Int))))) ∧ lenLV kv = some (.int .i64 ((keysN np G).length : Int), none) := by
    by_cases hc : G = []
    · subst hc
      refine ⟨_, _, sorted2_nil (hmr _) (app_get0 _ _ _), ⟨_, rfl, fun h => absurd (hc0 rfl) h⟩, ?_⟩
      rw [hc0 rfl]; rfl
    · refine ⟨_, _, sorted2_some hn hG hc (hmr _) (app_get0 _ _ _), ⟨_, by rw [List.append_assoc]; rfl, fun _ => ⟨by simp, ?_⟩⟩, rfl⟩
      exact app_getk _ _ 1
  obtain ⟨kv, kr, qs, ⟨r, hr, hkv⟩, hkl⟩ := qs
  (repeat' (first | refine To.seq hxE2 ?_ | refine To.op0 hxE2 (by simp only [go_sem, reduceIte, seval, qk]; rfl) ?_ | refine To.op1 hxE2 (by simp only [go_sem, reduceIte, seval, qk]; rfl) ?_ | refine To.nop hxE2 ?_))
  refine To.op hxE2 (by simp only [go_sem, reduceIte, seval, qs]; rfl) ?_
  rw [hr]
  (repeat' (first | refine To.op0 hxE2 (by simp only [go_sem, reduceIte, seval, hkl]; rfl) ?_ | refine To.nop hxE2 ?_ | refine To.block hxE2 ?_))
  unfold csG
  generalize hKe : keysN np G = K at *
  refine To.loop hxE2 (fun m S h' => ∃ (i d1 : Nat) (r : List AM.Obj) (v : V), i + m = K.length ∧ h' = ⟨o ++ r, o.length, d1⟩ ∧ o.length ≤ d1 ∧ GrowX (o ++ r) o.length v 73 65 ((csK G (K.take i)).map chC) ∧ (K ≠ [] → (o ++ r)[o.length + 1]? = some (.cells .gr 3 0 (K.map fun i : Nat => V.int .i64 (i : Int)))) ∧ S 0 = .map gr ∧ S 3 = v ∧ S 8 = kv ∧ S 9 = .int .i64 (K.length : Int) ∧ S 10 = .int .i64 (i : Int)) ?_ K.length _ _ ?_
  · clear hr qs hkl
    rintro m S _ ⟨i, d1, r, v, hm', rfl, hd, hGx, hrow, s0, s3, s8, s9, s10⟩
    by_cases hi : i < K.length
    · have hlt : decide ((i : Int) < (K.length : Int)) = true := decide_eq_true (by omega)
      have ix : idxOf K.length (.int .i64 (i : Int)) = some i := idxOf_nat hi
      have wi : IntKind.i64.wrap ((i : Int) + 1) = ((i + 1 : Nat) : Int) := by rw [wrap_i64 (by omega) (by omega)]; omega
      have hK0 : K ≠ [] := by rintro rfl; simp at hi
      obtain ⟨rfl, _⟩ := hkv hK0
      have hrw := hrow hK0
      have hg : K[i]? = some K[i] := List.getElem?_eq_getElem hi
      have hsu := csK_succ G hg
      have hmem := hKm _ (List.getElem_mem hi)
      generalize K[i] = k at *
      have hkj : (K.map fun i : Nat => V.int .i64 (i : Int))[i]? = some (.int .i64 (k : Int)) := by rw [List.getElem?_map, hg]; rfl
      have hkey : V.key .i (.int .i64 (k : Int)) = true := rfl
      have hmf := mapFind_ent k G hG.nd
      obtain ⟨p, hfp⟩ : ∃ p, findC k G = some p := by
        have h1 := (hasK_iff (i := k) (ca := G)).2 hmem
        exact Option.isSome_iff_exists.1 h1
      have h64 := findC_64 hG hfp
      rw [hfp] at hmf hsu
      rw [Option.getD_some] at hsu
      have gl := hmr r
      have htk : List.take 64 (bytesA p) = bytesA p := List.take_of_length_le (by rw [bytesA_length]; omega)
      have hdr : List.drop 64 (bytesA p) = [] := List.drop_eq_nil_of_le (by rw [bytesA_length]; omega)
      have hzd : List.drop 1 z65 = z64 := rfl
      have hz1 : z65 = .int .i64 0 :: z64 := rfl
      have htk65 : List.take 65 (V.int .i64 (k : Int) :: bytesA p) = V.int .i64 (k : Int) :: bytesA p := List.take_of_length_le (by rw [List.length_cons, bytesA_length]; omega)
      have hrows : ∀ y ∈ (csK G (K.take i)).map chC, y.length = 65 := fun y hy => by
        obtain ⟨c, hc, rfl⟩ := List.mem_map.1 hy
        exact chC_len (csK_64 hG c hc)
      have hln : ((csK G (K.take i)).map chC).length ≤ 1000 := by rw [List.length_map, csK_len, List.length_take]; omega
      obtain ⟨v', r', D', hA, hG', hD1, hD2, _, hkeep⟩ := grow1 (o := o) (r := r ++ [.cells .ex 73 0 (V.int .i64 (k : Int) :: bytesA p)]) (b := 72) (by rw [← List.append_assoc]; exact hGx.app) (by decide) hrows (x := V.int .i64 (k : Int) :: bytesA p) (by rw [List.length_cons, bytesA_length]; omega) (room_small (by omega) (by decide)) (room_small (by decide) (by decide)) o.length d1
      have gb : ∀ x : AM.Obj, (o ++ (r ++ [x]))[o.length + r.length]? = some x := fun x => by
        rw [app_getk]; simp
      (repeat' (first | refine To.seq hxE2 ?_ | refine To.op0 hxE2 (by simp only [go_sem, reduceIte, seval, Heap.gets, Heap.get, bytesA_length, bytesA_one, List.take_of_length_le, V.one, Nat.reduceLeDiff, List.all_cons, s0, s3, s8, s9, s10, hlt, ix, hrw, hkj, hkey, hmf, gl, h64, gb, hA, wi, z64_len, z64_drop, hz1, List.append_nil, Option.map_some, Option.getD_some]; rfl) ?_ | refine To.op1 hxE2 (by simp only [go_sem, reduceIte, seval, Heap.gets, bytesA_length, bytesA_one, List.take_of_length_le, V.one, List.all_cons, h64, gb, hA, z64_len, z64_drop, hz1, List.append_nil]; rfl) ?_ | refine To.nop hxE2 ?_ | (refine To.condT hxE2 ?_ ?_; focus (simp only [go_sem, reduceIte, seval]; done)) | refine To.block hxE2 ?_ | refine To.skip hxE2 ?_))
      try simp only [andThen]
      refine ⟨m - 1, by omega, i + 1, D', r', v', by omega, rfl, by omega, ?_, fun _ => hkeep _ _ _ _ (by rw [← List.append_assoc]; exact app_old hrw _) (by decide), ?_⟩
      · rw [hsu, List.map_append]; exact hG'
      · simp only [go_sem, reduceIte, seval, s0, s8, s9]
    · have hlt : decide ((i : Int) < (K.length : Int)) = false := decide_eq_false (by omega)
      have hie : K.take i = K := List.take_of_length_le (by omega)
      rw [hie] at hGx
      (repeat' (first | refine To.seq hxE2 ?_ | refine To.op0 hxE2 (by simp only [go_sem, reduceIte, seval, s3, s9, s10, hlt]; rfl) ?_ | refine To.nop hxE2 ?_ | (refine To.condF hxE2 ?_ ?_; focus (simp only [go_sem, reduceIte, seval]; done)) | refine To.ret hxE2 ?_ | refine To.exit hxE2 ?_))
      try simp only [andThen, outOf, if_true]
      skip
      have hfl := csK_64 (K := K) hG
      have h5 : ∀ S' : Nat → V, S' 2 = v → ∃ r' oh, finish af65 ⟨o, e, d⟩ (some (.ret, S', ⟨o ++ r, o.length, d1⟩)) = some (r', oh) ∧ ∃ v rr e' d', r' = .val v ∧ Gr o e d oh rr e' d' ∧ ChRow (o ++ rr) v (csK G K) := by
        intro S' h4
        refine ⟨_, _, fin1 (i := 2) rfl, ?_⟩
        rw [h4]
        obtain ⟨rr, e2, d2, hgr, hrr⟩ := leave_grow (o := o) (e := e) (d := d) (e' := o.length) (d' := d1) (rr := r) (v := v) (fun _ => .inr hd) (Nat.le_refl _) hd
        refine ⟨v, rr, e2, d2, rfl, hgr, ?_⟩
        rcases hGx with ⟨rfl, h0⟩ | ⟨m, ck, rfl, h2, h3⟩
        · have h0 : csK G K = [] := by simpa using h0
          rw [h0]
          exact ⟨rfl, fun h => absurd rfl h, by simp⟩
        · rw [hrr rfl]
          exact ChRow.grow (base := o.length) (.inr ⟨m, ck, rfl, h2, h3⟩) hfl
      exact h5 _ (by simp only [go_sem, reduceIte, seval])
  · refine ⟨0, _, r, .nils, by omega, rfl, ?_, .inl ⟨rfl, rfl⟩, fun h => (hkv h).2, ?_⟩
    · exact Nat.le_refl _
    · simp only [go_sem, reduceIte, seval, initS]
end
end Go.Proofs.Ytfbkeieoeagkdaa

/- Store: Drop, Sync. -/
namespace Go.Proofs.Ytfbkeieoeagkdaa
open Go AM
set_option linter.unusedSimpArgs false
set_option linter.unusedVariables false
set_option maxRecDepth 100000

/-- All but a store's own objects stays. -/
structure Sx (sp jl dd pg lm st gr : Nat) (o o' : List AM.Obj) : Prop where
  len : o.length ≤ o'.length
  get : ∀ l, l < o.length → l ≠ sp → l ≠ jl → l ≠ dd → l ≠ pg → l ≠ lm → l ≠ st → l ≠ gr → o'[l]? = o[l]?
theorem dMake_len (on : Bool) (st : DSt) (a : Nat) (seq : Int) (cs : List (Int × Pg)) : (dMake on st a seq cs).2.2.pgs.length = st.pgs.length := by
  unfold dMake
  split
  · exact dPut_len on _ _
  · split
    · exact (dMark_len on _ _ _ _ _ _).trans (dPut_len on _ _)
    · split
      · exact (dPut_len on _ _).trans ((dMark_len on _ _ _ _ _ _).trans (dPut_len on _ _))
      · exact (dMark_len on _ _ _ _ _ _).trans ((dPut_len on _ _).trans ((dMark_len on _ _ _ _ _ _).trans (dPut_len on _ _)))
theorem dCommit_len (on : Bool) (st : DSt) (a s : Nat) (seq : Int) (over : Bool) (cs : List (Int × Pg)) : (dCommit on st a s seq over cs).2.2.2.pgs.length = st.pgs.length := by
  unfold dCommit
  split
  · rfl
  · split
    · rfl
    · exact dMake_len _ _ _ _ _
section
variable {o o1 : List AM.Obj} {e d sp jl dd pg lm st gr a s : Nat} {seq : Int} {over on : Bool} {ds : DSt} {S G : List (Nat × Pg)}
theorem Sx.refl : Sx sp jl dd pg lm st gr o o := ⟨Nat.le_refl _, fun _ _ _ _ _ _ _ _ _ => rfl⟩
theorem Sx.ofJ (D : Jx jl dd pg lm o o1) : Sx sp jl dd pg lm st gr o o1 := ⟨Nat.le_of_eq D.len.symm, fun l _ _ b c d e _ _ => D.get l b c d e⟩
theorem PS.jx (P : PS o sp jl dd pg lm st gr a s seq over on ds S G) {seq' : Int} {over' : Bool} {ds' : DSt} (D : Jx jl dd pg lm o o1) (J : PJ o1 jl dd pg lm a s seq' over' on ds') (hl : ds'.pgs.length = ds.pgs.length) : PS o1 sp jl dd pg lm st gr a s seq' over' on ds' S G := by
  have a1 := ty_ne P.hs P.J.hj (by decide)
  have a2 := ty_ne P.hs P.J.P.hd (by decide)
  have a3 := ty_ne P.hs P.J.P.hp (by decide)
  have a4 := ne_map P.hs P.J.P.hm
  have b1 := ne_map P.J.hj P.hS
  have b2 := ne_map P.J.P.hd P.hS
  have b3 := ne_map P.J.P.hp P.hS
  have c1 := ne_map P.J.hj P.hG
  have c2 := ne_map P.J.P.hd P.hG
  have c3 := ne_map P.J.P.hp P.hG
  exact ⟨by rw [D.get _ a1 a2 a3 a4]; exact P.hs, J, by rw [D.get _ (Ne.symm b1) (Ne.symm b2) (Ne.symm b3) P.n2]; exact P.hS, by rw [D.get _ (Ne.symm c1) (Ne.symm c2) (Ne.symm c3) P.n3]; exact P.hG, P.n1, P.n2, P.n3, by rw [hl]; exact P.okS, by rw [hl]; exact P.okG⟩
theorem Sx.trans {o2 : List AM.Obj} (h : Sx sp jl dd pg lm st gr o o1) (k : Sx sp jl dd pg lm st gr o1 o2) : Sx sp jl dd pg lm st gr o o2 :=
  ⟨Nat.le_trans h.len k.len, fun l hl a b c d e f g => (k.get l (Nat.lt_of_lt_of_le hl h.len) a b c d e f g).trans (h.get l hl a b c d e f g)⟩
/-- The store's own object. -/
def stO (jl dd a s st gr : Nat) : AM.Obj := .cells .ex 115 0 [.ptr jl 0, .ptr dd 0, .int .i64 (a : Int), .int .i64 (s : Int), .map st, .map gr]
theorem PS.move (P : PS o sp jl dd pg lm st gr a s seq over on ds S G) (r : List AM.Obj) {st' gr' : Nat} {S' G' : List (Nat × Pg)} (h1 : (o ++ r)[st']? = some (.map (S'.map ent))) (h2 : (o ++ r)[gr']? = some (.map (G'.map ent))) (n1 : st' ≠ gr') (n2 : st' ≠ lm) (n3 : gr' ≠ lm) (k1 : OkM ds.pgs.length S') (k2 : OkM ds.pgs.length G') :
    PS ((o ++ r).set sp (stO jl dd a s st' gr')) sp jl dd pg lm st' gr' a s seq over on ds S' G' := by
  have Q := P.app r
  have a1 := ty_ne Q.hs Q.J.hj (by decide)
  have a2 := ty_ne Q.hs Q.J.P.hd (by decide)
  have a3 := ty_ne Q.hs Q.J.P.hp (by decide)
  have a4 := ne_map Q.hs Q.J.P.hm
  have a5 := ne_map Q.hs h1
  have a6 := ne_map Q.hs h2
  have D := Q.J.P
  exact ⟨List.getElem?_set_self Q.ls, ⟨by rw [List.getElem?_set_ne a1]; exact Q.J.hj, ⟨by rw [List.getElem?_set_ne a2]; exact D.hd, by rw [List.getElem?_set_ne a3]; exact D.hp, by rw [List.getElem?_set_ne a4]; exact D.hm, D.p64, D.c64, D.nd⟩⟩, by rw [List.getElem?_set_ne a5]; exact h1, by rw [List.getElem?_set_ne a6]; exact h2, n1, n2, n3, k1, k2⟩
theorem okM_nil {np : Nat} : OkM np [] := ⟨List.nodup_nil, fun _ h => by cases h⟩
theorem Sx.move (r : List AM.Obj) (x : AM.Obj) : Sx sp jl dd pg lm st gr o ((o ++ r).set sp x) :=
  ⟨by simp, fun l hl h _ _ _ _ _ _ => by rw [List.getElem?_set_ne (Ne.symm h), List.getElem?_append_left hl]⟩
set_option maxHeartbeats 4000000 in
theorem sdrop_q (P : PS o sp jl dd pg lm st gr a s seq over on ds S G) :
    ∃ r oh, Den FF E2 35 [.ptr sp 0] ⟨o, e, d⟩ = some (r, oh) ∧ r = .val (.tuple []) ∧ ∃ o' e' d' st', oh.getD ⟨o, e, d⟩ = ⟨o', e', d'⟩ ∧ Sx sp jl dd pg lm st gr o o' ∧ o.length ≤ st' ∧ e' ≤ sp ∧ PS o' sp jl dd pg lm st' gr a s seq over on ds [] G := by
  refine To.denE hxE2 (f := 35) (a := af35) rfl (E2_none rfl) (Nat.le_of_ble_eq_true rfl) ?_
  have gs := fun r => app_old P.hs r
  have hls := P.ls
  have hlg := P.lgr
  have hlm := P.J.P.ll
  (repeat' (first | refine To.seq hxE2 ?_ | refine To.op0 hxE2 (by simp only [go_sem, reduceIte, seval, Heap.sets, V.one, Nat.reduceLeDiff, List.all_cons, List.all_nil, ne_eq, not_false_eq_true, Nat.zero_le, gs]; rfl) ?_ | refine To.op1 hxE2 (by simp only [go_sem, reduceIte, seval, Heap.sets, V.one, Nat.reduceLeDiff, List.all_cons, List.all_nil, ne_eq, not_false_eq_true, Nat.zero_le, gs]; rfl) ?_ | refine To.nop hxE2 ?_ | (refine To.condT hxE2 ?_ ?_; focus (simp only [go_sem, reduceIte, seval]; done))))
  try simp only [andThen, outOf]
  refine ⟨_, _, fin0n rfl, rfl, ?_⟩
  refine ⟨(o ++ [AM.Obj.map []]).set sp (stO jl dd a s o.length gr), min e (min o.length sp), min d (min o.length sp), o.length, ?_, Sx.move _ _, Nat.le_refl _, by omega, P.move [.map []] (app_get0 _ _ _) (app_old P.hG _) (by omega) (by omega) P.n3 okM_nil P.okG⟩
  unfold leave
  simp only
  rw [if_neg (by omega)]; rfl
theorem leave_low {o o1 : List AM.Obj} {e d e1 d1 : Nat} (v : V) (h : e1 < o.length) : leave ⟨o, e, d⟩ ⟨o1, e1, d1⟩ v = some ⟨o1, min e e1, min d d1⟩ := by
  unfold leave
  simp only
  rw [if_neg (by omega)]
/-- What a Sync comes to: the error; the next number; is it over; the disk; the group. -/
def dSync (on : Bool) (ds : DSt) (a s : Nat) (seq : Int) (over : Bool) (G : List (Nat × Pg)) : Int × Int × Bool × DSt × List (Nat × Pg) :=
  if over = true then (5, seq, true, ds, G)
  else ((dCommit on ds a s seq false (csG ds.pgs.length G)).1, (dCommit on ds a s seq false (csG ds.pgs.length G)).2.1, (dCommit on ds a s seq false (csG ds.pgs.length G)).2.2.1, (dCommit on ds a s seq false (csG ds.pgs.length G)).2.2.2, if (dCommit on ds a s seq false (csG ds.pgs.length G)).1 = 0 then [] else G)
theorem dSync_len (on : Bool) (ds : DSt) (a s : Nat) (seq : Int) (over : Bool) (G : List (Nat × Pg)) : (dSync on ds a s seq over G).2.2.2.1.pgs.length = ds.pgs.length := by
  unfold dSync
  split
  · rfl
  · exact dCommit_len _ _ _ _ _ _ _
/-- Why what is left isn't let go. -/
def Lw (sp : Nat) (o : List AM.Obj) (e : Nat) (o' : List AM.Obj) (e' d' : Nat) : Prop := e' ≤ sp ∨ (o'.length = o.length ∧ e' = e ∧ (o' = o ∨ d' < o.length))
theorem Lw.leave {o o' : List AM.Obj} {e d e' d' sp : Nat} {v : V} (hv : v.plain = true) (h : Lw sp o o.length o' e' d') (hsp : sp < o.length) : ∃ e2 d2, (leave ⟨o, e, d⟩ ⟨o', e', d'⟩ v).getD ⟨o, e, d⟩ = ⟨o', e2, d2⟩ ∧ Lw sp o e o' e2 d2 := by
  rcases h with h | ⟨h1, h2, h3⟩
  · rw [leave_low v (by omega)]
    exact ⟨_, _, rfl, .inl (by omega)⟩
  · subst h2
    unfold AM.leave
    simp only
    rw [if_pos ⟨Nat.le_refl _, hv⟩]
    by_cases hd : o.length ≤ d'
    · rw [if_pos hd]
      have : o' = o := h3.resolve_right (by omega)
      subst this
      exact ⟨_, _, rfl, .inr ⟨rfl, rfl, .inl rfl⟩⟩
    · rw [if_neg hd, List.take_of_length_le (by omega)]
      exact ⟨_, _, rfl, .inr ⟨h1, rfl, h3.imp id (fun h => by omega)⟩⟩
/-- What a call of a store leaves. -/
def SL (sp jl dd pg lm st gr : Nat) (a s : Nat) (on : Bool) (o : List AM.Obj) (e d : Nat) (oh : Option Heap) (seq : Int) (over : Bool) (ds : DSt) (S G : List (Nat × Pg)) : Prop :=
  ∃ o' e' d' st' gr', oh.getD ⟨o, e, d⟩ = ⟨o', e', d'⟩ ∧ Sx sp jl dd pg lm st gr o o' ∧ (st' = st ∨ o.length ≤ st') ∧ (gr' = gr ∨ o.length ≤ gr') ∧ Lw sp o e o' e' d' ∧ PS o' sp jl dd pg lm st' gr' a s seq over on ds S G
set_option maxHeartbeats 8000000 in
theorem ssync_q (P : PS o sp jl dd pg lm st gr a s seq over on ds S G) (ha : a ≤ 100000) (hs : s ≤ 1000000) (hnp : ds.pgs.length ≤ 500) (hs0 : 0 ≤ seq) (hs1 : seq < 2 ^ 59) :
    ∃ r oh, Den FF E2 39 [.ptr sp 0] ⟨o, e, d⟩ = some (r, oh) ∧ r = .val (.int .i64 (dSync on ds a s seq over G).1) ∧
      SL sp jl dd pg lm st gr a s on o e d oh (dSync on ds a s seq over G).2.1 (dSync on ds a s seq over G).2.2.1 (dSync on ds a s seq over G).2.2.2.1 S (dSync on ds a s seq over G).2.2.2.2 := by
  refine To.denE hxE2 (f := 39) (a := af39) rfl (E2_none rfl) (Nat.le_of_ble_eq_true rfl) ?_
  have hls := P.ls
  have hlj := P.J.lj
  have hlg := P.lgr
  have hld := P.J.P.ld
  have hlp := P.J.P.lp
  have hlm := P.J.P.ll
  have hlst := P.lst
  have q := fun e d => sover_q (e := e) (d := d) P
  unfold dSync
  cases over
  case true =>
    rw [if_pos rfl]
    (repeat' (first | refine To.seq hxE2 ?_ | refine To.op0 hxE2 (by simp only [go_sem, reduceIte, seval, q]; rfl) ?_ | refine To.nop hxE2 ?_ | (refine To.condT hxE2 ?_ ?_; focus (simp only [go_sem, reduceIte, seval]; done)) | refine To.ret hxE2 ?_))
    refine ⟨_, _, fin_k1 (i := 2) (v := .int .i64 5) rfl (by simp only [go_sem, reduceIte, seval]) rfl (Kp.enter' _), rfl, ?_⟩
    exact ⟨o, e, d, st, gr, rfl, Sx.refl, .inl rfl, .inl rfl, .inr ⟨rfl, rfl, .inl rfl⟩, P⟩
  rw [if_neg (by decide)]
  obtain ⟨rc, ohc, qc, v, rr, e1, d1, rfl, Gc, hch⟩ := changes_x (e := o.length) (d := o.length) (by omega) P.okG P.hG
  have hk := keysN_le ds.pgs.length G
  have hcl : (csG ds.pgs.length G).length ≤ 500 := by unfold csG; rw [csK_len]; omega
  obtain ⟨r2, oh2, q2, n, o2, d2, rfl, L2, rfl, J2⟩ := commit_x (e := e1) (d := d1) (P.J.app rr) hch hcl ha hs hs0 hs1
  have hlen := dCommit_len on ds a s seq false (csG ds.pgs.length G)
  generalize dCommit on ds a s seq false (csG ds.pgs.length G) = w at *
  obtain ⟨n, sq', ov', ds'⟩ := w
  simp only at J2 q2 hlen ⊢
  have gs := fun r => app_old P.hs r
  have hg1 := Gc.eq
  have he1 := Gc.e
  have hd1 := Gc.d
  have hg2 := L2.eq
  obtain ⟨o3, rfl, D3⟩ := L2.dx.split hlj hld hlp hlm
  have L3 := L2.low.chop
  have J3 := J2.chop (by rw [D3.len]; exact hlj) (by rw [D3.len]; exact hld) (by rw [D3.len]; exact hlp) (by rw [D3.len]; exact hlm)
  have P3 := P.jx D3 J3 hlen
  (repeat' (first | refine To.seq hxE2 ?_ | refine To.op0 hxE2 (by simp only [go_sem, reduceIte, seval, q]; rfl) ?_ | refine To.nop hxE2 ?_ | (refine To.condF hxE2 ?_ ?_; focus (simp only [go_sem, reduceIte, seval]; done)) | refine To.skip hxE2 ?_ | refine To.draw0 hxE2 ?_ | refine ToD.op0 (by simp only [go_sem, reduceIte, seval, Heap.get, Nat.add_zero, List.all_cons, List.all_nil, P.hs]; rfl) (by simp only [put_some]; rfl) ?_ | fail))
  refine ToD.callD rfl rfl rfl (by simp only [go_sem, reduceIte, seval]; exact qc) hg1 ?_ ?_
  · simp only [go_sem, reduceIte, seval, Heap.get, List.all_cons, List.all_nil, gs]
  skip
  refine ToD.callD rfl rfl rfl (by simp only [go_sem, reduceIte, seval]; exact q2) hg2 rfl ?_
  by_cases hn : n = 0
  · subst hn
    (repeat' (first | refine To.seq hxE2 ?_ | refine To.op0 hxE2 (by simp only [go_sem, reduceIte, seval, Heap.sets, List.drop_of_length_le, V.one, List.all_cons, List.all_nil, ne_eq, not_false_eq_true, Nat.zero_le, app_old P3.hs, bne_self_eq_false]; rfl) ?_ | refine To.op1 hxE2 (by simp only [go_sem, reduceIte, seval, Heap.sets, List.drop_of_length_le, V.one, List.all_cons, List.all_nil, ne_eq, not_false_eq_true, Nat.zero_le, app_old P3.hs]; rfl) ?_ | refine To.nop hxE2 ?_ | (refine To.condF hxE2 ?_ ?_; focus (simp only [go_sem, reduceIte, seval]; done)) | refine To.ret hxE2 ?_ | refine To.skip hxE2 ?_ | refine ToD.op0 (by simp only [go_sem, reduceIte, seval]; rfl) (by simp only [put_some]; rfl) ?_ | refine ToD.nop ?_))
    rw [if_pos rfl]
    refine ⟨_, _, fin1 (i := 2) rfl, by simp only [go_sem, reduceIte, seval], ?_⟩
    rw [leave_low _ (by omega)]
    have P4 := P3.move (rr ++ [.map []]) (st' := st) (gr' := o3.length + rr.length) (S' := S) (G' := []) (app_old P3.hS _) (by rw [app_getk]; simp) (by rw [D3.len]; omega) P3.n2 (by rw [D3.len]; omega) P3.okS okM_nil
    have X4 := Sx.move (sp := sp) (jl := jl) (dd := dd) (pg := pg) (lm := lm) (st := st) (gr := gr) (o := o3) (rr ++ [.map []]) (stO jl dd a s st (o3.length + rr.length))
    have X3 := Sx.ofJ (sp := sp) (st := st) (gr := gr) D3
    exact ⟨_, _, _, st, o3.length + rr.length, rfl, X3.trans X4, .inl rfl, .inr (by rw [D3.len]; omega), .inl (by omega), P4⟩
  · have hb : (n != 0) = true := by simpa using hn
    (repeat' (first | refine To.seq hxE2 ?_ | refine To.op0 hxE2 (by simp only [go_sem, reduceIte, seval, hb]; rfl) ?_ | refine To.nop hxE2 ?_ | (refine To.condT hxE2 ?_ ?_; focus (simp only [go_sem, reduceIte, seval]; done)) | refine To.ret hxE2 ?_ | refine ToD.op0 (by simp only [go_sem, reduceIte, seval]; rfl) (by simp only [put_some]; rfl) ?_ | refine ToD.nop ?_))
    simp only [andThen]
    skip
    rw [if_neg hn]
    have h5 : ∀ S' : Nat → V, S' 2 = .int .i64 n → ∃ v oh, finish af39 ⟨o, e, d⟩ (some (.ret, S', ⟨o3 ++ rr, e1, d2⟩)) = some (v, oh) ∧ v = .val (.int .i64 n) ∧ SL sp jl dd pg lm st gr a s on o e d oh sq' ov' ds' S G := by
      intro S' h2
      refine ⟨_, _, fin1 (i := 2) rfl, by rw [h2], ?_⟩
      rw [h2]
      obtain ⟨d4, hlv, hdd, _⟩ := leave_app2 (o := o) (o' := o3) (r := rr) (e := e) (d := d) (e' := e1) (d' := d2) (v := .int .i64 n) rfl D3.len (by omega) (fun h => by
        rcases L3.2 with L | L
        · exact L
        · omega)
      refine ⟨o3, e, d4, st, gr, hlv, Sx.ofJ D3, .inl rfl, .inl rfl, .inr ⟨D3.len, rfl, ?_⟩, P3⟩
      rcases hdd with h | h
      · exact .inl h
      · rcases L3.2 with L | L
        · exact .inl L
        · exact .inr (by omega)
    exact h5 _ (by simp only [go_sem, reduceIte, seval])
end
end Go.Proofs.Ytfbkeieoeagkdaa

/- Store: Keep. -/
namespace Go.Proofs.Ytfbkeieoeagkdaa
open Go AM
set_option linter.unusedSimpArgs false
set_option linter.unusedVariables false
set_option maxRecDepth 100000

theorem entP_ent {np : Nat} {S : List (Nat × Pg)} (h : OkM np S) : (S.map ent).all entP = true := by
  refine List.all_eq_true.2 fun x hx => ?_
  obtain ⟨y, hy, rfl⟩ := List.mem_map.1 hx
  have := h.fit y hy
  simp only [ent, entP, bytesA_length, this.1, bytesA_plains, bytesA_one, decide_true, Bool.and_true]
theorem newK_ent {G : List (Nat × Pg)} (h : (G.map (·.1)).Nodup) (x : Nat × Pg) : newK (G.map ent) (ent x) = !hasK G x.1 := by
  have hm := mapFind_ent x.1 G h
  unfold newK
  rw [show (ent x).1 = .int .i64 (x.1 : Int) from rfl, hm]
  unfold hasK
  cases findC x.1 G <;> rfl
/-- How many pages there are with others. -/
def withN (G S : List (Nat × Pg)) : Nat := G.length + (S.filter fun x => !hasK G x.1).length
/-- Pages, and others over them. -/
def mergeC (G S : List (Nat × Pg)) : List (Nat × Pg) := (G.filter fun e => !(S.any fun x => x.1 == e.1)) ++ S
theorem merged_ent (G S : List (Nat × Pg)) : merged (G.map ent) (S.map ent) = (mergeC G S).map ent := by
  unfold merged mergeC
  rw [List.map_append, List.filter_map]
  congr 2
  refine List.filter_congr fun e _ => ?_
  show (!((S.map ent).any fun x => hitK .i x.1 (ent e))) = _
  rw [List.any_map]
  congr 2
  funext x
  show hitK .i (ent x).1 (ent e) = _
  simp only [hitK, ent, eqK_int]
  have : ((x.1 : Int) == (e.1 : Int)) = (x.1 == e.1) := by
    rw [Bool.eq_iff_iff, beq_iff_eq, beq_iff_eq]; omega
  rw [this]
  cases x.1 == e.1 <;> rfl
theorem mergeC_ok {np : Nat} {G S : List (Nat × Pg)} (hG : OkM np G) (hS : OkM np S) : OkM np (mergeC G S) := by
  refine ⟨?_, fun e he => ?_⟩
  · unfold mergeC
    rw [List.map_append]
    refine List.nodup_append.2 ⟨hG.nd.sublist (List.filter_sublist.map _), hS.nd, fun x hx y hy => ?_⟩
    rintro rfl
    obtain ⟨e, he, rfl⟩ := List.mem_map.1 hx
    obtain ⟨f, hf, hfe⟩ := List.mem_map.1 hy
    have h2 := (List.mem_filter.1 he).2
    have h3 : (S.any fun x => x.1 == e.1) = true := List.any_eq_true.2 ⟨f, hf, by simpa using hfe⟩
    rw [h3] at h2; cases h2
  · rcases List.mem_append.1 he with h | h
    · exact hG.fit e (List.mem_filter.1 h).1
    · exact hS.fit e h
theorem okM_len {np : Nat} {G : List (Nat × Pg)} (h : OkM np G) : G.length ≤ np := by rw [h.keys]; exact keysN_le np G
section
variable {o o1 : List AM.Obj} {e d sp jl dd pg lm st gr a s np : Nat} {seq : Int} {over on : Bool} {ds : DSt} {S G : List (Nat × Pg)}
theorem with_q (hG : o[gr]? = some (.map (G.map ent))) (hS : o[st]? = some (.map (S.map ent))) (hne : gr ≠ st) (kG : OkM np G) (kS : OkM np S) (hnp : np ≤ 1000) : Den FF E2 63 [.map gr, .map st] ⟨o, e, d⟩ = some (.val (.int .i64 (withN G S : Int)), some ⟨o, e, min d st⟩) := by
  refine den_hand rfl rfl ?_
  have l1 := okM_len kG
  have l2 := okM_len kS
  unfold withG
  simp only [hG, hS]
  rw [if_pos ⟨hne, entP_ent kG, entP_ent kS, apart_ent kG.nd, apart_ent kS.nd, by rw [List.length_map, List.length_map]; omega⟩]
  unfold withN
  rw [List.filter_map, List.length_map, List.length_map]
  have : (newK (G.map ent)) ∘ ent = fun x => !hasK G x.1 := by
    funext x
    exact newK_ent kG.nd x
  rw [this]
theorem copy_q (hG : o[gr]? = some (.map (G.map ent))) (hS : o[st]? = some (.map (S.map ent))) (hne : gr ≠ st) (kG : OkM np G) (kS : OkM np S) : Den FF E2 64 [.map gr, .map st] ⟨o, e, d⟩ = some (.val (.tuple []), some ⟨o.set gr (.map ((mergeC G S).map ent)), e, min d (min gr st)⟩) := by
  refine den_hand rfl rfl ?_
  unfold copyG
  simp only [hG, hS]
  rw [if_pos ⟨hne, entP_ent kG, entP_ent kS, apart_ent kG.nd, apart_ent kS.nd⟩, merged_ent]
theorem PS.setG (P : PS o sp jl dd pg lm st gr a s seq over on ds S G) {G' : List (Nat × Pg)} (hk : OkM ds.pgs.length G') : PS (o.set gr (.map (G'.map ent))) sp jl dd pg lm st gr a s seq over on ds S G' := by
  have n0 := ne_map P.hs P.hG
  have n4 := ne_map P.J.hj P.hG
  have n5 := ne_map P.J.P.hd P.hG
  have n6 := ne_map P.J.P.hp P.hG
  refine ⟨by rw [List.getElem?_set_ne (Ne.symm n0)]; exact P.hs, ⟨by rw [List.getElem?_set_ne (Ne.symm n4)]; exact P.J.hj, ?_⟩, by rw [List.getElem?_set_ne (Ne.symm P.n1)]; exact P.hS, List.getElem?_set_self P.lgr, P.n1, P.n2, P.n3, P.okS, hk⟩
  have D := P.J.P
  exact ⟨by rw [List.getElem?_set_ne (Ne.symm n5)]; exact D.hd, by rw [List.getElem?_set_ne (Ne.symm n6)]; exact D.hp, by rw [List.getElem?_set_ne P.n3]; exact D.hm, D.p64, D.c64, D.nd⟩
/-- What a Keep comes to: the error; the next number; is it over; the disk; the step; the group. -/
def dKeepG (on : Bool) (ds : DSt) (a s : Nat) (seq : Int) (G S : List (Nat × Pg)) : Int × Int × Bool × DSt × List (Nat × Pg) :=
  if roomJ s < withN G S then dSync on ds a s seq false G else (0, seq, false, ds, G)
def dKeep (on : Bool) (ds : DSt) (a s : Nat) (seq : Int) (over : Bool) (S G : List (Nat × Pg)) : Int × Int × Bool × DSt × List (Nat × Pg) × List (Nat × Pg) :=
  if over = true then (5, seq, true, ds, S, G)
  else if (dKeepG on ds a s seq G S).1 ≠ 0 then ((dKeepG on ds a s seq G S).1, (dKeepG on ds a s seq G S).2.1, (dKeepG on ds a s seq G S).2.2.1, (dKeepG on ds a s seq G S).2.2.2.1, S, (dKeepG on ds a s seq G S).2.2.2.2)
  else (0, (dKeepG on ds a s seq G S).2.1, (dKeepG on ds a s seq G S).2.2.1, (dKeepG on ds a s seq G S).2.2.2.1, [], mergeC (dKeepG on ds a s seq G S).2.2.2.2 S)
theorem dKeepG_len (on : Bool) (ds : DSt) (a s : Nat) (seq : Int) (G S : List (Nat × Pg)) : (dKeepG on ds a s seq G S).2.2.2.1.pgs.length = ds.pgs.length := by
  unfold dKeepG
  split
  · exact dSync_len _ _ _ _ _ _ _
  · rfl
theorem Sx.trans2 {o2 : List AM.Obj} {st1 gr1 : Nat} (h : Sx sp jl dd pg lm st gr o o1) (h1 : st1 = st ∨ o.length ≤ st1) (h2 : gr1 = gr ∨ o.length ≤ gr1) (k : Sx sp jl dd pg lm st1 gr1 o1 o2) : Sx sp jl dd pg lm st gr o o2 :=
  ⟨Nat.le_trans h.len k.len, fun l hl a b c d e f g => (k.get l (Nat.lt_of_lt_of_le hl h.len) a b c d e (by omega) (by omega)).trans (h.get l hl a b c d e f g)⟩
theorem Sx.setG (x : AM.Obj) : Sx sp jl dd pg lm st gr o (o.set gr x) := ⟨by simp, fun l _ _ _ _ _ _ _ g => List.getElem?_set_ne (Ne.symm g)⟩
set_option maxHeartbeats 8000000 in
theorem skeep_q (P : PS o sp jl dd pg lm st gr a s seq over on ds S G) (ha : a ≤ 100000) (hs : s ≤ 1000000) (hnp : ds.pgs.length ≤ 500) (hs0 : 0 ≤ seq) (hs1 : seq < 2 ^ 59) :
    ∃ r oh, Den FF E2 38 [.ptr sp 0] ⟨o, e, d⟩ = some (r, oh) ∧ r = .val (.int .i64 (dKeep on ds a s seq over S G).1) ∧
      SL sp jl dd pg lm st gr a s on o e d oh (dKeep on ds a s seq over S G).2.1 (dKeep on ds a s seq over S G).2.2.1 (dKeep on ds a s seq over S G).2.2.2.1 (dKeep on ds a s seq over S G).2.2.2.2.1 (dKeep on ds a s seq over S G).2.2.2.2.2 := by
  refine To.denE hxE2 (f := 38) (a := af38) rfl (E2_none rfl) (Nat.le_of_ble_eq_true rfl) ?_
  have hls := P.ls
  have hlst := P.lst
  have hlg := P.lgr
  have q := fun e d => sover_q (e := e) (d := d) P
  unfold dKeep
  cases over
  case true =>
    rw [if_pos rfl]
    (repeat' (first | refine To.seq hxE2 ?_ | refine To.op0 hxE2 (by simp only [go_sem, reduceIte, seval, q]; rfl) ?_ | refine To.nop hxE2 ?_ | (refine To.condT hxE2 ?_ ?_; focus (simp only [go_sem, reduceIte, seval]; done)) | refine To.ret hxE2 ?_))
    refine ⟨_, _, fin_k1 (i := 2) (v := .int .i64 5) rfl (by simp only [go_sem, reduceIte, seval]) rfl (Kp.enter' _), rfl, ?_⟩
    exact ⟨o, e, d, st, gr, rfl, Sx.refl, .inl rfl, .inl rfl, .inr ⟨rfl, rfl, .inl rfl⟩, P⟩
  rw [if_neg (by decide)]
  have qw := fun e d => with_q (e := e) (d := d) P.hG P.hS (Ne.symm P.n1) P.okG P.okS (by omega : ds.pgs.length ≤ 1000)
  have qr := fun e d => jroom_q (e := e) (d := d) P.J
  (repeat' (first | refine To.seq hxE2 ?_ | refine To.op0 hxE2 (by simp only [go_sem, reduceIte, seval, q]; rfl) ?_ | refine To.nop hxE2 ?_ | (refine To.condF hxE2 ?_ ?_; focus (simp only [go_sem, reduceIte, seval]; done)) | refine To.skip hxE2 ?_ | refine To.draw0 hxE2 ?_ | refine ToD.op0 (by simp only [go_sem, reduceIte, seval, Heap.get, Nat.add_zero, List.all_cons, List.all_nil, P.hs]; rfl) (by simp only [put_some]; rfl) ?_ | fail))
  refine ToD.callD rfl rfl rfl (by simp only [go_sem, reduceIte, seval]; exact qw _ _) rfl ?_ ?_
  · simp only [go_sem, reduceIte, seval, Heap.get, List.all_cons, List.all_nil, P.hs]
  (repeat' (first | refine ToD.op0 (by simp only [go_sem, reduceIte, seval, qr]; rfl) (by simp only [put_some]; rfl) ?_ | refine ToD.nop ?_))
  simp only [andThen]
  have key : ∀ (n : Int) (sq' : Int) (ov' : Bool) (ds' : DSt) (G' : List (Nat × Pg)), dKeepG on ds a s seq G S = (n, sq', ov', ds', G') → ds'.pgs.length = ds.pgs.length := fun n sq' ov' ds' G' h => by
    have := dKeepG_len on ds a s seq G S
    rw [h] at this
    exact this
  refine To.mono (Q := fun ex S' h' => ∃ (o' : List AM.Obj) (e' d' st' gr' : Nat), h' = ⟨o', e', d'⟩ ∧ Sx sp jl dd pg lm st gr o o' ∧ (st' = st ∨ o.length ≤ st') ∧ (gr' = gr ∨ o.length ≤ gr') ∧ Lw sp o o.length o' e' d' ∧ PS o' sp jl dd pg lm st' gr' a s (dKeepG on ds a s seq G S).2.1 (dKeepG on ds a s seq G S).2.2.1 on (dKeepG on ds a s seq G S).2.2.2.1 S (dKeepG on ds a s seq G S).2.2.2.2 ∧
    ((ex = .ret ∧ (dKeepG on ds a s seq G S).1 ≠ 0 ∧ S' 2 = .int .i64 (dKeepG on ds a s seq G S).1) ∨ (ex = .norm ∧ (dKeepG on ds a s seq G S).1 = 0 ∧ S' 0 = .ptr sp 0))) ?_ ?_
  · unfold dKeepG
    by_cases hw : roomJ s < withN G S
    · have hd : decide ((roomJ s : Int) < (withN G S : Int)) = true := decide_eq_true (by omega)
      rw [if_pos hw]
      obtain ⟨r1, oh1, q1, rfl, o1, e1, d1, st1, gr1, hg1, X1, hst1, hgr1, L1, P1⟩ := ssync_q (e := o.length) (d := min o.length st) P ha hs hnp hs0 hs1
      have hlen := dSync_len on ds a s seq false G
      generalize dSync on ds a s seq false G = w at *
      obtain ⟨n, sq', ov', ds', G'⟩ := w
      simp only at P1 q1 hlen ⊢
      (repeat' (first | refine To.seq hxE2 ?_ | refine To.op0 hxE2 (by simp only [go_sem, reduceIte, seval, hd]; rfl) ?_ | (refine To.condT hxE2 ?_ ?_; focus (simp only [go_sem, reduceIte, seval, hd]; done))))
      refine To.op hxE2 (by simp only [go_sem, reduceIte, seval, Option.getD_some, q1]; rfl) ?_
      rw [show oh1.getD ((some (⟨o, o.length, min o.length st⟩ : Heap)).getD (enter ⟨o, e, d⟩)) = ⟨o1, e1, d1⟩ from hg1]
      by_cases hn : n = 0
      · subst hn
        (repeat' (first | refine To.seq hxE2 ?_ | refine To.op0 hxE2 (by simp only [go_sem, reduceIte, seval, bne_self_eq_false]; rfl) ?_ | refine To.nop hxE2 ?_ | (refine To.condF hxE2 ?_ ?_; focus (simp only [go_sem, reduceIte, seval]; done)) | refine To.skip hxE2 ?_))
        refine ⟨o1, _, _, st1, gr1, rfl, X1, hst1, hgr1, L1, P1, .inr ⟨rfl, rfl, ?_⟩⟩
        simp only [go_sem, reduceIte, seval]
      · have hb : (n != 0) = true := by simpa using hn
        (repeat' (first | refine To.seq hxE2 ?_ | refine To.op0 hxE2 (by simp only [go_sem, reduceIte, seval, hb]; rfl) ?_ | refine To.nop hxE2 ?_ | (refine To.condT hxE2 ?_ ?_; focus (simp only [go_sem, reduceIte, seval]; done)) | refine To.ret hxE2 ?_))
        refine ⟨o1, _, _, st1, gr1, rfl, X1, hst1, hgr1, L1, P1, .inl ⟨rfl, hn, ?_⟩⟩
        simp only [go_sem, reduceIte, seval]
    · have hd : decide ((roomJ s : Int) < (withN G S : Int)) = false := decide_eq_false (by omega)
      rw [if_neg hw]
      (repeat' (first | (refine To.condF hxE2 ?_ ?_; focus (simp only [go_sem, reduceIte, seval, hd]; done)) | refine To.skip hxE2 ?_))
      refine ⟨o, _, _, st, gr, rfl, Sx.refl, .inl rfl, .inl rfl, .inr ⟨rfl, rfl, .inl rfl⟩, P, .inr ⟨rfl, rfl, ?_⟩⟩
      simp only [go_sem, reduceIte, seval]
  · rintro ex S' _ ⟨o', e', d', st', gr', rfl, X1, hst1, hg1, L1, P1, ⟨rfl, hn, h2⟩ | ⟨rfl, hn, h0⟩⟩
    · rw [if_pos hn]
      refine ⟨_, _, fin1 (i := 2) rfl, by rw [h2], ?_⟩
      rw [h2]
      obtain ⟨e2, d2, hl2, L2⟩ := L1.leave (e := e) (d := d) (v := .int .i64 (dKeepG on ds a s seq G S).1) rfl hls
      exact ⟨o', e2, d2, st', gr', hl2, X1, hst1, hg1, L2, P1⟩
    · rw [if_neg (by simpa using hn)]
      have qc := fun e d => copy_q (e := e) (d := d) P1.hG P1.hS (Ne.symm P1.n1) P1.okG P1.okS
      have P2 := P1.setG (mergeC_ok P1.okG P1.okS)
      obtain ⟨r3, oh3, q3, rfl, o3, e3, d3, st3, hg3, X3, hst3, he3, P3⟩ := sdrop_q (e := e') (d := min d' (min gr' st')) P2
      simp only [andThen]
      (repeat' (first | refine To.seq hxE2 ?_ | refine To.draw0 hxE2 ?_ | refine ToD.op0 (by simp only [go_sem, reduceIte, seval, Heap.get, Nat.add_zero, List.all_nil, h0, P1.hs]; rfl) (by simp only [put_some]; rfl) ?_ | fail))
      refine ToD.callD rfl rfl rfl (by simp only [go_sem, reduceIte, seval]; exact qc _ _) rfl rfl ?_
      (repeat' (first | refine To.seq hxE2 ?_ | refine To.op0 hxE2 (by simp only [go_sem, reduceIte, seval, h0]; rfl) ?_ | refine ToD.nop ?_))
      try simp only [andThen]
      refine To.op hxE2 (by simp only [go_sem, reduceIte, seval, q3]; rfl) ?_
      rw [show oh3.getD ((some (⟨o'.set gr' (.map ((mergeC (dKeepG on ds a s seq G S).2.2.2.2 S).map ent)), e', min d' (min gr' st')⟩ : Heap)).getD ⟨o', e', d'⟩) = ⟨o3, e3, d3⟩ from hg3]
      (repeat' (first | refine To.seq hxE2 ?_ | refine To.op0 hxE2 (by simp only [go_sem, seval]; rfl) ?_ | refine To.nop hxE2 ?_ | refine To.ret hxE2 ?_))
      have X2 : Sx sp jl dd pg lm st gr o o3 := (X1.trans2 hst1 hg1 (Sx.setG _)).trans2 hst1 hg1 X3
      have hle := X1.len
      have hle2 : (o'.set gr' (.map ((mergeC (dKeepG on ds a s seq G S).2.2.2.2 S).map ent))).length = o'.length := List.length_set
      refine ⟨_, _, fin1 (i := 2) rfl, by simp only [go_sem, reduceIte, seval], ?_⟩
      rw [leave_low _ (by omega)]
      exact ⟨o3, _, _, st3, gr', rfl, X2, .inr (by omega), hg1, .inl (by omega), P3⟩
end
end Go.Proofs.Ytfbkeieoeagkdaa

/- Store: Open. -/
namespace Go.Proofs.Ytfbkeieoeagkdaa
open Go AM
set_option linter.unusedSimpArgs false
set_option linter.unusedVariables false
set_option maxRecDepth 100000

section
variable {o : List AM.Obj} {e d dd pg lm : Nat} {on down : Bool} {left : Int} {pgs : List Pg} {ca : List (Nat × Pg)}
/-- What Open of a store leaves. -/
def SOpenR (dd pg lm : Nat) (on : Bool) (o : List AM.Obj) (e d : Nat) (a s : Nat) (r : Out) (oh : Option Heap) (w : Int × Int × Int × DSt) : Prop :=
  (w.1 ≠ 0 ∧ r = .val (.tuple [.nilp, .int .i64 w.1]) ∧ ∃ o' e' d', oh.getD ⟨o, e, d⟩ = ⟨o', e', d'⟩ ∧ Dx dd pg lm o o' ∧ PDs o' dd pg lm on w.2.2.2) ∨
  (w.1 = 0 ∧ ∃ sp jl st gr, r = .val (.tuple [.ptr sp 0, .int .i64 0]) ∧ o.length ≤ sp ∧ o.length ≤ jl ∧ o.length ≤ st ∧ o.length ≤ gr ∧ ∃ o' e' d', oh.getD ⟨o, e, d⟩ = ⟨o', e', d'⟩ ∧ o.length ≤ o'.length ∧ (∀ l, l < o.length → l ≠ dd → l ≠ pg → l ≠ lm → o'[l]? = o[l]?) ∧ PS o' sp jl dd pg lm st gr a s w.2.1 false on w.2.2.2 [] [])
set_option maxHeartbeats 8000000 in
theorem sopen_q (P : PD o dd pg lm on down left pgs ca) {a s : Nat} (hr : 1 ≤ roomJ s) (hin : a + s ≤ pgs.length) (hs1 : 1 ≤ s) (hpl : pgs.length ≤ 100000) :
    ∃ r oh, Den FF E2 44 [.ptr dd 0, .int .i64 (a : Int), .int .i64 (s : Int)] ⟨o, e, d⟩ = some (r, oh) ∧ SOpenR dd pg lm on o e d a s r oh (dOpen on ⟨down, left, pgs, ca⟩ a s) := by
  refine To.denE hxE2 (f := 44) (a := af44) rfl (E2_none rfl) (Nat.le_of_ble_eq_true rfl) ?_
  have hld := P.ld
  have hlp := P.lp
  have hlm := P.ll
  obtain ⟨r1, oh1, q1, hR⟩ := open_x (e := o.length) (d := o.length) P hr hin hs1 hpl
  generalize dOpen on ⟨down, left, pgs, ca⟩ a s = w at *
  obtain ⟨er, sq, n, ds⟩ := w
  unfold OpenR at hR
  unfold SOpenR
  simp only at hR ⊢
  rcases hR with ⟨hn, rfl, o1, d1, L1, P1⟩ | ⟨hn, jl, rfl, hjl, o1, rr, e1, d1, hg1, D1, L1, _, _, J1⟩
  · have hb : (er != 0) = true := by simpa using hn
    (repeat' (first | refine To.seq hxE2 ?_ | refine To.op0 hxE2 (by simp only [go_sem, reduceIte, seval]; rfl) ?_ | refine To.nop hxE2 ?_))
    refine To.op hxE2 (by simp only [go_sem, reduceIte, seval, q1]; rfl) ?_
    rw [show oh1.getD (enter ⟨o, e, d⟩) = ⟨o1, o.length, d1⟩ from L1.eq]
    (repeat' (first | refine To.seq hxE2 ?_ | refine To.op0 hxE2 (by simp only [go_sem, reduceIte, seval, hb]; rfl) ?_ | refine To.nop hxE2 ?_ | (refine To.condT hxE2 ?_ ?_; focus (simp only [go_sem, reduceIte, seval]; done)) | refine To.ret hxE2 ?_))
    have h5 : ∀ S' : Nat → V, S' 6 = .nilp → S' 7 = .int .i64 er → ∃ v oh, finish af44 ⟨o, e, d⟩ (some (.ret, S', ⟨o1, o.length, d1⟩)) = some (v, oh) ∧ SOpenR dd pg lm on o e d a s v oh (er, sq, n, ds) := by
      intro S' h6 h7
      refine ⟨_, _, fin2 (i := 6) (j := 7) rfl, .inl ⟨hn, by rw [h6, h7], ?_⟩⟩
      rw [h6, h7]
      obtain ⟨d2, hlv, _⟩ := leave_same2 (o := o) (o' := o1) (e := e) (d := d) (d' := d1) (v := .tuple [.nilp, .int .i64 er]) rfl L1.dx.len (fun h => by
        rcases L1.low.2 with L | L
        · exact L
        · omega)
      exact ⟨o1, e, d2, hlv, L1.dx, P1⟩
    exact h5 _ (by simp only [go_sem, reduceIte, seval]) (by simp only [go_sem, reduceIte, seval])
  · subst hn
    have J1 : PJ (o1 ++ rr) jl dd pg lm a s sq false on ds := J1
    have hl1 := D1.len
    (repeat' (first | refine To.seq hxE2 ?_ | refine To.op0 hxE2 (by simp only [go_sem, reduceIte, seval]; rfl) ?_ | refine To.nop hxE2 ?_))
    refine To.op hxE2 (by simp only [go_sem, reduceIte, seval, q1]; rfl) ?_
    rw [show oh1.getD (enter ⟨o, e, d⟩) = ⟨o1 ++ rr, e1, d1⟩ from hg1]
    (repeat' (first | refine To.seq hxE2 ?_ | refine To.op0 hxE2 (by simp only [go_sem, reduceIte, seval, List.drop_of_length_le, Nat.reduceLeDiff, bne_self_eq_false]; rfl) ?_ | refine To.op1 hxE2 (by simp only [go_sem, reduceIte, seval]; rfl) ?_ | refine To.nop hxE2 ?_ | (refine To.condF hxE2 ?_ ?_; focus (simp only [go_sem, reduceIte, seval]; done)) | refine To.ret hxE2 ?_ | refine To.skip hxE2 ?_))
    have h5 : ∀ S' : Nat → V, S' 6 = .ptr (o1.length + (rr.length + 2)) 0 → S' 7 = .int .i64 0 → ∃ v oh, finish af44 ⟨o, e, d⟩ (some (.ret, S', ⟨o1 ++ (rr ++ [AM.Obj.map [], .map [], stO jl dd a s (o1.length + rr.length) (o1.length + (rr.length + 1))]), e1, d1⟩)) = some (v, oh) ∧ SOpenR dd pg lm on o e d a s v oh (0, sq, n, ds) := by
      intro S' h6 h7
      refine ⟨_, _, fin2 (i := 6) (j := 7) rfl, .inr ⟨rfl, o1.length + (rr.length + 2), jl, o1.length + rr.length, o1.length + (rr.length + 1), by rw [h6, h7], by omega, hjl, by omega, by omega, o1 ++ (rr ++ [AM.Obj.map [], .map [], stO jl dd a s (o1.length + rr.length) (o1.length + (rr.length + 1))]), min e e1, min d d1, ?_, by rw [List.length_append]; omega, fun l hl a b c => ?_, ?_⟩⟩
      · rw [h6, h7, leave_some rfl]; rfl
      · rw [List.getElem?_append_left (by omega)]; exact D1.get l a b c
      · have e3 : o1 ++ (rr ++ [AM.Obj.map [], .map [], stO jl dd a s (o1.length + rr.length) (o1.length + (rr.length + 1))]) = (o1 ++ rr) ++ [AM.Obj.map [], .map [], stO jl dd a s (o1.length + rr.length) (o1.length + (rr.length + 1))] := by rw [List.append_assoc]
        have J2 := J1.app [AM.Obj.map [], .map [], stO jl dd a s (o1.length + rr.length) (o1.length + (rr.length + 1))]
        rw [← e3] at J2
        exact ⟨by rw [app_getk, app_getk]; rfl, J2, by rw [app_getk]; simp, by rw [app_getk, app_getk]; rfl, by omega, by omega, by omega, okM_nil, okM_nil⟩
    exact h5 _ (by simp only [go_sem, reduceIte, seval]) (by simp only [go_sem, reduceIte, seval])
end
end Go.Proofs.Ytfbkeieoeagkdaa

/- Store: Read. -/
namespace Go.Proofs.Ytfbkeieoeagkdaa
open Go AM
set_option linter.unusedSimpArgs false
set_option linter.unusedVariables false
set_option maxRecDepth 100000

/-- What Read finds in the step and the group. -/
def fndS (S G : List (Nat × Pg)) (k : Nat) : Option Pg := match findC k S with
  | some p => some p
  | none => findC k G
def srP (over : Bool) (ds : DSt) (S G : List (Nat × Pg)) (a s : Nat) (i : Int) : Pg := if mayE over ds.pgs.length a s i ≠ 0 then zs 64 else (fndS S G i.toNat).getD (readP ds.down ds.pgs ds.ca i)
def srE (over : Bool) (ds : DSt) (S G : List (Nat × Pg)) (a s : Nat) (i : Int) : Int := if mayE over ds.pgs.length a s i ≠ 0 then mayE over ds.pgs.length a s i else if (fndS S G i.toNat).isSome = true then 0 else hasE ds.down ds.pgs.length i
section
variable {o : List AM.Obj} {e d sp jl dd pg lm st gr a s : Nat} {seq : Int} {over on : Bool} {ds : DSt} {S G : List (Nat × Pg)}
set_option maxHeartbeats 8000000 in
theorem sread_q (P : PS o sp jl dd pg lm st gr a s seq over on ds S G) (ha : a ≤ 100000) (hs : s ≤ 1000000) (i : Int) : Den FF E2 36 [.ptr sp 0, .int .i64 i] ⟨o, e, d⟩ = some (.val (.tuple [.agg (bytesA (srP over ds S G a s i)), .int .i64 (srE over ds S G a s i)]), none) := by
  refine To.den hxE2 (f := 36) (a := af36) rfl (E2_none rfl) (Nat.le_of_ble_eq_true rfl) ?_
  have q := fun r e d => smay_q (e := e) (d := d) (P.app r) ha hs i
  have gs := fun r => app_old P.hs r
  have gb : ∀ (x : AM.Obj) r, (o ++ (x :: r))[o.length]? = some x := fun x r => app_get0 _ _ _
  have hb0 : ∀ (x y : AM.Obj) r', (o ++ (x :: r')).set o.length y = o ++ (y :: r') := fun x y r' => app_set0 _ _ _ _
  have ez : bytesA (zs 64) = z64 := rfl
  unfold srP srE
  by_cases h0 : mayE over ds.pgs.length a s i = 0
  case neg =>
    have hb : (mayE over ds.pgs.length a s i != 0) = true := by simpa using h0
    rw [if_pos h0, if_pos h0, ez]
    generalize mayE over ds.pgs.length a s i = er at q hb ⊢
    (repeat' (first | refine To.seq hxE2 ?_ | refine To.op0 hxE2 (by simp only [go_sem, reduceIte, seval, Heap.sets, ne_eq, not_false_eq_true, Nat.zero_le, q, hb, gb, hb0, z64_len, z64_drop, z64_one, z64_plains, List.append_nil]; rfl) ?_ | refine To.op1 hxE2 (by simp only [go_sem, reduceIte, seval, Heap.sets, ne_eq, not_false_eq_true, Nat.zero_le, gb, hb0, z64_len, z64_drop, z64_one, z64_plains, List.append_nil]; rfl) ?_ | refine To.nop hxE2 ?_ | (refine To.condT hxE2 ?_ ?_; focus (simp only [go_sem, reduceIte, seval]; done)) | refine To.ret hxE2 ?_))
    try simp only [andThen]
    exact fin_kc2 (cs := z64) (l := o.length) rfl (by simp only [go_sem, reduceIte, seval]) (by simp only [go_sem, reduceIte, seval]) (gets_app rfl) rfl rfl (kp_app (by omega) (by omega))
  rw [if_neg (by simpa using h0), if_neg (by simpa using h0)]
  rw [h0] at q
  obtain ⟨_, k, rfl, hk, _⟩ := mayE_ok h0
  rw [Int.toNat_natCast]
  have hkey : V.key .i (.int .i64 (k : Int)) = true := rfl
  have mS := mapFind_ent k S P.okS.nd
  have mG := mapFind_ent k G P.okG.nd
  have gS := fun r => app_old P.hS r
  have gG := fun r => app_old P.hG r
  have qr := fun r e d => read_q (e := e) (d := d) (P.J.P.app r) (k : Int)
  have gs2 : ∀ x y, (o ++ (x :: y))[sp]? = _ := fun x y => app_old P.hs (x :: y)
  have gs3 : ∀ x y, (o ++ x ++ y)[sp]? = _ := fun x y => app_old (app_old P.hs x) y
  have ksp : decide (sp < o.length + 1) = true := decide_eq_true (by have := P.ls; omega)
  have kst : decide (st < o.length + 1) = true := decide_eq_true (by have := P.lst; omega)
  have kgr : decide (gr < o.length + 1) = true := decide_eq_true (by have := P.lgr; omega)
  (repeat' (first | refine To.seq hxE2 ?_ | refine To.op0 hxE2 (by simp only [go_sem, reduceIte, seval, q, bne_self_eq_false]; rfl) ?_ | refine To.op1 hxE2 (by simp only [go_sem, seval]; rfl) ?_ | refine To.nop hxE2 ?_ | (refine To.condF hxE2 ?_ ?_; focus (simp only [go_sem, reduceIte, seval]; done)) | refine To.block hxE2 ?_ | refine To.skip hxE2 ?_ | refine ToD.op0 (by simp only [go_sem, reduceIte, seval, Heap.get, List.drop_of_length_le, Nat.add_zero, Nat.reduceLeDiff, gs, ksp, kst, kgr, Bool.true_or, Bool.and_self]; rfl) (by simp only [put_some]; rfl) ?_ | refine ToD.op1 (by simp only [go_sem, reduceIte, seval, List.drop_of_length_le, Nat.add_zero, Nat.reduceLeDiff, kst, kgr, Bool.true_or, Bool.and_self]; rfl) (by simp only [put_some]; rfl) (by simp only [KD.app, go_sem, seval]; rfl) ?_ | refine ToD.nop ?_ | refine To.draw hxE2 (by decide) ?_ | fail))
  have h64 : ∀ {M : List (Nat × Pg)} {p : Pg}, OkM ds.pgs.length M → findC k M = some p → p.length = 64 := fun h1 h2 => findC_64 h1 h2
  have g1 : ∀ (x y : AM.Obj) r', (o ++ (x :: y :: r'))[o.length + 1]? = some y := fun x y r' => app_getk _ _ 1
  have gn : ∀ (x y : AM.Obj) (r : List AM.Obj) (z : AM.Obj), (o ++ (x :: y :: (r ++ [z])))[o.length + (r.length + 2)]? = some z := fun x y r z => by
    rw [app_getk, List.getElem?_cons_succ, List.getElem?_cons_succ]; simp
  refine To.loop hxE2 (fun m T h' => ∃ (i d1 : Nat) (r : List AM.Obj), i + m = 2 ∧ h' = ⟨o ++ (.cells .ex 31 0 z64 :: .cells .ex 113 0 [.map st, .map gr] :: r), o.length, d1⟩ ∧ o.length ≤ d1 ∧ (1 ≤ i → findC k S = none) ∧ (2 ≤ i → findC k G = none) ∧ T 0 = .ptr sp 0 ∧ T 1 = .int .i64 (k : Int) ∧ T 4 = .ptr o.length 0 ∧ T 26 = .slice (o.length + 1) 0 2 1 ∧ T 27 = .int .i64 2 ∧ T 28 = .int .i64 (i : Int)) ?_ 2 _ _ ?_
  rotate_left
  · refine ⟨0, min o.length (o.length + 1), [], by omega, ?_, by omega, fun h => absurd h (by decide), fun h => absurd h (by decide), ?_⟩
    · show (⟨_, min o.length (o.length + 1), min o.length (o.length + 1)⟩ : Heap) = _
      rw [Nat.min_eq_left (Nat.le_succ _)]
    · simp only [go_sem, reduceIte, seval, initS]
  rintro m T _ ⟨i, d1, r, hm, rfl, hd1, hf1, hf2, t0, t1, t4, t26, t27, t28⟩
  by_cases hi : i < 2
  · have key : ∀ (M : List (Nat × Pg)) (lm' : Nat), mapFind .i (.int .i64 (k : Int)) (M.map ent) = some ((findC k M).map fun p => .agg (bytesA p)) → OkM ds.pgs.length M → True := fun _ _ _ _ => trivial
    obtain rfl | rfl : i = 0 ∨ i = 1 := by omega
    · have t28 : T 28 = .int .i64 0 := t28
      cases hfc : findC k S with
      | none =>
        rw [hfc] at mS
        (repeat' (first | refine To.seq hxE2 ?_ | refine To.op0 hxE2 (by simp only [go_sem, reduceIte, seval, Heap.sets, Heap.get, ne_eq, not_false_eq_true, Nat.zero_le, t1, t26, t27, t28, gS, g1, gn, mS, hkey, z64_len, z64_drop, z64_one, z64_plains, List.append_nil, Option.map_none, Option.isSome_none, Option.getD_none]; rfl) ?_ | refine To.op1 hxE2 (by simp only [go_sem, reduceIte, seval, Heap.sets, ne_eq, not_false_eq_true, Nat.zero_le, gn, z64_len, z64_drop, z64_one, z64_plains, List.append_nil]; rfl) ?_ | refine To.nop hxE2 ?_ | (refine To.condT hxE2 ?_ ?_; focus (simp only [go_sem, reduceIte, seval]; done)) | (refine To.condF hxE2 ?_ ?_; focus (simp only [go_sem, reduceIte, seval]; done)) | refine To.block hxE2 ?_ | refine To.skip hxE2 ?_))
        try simp only [andThen]
        refine ⟨m - 1, by omega, 1, _, r ++ [.cells .ex 31 0 z64], by omega, rfl, by omega, fun _ => by first | exact hfc | trivial, fun h => absurd h (by decide), ?_⟩
        simp only [go_sem, reduceIte, seval, t0, t1, t4, t26, t27]
        trivial
      | some p =>
        have hp64 := h64 P.okS hfc
        have htk : List.take 64 (bytesA p) = bytesA p := List.take_of_length_le (by rw [bytesA_length]; omega)
        have hdr : List.drop 64 (bytesA p) = [] := List.drop_eq_nil_of_le (by rw [bytesA_length]; omega)
        rw [hfc] at mS
        (repeat' (first | refine To.seq hxE2 ?_ | refine To.op0 hxE2 (by simp only [go_sem, reduceIte, seval, Heap.gets, Heap.sets, Heap.get, bytesA_length, bytesA_one, bytesA_plains, List.take_of_length_le, ne_eq, not_false_eq_true, Nat.zero_le, t1, t4, t26, t27, t28, gS, gb, hb0, g1, gn, mS, hkey, hp64, z64_len, z64_drop, List.append_nil, Option.map_some, Option.isSome_some, Option.getD_some]; rfl) ?_ | refine To.op1 hxE2 (by simp only [go_sem, reduceIte, seval, Heap.sets, bytesA_length, bytesA_one, bytesA_plains, ne_eq, not_false_eq_true, Nat.zero_le, t4, gb, hb0, gn, hp64, z64_len, z64_drop, List.append_nil]; rfl) ?_ | refine To.nop hxE2 ?_ | (refine To.condT hxE2 ?_ ?_; focus (simp only [go_sem, reduceIte, seval]; done)) | refine To.block hxE2 ?_ | refine To.ret hxE2 ?_ | refine To.skip hxE2 ?_))
        try simp only [andThen, outOf]
        have e1 : fndS S G k = some p := by unfold fndS; rw [hfc]
        rw [e1, Option.getD_some, Option.isSome_some, if_pos rfl]
        exact fin_kc2 (cs := bytesA p) (l := o.length) rfl (by first | (simp only [go_sem, reduceIte, seval, t4]; done) | exact t4) (by simp only [go_sem, reduceIte, seval]) (gets_app2 (by rw [bytesA_length]; exact hp64)) (bytesA_plains _) rfl (kp_app (by omega) (by omega))
    · have t28 : T 28 = .int .i64 1 := t28
      have hfS := hf1 (Nat.le_refl _)
      cases hfc : findC k G with
      | none =>
        rw [hfc] at mG
        (repeat' (first | refine To.seq hxE2 ?_ | refine To.op0 hxE2 (by simp only [go_sem, reduceIte, seval, Heap.sets, Heap.get, ne_eq, not_false_eq_true, Nat.zero_le, t1, t26, t27, t28, gG, g1, gn, mG, hkey, z64_len, z64_drop, z64_one, z64_plains, List.append_nil, Option.map_none, Option.isSome_none, Option.getD_none]; rfl) ?_ | refine To.op1 hxE2 (by simp only [go_sem, reduceIte, seval, Heap.sets, ne_eq, not_false_eq_true, Nat.zero_le, gn, z64_len, z64_drop, z64_one, z64_plains, List.append_nil]; rfl) ?_ | refine To.nop hxE2 ?_ | (refine To.condT hxE2 ?_ ?_; focus (simp only [go_sem, reduceIte, seval]; done)) | (refine To.condF hxE2 ?_ ?_; focus (simp only [go_sem, reduceIte, seval]; done)) | refine To.block hxE2 ?_ | refine To.skip hxE2 ?_))
        try simp only [andThen]
        refine ⟨m - 1, by omega, 2, _, r ++ [.cells .ex 31 0 z64], by omega, rfl, by omega, fun _ => hfS, fun _ => by first | exact hfc | trivial, ?_⟩
        simp only [go_sem, reduceIte, seval, t0, t1, t4, t26, t27]
        trivial
      | some p =>
        have hp64 := h64 P.okG hfc
        have htk : List.take 64 (bytesA p) = bytesA p := List.take_of_length_le (by rw [bytesA_length]; omega)
        have hdr : List.drop 64 (bytesA p) = [] := List.drop_eq_nil_of_le (by rw [bytesA_length]; omega)
        rw [hfc] at mG
        (repeat' (first | refine To.seq hxE2 ?_ | refine To.op0 hxE2 (by simp only [go_sem, reduceIte, seval, Heap.gets, Heap.sets, Heap.get, bytesA_length, bytesA_one, bytesA_plains, List.take_of_length_le, ne_eq, not_false_eq_true, Nat.zero_le, t1, t4, t26, t27, t28, gG, gb, hb0, g1, gn, mG, hkey, hp64, z64_len, z64_drop, List.append_nil, Option.map_some, Option.isSome_some, Option.getD_some]; rfl) ?_ | refine To.op1 hxE2 (by simp only [go_sem, reduceIte, seval, Heap.sets, bytesA_length, bytesA_one, bytesA_plains, ne_eq, not_false_eq_true, Nat.zero_le, t4, gb, hb0, gn, hp64, z64_len, z64_drop, List.append_nil]; rfl) ?_ | refine To.nop hxE2 ?_ | (refine To.condT hxE2 ?_ ?_; focus (simp only [go_sem, reduceIte, seval]; done)) | refine To.block hxE2 ?_ | refine To.ret hxE2 ?_ | refine To.skip hxE2 ?_))
        try simp only [andThen, outOf]
        have e1 : fndS S G k = some p := by unfold fndS; rw [hfS, hfc]
        rw [e1, Option.getD_some, Option.isSome_some, if_pos rfl]
        exact fin_kc2 (cs := bytesA p) (l := o.length) rfl (by first | (simp only [go_sem, reduceIte, seval, t4]; done) | exact t4) (by simp only [go_sem, reduceIte, seval]) (gets_app2 (by rw [bytesA_length]; exact hp64)) (bytesA_plains _) rfl (kp_app (by omega) (by omega))
  · obtain rfl : i = 2 := by omega
    have t28 : T 28 = .int .i64 2 := t28
    have e1 : fndS S G k = none := by unfold fndS; rw [hf1 (by decide), hf2 (by decide)]
    rw [e1, Option.getD_none, Option.isSome_none, if_neg (by decide)]
    have hp64 : (readP ds.down ds.pgs ds.ca (k : Int)).length = 64 := readP_64 P.J.P k hk
    generalize readP ds.down ds.pgs ds.ca (k : Int) = p at *
    have htk : List.take 64 (bytesA p) = bytesA p := List.take_of_length_le (by rw [bytesA_length]; omega)
    have hdr : List.drop 64 (bytesA p) = [] := List.drop_eq_nil_of_le (by rw [bytesA_length]; omega)
    (repeat' (first | refine To.seq hxE2 ?_ | refine To.op0 hxE2 (by simp only [go_sem, reduceIte, seval, Heap.get, t0, t27, t28]; rfl) ?_ | refine To.nop hxE2 ?_ | (refine To.condF hxE2 ?_ ?_; focus (simp only [go_sem, reduceIte, seval]; done)) | refine To.exit hxE2 ?_))
    try simp only [andThen, outOf, if_true]
    (repeat' (first | refine To.op0 hxE2 (by simp only [go_sem, reduceIte, seval, Heap.sets, Heap.get, bytesA_length, bytesA_one, bytesA_plains, ne_eq, not_false_eq_true, Nat.zero_le, t1, t4, gs, gb, hb0, qr, hp64, z64_len, z64_drop, List.append_nil]; rfl) ?_ | refine To.op1 hxE2 (by simp only [go_sem, reduceIte, seval, Heap.sets, bytesA_length, bytesA_one, bytesA_plains, ne_eq, not_false_eq_true, Nat.zero_le, t4, gb, hb0, hp64, z64_len, z64_drop, List.append_nil]; rfl) ?_ | refine To.nop hxE2 ?_ | refine To.ret hxE2 ?_))
    try simp only [andThen, outOf]
    exact fin_kc2 (cs := bytesA p) (l := o.length) rfl (by first | (simp only [go_sem, reduceIte, seval, t4]; done) | exact t4) (by simp only [go_sem, reduceIte, seval]) (gets_app2 (by rw [bytesA_length]; exact hp64)) (bytesA_plains _) rfl (kp_app (by omega) (by omega))
end
end Go.Proofs.Ytfbkeieoeagkdaa

/- Store, the law of what lasts: is a script great, has a disk these pages. -/
namespace Go.Proofs.Ytfbkeieoeagkdaa
open Go AM
set_option linter.unusedSimpArgs false
set_option linter.unusedVariables false
set_option maxRecDepth 100000

section
variable {o : List AM.Obj} {e d dd pg lm : Nat} {on down : Bool} {left : Int} {pgs : List Pg} {ca : List (Nat × Pg)}
set_option maxHeartbeats 4000000 in
theorem great6_q {v : V} {xs : List Op3} (hA : OArg o v xs) : ∃ b, Den FF E2 45 [v] ⟨o, e, d⟩ = some (.val (.bool b), none) ∧ (b = false → xs.length ≤ 80) := by
  have hl := hA.len
  suffices h : ∃ r oh, Den FF E2 45 [v] ⟨o, e, d⟩ = some (r, oh) ∧ ∃ b, r = .val (.bool b) ∧ oh = none ∧ (b = false → xs.length ≤ 80) by
    obtain ⟨r, oh, q, b, rfl, rfl, h⟩ := h
    exact ⟨b, q, h⟩
  refine To.denE hxE2 (f := 45) (a := af45) rfl (E2_none rfl) (Nat.le_of_ble_eq_true rfl) ?_
  by_cases h80 : 80 < xs.length
  · have d1 : decide ((80 : Int) < (xs.length : Int)) = true := decide_eq_true (by omega)
    (repeat' (first | refine To.seq hxE2 ?_ | refine To.op0 hxE2 (by simp only [go_sem, reduceIte, seval, hl, d1]; rfl) ?_ | refine To.nop hxE2 ?_ | (refine To.condT hxE2 ?_ ?_; focus (simp only [go_sem, reduceIte, seval]; done)) | refine To.ret hxE2 ?_))
    exact ⟨_, _, fin_k1 (i := 2) (v := .bool true) rfl (by simp only [go_sem, reduceIte, seval]) rfl (Kp.enter' _), true, rfl, rfl, fun h => by cases h⟩
  have d1 : decide ((80 : Int) < (xs.length : Int)) = false := decide_eq_false (by omega)
  (repeat' (first | refine To.seq hxE2 ?_ | refine To.op0 hxE2 (by simp only [go_sem, reduceIte, seval, hl, d1]; rfl) ?_ | refine To.nop hxE2 ?_ | (refine To.condF hxE2 ?_ ?_; focus (simp only [go_sem, reduceIte, seval]; done)) | refine To.block hxE2 ?_ | refine To.skip hxE2 ?_))
  refine To.loop hxE2 (fun m S h' => ∃ (i e1 d1 : Nat) (r : List AM.Obj), i + m = xs.length ∧ h' = ⟨o ++ r, e1, d1⟩ ∧ o.length ≤ e1 ∧ o.length ≤ d1 ∧ S 8 = v ∧ S 9 = .int .i64 (xs.length : Int) ∧ S 10 = .int .i64 (i : Int)) ?_ xs.length _ _ ?_
  rotate_left
  · refine ⟨0, _, _, [], by omega, by rw [List.append_nil]; rfl, Nat.le_refl _, Nat.le_refl _, ?_⟩
    simp only [go_sem, reduceIte, seval]
  rintro m S _ ⟨i, e1, d1, r, hm, rfl, he, hd, s8, s9, s10⟩
  by_cases hi : i < xs.length
  · have hlt : decide ((i : Int) < (xs.length : Int)) = true := decide_eq_true (by omega)
    have ix : idxOf xs.length (.int .i64 (i : Int)) = some i := idxOf_nat hi
    have wi : IntKind.i64.wrap ((i : Int) + 1) = ((i + 1 : Nat) : Int) := by rw [wrap_i64 (by omega) (by omega)]; omega
    obtain ⟨x, hx⟩ : ∃ x, xs[i]? = some x := ⟨xs[i], List.getElem?_eq_getElem hi⟩
    obtain ⟨la, ta, rfl, hla⟩ := hA.at_ (by rintro rfl; simp at hi)
    have gl : ∀ r, (o ++ r)[la]? = some (.cells .ro ta 0 (xs.map Op3.cs).flatten) := fun r => app_old hla r
    have hxf := hA.fits x (List.mem_of_getElem? hx)
    have h67 : ∀ r ∈ xs.map Op3.cs, r.length = 67 := by
      intro r hr
      obtain ⟨y, hy, rfl⟩ := List.mem_map.1 hr
      exact op3_len (hA.fits y hy).p64
    obtain ⟨a1, a2⟩ := flat_drop h67 (by rw [List.getElem?_map, hx]; rfl : (xs.map Op3.cs)[i]? = some x.cs)
    have hcl := op3_len hxf.p64
    have hco := op3_one hxf.one
    have hbl := hxf.arg.len
    have hc66 : x.cs[66]? = some x.L := by
      have : x.cs = (.int .i64 x.K :: .int .i64 x.N :: bytesA x.p) ++ [x.L] := rfl
      rw [this, List.getElem?_append_right (by simp only [List.length_cons, bytesA_length, hxf.p64]; omega)]
      simp only [List.length_cons, bytesA_length, hxf.p64]; rfl
    have gb : ∀ z : AM.Obj, (o ++ (r ++ [z]))[o.length + r.length]? = some z := fun z => by rw [app_getk]; simp
    by_cases h6 : 600 < x.b.length
    · have d6 : decide ((600 : Int) < (x.b.length : Int)) = true := decide_eq_true (by omega)
      (repeat' (first | refine To.seq hxE2 ?_ | refine To.op0 hxE2 (by simp only [go_sem, reduceIte, seval, Heap.gets, Heap.sets, Heap.get, ne_eq, not_false_eq_true, Nat.zero_le, s8, s9, s10, hlt, ix, gl, gb, a1, a2, hcl, hco, hc66, hbl, d6, opz_drop, opz_len]; rfl) ?_ | refine To.op1 hxE2 (by simp only [go_sem, reduceIte, seval, Heap.sets, ne_eq, not_false_eq_true, Nat.zero_le, gb, hcl, hco, opz_drop, opz_len]; rfl) ?_ | refine To.nop hxE2 ?_ | (refine To.condT hxE2 ?_ ?_; focus (simp only [go_sem, reduceIte, seval]; done)) | refine To.block hxE2 ?_ | refine To.ret hxE2 ?_ | refine To.skip hxE2 ?_))
      exact ⟨_, _, fin_k1 (i := 2) (v := .bool true) rfl (by simp only [go_sem, reduceIte, seval]) rfl (kp_app (by split <;> omega) (by omega)), true, rfl, rfl, fun h => by cases h⟩
    · have d6 : decide ((600 : Int) < (x.b.length : Int)) = false := decide_eq_false (by omega)
      (repeat' (first | refine To.seq hxE2 ?_ | refine To.op0 hxE2 (by simp only [go_sem, reduceIte, seval, Heap.gets, Heap.sets, Heap.get, ne_eq, not_false_eq_true, Nat.zero_le, s8, s9, s10, hlt, ix, wi, gl, gb, a1, a2, hcl, hco, hc66, hbl, d6, opz_drop, opz_len]; rfl) ?_ | refine To.op1 hxE2 (by simp only [go_sem, reduceIte, seval, Heap.sets, ne_eq, not_false_eq_true, Nat.zero_le, gb, hcl, hco, opz_drop, opz_len]; rfl) ?_ | refine To.nop hxE2 ?_ | (refine To.condT hxE2 ?_ ?_; focus (simp only [go_sem, reduceIte, seval]; done)) | (refine To.condF hxE2 ?_ ?_; focus (simp only [go_sem, reduceIte, seval]; done)) | refine To.block hxE2 ?_ | refine To.skip hxE2 ?_))
      try simp only [andThen]
      refine ⟨m - 1, by omega, i + 1, _, _, r ++ [.cells .ex 85 0 x.cs], by omega, rfl, by split <;> omega, by omega, ?_⟩
      simp only [go_sem, reduceIte, seval, s8, s9]
  · have hlt : decide ((i : Int) < (xs.length : Int)) = false := decide_eq_false (by omega)
    (repeat' (first | refine To.seq hxE2 ?_ | refine To.op0 hxE2 (by simp only [go_sem, reduceIte, seval, s9, s10, hlt]; rfl) ?_ | refine To.nop hxE2 ?_ | (refine To.condF hxE2 ?_ ?_; focus (simp only [go_sem, reduceIte, seval]; done)) | refine To.ret hxE2 ?_ | refine To.exit hxE2 ?_))
    try simp only [andThen, outOf, if_true]
    skip
    exact ⟨_, _, fin_k1 (i := 2) (v := .bool false) rfl (by simp only [go_sem, reduceIte, seval]) rfl (kp_app (by omega) (by omega)), false, rfl, rfl, fun _ => by omega⟩
/-- The first pages of a disk. -/
def f20 (pgs : List Pg) : List Pg := (List.range 20).map fun i => lastP pgs ((i : Nat) : Int)
theorem f20_len (pgs : List Pg) : (f20 pgs).length = 20 := by simp [f20]
theorem f20_get {pgs : List Pg} {i : Nat} (h : i < 20) : (f20 pgs)[i]? = some (lastP pgs (i : Int)) := by
  unfold f20
  rw [List.getElem?_map, List.getElem?_range h]; rfl
set_option maxHeartbeats 4000000 in
theorem same_q (P : PD o dd pg lm on down left pgs ca) (hl : pgs.length = 40) {X : List Pg} (hX : X.length = 20) (h64 : ∀ p ∈ X, p.length = 64) : ∃ b, Den FF E2 46 [.ptr dd 0, .agg (pgC X)] ⟨o, e, d⟩ = some (.val (.bool b), none) ∧ (f20 pgs = X → b = true) := by
  suffices h : ∃ r oh, Den FF E2 46 [.ptr dd 0, .agg (pgC X)] ⟨o, e, d⟩ = some (r, oh) ∧ ∃ b, r = .val (.bool b) ∧ oh = none ∧ (f20 pgs = X → b = true) by
    obtain ⟨r, oh, q, b, rfl, rfl, h⟩ := h
    exact ⟨b, q, h⟩
  refine To.denE hxE2 (f := 46) (a := af46) rfl (E2_none rfl) (Nat.le_of_ble_eq_true rfl) ?_
  have hpl : (pgC X).length = 1280 := by rw [pgC_len h64]; omega
  have hpo : (pgC X).all V.one = true := by
    unfold pgC
    rw [List.all_flatMap]
    exact List.all_eq_true.2 fun p _ => bytesA_one p
  (repeat' (first | refine To.seq hxE2 ?_ | refine To.op0 hxE2 (by simp only [go_sem, seval]; rfl) ?_ | refine To.op1 hxE2 (by simp only [go_sem, seval]; rfl) ?_ | refine To.nop hxE2 ?_ | refine To.block hxE2 ?_))
  refine To.loop hxE2 (fun m S h' => ∃ (i : Nat), i + m = 20 ∧ h' = ⟨o ++ [.cells .ex 82 0 (pgC X)], o.length, o.length⟩ ∧ S 0 = .ptr dd 0 ∧ S 3 = .ptr o.length 0 ∧ S 6 = .int .i64 (i : Int)) ?_ 20 _ _ ?_
  rotate_left
  · refine ⟨0, by omega, rfl, ?_⟩
    simp only [go_sem, reduceIte, seval, initS]
  rintro m S _ ⟨i, hm, rfl, s0, s3, s6⟩
  by_cases hi : i < 20
  · have hlt : decide ((i : Int) < 20) = true := decide_eq_true (by omega)
    have ix : idxOf 20 (.int .i64 (i : Int)) = some i := idxOf_nat hi
    have wi : IntKind.i64.wrap ((i : Int) + 1) = ((i + 1 : Nat) : Int) := by rw [wrap_i64 (by omega) (by omega)]; omega
    have ql := fun r e d => lasts_q (e := e) (d := d) (P.app r) (i : Int)
    have hxi : X[i]? = some (X[i]'(by omega)) := List.getElem?_eq_getElem (by omega)
    have hat := pgC_at h64 hxi
    have hle : i * 64 + 64 ≤ 1280 := by omega
    have hx64 := h64 _ (List.getElem_mem (by omega : i < X.length))
    have hl64 : (lastP pgs (i : Int)).length = 64 := by
      unfold lastP
      rw [if_neg (by omega), Int.toNat_natCast, List.getD_eq_getElem?_getD, List.getElem?_eq_getElem (by omega)]
      exact P.p64 _ (List.getElem_mem _)
    have hfg := f20_get (pgs := pgs) hi
    have gb : ∀ (x : AM.Obj) r, (o ++ (x :: r))[o.length]? = some x := fun x r => app_get0 _ _ _
    generalize X[i]'(by omega) = y at *
    have hek := eqB64 hl64 hx64
    generalize lastP pgs (i : Int) = q at *
    cases hq : (q == y)
    · rw [hq] at hek
      (repeat' (first | refine To.seq hxE2 ?_ | refine To.op0 hxE2 (by simp only [go_sem, reduceIte, seval, s6, hlt]; rfl) ?_ | refine To.nop hxE2 ?_ | (refine To.condT hxE2 ?_ ?_; focus (simp only [go_sem, reduceIte, seval]; done)) | refine To.block hxE2 ?_ | refine To.ret hxE2 ?_ | refine To.skip hxE2 ?_ | refine To.draw0 hxE2 ?_ | refine ToD.op0 (by simp only [go_sem, reduceIte, seval, Heap.gets, Nat.add_zero, s0, s3, ix, ql, gb, hat, hle, hpl, hek]; rfl) (by simp only [put_some]; rfl) ?_ | refine ToD.nop ?_))
      refine ⟨_, _, fin_k1 (i := 4) (v := .bool false) rfl (by simp only [go_sem, reduceIte, seval]) rfl (kp_app (by omega) (by omega)), false, rfl, rfl, fun h => ?_⟩
      rw [h, hxi] at hfg
      cases hfg
      rw [beq_self_eq_true] at hq
      cases hq
    · rw [hq] at hek
      (repeat' (first | refine To.seq hxE2 ?_ | refine To.op0 hxE2 (by simp only [go_sem, reduceIte, seval, s6, hlt, wi]; rfl) ?_ | refine To.nop hxE2 ?_ | (refine To.condT hxE2 ?_ ?_; focus (simp only [go_sem, reduceIte, seval]; done)) | (refine To.condF hxE2 ?_ ?_; focus (simp only [go_sem, reduceIte, seval]; done)) | refine To.block hxE2 ?_ | refine To.skip hxE2 ?_ | refine To.draw0 hxE2 ?_ | refine ToD.op0 (by simp only [go_sem, reduceIte, seval, Heap.gets, Nat.add_zero, s0, s3, ix, ql, gb, hat, hle, hpl, hek]; rfl) (by simp only [put_some]; rfl) ?_ | refine ToD.nop ?_))
      try simp only [andThen]
      skip
      try simp only [andThen, outOf]
      refine ⟨m - 1, by omega, i + 1, by omega, by first | trivial | rfl, ?_⟩
      simp only [go_sem, reduceIte, seval, s0, s3]
  · have hlt : decide ((i : Int) < 20) = false := decide_eq_false (by omega)
    (repeat' (first | refine To.seq hxE2 ?_ | refine To.op0 hxE2 (by simp only [go_sem, reduceIte, seval, s6, hlt]; rfl) ?_ | refine To.nop hxE2 ?_ | (refine To.condF hxE2 ?_ ?_; focus (simp only [go_sem, reduceIte, seval]; done)) | refine To.ret hxE2 ?_ | refine To.exit hxE2 ?_))
    try simp only [andThen, outOf, if_true]
    skip
    exact ⟨_, _, fin_k1 (i := 4) (v := .bool true) rfl (by simp only [go_sem, reduceIte, seval]) rfl (kp_app (by omega) (by omega)), true, rfl, rfl, fun _ => rfl⟩
end
end Go.Proofs.Ytfbkeieoeagkdaa

/- Journal, the plain law: heads, torn and whole. -/
namespace Go.Proofs.Ytfbkeieoeagkdaa
open Go AM
set_option linter.unusedSimpArgs false
set_option linter.unusedVariables false
set_option maxRecDepth 100000

theorem getK4 (p : Pg) (a : Nat) : getK p a 4 = (((0 * 256 + (p.getD a 0).toNat) * 256 + (p.getD (a + 1) 0).toNat) * 256 + (p.getD (a + 2) 0).toNat) * 256 + (p.getD (a + 3) 0).toNat := rfl
theorem getK2 (p : Pg) (a : Nat) : getK p a 2 = (0 * 256 + (p.getD a 0).toNat) * 256 + (p.getD (a + 1) 0).toNat := rfl
theorem byteI_n (n : Nat) (i : Nat) : (byteI (n : Int) i).toNat = n / 2 ^ (8 * i) % 256 := by
  have := byteI_nat (n : Int) i
  have e : ((n / 2 ^ (8 * i) % 256 : Nat) : Int) = (n : Int) / 2 ^ (8 * i) % 256 := by push_cast; rfl
  omega
theorem getK4_0 (p : Pg) : getK p 0 4 = (((0 * 256 + (p.getD 0 0).toNat) * 256 + (p.getD 1 0).toNat) * 256 + (p.getD 2 0).toNat) * 256 + (p.getD 3 0).toNat := rfl
theorem getK4_60 (p : Pg) : getK p 60 4 = (((0 * 256 + (p.getD 60 0).toNat) * 256 + (p.getD 61 0).toNat) * 256 + (p.getD 62 0).toNat) * 256 + (p.getD 63 0).toNat := rfl
section
variable (s : Int) (lv : Bool) (c sm : Int)
theorem headP_0 : (headP s lv c sm).getD 0 0 = byteI s 3 := rfl
theorem headP_1 : (headP s lv c sm).getD 1 0 = byteI s 2 := rfl
theorem headP_2 : (headP s lv c sm).getD 2 0 = byteI s 1 := rfl
theorem headP_3 : (headP s lv c sm).getD 3 0 = byteI s 0 := rfl
theorem headP_4 : (headP s lv c sm).getD 4 0 = byteI (if lv = true then 1 else 0) 0 := rfl
theorem headP_5 : (headP s lv c sm).getD 5 0 = byteI c 1 := rfl
theorem headP_6 : (headP s lv c sm).getD 6 0 = byteI c 0 := rfl
theorem headP_7 : (headP s lv c sm).getD 7 0 = byteI sm 3 := rfl
theorem headP_8 : (headP s lv c sm).getD 8 0 = byteI sm 2 := rfl
theorem headP_9 : (headP s lv c sm).getD 9 0 = byteI sm 1 := rfl
theorem headP_10 : (headP s lv c sm).getD 10 0 = byteI sm 0 := rfl
theorem headP_60 : (headP s lv c sm).getD 60 0 = byteI s 3 := rfl
theorem headP_61 : (headP s lv c sm).getD 61 0 = byteI s 2 := rfl
theorem headP_62 : (headP s lv c sm).getD 62 0 = byteI s 1 := rfl
theorem headP_63 : (headP s lv c sm).getD 63 0 = byteI s 0 := rfl
end
theorem head_seq {s : Nat} (h : s < 256) (lv : Bool) (c sm : Int) : getK (headP s lv c sm) 0 4 = s ∧ getK (headP s lv c sm) 60 4 = s := by
  constructor
  · rw [getK4, headP_0, headP_1, headP_2, headP_3, byteI_n, byteI_n, byteI_n, byteI_n]; omega
  · rw [getK4, headP_60, headP_61, headP_62, headP_63, byteI_n, byteI_n, byteI_n, byteI_n]; omega
theorem head_cnt (s : Int) (lv : Bool) {c : Nat} (h : c < 65536) (sm : Int) : getK (headP s lv c sm) 5 2 = c := by
  rw [getK2, headP_5, headP_6, byteI_n, byteI_n]; omega
theorem head_sum (s : Int) (lv : Bool) (c : Int) {sm : Nat} (h : sm < 2 ^ 32) : getK (headP s lv c sm) 7 4 = sm := by
  rw [getK4, headP_7, headP_8, headP_9, headP_10, byteI_n, byteI_n, byteI_n, byteI_n]; omega
theorem head_live (s : Int) (lv : Bool) (c sm : Int) : liveP (headP s lv c sm) = lv := by
  unfold liveP
  rw [headP_4]
  cases lv <;> rfl
theorem head_whole {s : Nat} (h : s < 256) (lv : Bool) {c : Nat} (hc : c < 65536) {sm : Nat} (hm : sm < 2 ^ 32) : wholeP (headP s lv c sm) = rightH s lv c sm := by
  unfold wholeP
  rw [(head_seq h lv c sm).1, head_live, head_cnt s lv hc, head_sum s lv c hm]
  simp
/-- Low numbers. -/
def seqB (p : Pg) (q : Nat) : Prop := getK p 0 4 ≤ q ∧ getK p 60 4 ≤ q
theorem whole_tail {p : Pg} (h : wholeP p = true) : p.getD 63 0 = p.getD 3 0 ∧ p.getD 60 0 = p.getD 0 0 := by
  unfold wholeP at h
  have h2 := eq_of_beq (Bool.and_eq_true_iff.1 h).2
  constructor
  · rw [← h2, headP_63, headP_3]
  · rw [← h2, headP_60, headP_0]
theorem tear_get {c : Nat} {p q : Pg} (hp : p.length = 64) (hq : q.length = 64) (i : Nat) : (tear c p q).getD i 0 = if i < c then p.getD i 0 else q.getD i 0 := by
  unfold tear
  simp only [List.getD_eq_getElem?_getD]
  by_cases h : i < c
  · rw [if_pos h]
    by_cases h2 : i < 64
    · rw [List.getElem?_append_left (by rw [List.length_take]; omega), List.getElem?_take_of_lt h]
    · rw [List.getElem?_eq_none (by rw [List.length_append, List.length_take, List.length_drop]; omega), List.getElem?_eq_none (by omega)]
  · rw [if_neg h]
    by_cases h3 : c ≤ 64
    · rw [List.getElem?_append_right (by rw [List.length_take]; omega), List.length_take, List.getElem?_drop, show min c p.length = c by omega, show c + (i - c) = i by omega]
    · rw [List.getElem?_eq_none (by rw [List.length_append, List.length_take, List.length_drop]; omega), List.getElem?_eq_none (by omega)]
theorem tear_l64 {c : Nat} {p q : Pg} (hp : p.length = 64) (hq : q.length = 64) (hc : c ≤ 64) : (tear c p q).length = 64 := by
  unfold tear
  rw [List.length_append, List.length_take, List.length_drop]; omega
theorem pg_ext {p q : Pg} (hp : p.length = 64) (hq : q.length = 64) (h : ∀ i, i < 64 → p.getD i 0 = q.getD i 0) : p = q := by
  apply List.ext_getElem?
  intro i
  by_cases hi : i < 64
  · have := h i hi
    simp only [List.getD_eq_getElem?_getD] at this
    rw [List.getElem?_eq_getElem (by omega), List.getElem?_eq_getElem (by omega)] at this ⊢
    simpa using this
  · rw [List.getElem?_eq_none (by omega), List.getElem?_eq_none (by omega)]
/-- A head torn over a page with lower numbers. -/
theorem torn_head {p : Pg} (hp : p.length = 64) {s k : Nat} (h : s < 256) (hk : k < s) (hb : seqB p k) (lv : Bool) (n sm : Int) {c : Nat} (hc : c ≤ 64) :
    tear c (headP s lv n sm) p = headP s lv n sm ∨ (seqB (tear c (headP s lv n sm) p) s ∧ (tear c (headP s lv n sm) p = p ∨ wholeP (tear c (headP s lv n sm) p) = false)) := by
  have hl := headP_len s lv n sm
  obtain ⟨b1, b2⟩ := hb
  have tg := fun i => tear_get (c := c) hl hp i
  have tl := tear_l64 hl hp hc
  rw [getK4_0] at b1
  rw [getK4_60] at b2
  have n0 : (byteI (s : Int) 0).toNat = s := by rw [byteI_n]; omega
  have n1 : (byteI (s : Int) 1).toNat = 0 := by rw [byteI_n]; omega
  have n2 : (byteI (s : Int) 2).toNat = 0 := by rw [byteI_n]; omega
  have n3 : (byteI (s : Int) 3).toNat = 0 := by rw [byteI_n]; omega
  by_cases h64 : c = 64
  · subst h64
    left
    exact pg_ext tl hl fun i hi => by rw [tg, if_pos hi]
  · right
    have g60 : (tear c (headP s lv n sm) p).getD 60 0 = p.getD 60 0 := by
      rw [tg]
      split
      · rw [headP_60]; exact UInt8.toNat_inj.1 (by omega)
      · rfl
    have g61 : (tear c (headP s lv n sm) p).getD 61 0 = p.getD 61 0 := by
      rw [tg]
      split
      · rw [headP_61]; exact UInt8.toNat_inj.1 (by omega)
      · rfl
    have g62 : (tear c (headP s lv n sm) p).getD 62 0 = p.getD 62 0 := by
      rw [tg]
      split
      · rw [headP_62]; exact UInt8.toNat_inj.1 (by omega)
      · rfl
    have g63 : (tear c (headP s lv n sm) p).getD 63 0 = p.getD 63 0 := by
      rw [tg, if_neg (by omega)]
    have g0 : (tear c (headP s lv n sm) p).getD 0 0 = p.getD 0 0 := by
      rw [tg]
      split
      · rw [headP_0]; exact UInt8.toNat_inj.1 (by omega)
      · rfl
    have g1 : (tear c (headP s lv n sm) p).getD 1 0 = p.getD 1 0 := by
      rw [tg]
      split
      · rw [headP_1]; exact UInt8.toNat_inj.1 (by omega)
      · rfl
    have g2 : (tear c (headP s lv n sm) p).getD 2 0 = p.getD 2 0 := by
      rw [tg]
      split
      · rw [headP_2]; exact UInt8.toNat_inj.1 (by omega)
      · rfl
    by_cases h4 : 4 ≤ c
    · have g3 : (tear c (headP s lv n sm) p).getD 3 0 = byteI (s : Int) 0 := by rw [tg, if_pos (by omega), headP_3]
      refine ⟨⟨?_, ?_⟩, .inr ?_⟩
      · rw [getK4_0, g0, g1, g2, g3]; omega
      · rw [getK4_60, g60, g61, g62, g63]; omega
      · cases hw : wholeP (tear c (headP s lv n sm) p)
        · rfl
        · have := (whole_tail hw).1
          rw [g63, g3] at this
          rw [this] at b2
          omega
    · have : tear c (headP s lv n sm) p = p := pg_ext tl hp fun i hi => by
        by_cases hic : i < c
        · rcases (by omega : i = 0 ∨ i = 1 ∨ i = 2) with rfl | rfl | rfl
          · exact g0
          · exact g1
          · exact g2
        · rw [tg, if_neg hic]
      refine ⟨?_, .inl this⟩
      rw [this]
      refine ⟨?_, ?_⟩
      · rw [getK4_0]; omega
      · rw [getK4_60]; omega
end Go.Proofs.Ytfbkeieoeagkdaa

/- Journal, the plain law: crashes and puts. -/
namespace Go.Proofs.Ytfbkeieoeagkdaa
open Go AM
set_option linter.unusedSimpArgs false
set_option linter.unusedVariables false
set_option maxRecDepth 100000

def pgAt (pgs : List Pg) (i : Nat) : Pg := pgs.getD i (zs 64)
theorem pgAt_set {pgs : List Pg} {k i : Nat} {p : Pg} (h : k < pgs.length) : pgAt (pgs.set k p) i = if i = k then p else pgAt pgs i := by
  unfold pgAt
  simp only [List.getD_eq_getElem?_getD]
  by_cases hi : i = k
  · subst hi; rw [List.getElem?_set_self h, if_pos rfl]; rfl
  · rw [List.getElem?_set_ne (Ne.symm hi), if_neg hi]
theorem pgAt_mem {pgs : List Pg} {i : Nat} (h : i < pgs.length) : pgAt pgs i ∈ pgs := by
  unfold pgAt
  rw [List.getD_eq_getElem?_getD, List.getElem?_eq_getElem h]
  exact List.getElem_mem h
theorem pgs_ext {a b : List Pg} (hl : a.length = b.length) (h : ∀ i, i < a.length → pgAt a i = pgAt b i) : a = b := by
  apply List.ext_getElem?
  intro i
  by_cases hi : i < a.length
  · have := h i hi
    unfold pgAt at this
    simp only [List.getD_eq_getElem?_getD] at this
    rw [List.getElem?_eq_getElem hi, List.getElem?_eq_getElem (by omega)] at this ⊢
    simpa using this
  · rw [List.getElem?_eq_none (by omega), List.getElem?_eq_none (by omega)]
def P64 (pgs : List Pg) : Prop := ∀ p ∈ pgs, p.length = 64
theorem P64.at {pgs : List Pg} (h : P64 pgs) (i : Nat) : (pgAt pgs i).length = 64 := by
  by_cases hi : i < pgs.length
  · exact h _ (pgAt_mem hi)
  · unfold pgAt
    rw [List.getD_eq_getElem?_getD, List.getElem?_eq_none (by omega)]; rfl
theorem P64.set {pgs : List Pg} (h : P64 pgs) {k : Nat} {p : Pg} (hp : p.length = 64) : P64 (pgs.set k p) := fun q hq => by
  rcases List.mem_or_eq_of_mem_set hq with hq | rfl
  · exact h q hq
  · exact hp

/-- What a crash may leave of pages. -/
def Torn (pgs : List Pg) (ca : List (Nat × Pg)) (pgs' : List Pg) : Prop :=
  pgs'.length = pgs.length ∧ ∀ i, i < pgs.length → pgAt pgs' i = pgAt pgs i ∨ ∃ p c, findC i ca = some p ∧ c ≤ 64 ∧ pgAt pgs' i = tear c p (pgAt pgs i)
theorem crashN_torn (ca : List (Nat × Pg)) (ch : List UInt8) : ∀ (K : List Nat) (k : Nat) (pgs : List Pg), K.Nodup → (∀ i ∈ K, i < pgs.length ∧ hasK ca i = true) → Torn pgs ca (crashN ca ch k K pgs) ∧ ∀ i, i ∉ K → pgAt (crashN ca ch k K pgs) i = pgAt pgs i
  | [], k, pgs, _, _ => ⟨⟨rfl, fun i _ => .inl rfl⟩, fun _ _ => rfl⟩
  | j :: r, k, pgs, hn, hK => by
    obtain ⟨h1, h2⟩ := List.nodup_cons.1 hn
    obtain ⟨hj, hk⟩ := hK j List.mem_cons_self
    rw [crashN]
    cases hc : ch[k]? with
    | none =>
      obtain ⟨⟨a1, a2⟩, a3⟩ := crashN_torn ca ch r (k + 1) pgs h2 fun i hi => hK i (List.mem_cons_of_mem _ hi)
      exact ⟨⟨a1, a2⟩, fun i hi => a3 i fun h => hi (List.mem_cons_of_mem _ h)⟩
    | some c =>
      simp only
      obtain ⟨⟨a1, a2⟩, a3⟩ := crashN_torn ca ch r (k + 1) (pgs.set j (tear (c.toNat % 65) ((findC j ca).getD (zs 64)) (pgs.getD j (zs 64)))) h2 fun i hi => by
        rw [List.length_set]; exact hK i (List.mem_cons_of_mem _ hi)
      rw [List.length_set] at a1 a2
      refine ⟨⟨a1, fun i hi => ?_⟩, fun i hi => ?_⟩
      · by_cases hij : i = j
        · subst hij
          right
          obtain ⟨p, hp⟩ := Option.isSome_iff_exists.1 hk
          refine ⟨p, c.toNat % 65, hp, by omega, ?_⟩
          rw [a3 i h1, pgAt_set hi, if_pos rfl, hp]; rfl
        · have := a2 i hi
          rw [pgAt_set hj, if_neg hij] at this
          exact this
      · rw [a3 i fun h => hi (List.mem_cons_of_mem _ h), pgAt_set hj, if_neg (by rintro rfl; exact hi List.mem_cons_self)]
theorem crash_torn (ca : List (Nat × Pg)) (ch : List UInt8) (pgs : List Pg) : Torn pgs ca (crashN ca ch 0 (keysN pgs.length ca) pgs) :=
  (crashN_torn ca ch _ 0 pgs (List.Pairwise.filter _ List.nodup_range) fun i hi => by
    obtain ⟨h1, h2⟩ := List.mem_filter.1 hi
    exact ⟨List.mem_range.1 h1, h2⟩).1
theorem Torn.none {pgs pgs' : List Pg} (h : Torn pgs [] pgs') : pgs' = pgs :=
  pgs_ext h.1 fun i hi => by
    rcases h.2 i (by rw [← h.1]; exact hi) with h | ⟨p, c, h, _⟩
    · exact h
    · cases h

/-- Changes laid in. -/
def putAll (pgs : List Pg) (cs : List (Int × Pg)) : List Pg := cs.foldl (fun l c => l.set c.1.toNat c.2) pgs
def caAll (ca : List (Nat × Pg)) (cs : List (Int × Pg)) : List (Nat × Pg) := cs.foldl (fun m c => putC c.1.toNat c.2 m) ca
theorem putAll_len : ∀ (cs : List (Int × Pg)) (pgs : List Pg), (putAll pgs cs).length = pgs.length
  | [], pgs => rfl
  | c :: r, pgs => (putAll_len r _).trans (List.length_set ..)
def inR (n : Nat) (cs : List (Int × Pg)) : Prop := ∀ c ∈ cs, 0 ≤ c.1 ∧ c.1 < (n : Int)
theorem inR.tail {n : Nat} {c : Int × Pg} {r : List (Int × Pg)} (h : inR n (c :: r)) : inR n r := fun x hx => h x (List.mem_cons_of_mem _ hx)
theorem layP_nil (pgs : List Pg) : layP [] pgs = pgs := by
  refine pgs_ext layP_len fun i hi => ?_
  rw [layP_len] at hi
  unfold pgAt
  rw [List.getD_eq_getElem?_getD, layP_get hi]
  simp [findC, List.getD_eq_getElem?_getD, List.getElem?_eq_getElem hi]
theorem layP_put {ca : List (Nat × Pg)} {pgs : List Pg} {k : Nat} {p : Pg} (hk : k < pgs.length) : layP (putC k p ca) pgs = (layP ca pgs).set k p := by
  refine pgs_ext (by rw [layP_len, List.length_set, layP_len]) fun i hi => ?_
  rw [layP_len] at hi
  rw [pgAt_set (by rw [layP_len]; exact hk)]
  unfold pgAt
  simp only [List.getD_eq_getElem?_getD]
  rw [layP_get hi, layP_get hi, findC_putC]
  by_cases h : i = k
  · rw [if_pos h, if_pos h]; rfl
  · rw [if_neg h, if_neg h]
theorem layP_all {pgs : List Pg} : ∀ {cs : List (Int × Pg)} {ca : List (Nat × Pg)}, inR pgs.length cs → layP (caAll ca cs) pgs = putAll (layP ca pgs) cs
  | [], ca, h => rfl
  | c :: r, ca, h => by
    have h1 := h c List.mem_cons_self
    have ih := layP_all (cs := r) (ca := putC c.1.toNat c.2 ca) h.tail
    rw [layP_put (by omega)] at ih
    exact ih
theorem putAll_at : ∀ {cs : List (Int × Pg)} {a b : List Pg}, a.length = b.length → inR a.length cs → (∀ i : Nat, (∀ c ∈ cs, c.1 ≠ (i : Int)) → pgAt a i = pgAt b i) → putAll a cs = putAll b cs
  | [], a, b, hl, _, h => pgs_ext hl fun i _ => h i (fun c hc => by cases hc)
  | c :: r, a, b, hl, hr, h => by
    have h1 := hr c List.mem_cons_self
    refine putAll_at (cs := r) (by simp [hl]) (by rw [List.length_set]; exact hr.tail) fun i hi => ?_
    rw [pgAt_set (by omega), pgAt_set (by omega)]
    by_cases hic : i = c.1.toNat
    · rw [if_pos hic, if_pos hic]
    · rw [if_neg hic, if_neg hic]
      exact h i fun x hx => by
        rcases List.mem_cons.1 hx with rfl | hx
        · omega
        · exact hi x hx
theorem putAll_out : ∀ {cs : List (Int × Pg)} {a : List Pg} {i : Nat}, inR a.length cs → (∀ c ∈ cs, c.1 ≠ (i : Int)) → pgAt (putAll a cs) i = pgAt a i
  | [], a, i, _, _ => rfl
  | c :: r, a, i, hr, h => by
    have h1 := hr c List.mem_cons_self
    have h2 := h c List.mem_cons_self
    have ih := putAll_out (cs := r) (a := a.set c.1.toNat c.2) (i := i) (by rw [List.length_set]; exact hr.tail) fun x hx => h x (List.mem_cons_of_mem _ hx)
    rw [pgAt_set (by omega), if_neg (by omega)] at ih
    exact ih
theorem putAll_twice {cs : List (Int × Pg)} {a : List Pg} (h : inR a.length cs) : putAll (putAll a cs) cs = putAll a cs :=
  putAll_at (putAll_len _ _) (by rw [putAll_len]; exact h) fun i hi => putAll_out h hi
theorem putAll_64 : ∀ {cs : List (Int × Pg)} {a : List Pg}, P64 a → (∀ c ∈ cs, c.2.length = 64) → P64 (putAll a cs)
  | [], a, h, _ => h
  | c :: r, a, h, hc => putAll_64 (cs := r) (h.set (hc c List.mem_cons_self)) fun x hx => hc x (List.mem_cons_of_mem _ hx)
theorem caAll_find : ∀ {cs : List (Int × Pg)} {ca : List (Nat × Pg)} {i : Nat} {p : Pg}, (∀ c ∈ cs, 0 ≤ c.1) → findC i (caAll ca cs) = some p → findC i ca = some p ∨ ((i : Int), p) ∈ cs
  | [], ca, i, p, _, h => .inl h
  | c :: r, ca, i, p, hc, h => by
    rcases caAll_find (cs := r) (fun x hx => hc x (List.mem_cons_of_mem _ hx)) h with h | h
    · rw [findC_putC] at h
      have := hc c List.mem_cons_self
      split at h
      · rename_i hi
        cases h
        right
        have : ((i : Int), c.2) = c := by rw [hi]; exact Prod.ext (by show ((c.1.toNat : Nat) : Int) = c.1; omega) rfl
        rw [this]; exact List.mem_cons_self
      · exact .inl h
    · exact .inr (List.mem_cons_of_mem _ h)
theorem burnB_off {left : Int} : burnB false false left = true ∧ burnD false false left = false := by
  constructor <;> rfl
theorem burnB_on {on : Bool} {left : Int} (h : burnB on false left = false) : on = true := by
  cases on
  · rw [burnB_off.1] at h; cases h
  · rfl
theorem burnD_ok {on : Bool} {left : Int} (h : burnB on false left = true) : burnD on false left = false := by
  cases on
  · exact burnB_off.2
  · unfold burnB at h
    unfold burnD
    simpa using h
/-- What a put does. -/
theorem dPut_sum (on : Bool) : ∀ (cs : List (Int × Pg)) (st : DSt), st.down = false → inR st.pgs.length cs →
    ((dPut on st cs).1 = 0 ∧ (dPut on st cs).2.down = false ∧ (dPut on st cs).2.ca = [] ∧ (dPut on st cs).2.pgs = layP (caAll st.ca cs) st.pgs) ∨
    ((dPut on st cs).1 = 5 ∧ on = true ∧ (dPut on st cs).2.pgs = st.pgs ∧ ∃ k, (dPut on st cs).2.ca = caAll st.ca (cs.take k))
  | [], st, hd, _ => by
    rw [dPut]
    unfold dFlush
    rw [hd]
    cases hB : burnB on false st.left
    · rw [if_pos rfl]; exact .inr ⟨rfl, burnB_on hB, rfl, 0, rfl⟩
    · rw [if_neg (by simp)]; exact .inl ⟨rfl, burnD_ok hB, rfl, rfl⟩
  | c :: r, st, hd, hr => by
    have h1 := hr c List.mem_cons_self
    have h0 : hasE false st.pgs.length c.1 = 0 := by unfold hasE; rw [if_neg (by simp), if_neg (by omega)]
    rw [dPut]
    cases hB : burnB on false st.left
    · have hw : dWrite on st c.1 c.2 = (5, ⟨burnD on false st.left, burnL on false st.left, st.pgs, st.ca⟩) := by
        unfold dWrite; rw [hd, h0, if_neg (by simp), hB, if_pos rfl]
      rw [hw, if_pos (by simp)]
      exact .inr ⟨rfl, burnB_on hB, rfl, 0, rfl⟩
    · have hw : dWrite on st c.1 c.2 = (0, ⟨burnD on false st.left, burnL on false st.left, st.pgs, putC c.1.toNat c.2 st.ca⟩) := by
        unfold dWrite; rw [hd, h0, if_neg (by simp), hB, if_neg (by simp)]
      rw [hw, if_neg (by simp)]
      simp only
      rcases dPut_sum on r ⟨burnD on false st.left, burnL on false st.left, st.pgs, putC c.1.toNat c.2 st.ca⟩ (burnD_ok hB) hr.tail with ⟨a1, a2, a3, a4⟩ | ⟨a1, a2, a3, k, a4⟩
      · exact .inl ⟨a1, a2, a3, a4⟩
      · exact .inr ⟨a1, a2, a3, k + 1, a4⟩
end Go.Proofs.Ytfbkeieoeagkdaa

/- Store: two of them; helps for the law of one step. -/
namespace Go.Proofs.Ytfbkeieoeagkdaa
open Go AM
set_option linter.unusedSimpArgs false
set_option linter.unusedVariables false
set_option maxRecDepth 100000

theorem keysN_nd (np : Nat) (G : List (Nat × Pg)) : (keysN np G).Nodup := List.nodup_range.filter _
def orE (a b : Option Pg) : Option Pg := match a with
  | some p => some p
  | none => b
theorem findC_merge (k : Nat) (G S : List (Nat × Pg)) : findC k (mergeC G S) = orE (findC k S) (findC k G) := by
  unfold mergeC findC orE
  rw [List.find?_append]
  by_cases h : (S.any fun x => x.1 == k) = true
  · have h1 : ((G.filter fun e => !(S.any fun x => x.1 == e.1)).find? fun e => e.1 == k) = none := by
      refine List.find?_eq_none.2 fun x hx hk => ?_
      have := (List.mem_filter.1 hx).2
      rw [show x.1 = k by simpa using hk, h] at this
      cases this
    rw [h1]
    obtain ⟨y, hy, hyk⟩ := List.any_eq_true.1 h
    cases hf : S.find? fun e => e.1 == k with
    | some z => rfl
    | none => exact absurd hyk (by simpa using List.find?_eq_none.1 hf y hy)
  · have h' : (S.any fun x => x.1 == k) = false := Bool.eq_false_iff.2 h
    have h2 : (S.find? fun e => e.1 == k) = none := List.find?_eq_none.2 fun x hx hk => by
      have := List.any_eq_false.1 h' x hx
      exact this hk
    rw [h2]
    have h3 : ((G.filter fun e => !(S.any fun x => x.1 == e.1)).find? fun e => e.1 == k) = (G.find? fun e => e.1 == k) := by
      rw [List.find?_filter]
      congr 1
      funext x
      by_cases hx : x.1 = k
      · rw [hx, h']; simp
      · have : (x.1 == k) = false := by simpa using hx
        rw [this]; simp
    rw [h3]
    cases (G.find? fun e => e.1 == k) <;> rfl
def ownL (sp jl dd pg lm st gr : Nat) : List Nat := [sp, jl, dd, pg, lm, st, gr]
section
variable {o o1 : List AM.Obj} {e d sp jl dd pg lm st gr a s np : Nat} {seq : Int} {over on : Bool} {ds : DSt} {S G : List (Nat × Pg)}
theorem Sx.own (X : Sx sp jl dd pg lm st gr o o1) {l : Nat} (hl : l < o.length) (h : ∀ x ∈ ownL sp jl dd pg lm st gr, x ≠ l) : o1[l]? = o[l]? := by
  refine X.get l hl ?_ ?_ ?_ ?_ ?_ ?_ ?_ <;> exact Ne.symm (h _ (by simp [ownL]))
theorem PS.lt (P : PS o sp jl dd pg lm st gr a s seq over on ds S G) : ∀ x ∈ ownL sp jl dd pg lm st gr, x < o.length := by
  intro x hx
  simp only [ownL, List.mem_cons, List.not_mem_nil, or_false] at hx
  have h1 := P.ls
  have h2 := P.J.lj
  have h3 := P.J.P.ld
  have h4 := P.J.P.lp
  have h5 := P.J.P.ll
  have h6 := P.lst
  have h7 := P.lgr
  rcases hx with rfl | rfl | rfl | rfl | rfl | rfl | rfl <;> assumption
/-- A store beside what turns. -/
theorem PS.keep (P : PS o sp jl dd pg lm st gr a s seq over on ds S G) (h : ∀ x ∈ ownL sp jl dd pg lm st gr, o1[x]? = o[x]?) : PS o1 sp jl dd pg lm st gr a s seq over on ds S G := by
  have D := P.J.P
  exact ⟨by rw [h _ (by simp [ownL])]; exact P.hs, ⟨by rw [h _ (by simp [ownL])]; exact P.J.hj, ⟨by rw [h _ (by simp [ownL])]; exact D.hd, by rw [h _ (by simp [ownL])]; exact D.hp, by rw [h _ (by simp [ownL])]; exact D.hm, D.p64, D.c64, D.nd⟩⟩, by rw [h _ (by simp [ownL])]; exact P.hS, by rw [h _ (by simp [ownL])]; exact P.hG, P.n1, P.n2, P.n3, P.okS, P.okG⟩
theorem Sx.setS (x : AM.Obj) : Sx sp jl dd pg lm st gr o (o.set st x) := ⟨by simp, fun l _ _ _ _ _ _ f _ => List.getElem?_set_ne (Ne.symm f)⟩
/-- Two stores, of which one turns. -/
structure Two (N0 : Nat) (o : List AM.Obj) (A B : List Nat) : Prop where
  D : ∀ x ∈ A, ∀ y ∈ B, x ≠ y
  N : ∀ x ∈ A, N0 ≤ x
  M : ∀ x ∈ B, N0 ≤ x
  l : N0 ≤ o.length
theorem Two.swap {N0 : Nat} {A B : List Nat} (T : Two N0 o A B) : Two N0 o B A := ⟨fun x hx y hy => Ne.symm (T.D y hy x hx), T.M, T.N, T.l⟩
theorem Two.turn {N0 : Nat} {B : List Nat} (T : Two N0 o (ownL sp jl dd pg lm st gr) B) (hB : ∀ y ∈ B, y < o.length) {st' gr' : Nat} (h1 : st' = st ∨ o.length ≤ st') (h2 : gr' = gr ∨ o.length ≤ gr') (hle : o.length ≤ o1.length) : Two N0 o1 (ownL sp jl dd pg lm st' gr') B := by
  have hTD := T.D
  have hTN := T.N
  have hTl := T.l
  simp only [ownL, List.mem_cons, List.not_mem_nil, or_false, forall_eq_or_imp, forall_eq] at hTD hTN
  obtain ⟨d1, d2, d3, d4, d5, d6, d7⟩ := hTD
  obtain ⟨n1, n2, n3, n4, n5, n6, n7⟩ := hTN
  have hB1 : ∀ z, o.length ≤ z → ∀ y ∈ B, z ≠ y := fun z hz y hy => by have := hB y hy; omega
  refine ⟨?_, ?_, T.M, by omega⟩
  · simp only [ownL, List.mem_cons, List.not_mem_nil, or_false, forall_eq_or_imp, forall_eq]
    refine ⟨d1, d2, d3, d4, d5, ?_, ?_⟩
    · rcases h1 with rfl | h1
      · exact d6
      · exact hB1 _ h1
    · rcases h2 with rfl | h2
      · exact d7
      · exact hB1 _ h2
  · simp only [ownL, List.mem_cons, List.not_mem_nil, or_false, forall_eq_or_imp, forall_eq]
    refine ⟨n1, n2, n3, n4, n5, ?_, ?_⟩ <;> omega
/-- What stays of all else. -/
theorem Two.stay {N0 : Nat} {B : List Nat} (T : Two N0 o (ownL sp jl dd pg lm st gr) B) (X : Sx sp jl dd pg lm st gr o o1) : ∀ l, l < N0 → o1[l]? = o[l]? := fun l hl => X.own (Nat.lt_of_lt_of_le hl T.l) fun x hx => by have := T.N x hx; omega
theorem Two.other {N0 : Nat} {B : List Nat} (T : Two N0 o (ownL sp jl dd pg lm st gr) B) (X : Sx sp jl dd pg lm st gr o o1) (hB : ∀ y ∈ B, y < o.length) : ∀ y ∈ B, o1[y]? = o[y]? := fun y hy => X.own (hB y hy) fun x hx => T.D x hx y hy
theorem Two.app {N0 : Nat} {A B : List Nat} (T : Two N0 o A B) (r : List AM.Obj) : Two N0 (o ++ r) A B := ⟨T.D, T.N, T.M, by have := T.l; rw [List.length_append]; omega⟩
end
end Go.Proofs.Ytfbkeieoeagkdaa

/- Store, the plain law of its journal: what a crash leaves is mended. -/
namespace Go.Proofs.Ytfbkeieoeagkdaa
open Go AM
namespace St
set_option linter.unusedSimpArgs false
set_option linter.unusedVariables false
set_option maxRecDepth 100000

theorem P64.of {pgs : List Pg} (h : ∀ i, i < pgs.length → (pgAt pgs i).length = 64) : P64 pgs := fun p hp => by
  obtain ⟨i, hi, rfl⟩ := List.mem_iff_getElem.1 hp
  have := h i hi
  unfold pgAt at this
  rw [List.getD_eq_getElem?_getD, List.getElem?_eq_getElem hi] at this
  exact this
theorem Torn.p64 {pgs pgs' : List Pg} {ca : List (Nat × Pg)} (h : Torn pgs ca pgs') (hp : P64 pgs) (hc : ∀ i p, findC i ca = some p → p.length = 64) : P64 pgs' :=
  P64.of fun i hi => by
    rcases h.2 i (by rw [← h.1]; exact hi) with h | ⟨p, c, h1, h2, h⟩
    · rw [h]; exact hp.at i
    · rw [h]; exact tear_len (hc i p h1) (hp.at i) h2
/-- A put broken off. -/
theorem put_torn {pgs pgs' : List Pg} {cs : List (Int × Pg)} {k : Nat} (hT : Torn pgs (caAll [] (cs.take k)) pgs') (hr : inR pgs.length cs) (hp : P64 pgs) (hc : ∀ c ∈ cs, c.2.length = 64) :
    pgs'.length = pgs.length ∧ P64 pgs' ∧ ∀ i : Nat, (∀ c ∈ cs, c.1 ≠ (i : Int)) → pgAt pgs' i = pgAt pgs i := by
  have hf : ∀ i p, findC i (caAll [] (cs.take k)) = some p → ((i : Int), p) ∈ cs := fun i p h => by
    rcases caAll_find (fun x hx => (hr x (List.mem_of_mem_take hx)).1) h with h | h
    · cases h
    · exact List.mem_of_mem_take h
  refine ⟨hT.1, Torn.p64 hT hp fun i p h => hc _ (hf i p h), fun i hi => ?_⟩
  by_cases hl : i < pgs.length
  · rcases hT.2 i hl with h | ⟨p, c, h1, _⟩
    · exact h
    · exact absurd rfl (hi _ (hf i p h1))
  · have h1 := hT.1
    unfold pgAt
    rw [List.getD_eq_getElem?_getD, List.getD_eq_getElem?_getD, List.getElem?_eq_none (by omega : pgs'.length ≤ i), List.getElem?_eq_none (by omega : pgs.length ≤ i)]
theorem mark_sum {on : Bool} {st : DSt} (hd : st.down = false) (hca : st.ca = []) (hl : st.pgs.length = 40) (h64 : P64 st.pgs) {s k : Nat} (hs : s < 256) (hk : k < s) (hb : seqB (pgAt st.pgs 20) k) {lv : Bool} {c sm : Int} (hr : rightH (s : Int) lv c sm = true) :
    ((dMark on st ((20 : Nat) : Int) (s : Int) lv c sm).1 = 0 ∧ (dMark on st ((20 : Nat) : Int) (s : Int) lv c sm).2.down = false ∧ (dMark on st ((20 : Nat) : Int) (s : Int) lv c sm).2.ca = [] ∧ (dMark on st ((20 : Nat) : Int) (s : Int) lv c sm).2.pgs = st.pgs.set 20 (headP s lv c sm)) ∨
    ((dMark on st ((20 : Nat) : Int) (s : Int) lv c sm).1 = 5 ∧ on = true ∧ ∀ pgs', Torn (dMark on st ((20 : Nat) : Int) (s : Int) lv c sm).2.pgs (dMark on st ((20 : Nat) : Int) (s : Int) lv c sm).2.ca pgs' → pgs' = st.pgs.set 20 (headP s lv c sm) ∨ ∃ p', p'.length = 64 ∧ seqB p' s ∧ (p' = pgAt st.pgs 20 ∨ wholeP p' = false) ∧ pgs' = st.pgs.set 20 p') := by
  unfold dMark
  rw [if_pos hr]
  have hrr : inR st.pgs.length [(((20 : Nat) : Int), headP (s : Int) lv c sm)] := fun x hx => by rw [List.mem_singleton.1 hx, hl]; show (0 : Int) ≤ ((20 : Nat) : Int) ∧ ((20 : Nat) : Int) < ((40 : Nat) : Int); omega
  have hcl : ∀ x ∈ [(((20 : Nat) : Int), headP (s : Int) lv c sm)], x.2.length = 64 := fun x hx => by rw [List.mem_singleton.1 hx]; show (headP (s : Int) lv c sm).length = 64; exact headP_len _ _ _ _
  generalize hH : headP (s : Int) lv c sm = H at *
  rcases dPut_sum on [(((20 : Nat) : Int), H)] st hd hrr with ⟨a1, a2, a3, a4⟩ | ⟨a1, a2, a3, k', a4⟩
  · left
    refine ⟨a1, a2, a3, ?_⟩
    rw [a4, layP_all hrr, hca, layP_nil]; rfl
  · right
    refine ⟨a1, a2, fun pgs' hT => ?_⟩
    rw [a3, a4, hca] at hT
    obtain ⟨b1, b2, b3⟩ := put_torn hT hrr h64 hcl
    have hset : pgs' = st.pgs.set 20 (pgAt pgs' 20) := by
      refine pgs_ext (by rw [b1, List.length_set]) fun i hi => ?_
      rw [pgAt_set (by omega)]
      by_cases h2 : i = 20
      · rw [if_pos h2, h2]
      · rw [if_neg h2]
        exact b3 i fun x hx => by rw [List.mem_singleton.1 hx]; show ((20 : Nat) : Int) ≠ _; omega
    have hold : (pgAt pgs' 20).length = 64 ∧ (pgAt pgs' 20 = pgAt st.pgs 20 ∨ ∃ c', c' ≤ 64 ∧ pgAt pgs' 20 = tear c' H (pgAt st.pgs 20)) := by
      refine ⟨b2.at 20, ?_⟩
      rcases hT.2 20 (by omega) with h | ⟨p, c', h1, h2, h⟩
      · exact .inl h
      · right
        refine ⟨c', h2, ?_⟩
        rcases caAll_find (fun x hx => (hrr x (List.mem_of_mem_take hx)).1) h1 with h1 | h1
        · cases h1
        · have := List.mem_singleton.1 (List.mem_of_mem_take h1)
          rw [h, (Prod.mk.inj this).2]
    obtain ⟨q1, q2⟩ := hold
    rcases q2 with q2 | ⟨c', q2, q3⟩
    · exact .inr ⟨_, q1, by rw [q2]; exact ⟨Nat.le_trans hb.1 (by omega), Nat.le_trans hb.2 (by omega)⟩, .inl q2, hset⟩
    · have hth := torn_head (h64.at 20) hs hk hb lv c sm q2
      rw [hH] at hth
      rcases hth with h | ⟨h1, h2⟩
      · left; rw [hset, q3, h]
      · right
        rw [← q3] at h1 h2
        exact ⟨_, q1, h1, h2, hset⟩

def liveHd (p : Pg) : Bool := wholeP p && liveP p
def fnd (pgs : List Pg) (cnt : Nat) (sm : Int) : Option (List (Int × Pg)) := foundE ⟨false, 0, pgs, []⟩ 20 16 cnt sm
theorem fnd_eq (d : Bool) (left : Int) (pgs : List Pg) (cnt : Nat) (sm : Int) : foundE ⟨d, left, pgs, []⟩ 20 16 cnt sm = fnd pgs cnt sm := rfl
theorem readP_at {pgs : List Pg} {i : Nat} (h : i < pgs.length) : readP false pgs [] (i : Int) = pgAt pgs i := by
  unfold readP
  have h0 : hasE false pgs.length (i : Int) = 0 := by unfold hasE; rw [if_neg (by simp), if_neg (by omega)]
  rw [h0, if_pos rfl]
  rfl
theorem fits20 {cnt : Nat} (h : ¬ roomJ (16 : Nat) < cnt) : listsN cnt + cnt ≤ 15 := by
  by_cases h1 : 1 ≤ cnt
  · have := room_fits (s := 16) (c := cnt) (by omega) h1; omega
  · have : cnt = 0 := by omega
    subst this; decide
theorem allP_at {pgs : List Pg} (hl : pgs.length = 40) {k : Nat} (hk : k ≤ 15) : allP ⟨false, 0, pgs, []⟩ 20 k = (List.range k).map fun i => pgAt pgs (21 + i) := by
  unfold allP
  apply List.map_congr_left
  intro i hi
  have := List.mem_range.1 hi
  show readP false pgs [] ((20 + 1 + i : Nat) : Int) = _
  rw [readP_at (by omega)]
theorem fnd_congr {a b : List Pg} (ha : a.length = 40) (hb : b.length = 40) (h : ∀ i, 21 ≤ i → i < 36 → pgAt a i = pgAt b i) (cnt : Nat) (sm : Int) : fnd a cnt sm = fnd b cnt sm := by
  unfold fnd foundE
  by_cases hc : roomJ (16 : Nat) < cnt
  · rw [if_pos hc, if_pos hc]
  · rw [if_neg hc, if_neg hc]
    have h19 := fits20 hc
    have : allP ⟨false, 0, a, []⟩ 20 (listsN cnt + cnt) = allP ⟨false, 0, b, []⟩ 20 (listsN cnt + cnt) := by
      rw [allP_at ha h19, allP_at hb h19]
      apply List.map_congr_left
      intro i hi
      have := List.mem_range.1 hi
      exact h _ (by omega) (by omega)
    rw [this]
    simp only [ha, hb]
theorem may_in {i : Int} (h : mayB 40 20 16 i = true) : 0 ≤ i ∧ i < 40 ∧ (i < 20 ∨ 36 ≤ i) := by
  unfold mayB at h
  simp only [Bool.and_eq_true, Bool.or_eq_true, decide_eq_true_eq] at h
  omega
/-- Changes of pages that may be changed. -/
def Fine (cs : List (Int × Pg)) : Prop := ∀ c ∈ cs, mayB 40 20 16 c.1 = true ∧ c.2.length = 64
theorem Fine.inR {cs : List (Int × Pg)} (h : Fine cs) {n : Nat} (hn : n = 40) : inR n cs := fun c hc => by
  have := may_in (h c hc).1
  omega
theorem Fine.out {cs : List (Int × Pg)} (h : Fine cs) {i : Nat} (h1 : 20 ≤ i) (h2 : i < 36) : ∀ c ∈ cs, c.1 ≠ (i : Int) := fun c hc => by
  have := may_in (h c hc).1
  omega
theorem fnd_fine {pgs : List Pg} (hl : pgs.length = 40) (h64 : P64 pgs) {cnt : Nat} {sm : Int} {cs : List (Int × Pg)} (h : fnd pgs cnt sm = some cs) : Fine cs := by
  unfold fnd foundE at h
  by_cases hc : roomJ (16 : Nat) < cnt
  · rw [if_pos hc] at h; cases h
  · rw [if_neg hc] at h
    have h19 := fits20 hc
    rw [allP_at hl h19] at h
    split at h
    · rename_i hall
      split at h
      · cases h
        intro c hc2
        refine ⟨by have := List.all_eq_true.1 hall c hc2; simpa [hl] using this, ?_⟩
        obtain ⟨j, hj, rfl⟩ := List.mem_map.1 hc2
        have hj := List.mem_range.1 hj
        show (List.getD _ (listsN cnt + j) []).length = 64
        rw [List.getD_eq_getElem?_getD, List.getElem?_map, List.getElem?_range (by omega)]
        exact h64.at _
      · cases h
    · cases h
/-- A disk from which Open makes what G says. -/
structure OkD (G : List Pg → Prop) (q : Nat) (pgs : List Pg) : Prop where
  len : pgs.length = 40
  p64 : P64 pgs
  seq : seqB (pgAt pgs 20) q
  is : (liveHd (pgAt pgs 20) = true ∧ ∃ cs, fnd pgs (getK (pgAt pgs 20) 5 2) (getK (pgAt pgs 20) 7 4 : Int) = some cs ∧ G (putAll pgs cs)) ∨ (liveHd (pgAt pgs 20) = false ∧ G pgs)
/-- The pages but the region's. -/
def DataEq (a b : List Pg) : Prop := ∀ i, i < 40 → (i < 20 ∨ 36 ≤ i) → pgAt a i = pgAt b i
def Clo (G : List Pg → Prop) : Prop := ∀ a b, DataEq a b → G a → G b
theorem DataEq.set2 {a : List Pg} (h : a.length = 40) (p : Pg) : DataEq a (a.set 20 p) := fun i hi hd => by rw [pgAt_set (by omega), if_neg (by omega)]
theorem live_seq {p : Pg} (h : wholeP p = true) {q : Nat} (hq : getK p 0 4 = q) (hq2 : q < 256) : seqB p q := by
  refine ⟨by omega, ?_⟩
  unfold wholeP at h
  have h2 := eq_of_beq (Bool.and_eq_true_iff.1 h).2
  rw [← h2, hq, (head_seq hq2 _ _ _).2]
  exact Nat.le_refl _
/-- A mark that isn't Live. -/
theorem mark_dead {on : Bool} {st : DSt} (hd : st.down = false) (hca : st.ca = []) (hl : st.pgs.length = 40) (h64 : P64 st.pgs) {s k : Nat} (hs : s < 256) (hk : k < s) (hb : seqB (pgAt st.pgs 20) k) {G : List Pg → Prop} (hG : Clo G) (hg : G st.pgs)
    (hlive : liveHd (pgAt st.pgs 20) = true → ∃ cs, fnd st.pgs (getK (pgAt st.pgs 20) 5 2) (getK (pgAt st.pgs 20) 7 4 : Int) = some cs ∧ putAll st.pgs cs = st.pgs) :
    ((dMark on st ((20 : Nat) : Int) (s : Int) false 0 0).1 = 0 ∧ (dMark on st ((20 : Nat) : Int) (s : Int) false 0 0).2.down = false ∧ (dMark on st ((20 : Nat) : Int) (s : Int) false 0 0).2.ca = [] ∧ (dMark on st ((20 : Nat) : Int) (s : Int) false 0 0).2.pgs = st.pgs.set 20 (headP s false 0 0)) ∨
    ((dMark on st ((20 : Nat) : Int) (s : Int) false 0 0).1 = 5 ∧ on = true ∧ ∀ pgs', Torn (dMark on st ((20 : Nat) : Int) (s : Int) false 0 0).2.pgs (dMark on st ((20 : Nat) : Int) (s : Int) false 0 0).2.ca pgs' → OkD G s pgs') := by
  have hr : rightH (s : Int) false 0 0 = true := by
    unfold rightH
    rw [Bool.and_eq_true_iff]
    exact ⟨decide_eq_true (by omega), rfl⟩
  rcases mark_sum (on := on) hd hca hl h64 hs hk hb hr with h | ⟨a1, a2, a3⟩
  · exact .inl h
  · right
    refine ⟨a1, a2, fun pgs' hT => ?_⟩
    rcases a3 pgs' hT with rfl | ⟨p', b1, b2, b3, rfl⟩
    · have e : pgAt (st.pgs.set 20 (headP s false 0 0)) 20 = headP s false 0 0 := by rw [pgAt_set (by omega), if_pos rfl]
      refine ⟨by rw [List.length_set]; exact hl, h64.set (headP_len _ _ _ _), ?_, .inr ⟨?_, hG _ _ (DataEq.set2 hl _) hg⟩⟩
      · rw [e]; exact ⟨by rw [(head_seq hs _ _ _).1]; exact Nat.le_refl _, by rw [(head_seq hs _ _ _).2]; exact Nat.le_refl _⟩
      · rw [e]; unfold liveHd; rw [head_live, Bool.and_false]
    · have e : pgAt (st.pgs.set 20 p') 20 = p' := by rw [pgAt_set (by omega), if_pos rfl]
      refine ⟨by rw [List.length_set]; exact hl, h64.set b1, by rw [e]; exact b2, ?_⟩
      rw [e]
      cases hlv : liveHd p'
      · exact .inr ⟨rfl, hG _ _ (DataEq.set2 hl _) hg⟩
      · left
        refine ⟨rfl, ?_⟩
        rcases b3 with rfl | b3
        · obtain ⟨cs, c1, c2⟩ := hlive hlv
          have hs2 : st.pgs.set 20 (pgAt st.pgs 20) = st.pgs := pgs_ext (by simp) fun i hi => by
            rw [pgAt_set (by omega)]
            split
            · rename_i h; rw [h]
            · rfl
          rw [hs2]
          exact ⟨cs, c1, by rw [c2]; exact hg⟩
        · unfold liveHd at hlv; rw [b3] at hlv; cases hlv
end St
end Go.Proofs.Ytfbkeieoeagkdaa

/- Store, the plain law of its journal: changes laid are found. -/
namespace Go.Proofs.Ytfbkeieoeagkdaa
open Go AM
namespace St
set_option linter.unusedSimpArgs false
set_option linter.unusedVariables false
set_option maxRecDepth 100000

theorem OkD.mono {G : List Pg → Prop} {q q' : Nat} {pgs : List Pg} (h : OkD G q pgs) (hq : q ≤ q') : OkD G q' pgs :=
  ⟨h.len, h.p64, ⟨Nat.le_trans h.seq.1 hq, Nat.le_trans h.seq.2 hq⟩, h.is⟩
theorem fromL_cons (a : Int) (p : Pg) (r : List Pg) : fromL a (p :: r) = (a, p) :: fromL (a + 1) r := by
  unfold fromL
  rw [List.mapIdx_cons]
  congr 1
  · unfold fromF; simp
  · congr 1
    funext i p
    unfold fromF
    rw [Prod.mk.injEq]
    exact ⟨by omega, rfl⟩
theorem fromL_in : ∀ {ps : List Pg} {a : Nat} {c : Int × Pg}, c ∈ fromL (a : Int) ps → (a : Int) ≤ c.1 ∧ c.1 < (a : Int) + ps.length ∧ c.2 ∈ ps
  | [], a, c, h => by cases h
  | p :: r, a, c, h => by
    rw [fromL_cons] at h
    rcases List.mem_cons.1 h with rfl | h
    · refine ⟨Int.le_refl _, ?_, List.mem_cons_self⟩
      show (a : Int) < _
      rw [List.length_cons]; omega
    · have := fromL_in (a := a + 1) h
      rw [List.length_cons]
      exact ⟨by omega, by omega, List.mem_cons_of_mem _ this.2.2⟩
theorem putAll_fromL : ∀ {ps : List Pg} {a : Nat} {pgs : List Pg} {i : Nat}, a + ps.length ≤ pgs.length → i < ps.length → pgAt (putAll pgs (fromL (a : Int) ps)) (a + i) = ps.getD i []
  | [], a, pgs, i, _, h => by cases h
  | p :: r, a, pgs, i, hl, hi => by
    rw [List.length_cons] at hl hi
    rw [fromL_cons]
    show pgAt (putAll (pgs.set (a : Int).toNat p) (fromL (a + 1 : Int) r)) (a + i) = _
    rw [Int.toNat_natCast]
    cases i with
    | zero =>
      have h1 := putAll_out (cs := fromL ((a + 1 : Nat) : Int) r) (a := pgs.set a p) (i := a) (fun c hc => by
        have := fromL_in hc
        rw [List.length_set]; omega) (fun c hc => by have := fromL_in hc; omega)
      rw [pgAt_set (by omega), if_pos rfl] at h1
      exact h1
    | succ j =>
      have ih := putAll_fromL (ps := r) (a := a + 1) (pgs := pgs.set a p) (i := j) (by rw [List.length_set]; omega) (by omega)
      rw [show a + (j + 1) = a + 1 + j by omega]
      exact ih
theorem setK2 (p : Pg) (a : Nat) (n : Int) : setK p a 2 n 2 = (p.set (a + 1) (byteI n 0)).set a (byteI n 1) := rfl
theorem getD_set {p : Pg} {k i : Nat} {x : UInt8} (h : k < p.length) : (p.set k x).getD i 0 = if i = k then x else p.getD i 0 := by
  simp only [List.getD_eq_getElem?_getD]
  by_cases hi : i = k
  · subst hi; rw [List.getElem?_set_self h, if_pos rfl]; rfl
  · rw [List.getElem?_set_ne (Ne.symm hi), if_neg hi]
theorem set_get2 {p : Pg} {a i : Nat} {n : Nat} (ha : a + 1 < p.length) (hn : n < 65536) (hd : i = a ∨ i + 1 < a ∨ a + 1 < i) : getK (setK p a 2 (n : Int) 2) i 2 = if i = a then n else getK p i 2 := by
  rw [getK2, getK2, setK2, getD_set (by rw [List.length_set]; omega), getD_set (by omega), getD_set (by rw [List.length_set]; omega), getD_set (by omega)]
  by_cases h : i = a
  · subst h
    rw [if_pos rfl, if_pos rfl, if_neg (by omega), if_pos rfl, byteI_n, byteI_n]; omega
  · rw [if_neg h, if_neg h, if_neg (by omega), if_neg (by omega), if_neg (by omega)]
theorem numsI_get {cs : List (Int × Pg)} (hc : ∀ c ∈ cs, 0 ≤ c.1 ∧ c.1 < 65536) : ∀ (j : Nat), j ≤ cs.length → ∀ i, i < j → ((getK ((numsI cs j).getD (i / 32) []) (i % 32 * 2) 2 : Nat) : Int) = (cs.getD i (0, [])).1
  | 0, _, i, h => by cases h
  | j + 1, hj, i, hi => by
    have hl := numsI_len cs j
    have h64 := numsI_64 cs j (by omega)
    have ih := numsI_get hc j (by omega)
    have hk : j / 32 < (numsI cs j).length := by rw [hl]; unfold listsN; omega
    have hp : ((numsI cs j).getD (j / 32) []).length = 64 := by
      rw [List.getD_eq_getElem?_getD, List.getElem?_eq_getElem hk]
      exact h64 _ (List.getElem_mem hk)
    have hjm : cs.getD j (0, []) ∈ cs := by
      rw [List.getD_eq_getElem?_getD, List.getElem?_eq_getElem (by omega)]
      exact List.getElem_mem _
    have hjr := hc _ hjm
    obtain ⟨n, hn⟩ : ∃ n : Nat, (cs.getD j (0, [])).1 = (n : Int) := ⟨(cs.getD j (0, [])).1.toNat, by omega⟩
    rw [numsI, hn]
    rw [hn] at hjr
    have hget : ∀ k, ((numsI cs j).set (j / 32) (setK ((numsI cs j).getD (j / 32) []) (j % 32 * 2) 2 (n : Int) 2)).getD k [] = if k = j / 32 then setK ((numsI cs j).getD (j / 32) []) (j % 32 * 2) 2 (n : Int) 2 else (numsI cs j).getD k [] := fun k => by
      simp only [List.getD_eq_getElem?_getD]
      by_cases hkk : k = j / 32
      · rw [hkk, List.getElem?_set_self hk, if_pos rfl]; rfl
      · rw [List.getElem?_set_ne (Ne.symm hkk), if_neg hkk]
    rw [hget]
    by_cases hik : i / 32 = j / 32
    · rw [if_pos hik, set_get2 (by omega) (by omega) (by omega)]
      by_cases hij : i = j
      · subst hij; rw [if_pos rfl, hn]
      · rw [if_neg (by omega), ← hik]
        exact ih i (by omega)
    · rw [if_neg hik]
      exact ih i (by omega)
theorem fnd_laid {pgs : List Pg} (hl : pgs.length = 40) {cs : List (Int × Pg)} (hf : Fine cs) (hr : cs.length ≤ roomJ (16 : Nat)) (hp : ∀ i, i < (laidL cs).length → pgAt pgs (21 + i) = (laidL cs).getD i []) : fnd pgs cs.length (sumP (laidL cs) : Int) = some cs := by
  have h19 := fits20 (cnt := cs.length) (by omega)
  have hll := laidL_len cs
  have hall : allP ⟨false, 0, pgs, []⟩ 20 (listsN cs.length + cs.length) = laidL cs := by
    rw [allP_at hl h19]
    apply List.ext_getElem?
    intro i
    by_cases hi : i < listsN cs.length + cs.length
    · have := hp i (by omega)
      rw [List.getElem?_map, List.getElem?_range hi, Option.map_some, this, List.getD_eq_getElem?_getD, List.getElem?_eq_getElem (by omega)]; rfl
    · rw [List.getElem?_eq_none (by simp; omega), List.getElem?_eq_none (by omega)]
  have hfl : foundL (laidL cs) (listsN cs.length) cs.length = cs := by
    apply List.ext_getElem?
    intro i
    by_cases hi : i < cs.length
    · unfold foundL
      rw [List.getElem?_map, List.getElem?_range hi, Option.map_some, List.getElem?_eq_getElem hi]
      have hn := numsI_get (cs := cs) (fun c hc => by have := may_in (hf c hc).1; omega) cs.length (Nat.le_refl _) i hi
      have hnl := numsI_len cs cs.length
      have e1 : (laidL cs).getD (i / 32) [] = (numsI cs cs.length).getD (i / 32) [] := by
        unfold laidL numsL
        rw [List.getD_eq_getElem?_getD, List.getD_eq_getElem?_getD, List.getElem?_append_left (by rw [hnl]; unfold listsN; omega)]
      have e2 : (laidL cs).getD (listsN cs.length + i) [] = (cs[i]'hi).2 := by
        unfold laidL numsL
        rw [List.getD_eq_getElem?_getD, List.getElem?_append_right (by omega), hnl, Nat.add_sub_cancel_left, List.getElem?_map, List.getElem?_eq_getElem hi]; rfl
      rw [e1, e2, hn, List.getD_eq_getElem?_getD, List.getElem?_eq_getElem hi]; rfl
    · rw [List.getElem?_eq_none (by rw [foundL_len]; omega), List.getElem?_eq_none (by omega)]
  unfold fnd foundE
  rw [if_neg (by omega), hall, hfl, if_pos, if_pos rfl]
  refine List.all_eq_true.2 fun c hc => ?_
  simp only [hl]
  exact (hf c hc).1
/-- Changes brought home, and a mark that isn't Live. -/
theorem home {on : Bool} {st : DSt} (hd : st.down = false) (hca : st.ca = []) (hl : st.pgs.length = 40) (h64 : P64 st.pgs) {q : Nat} (hq : q + 1 < 256) (hlv : liveHd (pgAt st.pgs 20) = true) (hs : getK (pgAt st.pgs 20) 0 4 = q) {cs : List (Int × Pg)}
    (hf : fnd st.pgs (getK (pgAt st.pgs 20) 5 2) (getK (pgAt st.pgs 20) 7 4 : Int) = some cs) {G : List Pg → Prop} (hG : Clo G) (hg : G (putAll st.pgs cs)) :
    ((dPut on st cs).1 = 5 ∧ on = true ∧ ∀ pgs', Torn (dPut on st cs).2.pgs (dPut on st cs).2.ca pgs' → OkD G (q + 1) pgs') ∨
    ((dPut on st cs).1 = 0 ∧ (((dMark on (dPut on st cs).2 ((20 : Nat) : Int) ((q + 1 : Nat) : Int) false 0 0).1 = 5 ∧ on = true ∧ ∀ pgs', Torn (dMark on (dPut on st cs).2 ((20 : Nat) : Int) ((q + 1 : Nat) : Int) false 0 0).2.pgs (dMark on (dPut on st cs).2 ((20 : Nat) : Int) ((q + 1 : Nat) : Int) false 0 0).2.ca pgs' → OkD G (q + 1) pgs') ∨
      ((dMark on (dPut on st cs).2 ((20 : Nat) : Int) ((q + 1 : Nat) : Int) false 0 0).1 = 0 ∧ (dMark on (dPut on st cs).2 ((20 : Nat) : Int) ((q + 1 : Nat) : Int) false 0 0).2.down = false ∧ (dMark on (dPut on st cs).2 ((20 : Nat) : Int) ((q + 1 : Nat) : Int) false 0 0).2.ca = [] ∧ (dMark on (dPut on st cs).2 ((20 : Nat) : Int) ((q + 1 : Nat) : Int) false 0 0).2.pgs = (putAll st.pgs cs).set 20 (headP ((q + 1 : Nat) : Int) false 0 0)))) := by
  have hfine := fnd_fine hl h64 hf
  have hin := hfine.inR hl
  have hc64 : ∀ c ∈ cs, c.2.length = 64 := fun c hc => (hfine c hc).2
  have hsq : seqB (pgAt st.pgs 20) q := live_seq (Bool.and_eq_true_iff.1 hlv).1 hs (by omega)
  rcases dPut_sum on cs st hd hin with ⟨a1, a2, a3, a4⟩ | ⟨a1, a2, a3, k, a4⟩
  · right
    refine ⟨a1, ?_⟩
    rw [layP_all hin, hca, layP_nil] at a4
    generalize dPut on st cs = w at *
    obtain ⟨n, st1⟩ := w
    simp only at a1 a2 a3 a4 ⊢
    have l1 : st1.pgs.length = 40 := by rw [a4, putAll_len]; exact hl
    have p1 : P64 st1.pgs := by rw [a4]; exact putAll_64 h64 hc64
    have e2 : pgAt st1.pgs 20 = pgAt st.pgs 20 := by rw [a4]; exact putAll_out hin (hfine.out (Nat.le_refl _) (by decide))
    have hc1 : fnd st1.pgs (getK (pgAt st1.pgs 20) 5 2) (getK (pgAt st1.pgs 20) 7 4 : Int) = some cs := by
      rw [e2, ← hf]
      refine fnd_congr l1 hl (fun i h1 h2 => ?_) _ _
      rw [a4]; exact putAll_out hin (hfine.out (by omega) h2)
    rcases mark_dead (on := on) a2 a3 l1 p1 hq (Nat.lt_succ_self q) (by rw [e2]; exact hsq) hG (by rw [a4]; exact hg) (fun _ => ⟨cs, hc1, by rw [a4]; exact putAll_twice hin⟩) with h | ⟨b1, b2, b3⟩
    · right; rw [a4] at h; exact h
    · exact .inl ⟨b1, b2, b3⟩
  · left
    refine ⟨a1, a2, fun pgs' hT => ?_⟩
    rw [a3, a4, hca] at hT
    obtain ⟨b1, b2, b3⟩ := put_torn hT hin h64 hc64
    have e2 : pgAt pgs' 20 = pgAt st.pgs 20 := b3 20 (hfine.out (Nat.le_refl _) (by decide))
    refine ⟨b1.trans hl, b2, by rw [e2]; exact ⟨Nat.le_trans hsq.1 (Nat.le_succ _), Nat.le_trans hsq.2 (Nat.le_succ _)⟩, .inl ⟨by rw [e2]; exact hlv, cs, ?_, ?_⟩⟩
    · rw [e2, ← hf]
      exact fnd_congr (b1.trans hl) hl (fun i h1 h2 => b3 i (hfine.out (by omega) h2)) _ _
    · rw [putAll_at b1 (by rw [b1]; exact hin) b3]; exact hg
end St
end Go.Proofs.Ytfbkeieoeagkdaa

/- Store, the plain law of its journal: Open mends, Commit breaks nothing. -/
namespace Go.Proofs.Ytfbkeieoeagkdaa
open Go AM
namespace St
set_option linter.unusedSimpArgs false
set_option linter.unusedVariables false
set_option maxRecDepth 100000

theorem putAll_pt : ∀ {cs : List (Int × Pg)} {a b : List Pg} {i : Nat}, a.length = b.length → inR a.length cs → pgAt a i = pgAt b i → pgAt (putAll a cs) i = pgAt (putAll b cs) i
  | [], a, b, i, _, _, h => h
  | c :: r, a, b, i, hl, hr, h => by
    have h1 := hr c List.mem_cons_self
    refine putAll_pt (cs := r) (by simp [hl]) (by rw [List.length_set]; exact hr.tail) ?_
    rw [pgAt_set (by omega), pgAt_set (by omega), h]
/-- A disk at rest behind a mark. -/
structure Rest (s : Nat) (st : DSt) : Prop where
  down : st.down = false
  ca : st.ca = []
  len : st.pgs.length = 40
  p64 : P64 st.pgs
  hd : pgAt st.pgs 20 = headP (s : Int) false 0 0
theorem rest_set {s : Nat} {st : DSt} {pgs : List Pg} (h1 : st.down = false) (h2 : st.ca = []) (h3 : st.pgs = pgs.set 20 (headP (s : Int) false 0 0)) (hl : pgs.length = 40) (h64 : P64 pgs) : Rest s st :=
  ⟨h1, h2, by rw [h3, List.length_set]; exact hl, by rw [h3]; exact h64.set (headP_len _ _ _ _), by rw [h3, pgAt_set (by omega), if_pos rfl]⟩
theorem openB_err {n e : Int} {st : DSt} {sq : Int} (h : e ≠ 0) : openB (n, e, st) sq = (e, 0, 0, st) := if_pos h
theorem openB_ok {n : Int} {st : DSt} {sq : Int} : openB (n, 0, st) sq = (0, sq, n, st) := if_neg (by simp)
theorem open_ok {on : Bool} {left : Int} {pgs : List Pg} {G : List Pg → Prop} {q : Nat} (h : OkD G q pgs) (hq : q + 1 < 256) (hG : Clo G) :
    ((dOpen on ⟨false, left, pgs, []⟩ 20 16).1 = 5 ∧ on = true ∧ ∀ pgs', Torn (dOpen on ⟨false, left, pgs, []⟩ 20 16).2.2.2.pgs (dOpen on ⟨false, left, pgs, []⟩ 20 16).2.2.2.ca pgs' → OkD G (q + 1) pgs') ∨
    ((dOpen on ⟨false, left, pgs, []⟩ 20 16).1 = 0 ∧ ∃ s : Nat, s ≤ q + 1 ∧ (dOpen on ⟨false, left, pgs, []⟩ 20 16).2.1 = (s : Int) + 1 ∧ Rest s (dOpen on ⟨false, left, pgs, []⟩ 20 16).2.2.2 ∧ G (dOpen on ⟨false, left, pgs, []⟩ 20 16).2.2.2.pgs) := by
  have hl := h.len
  have h64 := h.p64
  have e1 : dOpen on ⟨false, left, pgs, []⟩ 20 16 = dOpenP on ⟨false, left, pgs, []⟩ 20 16 (pgAt pgs 20) := by
    unfold dOpen
    rw [if_neg (by simp), readP_at (by show 20 < pgs.length; omega)]
  rw [e1]
  unfold dOpenP
  rcases h.is with ⟨hlv, cs, hf, hg⟩ | ⟨hlv, hg⟩
  · rw [if_pos (show (wholeP (pgAt pgs 20) && liveP (pgAt pgs 20)) = true from hlv)]
    have hsq := h.seq.1
    obtain ⟨k, hk⟩ : ∃ k, getK (pgAt pgs 20) 0 4 = k := ⟨_, rfl⟩
    rw [hk] at hsq ⊢
    have hm := home (on := on) (st := ⟨false, left, pgs, []⟩) rfl rfl hl h64 (q := k) (by omega) hlv hk hf hG hg
    have hr : dRedo on ⟨false, left, pgs, []⟩ 20 16 (k : Int) (getK (pgAt pgs 20) 5 2) (getK (pgAt pgs 20) 7 4 : Int) = if (dPut on ⟨false, left, pgs, []⟩ cs).1 ≠ 0 then (0, (dPut on ⟨false, left, pgs, []⟩ cs).1, (dPut on ⟨false, left, pgs, []⟩ cs).2) else ((cs.length : Int), (dMark on (dPut on ⟨false, left, pgs, []⟩ cs).2 ((20 : Nat) : Int) ((k + 1 : Nat) : Int) false 0 0).1, (dMark on (dPut on ⟨false, left, pgs, []⟩ cs).2 ((20 : Nat) : Int) ((k + 1 : Nat) : Int) false 0 0).2) := by
      unfold dRedo
      have : foundE ⟨false, left, pgs, []⟩ 20 16 (getK (pgAt pgs 20) 5 2) (getK (pgAt pgs 20) 7 4 : Int) = some cs := (fnd_eq false left pgs _ _).trans hf
      rw [this]
      have e5 : (k : Int) + 1 = ((k + 1 : Nat) : Int) := rfl
      rw [e5]
    rw [hr]
    have hfine := fnd_fine hl h64 hf
    have p1 := putAll_64 h64 fun c hc => (hfine c hc).2
    have l1 : (putAll pgs cs).length = 40 := (putAll_len _ _).trans hl
    clear hr e1
    generalize dPut on ⟨false, left, pgs, []⟩ cs = w1 at *
    generalize dMark on w1.2 ((20 : Nat) : Int) ((k + 1 : Nat) : Int) false 0 0 = w2 at *
    obtain ⟨n1, st1⟩ := w1
    obtain ⟨n2, st2⟩ := w2
    simp only at hm ⊢
    rcases hm with ⟨a1, a2, a3⟩ | ⟨a1, ⟨b1, b2, b3⟩ | ⟨b1, b2, b3, b4⟩⟩
    · left
      subst a1
      rw [if_pos (by decide), openB_err (by decide)]
      exact ⟨rfl, a2, fun pgs' hT => (a3 pgs' hT).mono (by omega)⟩
    · left
      subst a1 b1
      rw [if_neg (by decide), openB_err (by decide)]
      exact ⟨rfl, b2, fun pgs' hT => (b3 pgs' hT).mono (by omega)⟩
    · right
      subst a1 b1
      rw [if_neg (by decide), openB_ok]
      refine ⟨rfl, k + 1, by omega, ?_, rest_set b2 b3 b4 l1 p1, ?_⟩
      · show (k : Int) + 2 = ((k + 1 : Nat) : Int) + 1
        omega
      · show G st2.pgs
        rw [b4]
        exact hG _ _ (DataEq.set2 l1 _) hg
  · rw [if_neg (by unfold liveHd at hlv; simp [hlv])]
    have hs1 := h.seq.1
    have hs2 := h.seq.2
    have hn : nextP (pgAt pgs 20) = max (getK (pgAt pgs 20) 0 4 + 1) (getK (pgAt pgs 20) 60 4 + 1) := rfl
    have hm := mark_dead (on := on) (st := ⟨false, left, pgs, []⟩) rfl rfl hl h64 (s := nextP (pgAt pgs 20)) (k := nextP (pgAt pgs 20) - 1) (by omega) (by omega) ⟨by simp only; omega, by simp only; omega⟩ hG hg (fun hc => by rw [hlv] at hc; cases hc)
    have hns : nextP (pgAt pgs 20) ≤ q + 1 := by omega
    generalize nextP (pgAt pgs 20) = s at *
    generalize dMark on ⟨false, left, pgs, []⟩ ((20 : Nat) : Int) (s : Int) false 0 0 = w2 at *
    unfold openM
    rcases hm with ⟨b1, b2, b3, b4⟩ | ⟨b1, b2, b3⟩
    · right
      rw [b1]
      simp only [ne_eq, not_true_eq_false, if_false]
      refine ⟨trivial, s, hns, rfl, rest_set b2 b3 b4 hl h64, ?_⟩
      rw [b4]
      exact hG _ _ (DataEq.set2 hl _) hg
    · left
      rw [b1]
      simp only [ne_eq, Int.reduceEq, not_false_eq_true, if_true]
      exact ⟨trivial, b2, fun pgs' hT => (b3 pgs' hT).mono hns⟩
/-- A Commit at rest. -/
theorem commit_ok {on : Bool} {st : DSt} {s : Nat} (hR : Rest s st) (hs : s + 4 < 256) {cs : List (Int × Pg)} (hc64 : ∀ c ∈ cs, c.2.length = 64) {G : List Pg → Prop} (hG : Clo G) (hg0 : G st.pgs) (hg1 : G (putAll st.pgs cs)) :
    (((dCommit on st 20 16 ((s : Int) + 1) false cs).1 = 22 ∨ (dCommit on st 20 16 ((s : Int) + 1) false cs).1 = 28) ∧ (dCommit on st 20 16 ((s : Int) + 1) false cs).2.2.2 = st) ∨
    ((dCommit on st 20 16 ((s : Int) + 1) false cs).1 = 0 ∧ Fine cs ∧ (cs.map (·.1)).Nodup ∧ (dCommit on st 20 16 ((s : Int) + 1) false cs).2.2.1 = false ∧ ∃ s' : Nat, s' ≤ s + 3 ∧ (dCommit on st 20 16 ((s : Int) + 1) false cs).2.1 = (s' : Int) + 1 ∧ Rest s' (dCommit on st 20 16 ((s : Int) + 1) false cs).2.2.2 ∧ DataEq (putAll st.pgs cs) (dCommit on st 20 16 ((s : Int) + 1) false cs).2.2.2.pgs) ∨
    ((dCommit on st 20 16 ((s : Int) + 1) false cs).1 = 5 ∧ on = true ∧ Fine cs ∧ (cs.map (·.1)).Nodup ∧ ∀ pgs', Torn (dCommit on st 20 16 ((s : Int) + 1) false cs).2.2.2.pgs (dCommit on st 20 16 ((s : Int) + 1) false cs).2.2.2.ca pgs' → OkD G (s + 3) pgs') := by
  have hl := hR.len
  have h64 := hR.p64
  unfold dCommit
  rw [if_neg (by simp)]
  by_cases hw : wrongE st.pgs.length 20 16 cs = 0
  case neg =>
    left
    rw [if_pos (.inl hw)]
    refine ⟨?_, rfl⟩
    simp only
    unfold wrongE at hw ⊢
    split at hw
    · rename_i h1
      rw [if_pos h1]
      split at hw
      · rename_i h2; rw [if_pos h2]; exact .inr rfl
      · exact absurd rfl hw
    · rename_i h1; rw [if_neg h1]; exact .inl rfl
  right
  have hgood : goodC st.pgs.length 20 16 cs = true ∧ ¬ roomJ (16 : Nat) < cs.length := by
    unfold wrongE at hw
    split at hw
    · rename_i h1
      split at hw
      · cases hw
      · rename_i h2; exact ⟨h1, h2⟩
    · cases hw
  obtain ⟨hgd, hrm⟩ := hgood
  unfold goodC at hgd
  obtain ⟨hmay, hnd⟩ := Bool.and_eq_true_iff.1 hgd
  have hnd := of_decide_eq_true hnd
  have hfine : Fine cs := fun c hc => ⟨by have := List.all_eq_true.1 hmay c hc; simpa [hl] using this, hc64 c hc⟩
  by_cases hnil : cs = []
  · left
    rw [if_pos (.inr hnil), hw]
    subst hnil
    exact ⟨rfl, hfine, hnd, rfl, s, by omega, rfl, hR, fun _ _ _ => rfl⟩
  rw [if_neg (by rintro (h | h); exact h hw; exact hnil h)]
  simp only
  have h19 := fits20 hrm
  have hll := laidL_len cs
  have hcl : 1 ≤ cs.length := by cases cs with
    | nil => exact absurd rfl hnil
    | cons c r => simp
  have hin := hfine.inR hl
  have hseqB : seqB (pgAt st.pgs 20) s := by
    rw [hR.hd]
    have := head_seq (s := s) (by omega) false 0 0
    exact ⟨by omega, by omega⟩
  have hdead : liveHd (pgAt st.pgs 20) = false := by rw [hR.hd]; unfold liveHd; rw [head_live, Bool.and_false]
  have hLin : inR st.pgs.length (fromL ((21 : Nat) : Int) (laidL cs)) := fun c hc => by
    have := fromL_in hc
    rw [hl]; omega
  have hL64 : ∀ c ∈ fromL ((21 : Nat) : Int) (laidL cs), c.2.length = 64 := fun c hc => laidL_64 hc64 _ (fromL_in hc).2.2
  have hLout : ∀ i : Nat, (i < 21 ∨ 36 ≤ i) → ∀ c ∈ fromL ((21 : Nat) : Int) (laidL cs), c.1 ≠ (i : Int) := fun i hi c hc => by
    have := fromL_in hc
    omega
  have e3 : (((20 : Nat) : Int) + 1) = ((21 : Nat) : Int) := rfl
  unfold dMake
  rw [e3]
  have hp1 := dPut_sum on (fromL ((21 : Nat) : Int) (laidL cs)) st hR.down hLin
  obtain ⟨w1, hw1⟩ : ∃ w1, dPut on st (fromL ((21 : Nat) : Int) (laidL cs)) = w1 := ⟨_, rfl⟩
  rw [hw1] at hp1 ⊢
  obtain ⟨n1, st1⟩ := w1
  simp only at hp1 ⊢
  rcases hp1 with ⟨a1, a2, a3, a4⟩ | ⟨a1, a2, a3, k, a4⟩
  case inr =>
    right
    subst a1
    simp only [ne_eq, Int.reduceEq, not_false_eq_true, if_true]
    refine ⟨trivial, a2, hfine, hnd, fun pgs' hT => ?_⟩
    rw [a3, a4, hR.ca] at hT
    obtain ⟨b1, b2, b3⟩ := put_torn hT hLin h64 hL64
    have e2 : pgAt pgs' 20 = pgAt st.pgs 20 := b3 20 (hLout 20 (by omega))
    refine ⟨b1.trans hl, b2, by rw [e2]; exact ⟨Nat.le_trans hseqB.1 (by omega), Nat.le_trans hseqB.2 (by omega)⟩, .inr ⟨by rw [e2]; exact hdead, hG _ _ (fun i hi hd => ?_) hg0⟩⟩
    exact (b3 i (hLout i (by omega))).symm
  subst a1
  rw [layP_all hLin, hR.ca, layP_nil] at a4
  simp only [ne_eq, not_true_eq_false, if_false]
  have l1 : st1.pgs.length = 40 := by rw [a4, putAll_len]; exact hl
  have p1 : P64 st1.pgs := by rw [a4]; exact putAll_64 h64 hL64
  have o1 : ∀ i : Nat, (i < 21 ∨ 36 ≤ i) → pgAt st1.pgs i = pgAt st.pgs i := fun i hi => by rw [a4]; exact putAll_out hLin (hLout i hi)
  have d1 : DataEq st.pgs st1.pgs := fun i _ hd => (o1 i (by omega)).symm
  have i1 : ∀ i, i < (laidL cs).length → pgAt st1.pgs (21 + i) = (laidL cs).getD i [] := fun i hi => by rw [a4]; exact putAll_fromL (by omega) hi
  have hsm := sumP_lt (laidL cs)
  have hsq1 : (s : Int) + 1 = ((s + 1 : Nat) : Int) := rfl
  have hr1 : rightH ((s + 1 : Nat) : Int) true (cs.length : Int) (sumP (laidL cs) : Int) = true := by
    unfold rightH
    rw [Bool.and_eq_true_iff]
    exact ⟨decide_eq_true (by omega), by rw [if_pos rfl]; exact decide_eq_true (by omega)⟩
  have hm1 := mark_sum (on := on) a2 a3 l1 p1 (s := s + 1) (k := s) (by omega) (by omega) (by rw [o1 20 (by omega)]; exact hseqB) hr1
  rw [hsq1]
  obtain ⟨w2, hw2⟩ : ∃ w2, dMark on st1 ((20 : Nat) : Int) ((s + 1 : Nat) : Int) true (cs.length : Int) (sumP (laidL cs) : Int) = w2 := ⟨_, rfl⟩
  rw [hw2] at hm1 ⊢
  obtain ⟨n2, st2⟩ := w2
  simp only at hm1 ⊢
  /- A disk with the Live head. -/
  have hliv : ∀ pgs2 : List Pg, pgs2 = st1.pgs.set 20 (headP ((s + 1 : Nat) : Int) true (cs.length : Int) (sumP (laidL cs) : Int)) →
      pgs2.length = 40 ∧ P64 pgs2 ∧ liveHd (pgAt pgs2 20) = true ∧ getK (pgAt pgs2 20) 0 4 = s + 1 ∧ seqB (pgAt pgs2 20) (s + 1) ∧ fnd pgs2 (getK (pgAt pgs2 20) 5 2) (getK (pgAt pgs2 20) 7 4 : Int) = some cs ∧ DataEq (putAll st.pgs cs) (putAll pgs2 cs) ∧ G (putAll pgs2 cs) := fun pgs2 hp => by
    have e : pgAt pgs2 20 = headP ((s + 1 : Nat) : Int) true (cs.length : Int) (sumP (laidL cs) : Int) := by rw [hp, pgAt_set (by omega), if_pos rfl]
    have l2 : pgs2.length = 40 := by rw [hp, List.length_set]; exact l1
    have hsq := head_seq (s := s + 1) (by omega) true (cs.length : Int) (sumP (laidL cs) : Int)
    have hD : DataEq (putAll st.pgs cs) (putAll pgs2 cs) := fun i hi hd => by
      refine putAll_pt (by rw [hl, l2]) hin ?_
      rw [hp, pgAt_set (by omega), if_neg (by omega), o1 i (by omega)]
    refine ⟨l2, by rw [hp]; exact p1.set (headP_len _ _ _ _), ?_, ?_, ?_, ?_, hD, hG _ _ hD hg1⟩
    · rw [e]; unfold liveHd; rw [head_live, Bool.and_true, head_whole (by omega) true (by omega) hsm]; exact hr1
    · rw [e]; exact hsq.1
    · rw [e]; exact ⟨by omega, by omega⟩
    · rw [e, head_cnt _ _ (by omega), head_sum _ _ _ hsm]
      exact fnd_laid l2 hfine (by omega) fun i hi => by rw [hp, pgAt_set (by omega), if_neg (by omega)]; exact i1 i hi
  rcases hm1 with ⟨a5, a6, a7, a8⟩ | ⟨a5, a6, a7⟩
  case inr =>
    right
    subst a5
    simp only [Int.reduceEq, not_false_eq_true, if_true]
    refine ⟨trivial, a6, hfine, hnd, fun pgs' hT => ?_⟩
    rcases a7 pgs' hT with hp | ⟨p', b1, b2, b3, hp⟩
    · obtain ⟨c1, c2, c3, c4, c5, c6, c7, c8⟩ := hliv pgs' hp
      exact ⟨c1, c2, ⟨Nat.le_trans c5.1 (by omega), Nat.le_trans c5.2 (by omega)⟩, .inl ⟨c3, cs, c6, c8⟩⟩
    · have e : pgAt pgs' 20 = p' := by rw [hp, pgAt_set (by omega), if_pos rfl]
      refine ⟨by rw [hp, List.length_set]; exact l1, by rw [hp]; exact p1.set b1, by rw [e]; exact ⟨Nat.le_trans b2.1 (by omega), Nat.le_trans b2.2 (by omega)⟩, .inr ⟨?_, ?_⟩⟩
      · rw [e]
        rcases b3 with rfl | b3
        · rw [o1 20 (by omega)]; exact hdead
        · unfold liveHd; rw [b3, Bool.false_and]
      · rw [hp]; exact hG _ _ (DataEq.set2 l1 _) (hG _ _ d1 hg0)
  subst a5
  simp only [not_true_eq_false, if_false]
  obtain ⟨c1, c2, c3, c4, c5, c6, c7, c8⟩ := hliv st2.pgs a8
  have hm := home (on := on) a6 a7 c1 c2 (q := s + 1) (by omega) c3 c4 c6 hG c8
  have hsq2 : ((s + 1 : Nat) : Int) + 1 = ((s + 1 + 1 : Nat) : Int) := rfl
  rw [hsq2]
  obtain ⟨w3, hw3⟩ : ∃ w3, dPut on st2 cs = w3 := ⟨_, rfl⟩
  rw [hw3] at hm ⊢
  obtain ⟨w4, hw4⟩ : ∃ w4, dMark on w3.2 ((20 : Nat) : Int) ((s + 1 + 1 : Nat) : Int) false 0 0 = w4 := ⟨_, rfl⟩
  rw [hw4] at hm ⊢
  rcases hm with ⟨b1, b2, b3⟩ | ⟨b1, ⟨b2, b3, b4⟩ | ⟨b2, b3, b4, b5⟩⟩
  · right
    rw [b1]
    simp only [Int.reduceEq, not_false_eq_true, if_true]
    exact ⟨trivial, b2, hfine, hnd, fun pgs' hT => (b3 pgs' hT).mono (by omega)⟩
  · right
    rw [b1, b2]
    simp only [not_true_eq_false, if_false]
    exact ⟨trivial, b3, hfine, hnd, fun pgs' hT => (b4 pgs' hT).mono (by omega)⟩
  · left
    rw [b1, b2]
    simp only [not_true_eq_false, if_false]
    have l4 : (putAll st2.pgs cs).length = 40 := (putAll_len _ _).trans c1
    refine ⟨trivial, hfine, hnd, rfl, s + 2, by omega, by omega, rest_set b3 b4 b5 l4 (putAll_64 c2 hc64), ?_⟩
    rw [b5]
    exact fun i hi hd => (c7 i hi hd).trans (DataEq.set2 l4 _ i hi hd)
end St
end Go.Proofs.Ytfbkeieoeagkdaa

/- Store, the plain law of what lasts. -/
namespace Go.Proofs.Ytfbkeieoeagkdaa
open Go AM
set_option linter.unusedSimpArgs false
set_option linter.unusedVariables false
set_option maxRecDepth 100000

theorem lastP_at (pgs : List Pg) (i : Nat) : lastP pgs (i : Int) = pgAt pgs i := by
  unfold lastP pgAt
  rw [if_neg (by omega), Int.toNat_natCast]
theorem f20_ext {a b : List Pg} (h : ∀ i, i < 20 → pgAt a i = pgAt b i) : f20 a = f20 b := by
  unfold f20
  refine List.map_congr_left fun i hi => ?_
  rw [lastP_at, lastP_at]
  exact h i (List.mem_range.1 hi)
theorem putAll_csK {G : List (Nat × Pg)} : ∀ {K : List Nat} {pgs : List Pg} {i : Nat}, K.Nodup → (∀ k ∈ K, k < pgs.length) → pgAt (putAll pgs (csK G K)) i = if i ∈ K then (findC i G).getD (zs 64) else pgAt pgs i
  | [], pgs, i, _, _ => by rw [if_neg List.not_mem_nil]; rfl
  | k :: r, pgs, i, hn, hl => by
    obtain ⟨h1, h2⟩ := List.nodup_cons.1 hn
    have hk := hl k List.mem_cons_self
    have ih := putAll_csK (G := G) (K := r) (pgs := pgs.set k ((findC k G).getD (zs 64))) (i := i) h2 fun x hx => by rw [List.length_set]; exact hl x (List.mem_cons_of_mem _ hx)
    show pgAt (putAll (pgs.set ((k : Int)).toNat ((findC k G).getD (zs 64))) (csK G r)) i = _
    rw [Int.toNat_natCast, ih, pgAt_set hk]
    by_cases hik : i = k
    · subst hik
      rw [if_neg h1, if_pos rfl, if_pos List.mem_cons_self]
    · rw [if_neg hik]
      by_cases hr : i ∈ r
      · rw [if_pos hr, if_pos (List.mem_cons_of_mem _ hr)]
      · rw [if_neg hr, if_neg (by rintro h; rcases List.mem_cons.1 h with h | h; exact hik h; exact hr h)]
/-- What a group makes of a disk's pages. -/
theorem putAll_csG {G : List (Nat × Pg)} {pgs : List Pg} (hl : pgs.length = 40) {i : Nat} (hi : i < 20) : pgAt (putAll pgs (csG 40 G)) i = (findC i G).getD (pgAt pgs i) := by
  unfold csG
  rw [putAll_csK (keysN_nd 40 G) fun k hk => by rw [hl]; exact List.mem_range.1 (List.mem_filter.1 hk).1]
  by_cases h : i ∈ keysN 40 G
  · rw [if_pos h]
    have h1 := (List.mem_filter.1 h).2
    obtain ⟨p, hp⟩ := Option.isSome_iff_exists.1 (show (findC i G).isSome = true from h1)
    rw [hp]; rfl
  · rw [if_neg h]
    have h1 : findC i G = none := by
      cases hf : findC i G with
      | none => rfl
      | some p => exact absurd (List.mem_filter.2 ⟨List.mem_range.2 (by omega), by unfold hasK; rw [hf]; rfl⟩) h
    rw [h1]; rfl
theorem f20_64 {pgs : List Pg} (h : P64 pgs) : (f20 pgs).length = 20 ∧ P64 (f20 pgs) := ⟨f20_len _, fun p hp => by
  obtain ⟨i, hi, rfl⟩ := List.mem_map.1 hp
  rw [lastP_at]; exact h.at i⟩
/-- Is what a disk has one of the states from one on? -/
def GP (L : List (List Pg)) (sure : Nat) (X : List Pg) : Prop := ∃ k, sure ≤ k ∧ L[k]? = some (f20 X)
theorem gp_clo (L : List (List Pg)) (sure : Nat) : St.Clo (GP L sure) := fun a b h ⟨k, h1, h2⟩ => ⟨k, h1, by rw [h2, f20_ext fun i hi => h i (by omega) (.inl hi)]⟩
theorem gp_more {L : List (List Pg)} {sure : Nat} {X : List Pg} (x : List Pg) (h : GP L sure X) : GP (L ++ [x]) sure X := by
  obtain ⟨k, h1, h2⟩ := h
  exact ⟨k, h1, by rw [List.getElem?_append_left (List.getElem?_eq_some_iff.1 h2).1]; exact h2⟩
theorem rest_okD6 {s : Nat} {st : DSt} (h : St.Rest s st) (hs : s < 256) {G : List Pg → Prop} (hg : G st.pgs) {pgs' : List Pg} (hT : Torn st.pgs st.ca pgs') : St.OkD G s pgs' := by
  rw [h.ca] at hT
  rw [hT.none]
  refine ⟨h.len, h.p64, ?_, .inr ⟨?_, hg⟩⟩
  · rw [h.hd]
    have := head_seq hs false 0 0
    exact ⟨by omega, by omega⟩
  · rw [h.hd]; unfold St.liveHd; rw [head_live, Bool.and_false]
theorem dMake_seq (on : Bool) (st : DSt) (a : Nat) (seq : Int) (cs : List (Int × Pg)) : seq ≤ (dMake on st a seq cs).2.1 ∧ (dMake on st a seq cs).2.1 ≤ seq + 2 := by
  unfold dMake
  split
  · exact ⟨Int.le_refl _, by show seq ≤ seq + 2; omega⟩
  · split
    · exact ⟨by show seq ≤ seq + 1; omega, by show seq + 1 ≤ seq + 2; omega⟩
    · split
      · exact ⟨by show seq ≤ seq + 1; omega, by show seq + 1 ≤ seq + 2; omega⟩
      · exact ⟨by show seq ≤ seq + 2; omega, by show seq + 2 ≤ seq + 2; omega⟩
theorem dCommit_seq (on : Bool) (st : DSt) (a s : Nat) (seq : Int) (over : Bool) (cs : List (Int × Pg)) : seq ≤ (dCommit on st a s seq over cs).2.1 ∧ (dCommit on st a s seq over cs).2.1 ≤ seq + 2 := by
  unfold dCommit
  split
  · exact ⟨Int.le_refl _, by show seq ≤ seq + 2; omega⟩
  · split
    · exact ⟨Int.le_refl _, by show seq ≤ seq + 2; omega⟩
    · exact dMake_seq _ _ _ _ _
/-- What a Sync of a store at rest comes to. -/
theorem sync_core {on : Bool} {ds : DSt} {s : Nat} (hR : St.Rest s ds) (hs : s + 4 < 256) {G : List (Nat × Pg)} (hG : OkM 40 G) {P : List Pg → Prop} (hP : St.Clo P) (h0 : P ds.pgs) (h1 : P (putAll ds.pgs (csG 40 G))) :
    ((dSync on ds 20 16 ((s : Int) + 1) false G).1 ≠ 0 ∧ (dSync on ds 20 16 ((s : Int) + 1) false G).2 = ((s : Int) + 1, false, ds, G)) ∨
    ((dSync on ds 20 16 ((s : Int) + 1) false G).1 = 0 ∧ (dSync on ds 20 16 ((s : Int) + 1) false G).2.2.1 = false ∧ (dSync on ds 20 16 ((s : Int) + 1) false G).2.2.2.2 = [] ∧ ∃ s' : Nat, s' ≤ s + 3 ∧ (dSync on ds 20 16 ((s : Int) + 1) false G).2.1 = (s' : Int) + 1 ∧ St.Rest s' (dSync on ds 20 16 ((s : Int) + 1) false G).2.2.2.1 ∧ St.DataEq (putAll ds.pgs (csG 40 G)) (dSync on ds 20 16 ((s : Int) + 1) false G).2.2.2.1.pgs) ∨
    ((dSync on ds 20 16 ((s : Int) + 1) false G).1 ≠ 0 ∧ (dSync on ds 20 16 ((s : Int) + 1) false G).2.2.1 = true ∧ (dSync on ds 20 16 ((s : Int) + 1) false G).2.2.2.2 = G ∧ ∀ pgs', Torn (dSync on ds 20 16 ((s : Int) + 1) false G).2.2.2.1.pgs (dSync on ds 20 16 ((s : Int) + 1) false G).2.2.2.1.ca pgs' → St.OkD P (s + 3) pgs') := by
  unfold dSync
  rw [if_neg (by decide), hR.len]
  have h64 : ∀ c ∈ csG 40 G, c.2.length = 64 := csK_64 hG
  by_cases hw : wrongE ds.pgs.length 20 16 (csG 40 G) = 0
  case neg =>
    have e : dCommit on ds 20 16 ((s : Int) + 1) false (csG 40 G) = (wrongE ds.pgs.length 20 16 (csG 40 G), (s : Int) + 1, false, ds) := by
      unfold dCommit
      rw [if_neg (by simp), if_pos (.inl hw)]
    rw [e]
    simp only
    rw [if_neg hw]
    exact .inl ⟨hw, rfl⟩
  have hov : csG 40 G ≠ [] → (dCommit on ds 20 16 ((s : Int) + 1) false (csG 40 G)).2.2.1 = ((dCommit on ds 20 16 ((s : Int) + 1) false (csG 40 G)).1 != 0) := fun hc => by
    unfold dCommit
    rw [if_neg (by simp), if_neg (by rintro (h | h); exact h hw; exact hc h)]
  have hnil : csG 40 G = [] → (dCommit on ds 20 16 ((s : Int) + 1) false (csG 40 G)).1 = 0 := fun hc => by
    unfold dCommit
    rw [if_neg (by simp), if_pos (.inr hc)]
    exact hw
  have hC := St.commit_ok (on := on) hR hs h64 hP h0 h1
  generalize dCommit on ds 20 16 ((s : Int) + 1) false (csG 40 G) = w at *
  obtain ⟨n, sq, ov, st⟩ := w
  simp only at hov hnil hC ⊢
  rcases hC with ⟨hn, rfl⟩ | ⟨hn, _, _, ho, s', h2, h3, h4, h5⟩ | ⟨hn, _, _, _, hT⟩
  · have hn0 : n ≠ 0 := by rcases hn with rfl | rfl <;> decide
    have hc : csG 40 G ≠ [] := fun h => hn0 (hnil h)
    refine .inr (.inr ⟨hn0, ?_, if_neg hn0, fun pgs' hT => ?_⟩)
    · rw [hov hc]; simpa using hn0
    · exact (rest_okD6 hR (by omega) h0 hT).mono (by omega)
  · exact .inr (.inl ⟨hn, ho, if_pos hn, s', h2, h3, h4, h5⟩)
  · have hn0 : n ≠ 0 := by rw [hn]; decide
    have hc : csG 40 G ≠ [] := fun h => hn0 (hnil h)
    refine .inr (.inr ⟨hn0, ?_, if_neg hn0, hT⟩)
    rw [hov hc]; simpa using hn0
/-- What holds of a store, its disk, and the states that it had. -/
structure Inv (n : Nat) (L : List (List Pg)) (sure : Nat) (seq : Int) (over : Bool) (ds : DSt) (G : List (Nat × Pg)) : Prop where
  su : sure < L.length
  l64 : ∀ X ∈ L, X.length = 20 ∧ P64 X
  sq : 0 ≤ seq ∧ seq ≤ 2 + 3 * (n : Int)
  is : (over = false ∧ ∃ s : Nat, s ≤ 1 + 3 * n ∧ seq = (s : Int) + 1 ∧ St.Rest s ds ∧ GP L sure ds.pgs ∧ L[L.length - 1]? = some (f20 (putAll ds.pgs (csG 40 G)))) ∨ (over = true ∧ ∃ q : Nat, q ≤ 250 ∧ ∀ pgs', Torn ds.pgs ds.ca pgs' → St.OkD (GP L sure) q pgs')
theorem Inv.mono {n m : Nat} {L : List (List Pg)} {sure : Nat} {seq : Int} {over : Bool} {ds : DSt} {G : List (Nat × Pg)} (h : Inv n L sure seq over ds G) (hn : n ≤ m) : Inv m L sure seq over ds G :=
  ⟨h.su, h.l64, ⟨h.sq.1, by have := h.sq.2; omega⟩, h.is.imp (fun ⟨a, s, b, c⟩ => ⟨a, s, by omega, c⟩) id⟩
theorem dSync_seq (on : Bool) (ds : DSt) (a s : Nat) (seq : Int) (over : Bool) (G : List (Nat × Pg)) : seq ≤ (dSync on ds a s seq over G).2.1 ∧ (dSync on ds a s seq over G).2.1 ≤ seq + 2 := by
  unfold dSync
  split
  · exact ⟨Int.le_refl _, by show seq ≤ seq + 2; omega⟩
  · exact dCommit_seq _ _ _ _ _ _ _
theorem sync_inv {n : Nat} {L : List (List Pg)} {sure : Nat} {seq : Int} {over on : Bool} {ds : DSt} {G : List (Nat × Pg)} (I : Inv n L sure seq over ds G) (hG : OkM 40 G) (hn : n ≤ 79) :
    Inv (n + 1) L (if (dSync on ds 20 16 seq over G).1 = 0 then L.length - 1 else sure) (dSync on ds 20 16 seq over G).2.1 (dSync on ds 20 16 seq over G).2.2.1 (dSync on ds 20 16 seq over G).2.2.2.1 (dSync on ds 20 16 seq over G).2.2.2.2 := by
  have hsq := dSync_seq on ds 20 16 seq over G
  have hI := I.sq
  have hsu := I.su
  rcases I.is with ⟨rfl, s, hs, rfl, hR, hg, hl⟩ | ⟨rfl, q, hq, hT⟩
  · have hP := gp_clo L sure
    rcases sync_core (on := on) hR (by omega) hG hP hg ⟨_, by omega, hl⟩ with ⟨a1, a2⟩ | ⟨a1, a2, a3, s', a4, a5, a6, a7⟩ | ⟨a1, a2, a3, a4⟩
    · rw [if_neg a1, a2]
      exact ⟨I.su, I.l64, ⟨I.sq.1, by show (s : Int) + 1 ≤ _; omega⟩, .inl ⟨rfl, s, by omega, rfl, hR, hg, hl⟩⟩
    · rw [if_pos a1, a2, a3]
      have e : L[L.length - 1]? = some (f20 (dSync on ds 20 16 ((s : Int) + 1) false G).2.2.2.1.pgs) := by rw [hl, f20_ext fun i hi => a7 i (by omega) (.inl hi)]
      refine ⟨by omega, I.l64, ⟨by omega, by omega⟩, .inl ⟨rfl, s', by omega, a5, a6, ⟨L.length - 1, Nat.le_refl _, e⟩, ?_⟩⟩
      rw [e]
      exact congrArg some (f20_ext fun i hi => by rw [putAll_csG a6.len hi]; rfl)
    · rw [if_neg a1, a2, a3]
      exact ⟨I.su, I.l64, ⟨by omega, by omega⟩, .inr ⟨rfl, s + 3, by omega, a4⟩⟩
  · have e : dSync on ds 20 16 seq true G = (5, seq, true, ds, G) := if_pos rfl
    rw [e, if_neg (by simp)]
    exact ⟨I.su, I.l64, ⟨I.sq.1, by show seq ≤ _; omega⟩, .inr ⟨rfl, q, hq, hT⟩⟩
/-- What is read ahead of a Keep. -/
def nowL (over : Bool) (ds : DSt) (S G : List (Nat × Pg)) : List Pg := (List.range 20).map fun i => srP over ds S G 20 16 ((i : Nat) : Int)
theorem srP_at {ds : DSt} {s : Nat} (hR : St.Rest s ds) {S G : List (Nat × Pg)} {i : Nat} (hi : i < 20) : srP false ds S G 20 16 (i : Int) = (findC i (mergeC G S)).getD (pgAt ds.pgs i) := by
  unfold srP
  have h0 : mayE false ds.pgs.length 20 16 (i : Int) = 0 := by
    rw [hR.len]; unfold mayE; rw [if_neg (by simp), if_neg (by omega)]
  rw [h0, if_neg (by simp), Int.toNat_natCast, hR.down, hR.ca, St.readP_at (by rw [hR.len]; omega), findC_merge]
  unfold fndS orE
  cases findC i S <;> rfl
theorem nowL_eq {ds : DSt} {s : Nat} (hR : St.Rest s ds) {S G : List (Nat × Pg)} {pgs : List Pg} (h : ∀ i, i < 20 → pgAt pgs i = (findC i (mergeC G S)).getD (pgAt ds.pgs i)) : nowL false ds S G = f20 pgs := by
  unfold nowL f20
  refine List.map_congr_left fun i hi => ?_
  have hi := List.mem_range.1 hi
  rw [srP_at hR hi, lastP_at, h i hi]
theorem srP_64 {over : Bool} {ds : DSt} {S G : List (Nat × Pg)} (hS : OkM 40 S) (hG : OkM 40 G) (hp : P64 ds.pgs) (hc : ∀ e ∈ ds.ca, e.2.length = 64) (i : Int) : (srP over ds S G 20 16 i).length = 64 := by
  unfold srP
  split
  · rfl
  · unfold fndS
    cases hf : findC i.toNat S with
    | some p => exact findC_64 hS hf
    | none =>
      show ((findC i.toNat G).getD _).length = 64
      cases hg : findC i.toNat G with
      | some p => exact findC_64 hG hg
      | none =>
        show (readP ds.down ds.pgs ds.ca i).length = 64
        unfold readP
        split
        · cases hcf : findC i.toNat ds.ca with
          | some p =>
            unfold findC at hcf
            obtain ⟨x, hx, rfl⟩ := Option.map_eq_some_iff.1 hcf
            exact hc x (List.mem_of_find?_eq_some hx)
          | none => exact hp.at i.toNat
        · rfl
theorem dKeep_no {on : Bool} {ds : DSt} {a s : Nat} {seq : Int} {S G : List (Nat × Pg)} {w : Int × Int × Bool × DSt × List (Nat × Pg)} (h : dKeepG on ds a s seq G S = w) (hn : w.1 ≠ 0) : dKeep on ds a s seq false S G = (w.1, w.2.1, w.2.2.1, w.2.2.2.1, S, w.2.2.2.2) := by
  unfold dKeep
  rw [if_neg (by simp), h, if_pos hn]
theorem dKeep_ok {on : Bool} {ds : DSt} {a s : Nat} {seq : Int} {S G : List (Nat × Pg)} {w : Int × Int × Bool × DSt × List (Nat × Pg)} (h : dKeepG on ds a s seq G S = w) (hn : w.1 = 0) : dKeep on ds a s seq false S G = (0, w.2.1, w.2.2.1, w.2.2.2.1, [], mergeC w.2.2.2.2 S) := by
  unfold dKeep
  rw [if_neg (by simp), h, if_neg (by simpa using hn)]
theorem keep_inv {n : Nat} {L : List (List Pg)} {sure : Nat} {seq : Int} {over on : Bool} {ds : DSt} {S G : List (Nat × Pg)} (I : Inv n L sure seq over ds G) (hS : OkM 40 S) (hG : OkM 40 G) (hn : n ≤ 79) (h64 : ∀ i : Int, (srP over ds S G 20 16 i).length = 64) :
    Inv (n + 1) (if (dKeep on ds 20 16 seq over S G).1 = 0 then L ++ [nowL over ds S G] else L) sure (dKeep on ds 20 16 seq over S G).2.1 (dKeep on ds 20 16 seq over S G).2.2.1 (dKeep on ds 20 16 seq over S G).2.2.2.1 (dKeep on ds 20 16 seq over S G).2.2.2.2.2 := by
  have hI := I.sq
  have hsu := I.su
  have hnl : (nowL over ds S G).length = 20 ∧ P64 (nowL over ds S G) := ⟨by simp [nowL], fun p hp => by
    obtain ⟨i, _, rfl⟩ := List.mem_map.1 hp
    exact h64 _⟩
  have hl64 : ∀ X ∈ L ++ [nowL over ds S G], X.length = 20 ∧ P64 X := fun X hX => by
    rcases List.mem_append.1 hX with h | h
    · exact I.l64 X h
    · rw [List.mem_singleton.1 h]; exact hnl
  rcases I.is with ⟨rfl, s, hs, rfl, hR, hg, hl⟩ | ⟨rfl, q, hq, hT⟩
  · by_cases hw : roomJ (16 : Nat) < withN G S
    · have hsq := dSync_seq on ds 20 16 ((s : Int) + 1) false G
      have hkG : dKeepG on ds 20 16 ((s : Int) + 1) G S = dSync on ds 20 16 ((s : Int) + 1) false G := if_pos hw
      rcases sync_core (on := on) hR (by omega) hG (gp_clo L sure) hg ⟨_, by omega, hl⟩ with ⟨a1, a2⟩ | ⟨a1, a2, a3, s', a4, a5, a6, a7⟩ | ⟨a1, a2, a3, a4⟩
      · rw [dKeep_no hkG a1]
        simp only
        rw [if_neg a1, a2]
        exact ⟨I.su, I.l64, ⟨I.sq.1, by show (s : Int) + 1 ≤ _; omega⟩, .inl ⟨rfl, s, by omega, rfl, hR, hg, hl⟩⟩
      · rw [dKeep_ok hkG a1]
        simp only
        rw [if_pos trivial, a2, a3]
        have e : L[L.length - 1]? = some (f20 (dSync on ds 20 16 ((s : Int) + 1) false G).2.2.2.1.pgs) := by rw [hl, f20_ext fun i hi => a7 i (by omega) (.inl hi)]
        refine ⟨by rw [List.length_append]; omega, hl64, ⟨by omega, by omega⟩, .inl ⟨rfl, s', by omega, a5, a6, gp_more _ ⟨L.length - 1, by omega, e⟩, ?_⟩⟩
        rw [List.length_append, List.getElem?_append_right (by simp)]
        have e2 : nowL false ds S G = f20 (putAll (dSync on ds 20 16 ((s : Int) + 1) false G).2.2.2.1.pgs (csG 40 (mergeC [] S))) := nowL_eq hR fun i hi => by
          rw [putAll_csG a6.len hi, ← a7 i (by omega) (.inl hi), putAll_csG hR.len hi, findC_merge, findC_merge]
          unfold orE
          cases findC i S <;> rfl
        simp [e2]
      · rw [dKeep_no hkG a1]
        simp only
        rw [if_neg a1, a2, a3]
        exact ⟨I.su, I.l64, ⟨by omega, by omega⟩, .inr ⟨rfl, s + 3, by omega, a4⟩⟩
    · have hkG : dKeepG on ds 20 16 ((s : Int) + 1) G S = (0, (s : Int) + 1, false, ds, G) := if_neg hw
      rw [dKeep_ok hkG rfl]
      simp only
      rw [if_pos trivial]
      refine ⟨by rw [List.length_append]; omega, hl64, ⟨I.sq.1, by show (s : Int) + 1 ≤ _; omega⟩, .inl ⟨rfl, s, by omega, rfl, hR, gp_more _ hg, ?_⟩⟩
      rw [List.length_append, List.getElem?_append_right (by simp)]
      have e2 : nowL false ds S G = f20 (putAll ds.pgs (csG 40 (mergeC G S))) := nowL_eq hR fun i hi => putAll_csG hR.len hi
      simp [e2]
  · have e : dKeep on ds 20 16 seq true S G = (5, seq, true, ds, S, G) := if_pos rfl
    rw [e, if_neg (by simp)]
    exact ⟨I.su, I.l64, ⟨I.sq.1, by show seq ≤ _; omega⟩, .inr ⟨rfl, q, hq, hT⟩⟩
/-- Whatever crash comes, a store is there again, with one of the states. -/
theorem inv_open {n : Nat} {L : List (List Pg)} {sure : Nat} {seq : Int} {over : Bool} {ds : DSt} {G : List (Nat × Pg)} (I : Inv n L sure seq over ds G) (hn : n ≤ 80) {left : Int} {pgs' : List Pg} (hT : Torn ds.pgs ds.ca pgs') : (dOpen false ⟨false, left, pgs', []⟩ 20 16).1 = 0 ∧ GP L sure (dOpen false ⟨false, left, pgs', []⟩ 20 16).2.2.2.pgs ∧ (dOpen false ⟨false, left, pgs', []⟩ 20 16).2.2.2.pgs.length = 40 := by
  obtain ⟨q, hq, hO⟩ : ∃ q : Nat, q ≤ 250 ∧ St.OkD (GP L sure) q pgs' := by
    rcases I.is with ⟨rfl, s, hs, rfl, hR, hg, hl⟩ | ⟨rfl, q, hq, hT'⟩
    · exact ⟨s, by omega, rest_okD6 hR (by omega) hg hT⟩
    · exact ⟨q, hq, hT' _ hT⟩
  rcases St.open_ok (on := false) (left := left) hO (by omega) (gp_clo L sure) with ⟨_, h, _⟩ | ⟨h1, s, _, _, h2, h3⟩
  · cases h
  · exact ⟨h1, h3, h2.len⟩
end Go.Proofs.Ytfbkeieoeagkdaa

/- Store: the law of what lasts. -/
namespace Go.Proofs.Ytfbkeieoeagkdaa
open Go AM
set_option linter.unusedSimpArgs false
set_option linter.unusedVariables false
set_option maxRecDepth 100000

theorem room_small2 {n b : Nat} (hn : n ≤ 1000) (hb : b ≤ 2000) : roomOk n b = true := by
  unfold roomOk AM.ok1
  have : (2 * n + 1024) * b ≤ 3024 * 2000 := Nat.mul_le_mul (by omega) hb
  simp only [decide_eq_true_eq]
  omega
/-- One row more behind a row of one's own. -/
theorem grow2 {O : List AM.Obj} {m t e b : Nat} {ck : CK} {rows : List (List V)} {x : List V} (hm : O[m]? = some (.cells ck t 0 rows.flatten)) (hk : ck = .ex ∨ ck = .gr) (he : 0 < e) (hrows : ∀ y ∈ rows, y.length = e) (hroom : roomOk (rows.length + 1) b = true) (E D : Nat) :
    ∃ O' D', appendA ⟨O, E, D⟩ t e b (.slice m 0 rows.length e) 1 x = some (.slice O.length 0 (rows.length + 1) e, some ⟨O', E, D'⟩) ∧ O'[O.length]? = some (.cells .gr t 0 (rows ++ [x]).flatten) ∧ O.length < O'.length ∧ ∀ l, l < O.length → l ≠ m → O'[l]? = O[l]? := by
  have hfl := flat_len hrows
  have hne : ¬ (rows.length + 1) * e ≤ rows.length * e := by
    rw [Nat.add_mul]; omega
  rcases hk with rfl | rfl
  · refine ⟨O ++ [.cells .gr t 0 (rows.flatten ++ x)], D, ?_, by simp, by simp, fun l hl _ => List.getElem?_append_left hl⟩
    simp only [appendA, hm, if_true, Nat.zero_add, hfl, Nat.le_refl, if_neg (by decide : ¬ (1 : Nat) = 0), if_neg hne, hroom, and_self, List.drop_zero, Heap.new]
  · refine ⟨O.set m .dead ++ [.cells .gr t 0 (rows.flatten ++ x)], min D m, app_gr hm hfl (by decide) he hroom, ?_, by simp, fun l hl hlm => ?_⟩
    · rw [List.getElem?_append_right (by simp)]; simp
    · rw [List.getElem?_append_left (by simpa using hl), List.getElem?_set_ne (Ne.symm hlm)]
def dataN (rd : Nat → Pg) (j : Nat) : List Pg := (List.range 20).map fun i => if i < j then rd i else zs 64
theorem dataN_len (rd : Nat → Pg) (j : Nat) : (dataN rd j).length = 20 := by simp [dataN]
theorem dataN_64 {rd : Nat → Pg} (h : ∀ j, (rd j).length = 64) (k : Nat) : P64 (dataN rd k) := fun p hp => by
  obtain ⟨j, hj, rfl⟩ := List.mem_map.1 hp
  show List.length (if j < k then rd j else zs 64) = 64
  split
  · exact h j
  · rfl
theorem dataN_at {rd : Nat → Pg} {k j : Nat} (h : j < 20) : pgAt (dataN rd k) j = if j < k then rd j else zs 64 := by
  unfold pgAt dataN
  rw [List.getD_eq_getElem?_getD, List.getElem?_map, List.getElem?_range h]; rfl
theorem dataN_zero (rd : Nat → Pg) : pgC (dataN rd 0) = z1280 := by
  have : dataN rd 0 = List.replicate 20 (zs 64) := by
    unfold dataN
    simp only [Nat.not_lt_zero, if_false]
    rfl
  rw [this]
  rfl
theorem dataN_succ {rd : Nat → Pg} {k : Nat} (h : k < 20) : dataN rd (k + 1) = (dataN rd k).set k (rd k) := by
  refine pgs_ext (by rw [List.length_set, dataN_len, dataN_len]) fun j hj => ?_
  rw [dataN_len] at hj
  rw [pgAt_set (by rw [dataN_len]; exact h), dataN_at hj, dataN_at hj]
  by_cases hjk : j = k
  · subst hjk; rw [if_pos rfl, if_pos (by omega)]
  · rw [if_neg hjk]
    by_cases hc : j < k
    · rw [if_pos hc, if_pos (by omega)]
    · rw [if_neg hc, if_neg (by omega)]
theorem dataN_now (over : Bool) (ds : DSt) (S G : List (Nat × Pg)) : dataN (fun i => srP over ds S G 20 16 (i : Int)) 20 = nowL over ds S G := by
  unfold dataN nowL
  refine List.map_congr_left fun i hi => ?_
  rw [if_pos (List.mem_range.1 hi)]
theorem z1280_len : z1280.length = 1280 := rfl
theorem z1280_drop : List.drop 1280 z1280 = [] := rfl
theorem pgC20 {X : List Pg} (h : X.length = 20 ∧ P64 X) : (pgC X).length = 1280 := by rw [pgC_len h.2, h.1]
theorem pgC1' (pgs : List Pg) : (pgC pgs).all V.one = true := by
  unfold pgC
  rw [List.all_flatMap]
  exact List.all_eq_true.2 fun p _ => bytesA_one p
section
variable {o o1 : List AM.Obj} {e d sp jl dd pg lm st gr a s np : Nat} {seq : Int} {over on : Bool} {ds : DSt} {S G : List (Nat × Pg)}
theorem sput_any (P : PS o sp jl dd pg lm st gr a s seq over on ds S G) (ha : a ≤ 100000) (hs : s ≤ 1000000) (i : Int) {p : Pg} (hp : p.length = 64) :
    ∃ n oh o1 d' S', Den FF E2 37 [.ptr sp 0, .int .i64 i, .agg (bytesA p)] ⟨o, e, d⟩ = some (.val (.int .i64 n), oh) ∧ oh.getD ⟨o, e, d⟩ = ⟨o1, e, d'⟩ ∧ o1.length = o.length ∧ Sx sp jl dd pg lm st gr o o1 ∧ PS o1 sp jl dd pg lm st gr a s seq over on ds S' G := by
  by_cases h0 : mayE over ds.pgs.length a s i = 0
  case neg => exact ⟨_, _, o, d, S, sput_no P ha hs hp h0, rfl, rfl, Sx.refl, P⟩
  obtain ⟨_, k, rfl, _⟩ := mayE_ok h0
  by_cases hf : findC k S ≠ none ∨ S.length < roomJ s
  · obtain ⟨r, oh, q, rfl, d', hg, P'⟩ := sput_ok (e := e) (d := d) P ha hs hp h0 hf
    exact ⟨_, oh, _, d', _, q, hg, by simp, Sx.setS _, P'⟩
  · rw [not_or, Decidable.not_not] at hf
    exact ⟨_, _, o, d, S, sput_full P ha hs hp h0 hf.1 (by omega), rfl, rfl, Sx.refl, P⟩
theorem PS.ne_row (P : PS o sp jl dd pg lm st gr a s seq over on ds S G) {m : Nat} {ck : CK} {cs : List V} (hm : o[m]? = some (.cells ck 82 0 cs)) : ∀ x ∈ ownL sp jl dd pg lm st gr, x ≠ m := by
  have D := P.J.P
  have key : ∀ {l t : Nat} {c : List V}, o[l]? = some (.cells .ex t 0 c) → t ≠ 82 → l ≠ m := fun h ht hl => by
    rw [hl, hm] at h
    simp only [Option.some.injEq, AM.Obj.cells.injEq] at h
    exact ht h.2.1.symm
  have key2 : ∀ {l : Nat} {es : List (V × V)}, o[l]? = some (.map es) → l ≠ m := fun h hl => by
    rw [hl, hm] at h
    cases h
  intro x hx
  simp only [ownL, List.mem_cons, List.not_mem_nil, or_false] at hx
  rcases hx with rfl | rfl | rfl | rfl | rfl | rfl | rfl
  · exact key P.hs (by decide)
  · exact key P.J.hj (by decide)
  · exact key D.hd (by decide)
  · exact key D.hp (by decide)
  · exact key2 D.hm
  · exact key2 P.hS
  · exact key2 P.hG
end
/-- How things stand between the calls of a script: the store, the states that it had. -/
structure LB (o oo : List AM.Obj) (L : List (List Pg)) (m : Nat) (sp jl st gr : Nat) (seq : Int) (over on : Bool) (ds : DSt) (S G : List (Nat × Pg)) : Prop where
  P : PS oo sp jl (o.length + 2) o.length (o.length + 1) st gr 20 16 seq over on ds S G
  np : ds.pgs.length = 40
  row : ∃ ck, oo[m]? = some (.cells ck 82 0 (L.map pgC).flatten) ∧ (ck = .ex ∨ ck = .gr)
  T : Two o.length oo (ownL sp jl (o.length + 2) o.length (o.length + 1) st gr) [m]
  hold : ∀ l, l < o.length → oo[l]? = o[l]?
section
variable {o oo o1 : List AM.Obj} {n m sp jl st gr : Nat} {L : List (List Pg)} {seq : Int} {over on : Bool} {ds : DSt} {S G : List (Nat × Pg)}
theorem LB.app (h : LB o oo L m sp jl st gr seq over on ds S G) (r : List AM.Obj) : LB o (oo ++ r) L m sp jl st gr seq over on ds S G := by
  obtain ⟨ck, h1, h2⟩ := h.row
  exact ⟨h.P.app r, h.np, ⟨ck, app_old h1 r, h2⟩, h.T.app r, fun l hl => by rw [List.getElem?_append_left (by have := h.T.l; omega)]; exact h.hold l hl⟩
theorem LB.mlt (h : LB o oo L m sp jl st gr seq over on ds S G) : ∀ y ∈ [m], y < oo.length := fun y hy => by
  obtain ⟨ck, h1, _⟩ := h.row
  rw [List.mem_singleton.1 hy]; exact get_lt h1
/-- A call of the store. -/
theorem LB.turn (h : LB o oo L m sp jl st gr seq over on ds S G) (X : Sx sp jl (o.length + 2) o.length (o.length + 1) st gr oo o1) {st' gr' : Nat} (h1 : st' = st ∨ oo.length ≤ st') (h2 : gr' = gr ∨ oo.length ≤ gr') {seq' : Int} {over' : Bool} {ds' : DSt} {S' G' : List (Nat × Pg)} (P' : PS o1 sp jl (o.length + 2) o.length (o.length + 1) st' gr' 20 16 seq' over' on ds' S' G') (hl : ds'.pgs.length = 40) :
    LB o o1 L m sp jl st' gr' seq' over' on ds' S' G' := by
  obtain ⟨ck, r1, r2⟩ := h.row
  exact ⟨P', hl, ⟨ck, by rw [h.T.other X h.mlt m (List.mem_singleton.2 rfl)]; exact r1, r2⟩, h.T.turn h.mlt h1 h2 X.len, fun l hl => (h.T.stay X l hl).trans (h.hold l hl)⟩
/-- One state more. -/
theorem LB.push (h : LB o oo L m sp jl st gr seq over on ds S G) {x : List Pg} (hL : ∀ X ∈ L, X.length = 20 ∧ P64 X) (hn : L.length ≤ 900) (E D : Nat) :
    ∃ O' D', appendA ⟨oo, E, D⟩ 82 1280 1280 (.slice m 0 L.length 1280) 1 (pgC x) = some (.slice oo.length 0 (L.length + 1) 1280, some ⟨O', E, D'⟩) ∧ LB o O' (L ++ [x]) oo.length sp jl st gr seq over on ds S G := by
  obtain ⟨ck, r1, r2⟩ := h.row
  have hrows : ∀ y ∈ L.map pgC, y.length = 1280 := fun y hy => by
    obtain ⟨X, hX, rfl⟩ := List.mem_map.1 hy
    exact pgC20 (hL X hX)
  obtain ⟨O', D', q, hr, hlt, hk⟩ := grow2 (b := 1280) (x := pgC x) r1 r2 (by decide) hrows (by rw [List.length_map]; exact room_small2 (by omega) (by decide)) E D
  rw [List.length_map] at q
  have hlO := h.P.lt
  have hTl := h.T.l
  refine ⟨O', D', q, h.P.keep fun z hz => hk z (hlO z hz) (h.T.D z hz m (List.mem_singleton.2 rfl)), h.np, ⟨.gr, ?_, .inr rfl⟩, ⟨fun z hz y hy => ?_, h.T.N, fun y hy => ?_, by omega⟩, fun l hl => ?_⟩
  · rw [List.map_append]; exact hr
  · have := hlO z hz
    rw [List.mem_singleton.1 hy]; omega
  · rw [List.mem_singleton.1 hy]; omega
  · have hm := h.T.M m (List.mem_singleton.2 rfl)
    rw [hk l (by omega) (by omega)]
    exact h.hold l hl
end
end Go.Proofs.Ytfbkeieoeagkdaa

