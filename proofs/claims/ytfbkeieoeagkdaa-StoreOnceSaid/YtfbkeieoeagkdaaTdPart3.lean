/- Own texts, joined: TdJng, TdJnh, TdJni, TdJnj, TdJnk, TdJnl, TdJnm, TdSta, TdStb, TdStc, TdStd. -/
import Derived.Test.YtfbkeieoeagkdaaTdPart2
/- Journal: numbers, laid, may. -/
namespace Go.Proofs.Ytfbkeieoeagkdaa
open Go AM
set_option linter.unusedSimpArgs false
set_option linter.unusedVariables false
set_option maxRecDepth 100000

def numsI (cs : List (Int × Pg)) : Nat → List Pg
  | 0 => List.replicate (listsN cs.length) (zs 64)
  | i + 1 => (numsI cs i).set (i / 32) (setK ((numsI cs i).getD (i / 32) []) (i % 32 * 2) 2 (cs.getD i (0, [])).1 2)
def numsL (cs : List (Int × Pg)) : List Pg := numsI cs cs.length
def laidL (cs : List (Int × Pg)) : List Pg := numsL cs ++ cs.map (·.2)
theorem numsI_len (cs : List (Int × Pg)) : ∀ i, (numsI cs i).length = listsN cs.length
  | 0 => List.length_replicate
  | i + 1 => by rw [numsI, List.length_set, numsI_len cs i]
theorem numsI_64 (cs : List (Int × Pg)) : ∀ i, i ≤ cs.length → ∀ p ∈ numsI cs i, p.length = 64
  | 0, _, p, hp => by rw [numsI] at hp; rw [List.eq_of_mem_replicate hp]; rfl
  | i + 1, hi, p, hp => by
    rw [numsI] at hp
    have ih := numsI_64 cs i (by omega)
    rcases List.mem_or_eq_of_mem_set hp with h | rfl
    · exact ih p h
    · rw [setK_len, List.getD_eq_getElem?_getD, List.getElem?_eq_getElem (by rw [numsI_len]; unfold listsN; omega)]
      exact ih _ (List.getElem_mem _)
theorem laidL_64 {cs : List (Int × Pg)} (h : ∀ c ∈ cs, c.2.length = 64) : ∀ p ∈ laidL cs, p.length = 64 := by
  intro p hp
  rcases List.mem_append.1 hp with hp | hp
  · exact numsI_64 cs _ (Nat.le_refl _) p hp
  · obtain ⟨c, hc, rfl⟩ := List.mem_map.1 hp
    exact h c hc
theorem laidL_len (cs : List (Int × Pg)) : (laidL cs).length = listsN cs.length + cs.length := by
  unfold laidL numsL
  rw [List.length_append, numsI_len, List.length_map]
def mayB (np at_ size : Nat) (i : Int) : Bool := decide (0 ≤ i) && decide (i < (np : Int)) && (decide (i < (at_ : Int)) || decide ((at_ : Int) + (size : Int) ≤ i))
section
variable {o : List AM.Obj} {e d dd pg lm : Nat} {on down : Bool} {left : Int} {pgs : List Pg} {ca : List (Nat × Pg)}
set_option maxHeartbeats 4000000 in
theorem may_q (P : PD o dd pg lm on down left pgs ca) {a s : Nat} (ha : a ≤ 1000000) (hs : s ≤ 1000000) (i : Int) : Den FF E2 77 [.agg (regV dd a s), .int .i64 i] ⟨o, e, d⟩ = some (.val (.bool (mayB pgs.length a s i)), none) := by
  refine To.den hxE2 (f := 77) (a := af77) rfl (E2_none rfl) (Nat.le_of_ble_eq_true rfl) ?_
  have q := fun r e d => pages_q (e := e) (d := d) (P.app r)
  have w : IntKind.i64.wrap ((a : Int) + (s : Int)) = (a : Int) + (s : Int) := wrap_i64 (by omega) (by omega)
  unfold mayB
  cases c0 : decide (0 ≤ i)
  · (repeat' (first | refine To.seq hxE2 ?_ | refine To.op0 hxE2 (by simp only [go_sem, eqs hxE2, reduceIte, seval, Heap.gets, Heap.sets, Heap.get, bytesA_length, bytesA_one, bytesA_plains, List.take_of_length_le, List.drop_of_length_le, Nat.add_zero, V.one, Nat.reduceLeDiff, List.all_cons, List.all_nil, ne_eq, not_false_eq_true, Nat.zero_le, regV, c0]; rfl) ?_ | refine To.op1 hxE2 (by simp only [go_sem, eqs hxE2, reduceIte, seval, Heap.gets, Heap.sets, Heap.get, bytesA_length, bytesA_one, bytesA_plains, List.take_of_length_le, List.drop_of_length_le, Nat.add_zero, V.one, Nat.reduceLeDiff, List.all_cons, List.all_nil, ne_eq, not_false_eq_true, Nat.zero_le, regV, c0]; rfl) ?_ | refine To.nop hxE2 ?_ | refine To.ret hxE2 ?_))
    try simp only [andThen, outOf]
    exact fin_k1 (i := 4) (v := .bool false) rfl (by simp only [go_sem, eqs hxE2, reduceIte, seval]) rfl (kp_app (by omega) (by omega))
  cases c1 : decide (i < (pgs.length : Int))
  · (repeat' (first | refine To.seq hxE2 ?_ | refine To.op0 hxE2 (by simp only [go_sem, eqs hxE2, reduceIte, seval, Heap.gets, Heap.sets, Heap.get, bytesA_length, bytesA_one, bytesA_plains, List.take_of_length_le, List.drop_of_length_le, Nat.add_zero, V.one, Nat.reduceLeDiff, List.all_cons, List.all_nil, ne_eq, not_false_eq_true, Nat.zero_le, regV, c0, c1, q]; rfl) ?_ | refine To.op1 hxE2 (by simp only [go_sem, eqs hxE2, reduceIte, seval, Heap.gets, Heap.sets, Heap.get, bytesA_length, bytesA_one, bytesA_plains, List.take_of_length_le, List.drop_of_length_le, Nat.add_zero, V.one, Nat.reduceLeDiff, List.all_cons, List.all_nil, ne_eq, not_false_eq_true, Nat.zero_le, regV, c0, c1, q]; rfl) ?_ | refine To.nop hxE2 ?_ | refine To.ret hxE2 ?_))
    try simp only [andThen, outOf]
    exact fin_k1 (i := 4) (v := .bool false) rfl (by simp only [go_sem, eqs hxE2, reduceIte, seval]) rfl (kp_app (by omega) (by omega))
  cases c2 : decide (i < (a : Int))
  · (repeat' (first | refine To.seq hxE2 ?_ | refine To.op0 hxE2 (by simp only [go_sem, eqs hxE2, reduceIte, seval, Heap.gets, Heap.sets, Heap.get, bytesA_length, bytesA_one, bytesA_plains, List.take_of_length_le, List.drop_of_length_le, Nat.add_zero, V.one, Nat.reduceLeDiff, List.all_cons, List.all_nil, ne_eq, not_false_eq_true, Nat.zero_le, regV, c0, c1, c2, q, w]; rfl) ?_ | refine To.op1 hxE2 (by simp only [go_sem, eqs hxE2, reduceIte, seval, Heap.gets, Heap.sets, Heap.get, bytesA_length, bytesA_one, bytesA_plains, List.take_of_length_le, List.drop_of_length_le, Nat.add_zero, V.one, Nat.reduceLeDiff, List.all_cons, List.all_nil, ne_eq, not_false_eq_true, Nat.zero_le, regV, c0, c1, c2, q, w]; rfl) ?_ | refine To.nop hxE2 ?_ | refine To.ret hxE2 ?_))
    try simp only [andThen, outOf]
    exact fin_k1 (i := 4) (v := .bool (decide ((a : Int) + (s : Int) ≤ i))) rfl (by simp only [go_sem, eqs hxE2, reduceIte, seval]) rfl (kp_app (by omega) (by omega))
  · (repeat' (first | refine To.seq hxE2 ?_ | refine To.op0 hxE2 (by simp only [go_sem, eqs hxE2, reduceIte, seval, Heap.gets, Heap.sets, Heap.get, bytesA_length, bytesA_one, bytesA_plains, List.take_of_length_le, List.drop_of_length_le, Nat.add_zero, V.one, Nat.reduceLeDiff, List.all_cons, List.all_nil, ne_eq, not_false_eq_true, Nat.zero_le, regV, c0, c1, c2, q, w]; rfl) ?_ | refine To.op1 hxE2 (by simp only [go_sem, eqs hxE2, reduceIte, seval, Heap.gets, Heap.sets, Heap.get, bytesA_length, bytesA_one, bytesA_plains, List.take_of_length_le, List.drop_of_length_le, Nat.add_zero, V.one, Nat.reduceLeDiff, List.all_cons, List.all_nil, ne_eq, not_false_eq_true, Nat.zero_le, regV, c0, c1, c2, q, w]; rfl) ?_ | refine To.nop hxE2 ?_ | refine To.ret hxE2 ?_))
    try simp only [andThen, outOf]
    exact fin_k1 (i := 4) (v := .bool true) rfl (by simp only [go_sem, eqs hxE2, reduceIte, seval]) rfl (kp_app (by omega) (by omega))
set_option maxHeartbeats 16000000 in
theorem numbers_x {v : V} {cs : List (Int × Pg)} (hc : ChRow o v cs) (hn : cs.length ≤ 500) :
    ∃ r oh, Den FF E2 88 [v] ⟨o, e, d⟩ = some (r, oh) ∧ ∃ pv rr e' d', r = .val pv ∧ pv.plain = false ∧ Gr o e d oh rr e' d' ∧ GrowX (o ++ rr) o.length pv 31 64 ((numsL cs).map bytesA) := by
  refine To.denE hxE2 (f := 88) (a := af88) rfl (E2_none rfl) (Nat.le_of_ble_eq_true rfl) ?_
  have hl := hc.len
  have ql := fun e d => lists_q (o := o) (e := e) (d := d) (n := cs.length) (by omega)
  have hL : listsN cs.length ≤ 100 := by unfold listsN; omega
  have c1 : (0 : Int) ≤ (listsN cs.length : Int) := by omega
  have c2 : (listsN cs.length : Int) * 64 ≤ (AM.ok1 : Int) := by unfold AM.ok1; omega
  have c2' : (listsN cs.length : Int) * ((64 : Nat) : Int) ≤ (AM.ok1 : Int) := c2
  have c3 : (listsN cs.length : Int) ≤ (AM.ok1 : Int) := by unfold AM.ok1; omega
  (repeat' (first | refine To.seq hxE2 ?_ | refine To.op0 hxE2 (by simp only [go_sem, eqs hxE2, reduceIte, seval, Heap.gets, Heap.sets, Heap.get, bytesA_length, bytesA_one, bytesA_plains, List.take_of_length_le, List.drop_of_length_le, Nat.add_zero, V.one, Nat.reduceLeDiff, List.all_cons, List.all_nil, ne_eq, not_false_eq_true, Nat.zero_le, hl, ql, c1, c2, c2', c3, Int.le_refl, Int.toNat_natCast, and_self, reps_pages]; rfl) ?_ | refine To.op1 hxE2 (by simp only [go_sem, eqs hxE2, reduceIte, seval, Heap.gets, Heap.sets, Heap.get, bytesA_length, bytesA_one, bytesA_plains, List.take_of_length_le, List.drop_of_length_le, Nat.add_zero, V.one, Nat.reduceLeDiff, List.all_cons, List.all_nil, ne_eq, not_false_eq_true, Nat.zero_le, hl, ql, c1, c2, c2', c3, Int.le_refl, Int.toNat_natCast, and_self, reps_pages]; rfl) ?_ | refine To.nop hxE2 ?_ | refine To.block hxE2 ?_))
  refine To.loop hxE2 (fun m S h' => ∃ (i d1 : Nat) (r : List AM.Obj), i + m = cs.length ∧ h' = ⟨o ++ (.cells .ex 31 0 (pgC (numsI cs i)) :: r), o.length, d1⟩ ∧ o.length ≤ d1 ∧ S 3 = .slice o.length 0 (listsN cs.length) 64 ∧ S 11 = v ∧ S 12 = .int .i64 (cs.length : Int) ∧ S 13 = .int .i64 (i : Int)) ?_ cs.length _ _ ?_
  · rintro m S _ ⟨i, d1, r, hm, rfl, hd, s3, s11, s12, s13⟩
    by_cases hi : i < cs.length
    · have hlt : decide ((i : Int) < (cs.length : Int)) = true := decide_eq_true (by omega)
      have ix : idxOf cs.length (.int .i64 (i : Int)) = some i := idxOf_nat hi
      have wi : IntKind.i64.wrap ((i : Int) + 1) = ((i + 1 : Nat) : Int) := by rw [wrap_i64 (by omega) (by omega)]; omega
      obtain ⟨c, hx⟩ : ∃ c, cs[i]? = some c := ⟨cs[i], List.getElem?_eq_getElem hi⟩
      obtain ⟨l, ck, t, rfl, hlb, hkd⟩ := hc.at_ (by rintro rfl; simp at hi)
      have h65 : ∀ r ∈ cs.map chC, r.length = 65 := by
        intro r hr
        obtain ⟨y, hy, rfl⟩ := List.mem_map.1 hr
        exact chC_len (hc.p64 y hy)
      obtain ⟨a1, a2⟩ := flat_drop h65 (by rw [List.getElem?_map, hx]; rfl : (cs.map chC)[i]? = some (chC c))
      have hc64 := hc.p64 c (List.mem_of_getElem? hx)
      have hcl := chC_len hc64
      have hco := chC_one c
      have hcp := chC_plains c
      have hc0 : (chC c)[0]? = some (.int .i64 c.1) := rfl
      have gl : ∀ r, (o ++ r)[l]? = some (.cells ck t 0 (cs.map chC).flatten) := fun r => app_old hlb r
      have t1 : Int.tdiv (i : Int) 32 = ((i / 32 : Nat) : Int) := by rw [Int.tdiv_eq_ediv_of_nonneg (by omega)]; omega
      have w1 : IntKind.i64.wrap ((i / 32 : Nat) : Int) = ((i / 32 : Nat) : Int) := wrap_i64 (by omega) (by omega)
      have t2 : Int.tmod (i : Int) 32 = ((i % 32 : Nat) : Int) := by rw [Int.tmod_eq_emod_of_nonneg (by omega)]; omega
      have w2 : IntKind.i64.wrap (((i % 32 : Nat) : Int) * 2) = ((i % 32 * 2 : Nat) : Int) := by rw [wrap_i64 (by omega) (by omega)]; omega
      have hk : i / 32 < listsN cs.length := by unfold listsN; omega
      have ix2 : idxOf (listsN cs.length) (.int .i64 ((i / 32 : Nat) : Int)) = some (i / 32) := idxOf_nat hk
      have hN := numsI_len cs i
      have h64 := numsI_64 cs i (by omega)
      have hst : numsI cs (i + 1) = (numsI cs i).set (i / 32) (setK ((numsI cs i).getD (i / 32) []) (i % 32 * 2) 2 c.1 2) := by
        rw [numsI, List.getD_eq_getElem?_getD (l := cs), hx]; rfl
      generalize numsI cs i = N at *
      generalize hkk : i / 32 = k at *
      have hg : N[k]? = some (N[k]'(by omega)) := List.getElem?_eq_getElem (by omega)
      have hgd : N.getD k [] = N[k]'(by omega) := by rw [List.getD_eq_getElem?_getD, hg]; rfl
      rw [hgd] at hst
      have hp64 := h64 _ (List.getElem_mem (by omega : k < N.length))
      have hat := pgC_at h64 hg
      have hk1 : (k + 1) * 64 ≤ N.length * 64 := Nat.mul_le_mul_right 64 (by omega)
      have hle : k * 64 + 64 ≤ (pgC N).length := by rw [pgC_len h64]; omega
      generalize hp : N[k]'(by omega) = p at *
      have qs : ∀ r e d, Den FF E2 87 [.agg (bytesA p), .int .i64 ((i % 32 * 2 : Nat) : Int), .int .i64 2, .int .i64 c.1] ⟨o ++ r, e, d⟩ = some (.val (.agg (bytesA (setK p (i % 32 * 2) 2 c.1 2))), none) := fun r e d => set_q (o := o ++ r) (e := e) (d := d) hp64 (a := i % 32 * 2) (s := 2) (by omega) (by omega) (by omega) c.1
      have hs64 : (setK p (i % 32 * 2) 2 c.1 2).length = 64 := by rw [setK_len, hp64]
      have e2 : List.take (k * 64) (pgC N) ++ (bytesA (setK p (i % 32 * 2) 2 c.1 2) ++ List.drop (k * 64 + 64) (pgC N)) = pgC (N.set k (setK p (i % 32 * 2) 2 c.1 2)) := by
        rw [pgC_set h64 hg hs64, List.append_assoc]
      rw [← hst] at e2
      generalize setK p (i % 32 * 2) 2 c.1 2 = p2 at *
      have htk : List.take 64 (bytesA p2) = bytesA p2 := List.take_of_length_le (by rw [bytesA_length]; omega)
      have gb : ∀ x y : AM.Obj, (o ++ (x :: (r ++ [y])))[o.length + (r.length + 1)]? = some y := fun x y => by
        rw [app_getk, List.getElem?_cons_succ]; simp
      have ga : ∀ (x : AM.Obj) r', (o ++ (x :: r'))[o.length]? = some x := fun x r' => app_get0 _ _ _
      have hst0 : ∀ (x y : AM.Obj) r', (o ++ (x :: r')).set o.length y = o ++ (y :: r') := fun x y r' => app_set0 _ _ _ _
      generalize i % 32 * 2 = i2 at *
      (repeat' (first | refine To.seq hxE2 ?_ | refine To.op0 hxE2 (by simp only [go_sem, eqs hxE2, reduceIte, seval, Heap.gets, Heap.sets, Heap.get, bytesA_length, bytesA_one, bytesA_plains, List.take_of_length_le, List.drop_of_length_le, Nat.add_zero, V.one, Nat.reduceLeDiff, List.all_cons, List.all_nil, ne_eq, not_false_eq_true, Nat.zero_le, s3, s11, s12, s13, hlt, ix, wi, gl, a1, a2, hcl, hco, hcp, hc0, t1, w1, t2, w2, ix2, ga, gb, hst0, hat, hle, hp64, hs64, htk, qs, e2, z65_len, z65_drop, z65_one, z65_plains]; rfl) ?_ | refine To.op1 hxE2 (by simp only [go_sem, eqs hxE2, reduceIte, seval, Heap.gets, Heap.sets, Heap.get, bytesA_length, bytesA_one, bytesA_plains, List.take_of_length_le, List.drop_of_length_le, Nat.add_zero, V.one, Nat.reduceLeDiff, List.all_cons, List.all_nil, ne_eq, not_false_eq_true, Nat.zero_le, s3, s11, s12, s13, hlt, ix, wi, gl, a1, a2, hcl, hco, hcp, hc0, t1, w1, t2, w2, ix2, ga, gb, hst0, hat, hle, hp64, hs64, htk, qs, e2, z65_len, z65_drop, z65_one, z65_plains]; rfl) ?_ | refine To.nop hxE2 ?_ | (refine To.condT hxE2 ?_ ?_; focus (simp only [go_sem, eqs hxE2, reduceIte, seval, Heap.gets, Heap.sets, Heap.get, bytesA_length, bytesA_one, bytesA_plains, List.take_of_length_le, List.drop_of_length_le, Nat.add_zero, V.one, Nat.reduceLeDiff, List.all_cons, List.all_nil, ne_eq, not_false_eq_true, Nat.zero_le, s3, s11, s12, s13, hlt, ix, wi, gl, a1, a2, hcl, hco, hcp, hc0, t1, w1, t2, w2, ix2, ga, gb, hst0, hat, hle, hp64, hs64, htk, qs, e2, z65_len, z65_drop, z65_one, z65_plains]; done)) | refine To.block hxE2 ?_ | refine To.skip hxE2 ?_ | refine To.draw0 hxE2 ?_ | refine ToD.op0 (by simp only [go_sem, eqs hxE2, reduceIte, seval, Heap.gets, Heap.sets, Heap.get, bytesA_length, bytesA_one, bytesA_plains, List.take_of_length_le, List.drop_of_length_le, Nat.add_zero, V.one, Nat.reduceLeDiff, List.all_cons, List.all_nil, ne_eq, not_false_eq_true, Nat.zero_le, s3, s11, s12, s13, hlt, ix, wi, gl, a1, a2, hcl, hco, hcp, hc0, t1, w1, t2, w2, ix2, ga, gb, hst0, hat, hle, hp64, hs64, htk, qs, e2, z65_len, z65_drop, z65_one, z65_plains]; rfl) (by simp only [put_some, put_none]; rfl) ?_ | refine ToD.op1 (by simp only [go_sem, eqs hxE2, reduceIte, seval, Heap.gets, Heap.sets, Heap.get, bytesA_length, bytesA_one, bytesA_plains, List.take_of_length_le, List.drop_of_length_le, Nat.add_zero, V.one, Nat.reduceLeDiff, List.all_cons, List.all_nil, ne_eq, not_false_eq_true, Nat.zero_le, s3, s11, s12, s13, hlt, ix, wi, gl, a1, a2, hcl, hco, hcp, hc0, t1, w1, t2, w2, ix2, ga, gb, hst0, hat, hle, hp64, hs64, htk, qs, e2, z65_len, z65_drop, z65_one, z65_plains]; rfl) (by simp only [put_some, put_none]; rfl) (by simp only [KD.app, go_sem, eqs hxE2, reduceIte, seval, Heap.gets, Heap.sets, Heap.get, bytesA_length, bytesA_one, bytesA_plains, List.take_of_length_le, List.drop_of_length_le, Nat.add_zero, V.one, Nat.reduceLeDiff, List.all_cons, List.all_nil, ne_eq, not_false_eq_true, Nat.zero_le, s3, s11, s12, s13, hlt, ix, wi, gl, a1, a2, hcl, hco, hcp, hc0, t1, w1, t2, w2, ix2, ga, gb, hst0, hat, hle, hp64, hs64, htk, qs, e2, z65_len, z65_drop, z65_one, z65_plains]; rfl) ?_ | refine ToD.nop ?_))
      try simp only [andThen, outOf]
      refine ⟨m - 1, by omega, i + 1, _, _, by omega, rfl, ?_, ?_⟩
      · omega
      · simp only [go_sem, eqs hxE2, reduceIte, seval, s3, s11, s12]
    · have hlt : decide ((i : Int) < (cs.length : Int)) = false := decide_eq_false (by omega)
      obtain rfl : i = cs.length := by omega
      (repeat' (first | refine To.seq hxE2 ?_ | refine To.op0 hxE2 (by simp only [go_sem, eqs hxE2, reduceIte, seval, Heap.gets, Heap.sets, Heap.get, bytesA_length, bytesA_one, bytesA_plains, List.take_of_length_le, List.drop_of_length_le, Nat.add_zero, V.one, Nat.reduceLeDiff, List.all_cons, List.all_nil, ne_eq, not_false_eq_true, Nat.zero_le, s3, s11, s12, s13, hlt]; rfl) ?_ | refine To.nop hxE2 ?_ | (refine To.condF hxE2 ?_ ?_; focus (simp only [go_sem, eqs hxE2, reduceIte, seval, Heap.gets, Heap.sets, Heap.get, bytesA_length, bytesA_one, bytesA_plains, List.take_of_length_le, List.drop_of_length_le, Nat.add_zero, V.one, Nat.reduceLeDiff, List.all_cons, List.all_nil, ne_eq, not_false_eq_true, Nat.zero_le, s3, s11, s12, s13, hlt]; done)) | refine To.ret hxE2 ?_ | refine To.exit hxE2 ?_))
      try simp only [andThen, outOf, if_true]
      skip
      refine ⟨_, _, fin1 (i := 2) rfl, ?_⟩
      have h2 : ∀ S' : Nat → V, S' 2 = .slice o.length 0 (listsN cs.length) 64 → ∃ pv rr e' d', Out.val (S' 2) = .val pv ∧ pv.plain = false ∧ Gr o e d (leave ⟨o, e, d⟩ ⟨o ++ (.cells .ex 31 0 (pgC (numsI cs cs.length)) :: r), o.length, d1⟩ (S' 2)) rr e' d' ∧ GrowX (o ++ rr) o.length pv 31 64 ((numsL cs).map bytesA) := by
        intro S' h2
        rw [h2]
        obtain ⟨rr, e2, d2, hgr, hrr⟩ := leave_grow (o := o) (e := e) (d := d) (e' := o.length) (d' := d1) (rr := .cells .ex 31 0 (pgC (numsI cs cs.length)) :: r) (v := .slice o.length 0 (listsN cs.length) 64) (fun h => by cases h) (Nat.le_refl _) hd
        refine ⟨_, rr, e2, d2, rfl, rfl, hgr, ?_⟩
        rw [hrr rfl]
        refine .inr ⟨o.length, .ex, ?_, ?_, Nat.le_refl _, .inl rfl⟩
        · rw [List.length_map]; unfold numsL; rw [numsI_len]
        · rw [app_get0]
          unfold numsL pgC
          rw [List.flatMap_def]
      exact h2 _ (by simp only [go_sem, eqs hxE2, reduceIte, seval, s3])
  · refine ⟨0, o.length, [], by omega, rfl, Nat.le_refl _, ?_⟩
    simp only [go_sem, eqs hxE2, reduceIte, seval, initS]
set_option maxHeartbeats 16000000 in
theorem laid_x {v : V} {cs : List (Int × Pg)} (hc : ChRow o v cs) (hn : cs.length ≤ 500) :
    ∃ r oh, Den FF E2 78 [v] ⟨o, e, d⟩ = some (r, oh) ∧ ∃ pv rr e' d', r = .val pv ∧ pv.plain = false ∧ Gr o e d oh rr e' d' ∧ GrowX (o ++ rr) o.length pv 31 64 ((laidL cs).map bytesA) := by
  refine To.denE hxE2 (f := 78) (a := af78) rfl (E2_none rfl) (Nat.le_of_ble_eq_true rfl) ?_
  have hl := hc.len
  obtain ⟨r0, oh0, q0, pv0, rr0, e0, d0, rfl, hpl0, G0, hG0⟩ := numbers_x (e := o.length) (d := o.length) hc hn
  have hL : listsN cs.length ≤ 100 := by unfold listsN; omega
  (repeat' (first | refine To.seq hxE2 ?_ | refine To.op0 hxE2 (by simp only [go_sem, eqs hxE2, reduceIte, seval]; rfl) ?_ | refine To.nop hxE2 ?_))
  refine To.op hxE2 (by simp only [go_sem, eqs hxE2, reduceIte, seval, q0]; rfl) ?_
  rw [show oh0.getD (AM.enter ⟨o, e, d⟩) = ⟨o ++ rr0, e0, d0⟩ from G0.eq]
  have he0 : e0 = o.length := by have := G0.e; omega
  have hd0 : d0 = o.length := by have := G0.d; omega
  subst he0 hd0
  (repeat' (first | refine To.seq hxE2 ?_ | refine To.op0 hxE2 (by simp only [go_sem, eqs hxE2, reduceIte, seval, Heap.gets, Heap.sets, Heap.get, bytesA_length, bytesA_one, bytesA_plains, List.take_of_length_le, List.drop_of_length_le, Nat.add_zero, V.one, Nat.reduceLeDiff, List.all_cons, List.all_nil, ne_eq, not_false_eq_true, Nat.zero_le, hl]; rfl) ?_ | refine To.nop hxE2 ?_ | refine To.block hxE2 ?_))
  refine To.loop hxE2 (fun m S h' => ∃ (i d1 : Nat) (r : List AM.Obj) (pv : V), i + m = cs.length ∧ h' = ⟨o ++ r, o.length, d1⟩ ∧ o.length ≤ d1 ∧ pv.plain = false ∧ GrowX (o ++ r) o.length pv 31 64 ((numsL cs ++ (cs.take i).map (·.2)).map bytesA) ∧ S 3 = pv ∧ S 8 = v ∧ S 9 = .int .i64 (cs.length : Int) ∧ S 10 = .int .i64 (i : Int)) ?_ cs.length _ _ ?_
  · rintro m S _ ⟨i, d1, r, pv, hm, rfl, hd, hpl, hG, s3, s8, s9, s10⟩
    by_cases hi : i < cs.length
    · have hlt : decide ((i : Int) < (cs.length : Int)) = true := decide_eq_true (by omega)
      have ix : idxOf cs.length (.int .i64 (i : Int)) = some i := idxOf_nat hi
      have wi : IntKind.i64.wrap ((i : Int) + 1) = ((i + 1 : Nat) : Int) := by rw [wrap_i64 (by omega) (by omega)]; omega
      obtain ⟨c, hx⟩ : ∃ c, cs[i]? = some c := ⟨cs[i], List.getElem?_eq_getElem hi⟩
      obtain ⟨l, ck, t, rfl, hlb, hkd⟩ := hc.at_ (by rintro rfl; simp at hi)
      have h65 : ∀ r ∈ cs.map chC, r.length = 65 := by
        intro r hr
        obtain ⟨y, hy, rfl⟩ := List.mem_map.1 hr
        exact chC_len (hc.p64 y hy)
      obtain ⟨a1, a2⟩ := flat_drop h65 (by rw [List.getElem?_map, hx]; rfl : (cs.map chC)[i]? = some (chC c))
      have hc64 := hc.p64 c (List.mem_of_getElem? hx)
      have hcl := chC_len hc64
      have hco := chC_one c
      have hcp := chC_plains c
      have hc1 : List.take 64 (List.drop 1 (chC c)) = bytesA c.2 := by
        show List.take 64 (bytesA c.2) = _
        exact List.take_of_length_le (by rw [bytesA_length]; omega)
      have gl : ∀ r, (o ++ r)[l]? = some (.cells ck t 0 (cs.map chC).flatten) := fun r => app_old hlb r
      have htk : List.take 64 (bytesA c.2) = bytesA c.2 := List.take_of_length_le (by rw [bytesA_length]; omega)
      have hdr : List.drop 64 (bytesA c.2) = [] := List.drop_eq_nil_of_le (by rw [bytesA_length]; omega)
      have gb : ∀ x : AM.Obj, (o ++ (r ++ [x]))[o.length + r.length]? = some x := fun x => by
        rw [app_getk]; simp
      have gb2 : ∀ x y : AM.Obj, (o ++ (r ++ [x, y]))[o.length + (r.length + 1)]? = some y := fun x y => by
        rw [app_getk, app_getk]; rfl
      have hrows : ∀ y ∈ (numsL cs ++ (cs.take i).map (·.2)).map bytesA, y.length = 64 := fun y hy => by
        obtain ⟨q, hq, rfl⟩ := List.mem_map.1 hy
        rw [bytesA_length]
        rcases List.mem_append.1 hq with hq | hq
        · exact numsI_64 cs _ (Nat.le_refl _) q hq
        · obtain ⟨c', hc', rfl⟩ := List.mem_map.1 hq
          exact hc.p64 c' (List.mem_of_mem_take hc')
      have hln : ((numsL cs ++ (cs.take i).map (·.2)).map bytesA).length ≤ 1000 := by
        rw [List.length_map, List.length_append, List.length_map, List.length_take]
        unfold numsL
        rw [numsI_len]; omega
      obtain ⟨v', r', D', hA, hG', hD1, hD2, _⟩ := grow1 (o := o) (r := r ++ [.cells .ex 73 0 (chC c), .cells .ex 31 0 (bytesA c.2)]) (b := 64) (by rw [← List.append_assoc]; exact hG.app) (by decide) hrows (x := bytesA c.2) (by rw [bytesA_length]; exact hc64) (room_small (by omega) (by decide)) (room_small (by decide) (by decide)) o.length (min d1 (o.length + r.length))
      have hpl' : v'.plain = false := by
        rcases hG' with ⟨rfl, h⟩ | ⟨_, _, rfl, _⟩
        · simp at h
        · rfl
      (repeat' (first | refine To.seq hxE2 ?_ | refine To.op0 hxE2 (by simp only [go_sem, eqs hxE2, reduceIte, seval, Heap.gets, Heap.sets, Heap.get, bytesA_length, bytesA_one, bytesA_plains, List.take_of_length_le, List.drop_of_length_le, Nat.add_zero, V.one, Nat.reduceLeDiff, List.all_cons, List.all_nil, ne_eq, not_false_eq_true, Nat.zero_le, s3, s8, s9, s10, hlt, ix, wi, gl, a1, a2, hcl, hco, hcp, hc1, hc64, htk, hdr, gb, gb2, hA, z64_len, z64_drop, z64_one, z64_plains, z65_len, z65_drop, z65_one, z65_plains, List.append_nil]; rfl) ?_ | refine To.op1 hxE2 (by simp only [go_sem, eqs hxE2, reduceIte, seval, Heap.gets, Heap.sets, Heap.get, bytesA_length, bytesA_one, bytesA_plains, List.take_of_length_le, List.drop_of_length_le, Nat.add_zero, V.one, Nat.reduceLeDiff, List.all_cons, List.all_nil, ne_eq, not_false_eq_true, Nat.zero_le, s3, s8, s9, s10, hlt, ix, wi, gl, a1, a2, hcl, hco, hcp, hc1, hc64, htk, hdr, gb, gb2, hA, z64_len, z64_drop, z64_one, z64_plains, z65_len, z65_drop, z65_one, z65_plains, List.append_nil]; rfl) ?_ | refine To.nop hxE2 ?_ | (refine To.condT hxE2 ?_ ?_; focus (simp only [go_sem, eqs hxE2, reduceIte, seval, Heap.gets, Heap.sets, Heap.get, bytesA_length, bytesA_one, bytesA_plains, List.take_of_length_le, List.drop_of_length_le, Nat.add_zero, V.one, Nat.reduceLeDiff, List.all_cons, List.all_nil, ne_eq, not_false_eq_true, Nat.zero_le, s3, s8, s9, s10, hlt, ix, wi, gl, a1, a2, hcl, hco, hcp, hc1, hc64, htk, hdr, gb, gb2, hA, z64_len, z64_drop, z64_one, z64_plains, z65_len, z65_drop, z65_one, z65_plains, List.append_nil]; done)) | refine To.block hxE2 ?_ | refine To.skip hxE2 ?_))
      try simp only [andThen, outOf]
      refine ⟨m - 1, by omega, i + 1, D', r', v', by omega, rfl, by omega, hpl', ?_, ?_⟩
      · rw [List.take_add_one, hx, Option.toList_some]
        simp only [List.map_append, List.map_cons, List.map_nil, List.append_assoc] at hG' ⊢
        exact hG'
      · simp only [go_sem, eqs hxE2, reduceIte, seval, s8, s9]
    · have hlt : decide ((i : Int) < (cs.length : Int)) = false := decide_eq_false (by omega)
      have hie : cs.take i = cs := List.take_of_length_le (by omega)
      rw [hie] at hG
      (repeat' (first | refine To.seq hxE2 ?_ | refine To.op0 hxE2 (by simp only [go_sem, eqs hxE2, reduceIte, seval, Heap.gets, Heap.sets, Heap.get, bytesA_length, bytesA_one, bytesA_plains, List.take_of_length_le, List.drop_of_length_le, Nat.add_zero, V.one, Nat.reduceLeDiff, List.all_cons, List.all_nil, ne_eq, not_false_eq_true, Nat.zero_le, s3, s8, s9, s10, hlt]; rfl) ?_ | refine To.nop hxE2 ?_ | (refine To.condF hxE2 ?_ ?_; focus (simp only [go_sem, eqs hxE2, reduceIte, seval, Heap.gets, Heap.sets, Heap.get, bytesA_length, bytesA_one, bytesA_plains, List.take_of_length_le, List.drop_of_length_le, Nat.add_zero, V.one, Nat.reduceLeDiff, List.all_cons, List.all_nil, ne_eq, not_false_eq_true, Nat.zero_le, s3, s8, s9, s10, hlt]; done)) | refine To.ret hxE2 ?_ | refine To.exit hxE2 ?_))
      try simp only [andThen, outOf, if_true]
      skip
      have h5 : ∀ S' : Nat → V, S' 2 = pv → ∃ r' oh, finish af78 ⟨o, e, d⟩ (some (.ret, S', ⟨o ++ r, o.length, d1⟩)) = some (r', oh) ∧ ∃ pv rr e' d', r' = .val pv ∧ pv.plain = false ∧ Gr o e d oh rr e' d' ∧ GrowX (o ++ rr) o.length pv 31 64 ((laidL cs).map bytesA) := by
        intro S' h4
        refine ⟨_, _, fin1 (i := 2) rfl, ?_⟩
        rw [h4]
        obtain ⟨rr, e2, d2, hgr, hrr⟩ := leave_grow (o := o) (e := e) (d := d) (e' := o.length) (d' := d1) (rr := r) (v := pv) (fun _ => .inr hd) (Nat.le_refl _) hd
        refine ⟨pv, rr, e2, d2, rfl, hpl, hgr, ?_⟩
        rw [hrr hpl]
        exact hG
      exact h5 _ (by simp only [go_sem, eqs hxE2, reduceIte, seval, s3])
  · refine ⟨0, o.length, rr0, pv0, by omega, rfl, Nat.le_refl _, hpl0, ?_, ?_⟩
    · rw [List.take_zero, List.map_nil, List.append_nil]; exact hG0
    · simp only [go_sem, eqs hxE2, reduceIte, seval, initS]
end
end Go.Proofs.Ytfbkeieoeagkdaa

/- Journal: marks; changes made. -/
namespace Go.Proofs.Ytfbkeieoeagkdaa
open Go AM
set_option linter.unusedSimpArgs false
set_option linter.unusedVariables false
set_option maxRecDepth 100000

def dMark (on : Bool) (st : DSt) (a : Int) (sq : Int) (lv : Bool) (c sm : Int) : Int × DSt :=
  if rightH sq lv c sm = true then dPut on st [(a, headP sq lv c sm)] else (5, st)
theorem dMark_len (on : Bool) (st : DSt) (a sq : Int) (lv : Bool) (c sm : Int) : (dMark on st a sq lv c sm).2.pgs.length = st.pgs.length := by
  unfold dMark
  split
  · exact dPut_len on _ st
  · rfl
section
variable {o : List AM.Obj} {e d dd pg lm : Nat} {on down : Bool} {left : Int} {pgs : List Pg} {ca : List (Nat × Pg)}
theorem fin_lv {a : AF} {i : Nat} (hr : a.res = [.t i]) {n : Int} {S : Nat → V} (hS : S i = .int .i64 n) {o1 r1 : List AM.Obj} {e1 d1 : Nat} (D : Dx dd pg lm o o1) (L : Low dd pg lm o o1 o.length d1) (he : o.length ≤ e1) (h1 : dd < o.length) (h2 : pg < o.length) (h3 : lm < o.length) :
    ∃ v oh, finish a ⟨o, e, d⟩ (some (.ret, S, ⟨o1 ++ r1, e1, d1⟩)) = some (v, oh) ∧ v = .val (.int .i64 n) ∧ ∃ d', Lv dd pg lm o e d oh o1 d' := by
  refine ⟨_, _, fin1 (i := i) hr, by rw [hS], ?_⟩
  obtain ⟨d2, q1, q2, q3, q4⟩ := leave_app2 (o := o) (o' := o1) (r := r1) (e := e) (d := d) (e' := e1) (d' := d1) (v := .int .i64 n) rfl D.len he (fun h => by
    rcases L.2 with L | L
    · exact L
    · omega)
  refine ⟨d2, ⟨by rw [hS]; exact q1, D, q4, ?_⟩⟩
  rcases q2 with q2 | q2
  · exact .inl q2
  · rcases L.2 with L | L
    · exact .inl L
    · exact .inr (by omega)
theorem fin_lv2 {a : AF} {i : Nat} (hr : a.res = [.t i]) {n : Int} {S : Nat → V} (hS : S i = .int .i64 n) {o1 r1 : List AM.Obj} {e1 d1 : Nat} (D : Dx dd pg lm o o1) (L : Low dd pg lm o o1 o.length d1) (he : o.length ≤ e1) (h1 : dd < o.length) (h2 : pg < o.length) (h3 : lm < o.length) {st : DSt} (P1 : PDs o1 dd pg lm on st) {w : Int × DSt} (hw : w = (n, st)) :
    ∃ v oh, finish a ⟨o, e, d⟩ (some (.ret, S, ⟨o1 ++ r1, e1, d1⟩)) = some (v, oh) ∧ v = .val (.int .i64 w.1) ∧ ∃ o' d', Lv dd pg lm o e d oh o' d' ∧ PDs o' dd pg lm on w.2 := by
  subst hw
  obtain ⟨v, oh, hf, rfl, d', hL⟩ := fin_lv (e := e) (d := d) (r1 := r1) hr hS D L he h1 h2 h3
  exact ⟨_, oh, hf, rfl, o1, d', hL, P1⟩
set_option maxHeartbeats 16000000 in
theorem mark_x (P : PD o dd pg lm on down left pgs ca) {a s : Int} {sq : Int} {lv : Bool} {c sm : Int} (h0 : 0 ≤ sm) (h1 : sm < 2 ^ 32) :
    ∃ r oh, Den FF E2 58 [.agg (regV dd a s), .agg (headV sq lv c sm)] ⟨o, e, d⟩ = some (r, oh) ∧ r = .val (.int .i64 (dMark on ⟨down, left, pgs, ca⟩ a sq lv c sm).1) ∧ ∃ o' d', Lv dd pg lm o e d oh o' d' ∧ PDs o' dd pg lm on (dMark on ⟨down, left, pgs, ca⟩ a sq lv c sm).2 := by
  refine To.denE hxE2 (f := 58) (a := af58) rfl (E2_none rfl) (Nat.le_of_ble_eq_true rfl) ?_
  have lD := P.ld
  have lP := P.lp
  have lM := P.ll
  have q1 := fun r e d => encode_q (o := o ++ r) (e := e) (d := d) (s := sq) (lv := lv) (c := c) h0 h1
  have hl := headP_len sq lv c sm
  have hv : (headV sq lv c sm).length = 4 := rfl
  have ho : (headV sq lv c sm).all V.one = true := rfl
  have ht4 : List.take 4 (headV sq lv c sm) = headV sq lv c sm := rfl
  unfold dMark
  generalize headV sq lv c sm = hV at *
  have hrv : regV dd a s = [.ptr dd 0, .int .i64 a, .int .i64 s] := rfl
  have hrl : (regV dd a s).length = 3 := rfl
  have hr1 : (regV dd a s)[1]? = some (.int .i64 a) := rfl
  have hro : (regV dd a s).all V.one = true := rfl
  have ht3 : List.take 3 (regV dd a s) = regV dd a s := rfl
  cases hr : rightH sq lv c sm
  · rw [hr] at q1
    simp only [Bool.false_eq_true, if_false] at q1 ⊢
    generalize regV dd a s = rv at *
    (repeat' (first | refine To.seq hxE2 ?_ | refine To.op0 hxE2 (by simp only [go_sem, eqs hxE2, reduceIte, seval, Heap.gets, Heap.sets, Heap.get, bytesA_length, bytesA_one, bytesA_plains, List.take_of_length_le, List.drop_of_length_le, Nat.add_zero, V.one, Nat.reduceLeDiff, List.all_cons, List.all_nil, ne_eq, not_false_eq_true, Nat.zero_le, q1, hv, ho, ht4, hrl, hro, z64_len, z64_drop, z64_take, z64_one, z64_plains]; rfl) ?_ | refine To.op1 hxE2 (by simp only [go_sem, eqs hxE2, reduceIte, seval, Heap.gets, Heap.sets, Heap.get, bytesA_length, bytesA_one, bytesA_plains, List.take_of_length_le, List.drop_of_length_le, Nat.add_zero, V.one, Nat.reduceLeDiff, List.all_cons, List.all_nil, ne_eq, not_false_eq_true, Nat.zero_le, q1, hv, ho, ht4, hrl, hro, z64_len, z64_drop, z64_take, z64_one, z64_plains]; rfl) ?_ | refine To.nop hxE2 ?_ | (refine To.condT hxE2 ?_ ?_; focus (simp only [go_sem, eqs hxE2, reduceIte, seval, Heap.gets, Heap.sets, Heap.get, bytesA_length, bytesA_one, bytesA_plains, List.take_of_length_le, List.drop_of_length_le, Nat.add_zero, V.one, Nat.reduceLeDiff, List.all_cons, List.all_nil, ne_eq, not_false_eq_true, Nat.zero_le, q1, hv, ho, ht4, hrl, hro, z64_len, z64_drop, z64_take, z64_one, z64_plains]; done)) | refine To.ret hxE2 ?_))
    exact fin_lv2 (i := 4) rfl (n := 5) (by simp only [go_sem, eqs hxE2, reduceIte, seval]) Dx.refl (Low.refl.less (by omega)) (by omega) lD lP lM P rfl
  · rw [hr] at q1
    simp only [if_true] at q1 ⊢
    have htk : List.take 64 (bytesA (headP sq lv c sm)) = bytesA (headP sq lv c sm) := List.take_of_length_le (by rw [bytesA_length]; omega)
    have hdr : List.drop 64 (bytesA (headP sq lv c sm)) = [] := List.drop_eq_nil_of_le (by rw [bytesA_length]; omega)
    generalize headP sq lv c sm = pH at *
    have hzd : List.drop 1 z65 = z64 := rfl
    generalize hrvv : regV dd a s = rv at *
    (repeat' (first | refine To.seq hxE2 ?_ | refine To.op0 hxE2 (by simp only [go_sem, eqs hxE2, reduceIte, seval, Heap.gets, Heap.sets, Heap.get, bytesA_length, bytesA_one, bytesA_plains, List.take_of_length_le, List.drop_of_length_le, Nat.add_zero, V.one, Nat.reduceLeDiff, List.all_cons, List.all_nil, ne_eq, not_false_eq_true, Nat.zero_le, q1, hv, ho, ht4, hrl, hr1, hro, ht3, hl, htk, hdr, hzd, z64_len, z64_drop, z64_take, z64_one, z64_plains, z65_len, z65_drop, List.append_nil]; rfl) ?_ | refine To.op1 hxE2 (by simp only [go_sem, eqs hxE2, reduceIte, seval, Heap.gets, Heap.sets, Heap.get, bytesA_length, bytesA_one, bytesA_plains, List.take_of_length_le, List.drop_of_length_le, Nat.add_zero, V.one, Nat.reduceLeDiff, List.all_cons, List.all_nil, ne_eq, not_false_eq_true, Nat.zero_le, q1, hv, ho, ht4, hrl, hr1, hro, ht3, hl, htk, hdr, hzd, z64_len, z64_drop, z64_take, z64_one, z64_plains, z65_len, z65_drop, List.append_nil]; rfl) ?_ | refine To.nop hxE2 ?_ | (refine To.condF hxE2 ?_ ?_; focus (simp only [go_sem, eqs hxE2, reduceIte, seval, Heap.gets, Heap.sets, Heap.get, bytesA_length, bytesA_one, bytesA_plains, List.take_of_length_le, List.drop_of_length_le, Nat.add_zero, V.one, Nat.reduceLeDiff, List.all_cons, List.all_nil, ne_eq, not_false_eq_true, Nat.zero_le, q1, hv, ho, ht4, hrl, hr1, hro, ht3, hl, htk, hdr, hzd, z64_len, z64_drop, z64_take, z64_one, z64_plains, z65_len, z65_drop, List.append_nil]; done)) | refine To.skip hxE2 ?_))
    have hrow : ChRow (o ++ [.cells .ex 100 0 rv, .cells .ex 103 0 hV, .cells .ex 31 0 (bytesA pH), .cells .ex 73 0 (V.int .i64 a :: bytesA pH)]) (.slice (o.length + 3) 0 1 65) [(a, pH)] := by
      refine ⟨rfl, fun _ => ⟨o.length + 3, .ex, 73, rfl, ?_, .inr rfl⟩, fun c hc => ?_⟩
      · rw [app_getk]
        simp [chC]
      · rw [List.mem_singleton.1 hc]; exact hl
    obtain ⟨r2, oh2, q2, rfl, o2, d2, L2, P2⟩ := rput_x (e := o.length) (d := min o.length (o.length + 2)) (a := a) (s := s) (P.app [.cells .ex 100 0 rv, .cells .ex 103 0 hV, .cells .ex 31 0 (bytesA pH), .cells .ex 73 0 (V.int .i64 a :: bytesA pH)]) hrow (by simp)
    rw [hrvv] at q2
    obtain ⟨o3, rfl, D3⟩ := L2.dx.split lD lP lM
    have hl3 := D3.len
    have P3 := PD.chop P2 (by omega) (by omega) (by omega)
    have L3 := (Low.refl (o := o) (d := o.length)).less (Nat.min_le_left o.length (o.length + 2)) |>.trans L2.low.chop
    have hg2 := L2.eq
    generalize dPut on ⟨down, left, pgs, ca⟩ [(a, pH)] = w at *
    obtain ⟨n, st⟩ := w
    simp only at q2 P3
    refine To.op hxE2 (by simp only [go_sem, eqs hxE2, reduceIte, seval, q2]; rfl) ?_
    rw [hg2]
    (repeat' (first | refine To.op0 hxE2 (by simp only [go_sem, eqs hxE2, reduceIte, seval]; rfl) ?_ | refine To.nop hxE2 ?_ | refine To.ret hxE2 ?_))
    exact fin_lv2 (i := 4) rfl (by simp only [go_sem, eqs hxE2, reduceIte, seval]) D3 L3 (Nat.le_refl _) lD lP lM P3 rfl
end
/-- A journal in memory. -/
structure PJ (o : List AM.Obj) (jl dd pg lm : Nat) (a s : Nat) (seq : Int) (over : Bool) (on : Bool) (st : DSt) : Prop where
  hj : o[jl]? = some (.cells .ex 109 0 [.ptr dd 0, .int .i64 (a : Int), .int .i64 (s : Int), .int .i64 seq, .bool over])
  P : PDs o dd pg lm on st
/-- All but the journal's and the disk's objects stays. -/
structure Jx (jl dd pg lm : Nat) (o o' : List AM.Obj) : Prop where
  len : o'.length = o.length
  get : ∀ l, l ≠ jl → l ≠ dd → l ≠ pg → l ≠ lm → o'[l]? = o[l]?
def LowJ (jl dd pg lm : Nat) (o o' : List AM.Obj) (d d' : Nat) : Prop := d' ≤ d ∧ (o' = o ∨ d' ≤ max jl (max dd (max pg lm)))
structure LvJ (jl dd pg lm : Nat) (o : List AM.Obj) (e d : Nat) (oh : Option Heap) (o' : List AM.Obj) (d' : Nat) : Prop where
  eq : oh.getD ⟨o, e, d⟩ = ⟨o', e, d'⟩
  dx : Jx jl dd pg lm o o'
  low : LowJ jl dd pg lm o o' d d'
section
variable {o o1 o2 : List AM.Obj} {e d d1 d2 jl dd pg lm a s : Nat} {on over : Bool} {seq : Int} {st : DSt}
theorem Jx.refl : Jx jl dd pg lm o o := ⟨rfl, fun _ _ _ _ _ => rfl⟩
theorem Jx.trans (h : Jx jl dd pg lm o o1) (k : Jx jl dd pg lm o1 o2) : Jx jl dd pg lm o o2 := ⟨k.len.trans h.len, fun l x a b c => (k.get l x a b c).trans (h.get l x a b c)⟩
theorem Dx.j (h : Dx dd pg lm o o1) : Jx jl dd pg lm o o1 := ⟨h.len, fun l _ a b c => h.get l a b c⟩
theorem jx_jl (x : AM.Obj) : Jx jl dd pg lm o (o.set jl x) := ⟨by simp, fun l a _ _ _ => List.getElem?_set_ne (Ne.symm a)⟩
theorem LowJ.refl : LowJ jl dd pg lm o o d d := ⟨Nat.le_refl _, .inl rfl⟩
theorem LowJ.trans {d d1 d2 : Nat} (h : LowJ jl dd pg lm o o1 d d1) (k : LowJ jl dd pg lm o1 o2 d1 d2) : LowJ jl dd pg lm o o2 d d2 := by
  obtain ⟨h1, h2⟩ := h
  obtain ⟨k1, k2⟩ := k
  refine ⟨Nat.le_trans k1 h1, ?_⟩
  rcases k2 with k2 | k2
  · rcases h2 with h2 | h2
    · exact .inl (k2.trans h2)
    · exact .inr (by omega)
  · exact .inr k2
theorem LowJ.less (h : LowJ jl dd pg lm o o1 d d1) (hd : d2 ≤ d1) : LowJ jl dd pg lm o o1 d d2 := ⟨Nat.le_trans hd h.1, h.2.imp id (fun h => Nat.le_trans hd h)⟩
theorem LowJ.chop {r o1 : List AM.Obj} (h : LowJ jl dd pg lm (o ++ r) (o1 ++ r) d d1) : LowJ jl dd pg lm o o1 d d1 := ⟨h.1, h.2.imp (fun h => List.append_cancel_right h) id⟩
theorem Low.j (h : Low dd pg lm o o1 d d1) : LowJ jl dd pg lm o o1 d d1 := ⟨h.1, h.2.imp id (fun h => by omega)⟩
theorem Jx.split {r o' : List AM.Obj} (h : Jx jl dd pg lm (o ++ r) o') (h0 : jl < o.length) (h1 : dd < o.length) (h2 : pg < o.length) (h3 : lm < o.length) : ∃ o1, o' = o1 ++ r ∧ Jx jl dd pg lm o o1 := by
  have hlen := h.len
  rw [List.length_append] at hlen
  refine ⟨o'.take o.length, ?_, by rw [List.length_take]; omega, fun l x a b c => ?_⟩
  · apply List.ext_getElem?
    intro j
    by_cases hj : j < o.length
    · rw [List.getElem?_append_left (by rw [List.length_take]; omega), List.getElem?_take_of_lt hj]
    · have := h.get j (by omega) (by omega) (by omega) (by omega)
      rw [this, List.getElem?_append_right (by omega), List.getElem?_append_right (by rw [List.length_take]; omega), List.length_take, show j - min o.length o'.length = j - o.length by omega]
  · by_cases hl : l < o.length
    · rw [List.getElem?_take_of_lt hl, h.get l x a b c, List.getElem?_append_left hl]
    · rw [List.getElem?_eq_none (by rw [List.length_take]; omega), List.getElem?_eq_none (by omega)]
theorem PJ.lj (J : PJ o jl dd pg lm a s seq over on st) : jl < o.length := get_lt J.hj
theorem PJ.n1 (J : PJ o jl dd pg lm a s seq over on st) : jl ≠ dd := ty_ne J.hj J.P.hd (by decide)
theorem PJ.n2 (J : PJ o jl dd pg lm a s seq over on st) : jl ≠ pg := ty_ne J.hj J.P.hp (by decide)
theorem PJ.n3 (J : PJ o jl dd pg lm a s seq over on st) : jl ≠ lm := ne_map J.hj J.P.hm
theorem PJ.app (J : PJ o jl dd pg lm a s seq over on st) (r : List AM.Obj) : PJ (o ++ r) jl dd pg lm a s seq over on st := ⟨app_old J.hj r, J.P.app r⟩
theorem PJ.chop {r : List AM.Obj} (J : PJ (o ++ r) jl dd pg lm a s seq over on st) (h0 : jl < o.length) (h1 : dd < o.length) (h2 : pg < o.length) (h3 : lm < o.length) : PJ o jl dd pg lm a s seq over on st :=
  ⟨by rw [← List.getElem?_append_left h0 (l₂ := r)]; exact J.hj, PD.chop J.P h1 h2 h3⟩
/-- The disk's objects turned. -/
theorem PJ.dx {st' : DSt} (J : PJ o jl dd pg lm a s seq over on st) (D : Dx dd pg lm o o1) (P1 : PDs o1 dd pg lm on st') : PJ o1 jl dd pg lm a s seq over on st' :=
  ⟨by rw [D.get _ J.n1 J.n2 J.n3]; exact J.hj, P1⟩
/-- The journal's own object turned. -/
theorem PJ.set (J : PJ o jl dd pg lm a s seq over on st) (seq' : Int) (over' : Bool) : PJ (o.set jl (.cells .ex 109 0 [.ptr dd 0, .int .i64 (a : Int), .int .i64 (s : Int), .int .i64 seq', .bool over'])) jl dd pg lm a s seq' over' on st :=
  ⟨List.getElem?_set_self J.lj, ⟨by rw [List.getElem?_set_ne J.n1]; exact J.P.hd, by rw [List.getElem?_set_ne J.n2]; exact J.P.hp, by rw [List.getElem?_set_ne J.n3]; exact J.P.hm, J.P.p64, J.P.c64, J.P.nd⟩⟩
theorem fin_lvj {a' : AF} {i : Nat} (hr : a'.res = [.t i]) {n : Int} {S : Nat → V} (hS : S i = .int .i64 n) {o1 r1 : List AM.Obj} {e1 d1 : Nat} (D : Jx jl dd pg lm o o1) (L : LowJ jl dd pg lm o o1 o.length d1) (he : o.length ≤ e1) (h0 : jl < o.length) (h1 : dd < o.length) (h2 : pg < o.length) (h3 : lm < o.length) {R : Int → List AM.Obj → Prop} (hR : R n o1) :
    ∃ v oh, finish a' ⟨o, e, d⟩ (some (.ret, S, ⟨o1 ++ r1, e1, d1⟩)) = some (v, oh) ∧ ∃ n o' d', v = .val (.int .i64 n) ∧ LvJ jl dd pg lm o e d oh o' d' ∧ R n o' := by
  refine ⟨_, _, fin1 (i := i) hr, n, o1, ?_⟩
  obtain ⟨d2, q1, q2, q3, q4⟩ := leave_app2 (o := o) (o' := o1) (r := r1) (e := e) (d := d) (e' := e1) (d' := d1) (v := .int .i64 n) rfl D.len he (fun h => by
    rcases L.2 with L | L
    · exact L
    · omega)
  refine ⟨d2, by rw [hS], ⟨by rw [hS]; exact q1, D, q4, ?_⟩, hR⟩
  rcases q2 with q2 | q2
  · exact .inl q2
  · rcases L.2 with L | L
    · exact .inl L
    · exact .inr (by omega)
set_option maxHeartbeats 16000000 in
theorem turn_x (J : PJ o jl dd pg lm a s seq over on st) {sq0 : Int} {lv : Bool} {c sm : Int} (h0 : 0 ≤ sm) (h1 : sm < 2 ^ 32) (hs0 : 0 ≤ seq) (hs1 : seq < 2 ^ 60) :
    ∃ r oh, Den FF E2 80 [.ptr jl 0, .agg (headV sq0 lv c sm)] ⟨o, e, d⟩ = some (r, oh) ∧ ∃ n o' d', r = .val (.int .i64 n) ∧ LvJ jl dd pg lm o e d oh o' d' ∧ (n = (dMark on st a seq lv c sm).1 ∧ PJ o' jl dd pg lm a s (seq + 1) over on (dMark on st a seq lv c sm).2) := by
  refine To.denE hxE2 (f := 80) (a := af80) rfl (E2_none rfl) (Nat.le_of_ble_eq_true rfl) ?_
  have lJ := J.lj
  have lD := J.P.ld
  have lP := J.P.lp
  have lM := J.P.ll
  have J1 := J.set (seq + 1) over
  have dx1 := jx_jl (jl := jl) (dd := dd) (pg := pg) (lm := lm) (o := o) (.cells .ex 109 0 [.ptr dd 0, .int .i64 (a : Int), .int .i64 (s : Int), .int .i64 (seq + 1), .bool over])
  generalize hO : o.set jl (.cells .ex 109 0 [.ptr dd 0, .int .i64 (a : Int), .int .i64 (s : Int), .int .i64 (seq + 1), .bool over]) = o1 at J1 dx1
  have hl1 := dx1.len
  have wq : IntKind.i64.wrap (seq + 1) = seq + 1 := wrap_i64 (by omega) (by omega)
  have gj : ∀ r, (o ++ r)[jl]? = some (.cells .ex 109 0 [.ptr dd 0, .int .i64 (a : Int), .int .i64 (s : Int), .int .i64 seq, .bool over]) := fun r => app_old J.hj r
  have gj1 : ∀ r, (o1 ++ r)[jl]? = some (.cells .ex 109 0 [.ptr dd 0, .int .i64 (a : Int), .int .i64 (s : Int), .int .i64 (seq + 1), .bool over]) := fun r => app_old J1.hj r
  have hst : ∀ r, (o ++ r).set jl (.cells .ex 109 0 [.ptr dd 0, .int .i64 (a : Int), .int .i64 (s : Int), .int .i64 (seq + 1), .bool over]) = o1 ++ r := fun r => by rw [← hO]; exact List.set_append_left _ _ lJ
  have gb : ∀ x : AM.Obj, (o1 ++ [x])[o.length]? = some x := fun x => by rw [← hl1]; exact app_get0 _ _ _
  obtain ⟨r2, oh2, q2, rfl, o2, d2, L2, P2⟩ := mark_x (e := o.length) (d := min o.length jl) (a := a) (s := s) (sq := seq) (lv := lv) (c := c) (J1.P.app [.cells .ex 103 0 (headV seq lv c sm)]) h0 h1
  have hhv : headV seq lv c sm = [.int .i64 seq, .bool lv, .int .i64 c, .int .u32 sm] := rfl
  have hrv : regV dd a s = [.ptr dd 0, .int .i64 (a : Int), .int .i64 (s : Int)] := rfl
  rw [hhv, hrv] at q2
  obtain ⟨o3, rfl, D3⟩ := L2.dx.split (by omega) (by omega) (by omega)
  have hl3 := D3.len
  have P3 := PD.chop P2 (by omega) (by omega) (by omega)
  have LJ : LowJ jl dd pg lm o o1 o.length (min o.length jl) := ⟨Nat.min_le_left _ _, .inr (by omega)⟩
  have L3 := LJ.trans L2.low.chop.j
  have hg2 := L2.eq
  rw [hhv] at hg2
  generalize dMark on st a seq lv c sm = w at *
  obtain ⟨n, st2⟩ := w
  simp only at q2 P3
  (repeat' (first | refine To.seq hxE2 ?_ | refine To.op0 hxE2 (by simp only [go_sem, eqs hxE2, reduceIte, seval, Heap.gets, Heap.sets, Heap.get, bytesA_length, bytesA_one, bytesA_plains, List.take_of_length_le, List.drop_of_length_le, Nat.add_zero, V.one, Nat.reduceLeDiff, List.all_cons, List.all_nil, ne_eq, not_false_eq_true, Nat.zero_le, headV, gj, gj1, hst, gb, wq]; rfl) ?_ | refine To.op1 hxE2 (by simp only [go_sem, eqs hxE2, reduceIte, seval, Heap.gets, Heap.sets, Heap.get, bytesA_length, bytesA_one, bytesA_plains, List.take_of_length_le, List.drop_of_length_le, Nat.add_zero, V.one, Nat.reduceLeDiff, List.all_cons, List.all_nil, ne_eq, not_false_eq_true, Nat.zero_le, headV, gj, gj1, hst, gb, wq]; rfl) ?_ | refine To.nop hxE2 ?_ | refine To.draw0 hxE2 ?_ | refine ToD.op0 (by simp only [go_sem, eqs hxE2, reduceIte, seval, Heap.gets, Heap.sets, Heap.get, bytesA_length, bytesA_one, bytesA_plains, List.take_of_length_le, List.drop_of_length_le, Nat.add_zero, V.one, Nat.reduceLeDiff, List.all_cons, List.all_nil, ne_eq, not_false_eq_true, Nat.zero_le, headV, gj, gj1, hst, gb, wq]; rfl) (by simp only [put_some, put_none]; rfl) ?_ | fail))
  refine ToD.callD rfl rfl rfl (by simp only [go_sem, eqs hxE2, reduceIte, seval]; exact q2) hg2 rfl ?_
  (repeat' (first | refine To.ret hxE2 ?_ | refine ToD.op0 (by simp only [go_sem, eqs hxE2, reduceIte, seval]; rfl) (by simp only [put_some, put_none]; rfl) ?_ | refine ToD.nop ?_))
  skip
  exact fin_lvj (R := fun m o' => m = n ∧ PJ o' jl dd pg lm a s (seq + 1) over on st2) (i := 4) rfl (by simp only [go_sem, eqs hxE2, reduceIte, seval]) (dx1.trans D3.j) L3 (Nat.le_refl _) lJ lD lP lM ⟨rfl, J1.dx D3 P3⟩
end
end Go.Proofs.Ytfbkeieoeagkdaa

/- Journal: a Commit's steps. -/
namespace Go.Proofs.Ytfbkeieoeagkdaa
open Go AM
set_option linter.unusedSimpArgs false
set_option linter.unusedVariables false
set_option maxRecDepth 100000

def dMake (on : Bool) (st : DSt) (a : Nat) (seq : Int) (cs : List (Int × Pg)) : Int × Int × DSt :=
  if (dPut on st (fromL ((a : Int) + 1) (laidL cs))).1 ≠ 0 then ((dPut on st (fromL ((a : Int) + 1) (laidL cs))).1, seq, (dPut on st (fromL ((a : Int) + 1) (laidL cs))).2) else
  if (dMark on (dPut on st (fromL ((a : Int) + 1) (laidL cs))).2 a seq true cs.length (sumP (laidL cs))).1 ≠ 0 then ((dMark on (dPut on st (fromL ((a : Int) + 1) (laidL cs))).2 a seq true cs.length (sumP (laidL cs))).1, seq + 1, (dMark on (dPut on st (fromL ((a : Int) + 1) (laidL cs))).2 a seq true cs.length (sumP (laidL cs))).2) else
  if (dPut on (dMark on (dPut on st (fromL ((a : Int) + 1) (laidL cs))).2 a seq true cs.length (sumP (laidL cs))).2 cs).1 ≠ 0 then ((dPut on (dMark on (dPut on st (fromL ((a : Int) + 1) (laidL cs))).2 a seq true cs.length (sumP (laidL cs))).2 cs).1, seq + 1, (dPut on (dMark on (dPut on st (fromL ((a : Int) + 1) (laidL cs))).2 a seq true cs.length (sumP (laidL cs))).2 cs).2) else
  ((dMark on (dPut on (dMark on (dPut on st (fromL ((a : Int) + 1) (laidL cs))).2 a seq true cs.length (sumP (laidL cs))).2 cs).2 a (seq + 1) false 0 0).1, seq + 2, (dMark on (dPut on (dMark on (dPut on st (fromL ((a : Int) + 1) (laidL cs))).2 a seq true cs.length (sumP (laidL cs))).2 cs).2 a (seq + 1) false 0 0).2)
section
variable {o o1 o2 : List AM.Obj} {e d d1 d2 jl dd pg lm a s : Nat} {on over : Bool} {seq : Int} {st : DSt}
theorem ChRow.jx {v : V} {cs : List (Int × Pg)} (h : ChRow o v cs) (J : PJ o jl dd pg lm a s seq over on st) (D : Jx jl dd pg lm o o1) : ChRow o1 v cs := by
  refine ⟨h.len, fun hc => ?_, h.p64⟩
  obtain ⟨l, ck, t, h1, h2, h3⟩ := h.at_ hc
  refine ⟨l, ck, t, h1, ?_, h3⟩
  rw [D.get l ?_ ?_ ?_ ?_]
  · exact h2
  · rintro rfl
    have := J.hj
    rw [h2] at this
    simp only [Option.some.injEq, AM.Obj.cells.injEq] at this
    rcases h3 with rfl | rfl
    · cases this.1
    · exact absurd this.2.1 (by decide)
  · rintro rfl
    have := J.P.hd
    rw [h2] at this
    simp only [Option.some.injEq, AM.Obj.cells.injEq] at this
    rcases h3 with rfl | rfl
    · cases this.1
    · exact absurd this.2.1 (by decide)
  · rintro rfl
    have := J.P.hp
    rw [h2] at this
    simp only [Option.some.injEq, AM.Obj.cells.injEq] at this
    rcases h3 with rfl | rfl
    · cases this.1
    · exact absurd this.2.1 (by decide)
  · rintro rfl
    have := J.P.hm
    rw [h2] at this
    cases this
theorem GrowX.base {rr : List AM.Obj} {v : V} {t e' : Nat} {rows : List (List V)} (h : GrowX (o ++ rr) o.length v t e' rows) (hl : o1.length = o.length) : GrowX (o1 ++ rr) o.length v t e' rows := by
  rcases h with h | ⟨m, ck, h1, h2, h3, h4⟩
  · exact .inl h
  · refine .inr ⟨m, ck, h1, ?_, h3, h4⟩
    rw [List.getElem?_append_right h3] at h2
    rw [List.getElem?_append_right (by omega), hl]
    exact h2
set_option maxHeartbeats 32000000 in
theorem make_x (J : PJ o jl dd pg lm a s seq over on st) {v : V} {cs : List (Int × Pg)} (hc : ChRow o v cs) (hn : cs.length ≤ 500) (ha : a ≤ 100000) (hs0 : 0 ≤ seq) (hs1 : seq < 2 ^ 59) :
    ∃ r oh, Den FF E2 61 [.ptr jl 0, v] ⟨o, e, d⟩ = some (r, oh) ∧ ∃ n o' d', r = .val (.int .i64 n) ∧ LvJ jl dd pg lm o e d oh o' d' ∧ (n = (dMake on st a seq cs).1 ∧ PJ o' jl dd pg lm a s (dMake on st a seq cs).2.1 over on (dMake on st a seq cs).2.2) := by
  refine To.denE hxE2 (f := 61) (a := af61) rfl (E2_none rfl) (Nat.le_of_ble_eq_true rfl) ?_
  have lJ := J.lj
  have lD := J.P.ld
  have lP := J.P.lp
  have lM := J.P.ll
  have hl := hc.len
  have hL : (laidL cs).length ≤ 1000 := by rw [laidL_len]; unfold listsN; omega
  obtain ⟨r0, oh0, q0, pv, rr0, e0, d0, rfl, hpl, G0, hG0⟩ := laid_x (e := o.length) (d := o.length) hc hn
  have he0 : e0 = o.length := by have := G0.e; omega
  have hd0 : d0 = o.length := by have := G0.d; omega
  subst he0 hd0
  have hp0 := PgRow.grow hG0 (laidL_64 hc.p64)
  obtain ⟨r1, oh1, q1, v1, rr1, e1, d1, rfl, G1, hc1⟩ := from_x (e := o.length) (d := o.length) hp0 hL (a := (a : Int) + 1) (by omega) (by omega)
  have he1 : e1 = o.length := by have := G1.e; rw [List.length_append] at this; omega
  have hd1 : d1 = o.length := by have := G1.d; rw [List.length_append] at this; omega
  subst he1 hd1
  rw [List.append_assoc] at hc1
  have g1 := G1.eq
  rw [List.append_assoc] at g1
  obtain ⟨r2, oh2, q2, rfl, o2', d2, L2, P2⟩ := rput_x (e := o.length) (d := o.length) (a := (a : Int)) (s := (s : Int)) (J.P.app (rr0 ++ rr1)) hc1 (by rw [fromL_len]; omega)
  obtain ⟨o2, rfl, D2⟩ := L2.dx.split lD lP lM
  have hl2 := D2.len
  have P2' := PD.chop P2 (by omega) (by omega) (by omega)
  have M2 : LowJ jl dd pg lm o o2 o.length d2 := L2.low.chop.j
  have g2 := L2.eq
  have hrv : regV dd a s = [.ptr dd 0, .int .i64 (a : Int), .int .i64 (s : Int)] := rfl
  have gj : ∀ r, (o ++ r)[jl]? = some (.cells .ex 109 0 [.ptr dd 0, .int .i64 (a : Int), .int .i64 (s : Int), .int .i64 seq, .bool over]) := fun r => app_old J.hj r
  have wa : IntKind.i64.wrap ((a : Int) + 1) = (a : Int) + 1 := wrap_i64 (by omega) (by omega)
  have hG1 : GrowX (o ++ (rr0 ++ rr1)) o.length pv 31 64 ((laidL cs).map bytesA) := by rw [← List.append_assoc]; exact hG0.app
  have hp2 := PgRow.grow (hG1.base hl2) (laidL_64 hc.p64)
  have qs := fun e d => sumPages_q (e := e) (d := d) hp2 (by omega)
  have hsl := sumP_lt (laidL cs)
  generalize rr0 ++ rr1 = R at *
  obtain ⟨n1, st1, hw1⟩ : ∃ n1 st1, dPut on st (fromL ((a : Int) + 1) (laidL cs)) = (n1, st1) := ⟨_, _, rfl⟩
  obtain ⟨n2, st2, hw2⟩ : ∃ n2 st2, dMark on st1 a seq true cs.length (sumP (laidL cs)) = (n2, st2) := ⟨_, _, rfl⟩
  obtain ⟨n3, st3, hw3⟩ : ∃ n3 st3, dPut on st2 cs = (n3, st3) := ⟨_, _, rfl⟩
  obtain ⟨n4, st4, hw4⟩ : ∃ n4 st4, dMark on st3 a (seq + 1) false 0 0 = (n4, st4) := ⟨_, _, rfl⟩
  have hw1' : dPut on ⟨st.down, st.left, st.pgs, st.ca⟩ (fromL ((a : Int) + 1) (laidL cs)) = (n1, st1) := hw1
  rw [hw1'] at q2
  rw [hw1'] at P2'
  have J2 : PJ o2 jl dd pg lm a s seq over on st1 := J.dx D2 P2'
  simp only at q2
  (repeat' (first | refine To.seq hxE2 ?_ | refine To.op0 hxE2 (by simp only [go_sem, eqs hxE2, reduceIte, seval]; rfl) ?_ | refine To.nop hxE2 ?_))
  refine To.op hxE2 (by simp only [go_sem, eqs hxE2, reduceIte, seval, q0]; rfl) ?_
  rw [show oh0.getD (AM.enter ⟨o, e, d⟩) = ⟨o ++ rr0, o.length, o.length⟩ from G0.eq]
  (repeat' (first | refine To.seq hxE2 ?_ | refine To.op0 hxE2 (by simp only [go_sem, eqs hxE2, reduceIte, seval, Heap.gets, Heap.sets, Heap.get, bytesA_length, bytesA_one, bytesA_plains, List.take_of_length_le, List.drop_of_length_le, Nat.add_zero, V.one, Nat.reduceLeDiff, List.all_cons, List.all_nil, ne_eq, not_false_eq_true, Nat.zero_le, gj, wa]; rfl) ?_ | refine To.nop hxE2 ?_ | refine To.draw0 hxE2 ?_ | refine ToD.op0 (by simp only [go_sem, eqs hxE2, reduceIte, seval, Heap.gets, Heap.sets, Heap.get, bytesA_length, bytesA_one, bytesA_plains, List.take_of_length_le, List.drop_of_length_le, Nat.add_zero, V.one, Nat.reduceLeDiff, List.all_cons, List.all_nil, ne_eq, not_false_eq_true, Nat.zero_le, gj, wa]; rfl) (by simp only [put_some, put_none]; rfl) ?_ | fail))
  refine ToD.callD rfl rfl rfl (by simp only [go_sem, eqs hxE2, reduceIte, seval]; exact q1) g1 ?_ ?_
  · simp only [go_sem, eqs hxE2, reduceIte, seval, Heap.gets, Heap.sets, Heap.get, bytesA_length, bytesA_one, bytesA_plains, List.take_of_length_le, List.drop_of_length_le, Nat.add_zero, V.one, Nat.reduceLeDiff, List.all_cons, List.all_nil, ne_eq, not_false_eq_true, Nat.zero_le, lookA, List.all_cons, List.all_nil, gj]
  refine ToD.callD rfl rfl rfl (by simp only [go_sem, eqs hxE2, reduceIte, seval]; exact q2) g2 rfl ?_
  (repeat' (first | refine To.seq hxE2 ?_ | refine To.op0 hxE2 (by simp only [go_sem, eqs hxE2, reduceIte, seval]; rfl) ?_ | refine To.nop hxE2 ?_ | refine ToD.op0 (by simp only [go_sem, eqs hxE2, reduceIte, seval]; rfl) (by simp only [put_some, put_none]; rfl) ?_ | refine ToD.nop ?_))
  by_cases hz1 : n1 = 0
  case neg =>
    have hb : (n1 != 0) = true := by simpa using hz1
    have hr : dMake on st a seq cs = (n1, seq, st1) := by
      unfold dMake
      rw [hw1, if_pos (by simpa using hz1)]
    (repeat' (first | refine To.seq hxE2 ?_ | refine To.op0 hxE2 (by simp only [go_sem, eqs hxE2, reduceIte, seval, hb]; rfl) ?_ | refine To.nop hxE2 ?_ | (refine To.condT hxE2 ?_ ?_; focus (simp only [go_sem, eqs hxE2, reduceIte, seval, hb]; done)) | refine To.ret hxE2 ?_))
    exact fin_lvj (n := n1) (R := fun m o' => m = (dMake on st a seq cs).1 ∧ PJ o' jl dd pg lm a s (dMake on st a seq cs).2.1 over on (dMake on st a seq cs).2.2) (i := 4) rfl (by simp only [go_sem, eqs hxE2, reduceIte, seval]) D2.j M2 (Nat.le_refl _) lJ lD lP lM (by rw [hr]; exact ⟨rfl, J2⟩)
  subst hz1
  obtain ⟨r3, oh3, q3, n2', o3', d3, rfl, L3, rfl, J3'⟩ := turn_x (e := o.length) (d := d2) (sq0 := 0) (lv := true) (c := (cs.length : Int)) (sm := (sumP (laidL cs) : Int)) (J2.app R) (by omega) (by omega) hs0 (by omega)
  rw [hw2] at q3 J3'
  simp only at q3 J3'
  obtain ⟨o3, rfl, D3⟩ := L3.dx.split (by omega) (by omega) (by omega) (by omega)
  have hl3 := D3.len
  have J3 := J3'.chop (by omega) (by omega) (by omega) (by omega)
  have M3 := M2.trans L3.low.chop
  have g3 := L3.eq
  have hhv : headV 0 true (cs.length : Int) (sumP (laidL cs) : Int) = [.int .i64 0, .bool true, .int .i64 (cs.length : Int), .int .u32 (sumP (laidL cs) : Int)] := rfl
  rw [hhv] at q3
  (repeat' (first | refine To.seq hxE2 ?_ | refine To.op0 hxE2 (by simp only [go_sem, eqs hxE2, reduceIte, seval, hl, qs, bne_self_eq_false]; rfl) ?_ | (refine To.condF hxE2 ?_ ?_; focus (simp only [go_sem, eqs hxE2, reduceIte, seval, hl, qs, bne_self_eq_false]; done)) | refine To.skip hxE2 ?_))
  refine To.op hxE2 (by simp only [go_sem, eqs hxE2, reduceIte, seval, q3]; rfl) ?_
  rw [g3]
  (repeat' (first | refine To.seq hxE2 ?_ | refine To.op0 hxE2 (by simp only [go_sem, eqs hxE2, reduceIte, seval]; rfl) ?_ | refine To.nop hxE2 ?_))
  by_cases hz2 : n2 = 0
  case neg =>
    have hb : (n2 != 0) = true := by simpa using hz2
    have hr : dMake on st a seq cs = (n2, seq + 1, st2) := by
      unfold dMake
      rw [hw1, if_neg (by simp), hw2, if_pos (by simpa using hz2)]
    (repeat' (first | refine To.seq hxE2 ?_ | refine To.op0 hxE2 (by simp only [go_sem, eqs hxE2, reduceIte, seval, hb]; rfl) ?_ | refine To.nop hxE2 ?_ | (refine To.condT hxE2 ?_ ?_; focus (simp only [go_sem, eqs hxE2, reduceIte, seval, hb]; done)) | refine To.ret hxE2 ?_))
    exact fin_lvj (n := n2) (R := fun m o' => m = (dMake on st a seq cs).1 ∧ PJ o' jl dd pg lm a s (dMake on st a seq cs).2.1 over on (dMake on st a seq cs).2.2) (i := 4) rfl (by simp only [go_sem, eqs hxE2, reduceIte, seval]) (D2.j.trans D3) M3 (Nat.le_refl _) lJ lD lP lM (by rw [hr]; exact ⟨rfl, J3⟩)
  subst hz2
  have hc3 := ((hc.jx J D2.j).jx J2 D3).app R
  obtain ⟨r4, oh4, q4, rfl, o4', d4, L4, P4⟩ := rput_x (e := o.length) (d := d3) (a := (a : Int)) (s := (s : Int)) (J3.P.app R) hc3 (by omega)
  have hw3' : dPut on ⟨st2.down, st2.left, st2.pgs, st2.ca⟩ cs = (n3, st3) := hw3
  rw [hw3'] at q4 P4
  simp only at q4 P4
  obtain ⟨o4, rfl, D4⟩ := L4.dx.split (by omega) (by omega) (by omega)
  have hl4 := D4.len
  have J4 := J3.dx D4 (PD.chop P4 (by omega) (by omega) (by omega))
  have M4 := M3.trans L4.low.chop.j
  have g4 := L4.eq
  have gj3 : ∀ r, (o3 ++ r)[jl]? = some (.cells .ex 109 0 [.ptr dd 0, .int .i64 (a : Int), .int .i64 (s : Int), .int .i64 (seq + 1), .bool over]) := fun r => app_old J3.hj r
  rw [hrv] at q4
  (repeat' (first | refine To.seq hxE2 ?_ | refine To.op0 hxE2 (by simp only [go_sem, eqs hxE2, reduceIte, seval, Heap.gets, Heap.sets, Heap.get, bytesA_length, bytesA_one, bytesA_plains, List.take_of_length_le, List.drop_of_length_le, Nat.add_zero, V.one, Nat.reduceLeDiff, List.all_cons, List.all_nil, ne_eq, not_false_eq_true, Nat.zero_le, gj3, bne_self_eq_false]; rfl) ?_ | (refine To.condF hxE2 ?_ ?_; focus (simp only [go_sem, eqs hxE2, reduceIte, seval, Heap.gets, Heap.sets, Heap.get, bytesA_length, bytesA_one, bytesA_plains, List.take_of_length_le, List.drop_of_length_le, Nat.add_zero, V.one, Nat.reduceLeDiff, List.all_cons, List.all_nil, ne_eq, not_false_eq_true, Nat.zero_le, gj3, bne_self_eq_false]; done)) | refine To.skip hxE2 ?_))
  refine To.op hxE2 (by simp only [go_sem, eqs hxE2, reduceIte, seval, q4]; rfl) ?_
  rw [g4]
  (repeat' (first | refine To.seq hxE2 ?_ | refine To.op0 hxE2 (by simp only [go_sem, eqs hxE2, reduceIte, seval]; rfl) ?_ | refine To.nop hxE2 ?_))
  by_cases hz3 : n3 = 0
  case neg =>
    have hb : (n3 != 0) = true := by simpa using hz3
    have hr : dMake on st a seq cs = (n3, seq + 1, st3) := by
      unfold dMake
      rw [hw1, if_neg (by simp), hw2, if_neg (by simp), hw3, if_pos (by simpa using hz3)]
    (repeat' (first | refine To.seq hxE2 ?_ | refine To.op0 hxE2 (by simp only [go_sem, eqs hxE2, reduceIte, seval, hb]; rfl) ?_ | refine To.nop hxE2 ?_ | (refine To.condT hxE2 ?_ ?_; focus (simp only [go_sem, eqs hxE2, reduceIte, seval, hb]; done)) | refine To.ret hxE2 ?_))
    exact fin_lvj (n := n3) (R := fun m o' => m = (dMake on st a seq cs).1 ∧ PJ o' jl dd pg lm a s (dMake on st a seq cs).2.1 over on (dMake on st a seq cs).2.2) (i := 4) rfl (by simp only [go_sem, eqs hxE2, reduceIte, seval]) ((D2.j.trans D3).trans D4.j) M4 (Nat.le_refl _) lJ lD lP lM (by rw [hr]; exact ⟨rfl, J4⟩)
  subst hz3
  obtain ⟨r5, oh5, q5, n4', o5', d5, rfl, L5, rfl, J5'⟩ := turn_x (e := o.length) (d := d4) (sq0 := 0) (lv := false) (c := 0) (sm := 0) (J4.app R) (by omega) (by omega) (by omega) (by omega)
  rw [hw4] at q5 J5'
  simp only at q5 J5'
  obtain ⟨o5, rfl, D5⟩ := L5.dx.split (by omega) (by omega) (by omega) (by omega)
  have hl5 := D5.len
  have J5 := J5'.chop (by omega) (by omega) (by omega) (by omega)
  have M5 := M4.trans L5.low.chop
  have g5 := L5.eq
  have hhv2 : headV 0 false 0 0 = [.int .i64 0, .bool false, .int .i64 0, .int .u32 0] := rfl
  rw [hhv2] at q5
  have hr : dMake on st a seq cs = (n4, seq + 2, st4) := by
    unfold dMake
    rw [hw1, if_neg (by simp), hw2, if_neg (by simp), hw3, if_neg (by simp), hw4]
  have e2 : seq + 1 + 1 = seq + 2 := by omega
  rw [e2] at J5
  (repeat' (first | refine To.seq hxE2 ?_ | refine To.op0 hxE2 (by simp only [go_sem, eqs hxE2, reduceIte, seval, bne_self_eq_false]; rfl) ?_ | (refine To.condF hxE2 ?_ ?_; focus (simp only [go_sem, eqs hxE2, reduceIte, seval, bne_self_eq_false]; done)) | refine To.skip hxE2 ?_))
  refine To.op hxE2 (by simp only [go_sem, eqs hxE2, reduceIte, seval, q5]; rfl) ?_
  rw [g5]
  (repeat' (first | refine To.op0 hxE2 (by simp only [go_sem, eqs hxE2, reduceIte, seval]; rfl) ?_ | refine To.nop hxE2 ?_ | refine To.ret hxE2 ?_))
  exact fin_lvj (n := n4) (R := fun m o' => m = (dMake on st a seq cs).1 ∧ PJ o' jl dd pg lm a s (dMake on st a seq cs).2.1 over on (dMake on st a seq cs).2.2) (i := 4) rfl (by simp only [go_sem, eqs hxE2, reduceIte, seval]) (((D2.j.trans D3).trans D4.j).trans D5) M5 (Nat.le_refl _) lJ lD lP lM (by rw [hr]; exact ⟨rfl, J5⟩)
end
end Go.Proofs.Ytfbkeieoeagkdaa

/- Journal: Commit. -/
namespace Go.Proofs.Ytfbkeieoeagkdaa
open Go AM
set_option linter.unusedSimpArgs false
set_option linter.unusedVariables false
set_option maxRecDepth 100000

def seenE (l : List Int) : List (V × V) := l.map fun k => (.int .i64 k, .bool true)
theorem seen_lone {k : Int} {l : List Int} (h : k ∉ l) : loneK .i (.int .i64 k) (seenE l) = true := by
  refine List.all_eq_true.2 fun e he => ?_
  obtain ⟨j, hj, rfl⟩ := List.mem_map.1 he
  have : (k == j) = false := by simpa using fun hk : k = j => h (hk ▸ hj)
  simp only [eqK_int, this]
theorem seen_find (k : Int) : ∀ {l : List Int}, l.Nodup → mapFind .i (.int .i64 k) (seenE l) = some (if k ∈ l then some (.bool true) else none)
  | [], _ => rfl
  | j :: r, h => by
    obtain ⟨h1, h2⟩ := List.nodup_cons.1 h
    have ih := seen_find k h2
    have e1 : seenE (j :: r) = (.int .i64 j, .bool true) :: seenE r := rfl
    rw [e1]
    unfold mapFind
    by_cases hk : k = j
    · subst hk
      have : (k == k) = true := beq_self_eq_true _
      simp only [eqK_int, this, seen_lone h1, if_true]
      rw [if_pos List.mem_cons_self]
    · have : (k == j) = false := by simpa using hk
      simp only [eqK_int, this]
      rw [ih]
      have : k ∈ j :: r ↔ k ∈ r := by simp [hk]
      simp only [this]
theorem seen_put (k : Int) : ∀ {l : List Int}, k ∉ l → mapPut .i (.int .i64 k) (.bool true) (seenE l) = some (seenE (l ++ [k]))
  | [], _ => rfl
  | j :: r, h => by
    have hk : k ≠ j := fun hk => h (hk ▸ List.mem_cons_self)
    have ih := seen_put k (l := r) fun hr => h (List.mem_cons_of_mem _ hr)
    have e1 : seenE (j :: r) = (.int .i64 j, .bool true) :: seenE r := rfl
    rw [e1]
    unfold mapPut
    have : (k == j) = false := by simpa using hk
    simp only [eqK_int, this, ih]
    rfl
def goodC (np a s : Nat) (cs : List (Int × Pg)) : Bool := cs.all (fun c => mayB np a s c.1) && decide (cs.map (·.1)).Nodup
def wrongE (np a s : Nat) (cs : List (Int × Pg)) : Int := if goodC np a s cs = true then (if roomJ s < cs.length then 28 else 0) else 22
section
variable {o o1 o2 : List AM.Obj} {e d d1 d2 jl dd pg lm a s : Nat} {on over : Bool} {seq : Int} {st : DSt}
set_option maxHeartbeats 1000000 in
theorem jover_q (J : PJ o jl dd pg lm a s seq over on st) : Den FF E2 59 [.ptr jl 0] ⟨o, e, d⟩ = some (.val (.bool over), none) := by
  refine To.den hxE2 (f := 59) (a := af59) rfl (E2_none rfl) (Nat.le_of_ble_eq_true rfl) ?_
  (repeat' (first | refine To.seq hxE2 ?_ | refine To.op0 hxE2 (by simp only [go_sem, eqs hxE2, reduceIte, seval, Heap.gets, Heap.sets, Heap.get, bytesA_length, bytesA_one, bytesA_plains, List.take_of_length_le, List.drop_of_length_le, Nat.add_zero, V.one, Nat.reduceLeDiff, List.all_cons, List.all_nil, ne_eq, not_false_eq_true, Nat.zero_le, J.hj]; rfl) ?_ | refine To.nop hxE2 ?_ | refine To.ret hxE2 ?_))
  try simp only [andThen, outOf]
  exact fin_k1 (i := 2) (v := .bool over) rfl (by simp only [go_sem, eqs hxE2, reduceIte, seval]) rfl (Kp.enter' _)
set_option maxHeartbeats 1000000 in
theorem jroom_q (J : PJ o jl dd pg lm a s seq over on st) : Den FF E2 54 [.ptr jl 0] ⟨o, e, d⟩ = some (.val (.int .i64 (roomJ s : Int)), none) := by
  refine To.den hxE2 (f := 54) (a := af54) rfl (E2_none rfl) (Nat.le_of_ble_eq_true rfl) ?_
  have q := fun e d => room_q (o := o) (e := e) (d := d) (size := (s : Int))
  (repeat' (first | refine To.seq hxE2 ?_ | refine To.op0 hxE2 (by simp only [go_sem, eqs hxE2, reduceIte, seval, Heap.gets, Heap.sets, Heap.get, bytesA_length, bytesA_one, bytesA_plains, List.take_of_length_le, List.drop_of_length_le, Nat.add_zero, V.one, Nat.reduceLeDiff, List.all_cons, List.all_nil, ne_eq, not_false_eq_true, Nat.zero_le, J.hj, q]; rfl) ?_ | refine To.nop hxE2 ?_ | (refine To.condF hxE2 ?_ ?_; focus (simp only [go_sem, eqs hxE2, reduceIte, seval, Heap.gets, Heap.sets, Heap.get, bytesA_length, bytesA_one, bytesA_plains, List.take_of_length_le, List.drop_of_length_le, Nat.add_zero, V.one, Nat.reduceLeDiff, List.all_cons, List.all_nil, ne_eq, not_false_eq_true, Nat.zero_le, J.hj, q]; done)) | refine To.ret hxE2 ?_ | refine To.skip hxE2 ?_))
  try simp only [andThen, outOf]
  exact fin_k1 (i := 2) (v := .int .i64 (roomJ s : Int)) rfl (by simp only [go_sem, eqs hxE2, reduceIte, seval]) rfl (Kp.enter' _)
set_option maxHeartbeats 16000000 in
theorem wrong_q (J : PJ o jl dd pg lm a s seq over on st) {v : V} {cs : List (Int × Pg)} (hc : ChRow o v cs) (hn : cs.length ≤ 500) (ha : a ≤ 1000000) (hs : s ≤ 1000000) : Den FF E2 60 [.ptr jl 0, v] ⟨o, e, d⟩ = some (.val (.int .i64 (wrongE st.pgs.length a s cs)), none) := by
  refine To.den hxE2 (f := 60) (a := af60) rfl (E2_none rfl) (Nat.le_of_ble_eq_true rfl) ?_
  have hl := hc.len
  have gj : ∀ r, (o ++ r)[jl]? = some (.cells .ex 109 0 [.ptr dd 0, .int .i64 (a : Int), .int .i64 (s : Int), .int .i64 seq, .bool over]) := fun r => app_old J.hj r
  (repeat' (first | refine To.seq hxE2 ?_ | refine To.op0 hxE2 (by simp only [go_sem, eqs hxE2, reduceIte, seval, Heap.gets, Heap.sets, Heap.get, bytesA_length, bytesA_one, bytesA_plains, List.take_of_length_le, List.drop_of_length_le, Nat.add_zero, V.one, Nat.reduceLeDiff, List.all_cons, List.all_nil, ne_eq, not_false_eq_true, Nat.zero_le, hl]; rfl) ?_ | refine To.op1 hxE2 (by simp only [go_sem, eqs hxE2, reduceIte, seval, Heap.gets, Heap.sets, Heap.get, bytesA_length, bytesA_one, bytesA_plains, List.take_of_length_le, List.drop_of_length_le, Nat.add_zero, V.one, Nat.reduceLeDiff, List.all_cons, List.all_nil, ne_eq, not_false_eq_true, Nat.zero_le, hl]; rfl) ?_ | refine To.nop hxE2 ?_ | refine To.block hxE2 ?_))
  refine To.loop hxE2 (fun m S h' => ∃ (i e1 d1 : Nat) (r : List AM.Obj), i + m = cs.length ∧ h' = ⟨o ++ (.map (seenE ((cs.take i).map (·.1))) :: r), e1, d1⟩ ∧ o.length ≤ e1 ∧ o.length ≤ d1 ∧ (cs.take i).all (fun c => mayB st.pgs.length a s c.1) = true ∧ ((cs.take i).map (·.1)).Nodup ∧ S 0 = .ptr jl 0 ∧ S 1 = v ∧ S 5 = .map o.length ∧ S 9 = v ∧ S 10 = .int .i64 (cs.length : Int) ∧ S 11 = .int .i64 (i : Int)) ?_ cs.length _ _ ?_
  · rintro m S _ ⟨i, e1, d1, r, hm, rfl, he, hd, hall, hnd, s0, s1, s5, s9, s10, s11⟩
    by_cases hi : i < cs.length
    · have hlt : decide ((i : Int) < (cs.length : Int)) = true := decide_eq_true (by omega)
      have ix : idxOf cs.length (.int .i64 (i : Int)) = some i := idxOf_nat hi
      have wi : IntKind.i64.wrap ((i : Int) + 1) = ((i + 1 : Nat) : Int) := by rw [wrap_i64 (by omega) (by omega)]; omega
      obtain ⟨c, hx⟩ : ∃ c, cs[i]? = some c := ⟨cs[i], List.getElem?_eq_getElem hi⟩
      obtain ⟨l, ck, t, rfl, hlb, hkd⟩ := hc.at_ (by rintro rfl; simp at hi)
      have h65 : ∀ r ∈ cs.map chC, r.length = 65 := by
        intro r hr
        obtain ⟨y, hy, rfl⟩ := List.mem_map.1 hr
        exact chC_len (hc.p64 y hy)
      obtain ⟨a1, a2⟩ := flat_drop h65 (by rw [List.getElem?_map, hx]; rfl : (cs.map chC)[i]? = some (chC c))
      have hcl := chC_len (hc.p64 c (List.mem_of_getElem? hx))
      have hco := chC_one c
      have hcp := chC_plains c
      have hc0 : (chC c)[0]? = some (.int .i64 c.1) := rfl
      have gl : ∀ r, (o ++ r)[l]? = some (.cells ck t 0 (cs.map chC).flatten) := fun r => app_old hlb r
      have qm := fun r e d => may_q (e := e) (d := d) (J.P.app r) ha hs c.1
      have hrv : regV dd a s = [.ptr dd 0, .int .i64 (a : Int), .int .i64 (s : Int)] := rfl
      rw [hrv] at qm
      have gm : ∀ (x : AM.Obj) r', (o ++ (x :: r'))[o.length]? = some x := fun x r' => app_get0 _ _ _
      have gb : ∀ x y : AM.Obj, (o ++ (x :: (r ++ [y])))[o.length + (r.length + 1)]? = some y := fun x y => by
        rw [app_getk, List.getElem?_cons_succ]; simp
      have hkey : V.key .i (.int .i64 c.1) = true := rfl
      have hsf := seen_find c.1 hnd
      have htk1 : cs.take (i + 1) = cs.take i ++ [c] := by rw [List.take_add_one, hx]; rfl
      cases hmay : mayB st.pgs.length a s c.1
      · rw [hmay] at qm
        have hw : wrongE st.pgs.length a s cs = 22 := by
          unfold wrongE goodC
          rw [if_neg]
          intro h
          rw [Bool.and_eq_true] at h
          have := List.all_eq_true.1 h.1 c (List.mem_of_getElem? hx)
          rw [hmay] at this; cases this
        rw [hw]
        (repeat' (first | refine To.seq hxE2 ?_ | refine To.op0 hxE2 (by simp only [go_sem, eqs hxE2, reduceIte, seval, Heap.gets, Heap.sets, Heap.get, bytesA_length, bytesA_one, bytesA_plains, List.take_of_length_le, List.drop_of_length_le, Nat.add_zero, V.one, Nat.reduceLeDiff, List.all_cons, List.all_nil, ne_eq, not_false_eq_true, Nat.zero_le, s0, s5, s9, s10, s11, hlt, ix, gl, a1, a2, hcl, hco, hcp, hc0, gj, gb, gm, qm, z65_len, z65_drop, z65_one, z65_plains, List.append_nil]; rfl) ?_ | refine To.op1 hxE2 (by simp only [go_sem, eqs hxE2, reduceIte, seval, Heap.gets, Heap.sets, Heap.get, bytesA_length, bytesA_one, bytesA_plains, List.take_of_length_le, List.drop_of_length_le, Nat.add_zero, V.one, Nat.reduceLeDiff, List.all_cons, List.all_nil, ne_eq, not_false_eq_true, Nat.zero_le, s0, s5, s9, s10, s11, hlt, ix, gl, a1, a2, hcl, hco, hcp, hc0, gj, gb, gm, qm, z65_len, z65_drop, z65_one, z65_plains, List.append_nil]; rfl) ?_ | refine To.nop hxE2 ?_ | (refine To.condT hxE2 ?_ ?_; focus (simp only [go_sem, eqs hxE2, reduceIte, seval, Heap.gets, Heap.sets, Heap.get, bytesA_length, bytesA_one, bytesA_plains, List.take_of_length_le, List.drop_of_length_le, Nat.add_zero, V.one, Nat.reduceLeDiff, List.all_cons, List.all_nil, ne_eq, not_false_eq_true, Nat.zero_le, s0, s5, s9, s10, s11, hlt, ix, gl, a1, a2, hcl, hco, hcp, hc0, gj, gb, gm, qm, z65_len, z65_drop, z65_one, z65_plains, List.append_nil]; done)) | refine To.block hxE2 ?_ | refine To.ret hxE2 ?_ | refine To.skip hxE2 ?_ | refine To.draw0 hxE2 ?_ | refine ToD.op0 (by simp only [go_sem, eqs hxE2, reduceIte, seval, Heap.gets, Heap.sets, Heap.get, bytesA_length, bytesA_one, bytesA_plains, List.take_of_length_le, List.drop_of_length_le, Nat.add_zero, V.one, Nat.reduceLeDiff, List.all_cons, List.all_nil, ne_eq, not_false_eq_true, Nat.zero_le, s0, s5, s9, s10, s11, hlt, ix, gl, a1, a2, hcl, hco, hcp, hc0, gj, gb, gm, qm, z65_len, z65_drop, z65_one, z65_plains, List.append_nil]; rfl) (by simp only [put_some, put_none]; rfl) ?_ | refine ToD.nop ?_))
        try simp only [andThen, outOf]
        refine fin_k1 (i := 4) (v := .int .i64 22) rfl (by simp only [go_sem, eqs hxE2, reduceIte, seval]) rfl (kp_app he ?_)
        omega
      rw [hmay] at qm
      by_cases hin : c.1 ∈ (cs.take i).map (·.1)
      · rw [if_pos hin] at hsf
        have hw : wrongE st.pgs.length a s cs = 22 := by
          unfold wrongE goodC
          rw [if_neg]
          intro h
          rw [Bool.and_eq_true, decide_eq_true_eq] at h
          have h2 := h.2
          have : (cs.map (·.1)) = (cs.take (i + 1)).map (·.1) ++ (cs.drop (i + 1)).map (·.1) := by rw [← List.map_append, List.take_append_drop]
          rw [this, htk1, List.map_append] at h2
          have h3 := (List.nodup_append.1 (List.nodup_append.1 h2).1).2.2
          exact h3 _ hin c.1 (by simp) rfl
        rw [hw]
        (repeat' (first | refine To.seq hxE2 ?_ | refine To.op0 hxE2 (by simp only [go_sem, eqs hxE2, reduceIte, seval, Heap.gets, Heap.sets, Heap.get, bytesA_length, bytesA_one, bytesA_plains, List.take_of_length_le, List.drop_of_length_le, Nat.add_zero, V.one, Nat.reduceLeDiff, List.all_cons, List.all_nil, ne_eq, not_false_eq_true, Nat.zero_le, s0, s5, s9, s10, s11, hlt, ix, gl, a1, a2, hcl, hco, hcp, hc0, gj, gb, gm, qm, hkey, hsf, z65_len, z65_drop, z65_one, z65_plains, List.append_nil]; rfl) ?_ | refine To.op1 hxE2 (by simp only [go_sem, eqs hxE2, reduceIte, seval, Heap.gets, Heap.sets, Heap.get, bytesA_length, bytesA_one, bytesA_plains, List.take_of_length_le, List.drop_of_length_le, Nat.add_zero, V.one, Nat.reduceLeDiff, List.all_cons, List.all_nil, ne_eq, not_false_eq_true, Nat.zero_le, s0, s5, s9, s10, s11, hlt, ix, gl, a1, a2, hcl, hco, hcp, hc0, gj, gb, gm, qm, hkey, hsf, z65_len, z65_drop, z65_one, z65_plains, List.append_nil]; rfl) ?_ | refine To.nop hxE2 ?_ | (refine To.condT hxE2 ?_ ?_; focus (simp only [go_sem, eqs hxE2, reduceIte, seval, Heap.gets, Heap.sets, Heap.get, bytesA_length, bytesA_one, bytesA_plains, List.take_of_length_le, List.drop_of_length_le, Nat.add_zero, V.one, Nat.reduceLeDiff, List.all_cons, List.all_nil, ne_eq, not_false_eq_true, Nat.zero_le, s0, s5, s9, s10, s11, hlt, ix, gl, a1, a2, hcl, hco, hcp, hc0, gj, gb, gm, qm, hkey, hsf, z65_len, z65_drop, z65_one, z65_plains, List.append_nil]; done)) | refine To.block hxE2 ?_ | refine To.ret hxE2 ?_ | refine To.skip hxE2 ?_ | refine To.draw0 hxE2 ?_ | refine ToD.op0 (by simp only [go_sem, eqs hxE2, reduceIte, seval, Heap.gets, Heap.sets, Heap.get, bytesA_length, bytesA_one, bytesA_plains, List.take_of_length_le, List.drop_of_length_le, Nat.add_zero, V.one, Nat.reduceLeDiff, List.all_cons, List.all_nil, ne_eq, not_false_eq_true, Nat.zero_le, s0, s5, s9, s10, s11, hlt, ix, gl, a1, a2, hcl, hco, hcp, hc0, gj, gb, gm, qm, hkey, hsf, z65_len, z65_drop, z65_one, z65_plains, List.append_nil]; rfl) (by simp only [put_some, put_none]; rfl) ?_ | refine ToD.nop ?_))
        try simp only [andThen, outOf]
        refine fin_k1 (i := 4) (v := .int .i64 22) rfl (by simp only [go_sem, eqs hxE2, reduceIte, seval]) rfl (kp_app he ?_)
        omega
      · rw [if_neg hin] at hsf
        have hsp := seen_put c.1 hin
        have hset : ∀ (x y : AM.Obj) r', (o ++ (x :: r')).set o.length y = o ++ (y :: r') := fun x y r' => app_set0 _ _ _ _
        (repeat' (first | refine To.seq hxE2 ?_ | refine To.op0 hxE2 (by simp only [go_sem, eqs hxE2, reduceIte, seval, Heap.gets, Heap.sets, Heap.get, bytesA_length, bytesA_one, bytesA_plains, List.take_of_length_le, List.drop_of_length_le, Nat.add_zero, V.one, Nat.reduceLeDiff, List.all_cons, List.all_nil, ne_eq, not_false_eq_true, Nat.zero_le, s0, s5, s9, s10, s11, hlt, ix, wi, gl, a1, a2, hcl, hco, hcp, hc0, gj, gb, gm, qm, hkey, hsf, hsp, hset, Heap.setMap, Option.getD_none, z65_len, z65_drop, z65_one, z65_plains, List.append_nil]; rfl) ?_ | refine To.op1 hxE2 (by simp only [go_sem, eqs hxE2, reduceIte, seval, Heap.gets, Heap.sets, Heap.get, bytesA_length, bytesA_one, bytesA_plains, List.take_of_length_le, List.drop_of_length_le, Nat.add_zero, V.one, Nat.reduceLeDiff, List.all_cons, List.all_nil, ne_eq, not_false_eq_true, Nat.zero_le, s0, s5, s9, s10, s11, hlt, ix, wi, gl, a1, a2, hcl, hco, hcp, hc0, gj, gb, gm, qm, hkey, hsf, hsp, hset, Heap.setMap, Option.getD_none, z65_len, z65_drop, z65_one, z65_plains, List.append_nil]; rfl) ?_ | refine To.nop hxE2 ?_ | (refine To.condT hxE2 ?_ ?_; focus (simp only [go_sem, eqs hxE2, reduceIte, seval, Heap.gets, Heap.sets, Heap.get, bytesA_length, bytesA_one, bytesA_plains, List.take_of_length_le, List.drop_of_length_le, Nat.add_zero, V.one, Nat.reduceLeDiff, List.all_cons, List.all_nil, ne_eq, not_false_eq_true, Nat.zero_le, s0, s5, s9, s10, s11, hlt, ix, wi, gl, a1, a2, hcl, hco, hcp, hc0, gj, gb, gm, qm, hkey, hsf, hsp, hset, Heap.setMap, Option.getD_none, z65_len, z65_drop, z65_one, z65_plains, List.append_nil]; done)) | (refine To.condF hxE2 ?_ ?_; focus (simp only [go_sem, eqs hxE2, reduceIte, seval, Heap.gets, Heap.sets, Heap.get, bytesA_length, bytesA_one, bytesA_plains, List.take_of_length_le, List.drop_of_length_le, Nat.add_zero, V.one, Nat.reduceLeDiff, List.all_cons, List.all_nil, ne_eq, not_false_eq_true, Nat.zero_le, s0, s5, s9, s10, s11, hlt, ix, wi, gl, a1, a2, hcl, hco, hcp, hc0, gj, gb, gm, qm, hkey, hsf, hsp, hset, Heap.setMap, Option.getD_none, z65_len, z65_drop, z65_one, z65_plains, List.append_nil]; done)) | refine To.block hxE2 ?_ | refine To.skip hxE2 ?_ | refine To.draw0 hxE2 ?_ | refine ToD.op0 (by simp only [go_sem, eqs hxE2, reduceIte, seval, Heap.gets, Heap.sets, Heap.get, bytesA_length, bytesA_one, bytesA_plains, List.take_of_length_le, List.drop_of_length_le, Nat.add_zero, V.one, Nat.reduceLeDiff, List.all_cons, List.all_nil, ne_eq, not_false_eq_true, Nat.zero_le, s0, s5, s9, s10, s11, hlt, ix, wi, gl, a1, a2, hcl, hco, hcp, hc0, gj, gb, gm, qm, hkey, hsf, hsp, hset, Heap.setMap, Option.getD_none, z65_len, z65_drop, z65_one, z65_plains, List.append_nil]; rfl) (by simp only [put_some, put_none]; rfl) ?_ | refine ToD.nop ?_))
        try simp only [andThen, outOf]
        skip
        try simp only [andThen, outOf]
        refine ⟨m - 1, by omega, i + 1, _, _, _, by omega, by rw [htk1, List.map_append]; rfl, he, ?_, ?_, ?_, ?_⟩
        · omega
        · rw [htk1, List.all_append, hall]; simp [hmay]
        · rw [htk1, List.map_append]
          refine List.nodup_append.2 ⟨hnd, by simp, fun x hx y hy => ?_⟩
          rintro rfl
          simp only [List.map_cons, List.map_nil, List.mem_singleton] at hy
          exact hin (hy ▸ hx)
        · simp only [go_sem, eqs hxE2, reduceIte, seval, s0, s1, s5, s9, s10]
    · have hlt : decide ((i : Int) < (cs.length : Int)) = false := decide_eq_false (by omega)
      have hie : cs.take i = cs := List.take_of_length_le (by omega)
      rw [hie] at hall hnd ⊢
      have hgood : goodC st.pgs.length a s cs = true := by
        unfold goodC
        rw [hall, decide_eq_true hnd]; rfl
      have qr := fun r e d => jroom_q (e := e) (d := d) (J.app r)
      unfold wrongE
      rw [if_pos hgood]
      by_cases hr : roomJ s < cs.length
      · have d1' : decide ((roomJ s : Int) < (cs.length : Int)) = true := decide_eq_true (by omega)
        rw [if_pos hr]
        (repeat' (first | refine To.seq hxE2 ?_ | refine To.op0 hxE2 (by simp only [go_sem, eqs hxE2, reduceIte, seval, Heap.gets, Heap.sets, Heap.get, bytesA_length, bytesA_one, bytesA_plains, List.take_of_length_le, List.drop_of_length_le, Nat.add_zero, V.one, Nat.reduceLeDiff, List.all_cons, List.all_nil, ne_eq, not_false_eq_true, Nat.zero_le, s0, s1, s9, s10, s11, hlt, hl, qr, d1']; rfl) ?_ | refine To.nop hxE2 ?_ | (refine To.condT hxE2 ?_ ?_; focus (simp only [go_sem, eqs hxE2, reduceIte, seval, Heap.gets, Heap.sets, Heap.get, bytesA_length, bytesA_one, bytesA_plains, List.take_of_length_le, List.drop_of_length_le, Nat.add_zero, V.one, Nat.reduceLeDiff, List.all_cons, List.all_nil, ne_eq, not_false_eq_true, Nat.zero_le, s0, s1, s9, s10, s11, hlt, hl, qr, d1']; done)) | (refine To.condF hxE2 ?_ ?_; focus (simp only [go_sem, eqs hxE2, reduceIte, seval, Heap.gets, Heap.sets, Heap.get, bytesA_length, bytesA_one, bytesA_plains, List.take_of_length_le, List.drop_of_length_le, Nat.add_zero, V.one, Nat.reduceLeDiff, List.all_cons, List.all_nil, ne_eq, not_false_eq_true, Nat.zero_le, s0, s1, s9, s10, s11, hlt, hl, qr, d1']; done)) | refine To.ret hxE2 ?_ | refine To.exit hxE2 ?_))
        try simp only [andThen, outOf, if_true]
        skip
        exact fin_k1 (i := 4) (v := .int .i64 28) rfl (by simp only [go_sem, eqs hxE2, reduceIte, seval]) rfl (kp_app he hd)
      · have d1' : decide ((roomJ s : Int) < (cs.length : Int)) = false := decide_eq_false (by omega)
        rw [if_neg hr]
        (repeat' (first | refine To.seq hxE2 ?_ | refine To.op0 hxE2 (by simp only [go_sem, eqs hxE2, reduceIte, seval, Heap.gets, Heap.sets, Heap.get, bytesA_length, bytesA_one, bytesA_plains, List.take_of_length_le, List.drop_of_length_le, Nat.add_zero, V.one, Nat.reduceLeDiff, List.all_cons, List.all_nil, ne_eq, not_false_eq_true, Nat.zero_le, s0, s1, s9, s10, s11, hlt, hl, qr, d1']; rfl) ?_ | refine To.nop hxE2 ?_ | (refine To.condF hxE2 ?_ ?_; focus (simp only [go_sem, eqs hxE2, reduceIte, seval, Heap.gets, Heap.sets, Heap.get, bytesA_length, bytesA_one, bytesA_plains, List.take_of_length_le, List.drop_of_length_le, Nat.add_zero, V.one, Nat.reduceLeDiff, List.all_cons, List.all_nil, ne_eq, not_false_eq_true, Nat.zero_le, s0, s1, s9, s10, s11, hlt, hl, qr, d1']; done)) | refine To.ret hxE2 ?_ | refine To.exit hxE2 ?_ | refine To.skip hxE2 ?_))
        try simp only [andThen, outOf, if_true]
        skip
        exact fin_k1 (i := 4) (v := .int .i64 0) rfl (by simp only [go_sem, eqs hxE2, reduceIte, seval]) rfl (kp_app he hd)
  · refine ⟨0, _, _, [], by omega, rfl, ?_, ?_, by simp, by simp, ?_⟩
    · simp
    · simp
    · simp only [go_sem, eqs hxE2, reduceIte, seval, initS]
theorem fin_lvj0 {a' : AF} {i : Nat} (hr : a'.res = [.t i]) {n : Int} {S : Nat → V} (hS : S i = .int .i64 n) {o1 : List AM.Obj} {e1 d1 : Nat} (D : Jx jl dd pg lm o o1) (L : LowJ jl dd pg lm o o1 o.length d1) (he : o.length ≤ e1) (h0 : jl < o.length) (h1 : dd < o.length) (h2 : pg < o.length) (h3 : lm < o.length) {R : Int → List AM.Obj → Prop} (hR : R n o1) :
    ∃ v oh, finish a' ⟨o, e, d⟩ (some (.ret, S, ⟨o1, e1, d1⟩)) = some (v, oh) ∧ ∃ n o' d', v = .val (.int .i64 n) ∧ LvJ jl dd pg lm o e d oh o' d' ∧ R n o' := by
  have h := fin_lvj (e := e) (d := d) (r1 := []) hr hS D L he h0 h1 h2 h3 hR
  rw [List.append_nil] at h
  exact h
/-- What a Commit comes to: the error; the next number; is it over; the disk. -/
def dCommit (on : Bool) (st : DSt) (a s : Nat) (seq : Int) (over : Bool) (cs : List (Int × Pg)) : Int × Int × Bool × DSt :=
  if over = true then (5, seq, over, st)
  else if wrongE st.pgs.length a s cs ≠ 0 ∨ cs = [] then (wrongE st.pgs.length a s cs, seq, over, st)
  else ((dMake on st a seq cs).1, (dMake on st a seq cs).2.1, (dMake on st a seq cs).1 != 0, (dMake on st a seq cs).2.2)
set_option maxHeartbeats 16000000 in
theorem commit_x (J : PJ o jl dd pg lm a s seq over on st) {v : V} {cs : List (Int × Pg)} (hc : ChRow o v cs) (hn : cs.length ≤ 500) (ha : a ≤ 100000) (hs : s ≤ 1000000) (hs0 : 0 ≤ seq) (hs1 : seq < 2 ^ 59) :
    ∃ r oh, Den FF E2 32 [.ptr jl 0, v] ⟨o, e, d⟩ = some (r, oh) ∧ ∃ n o' d', r = .val (.int .i64 n) ∧ LvJ jl dd pg lm o e d oh o' d' ∧ (n = (dCommit on st a s seq over cs).1 ∧ PJ o' jl dd pg lm a s (dCommit on st a s seq over cs).2.1 (dCommit on st a s seq over cs).2.2.1 on (dCommit on st a s seq over cs).2.2.2) := by
  refine To.denE hxE2 (f := 32) (a := af32) rfl (E2_none rfl) (Nat.le_of_ble_eq_true rfl) ?_
  have lJ := J.lj
  have lD := J.P.ld
  have lP := J.P.lp
  have lM := J.P.ll
  have hl := hc.len
  have qo := fun e d => jover_q (e := e) (d := d) J
  have qw := fun e d => wrong_q (e := e) (d := d) J hc hn (by omega) hs
  unfold dCommit
  cases over
  case true =>
    rw [if_pos rfl]
    (repeat' (first | refine To.seq hxE2 ?_ | refine To.op0 hxE2 (by simp only [go_sem, eqs hxE2, reduceIte, seval, qo]; rfl) ?_ | refine To.nop hxE2 ?_ | (refine To.condT hxE2 ?_ ?_; focus (simp only [go_sem, eqs hxE2, reduceIte, seval, qo]; done)) | refine To.ret hxE2 ?_))
    exact fin_lvj0 (n := 5) (R := fun m o' => m = 5 ∧ PJ o' jl dd pg lm a s seq true on st) (i := 4) rfl (by simp only [go_sem, eqs hxE2, reduceIte, seval]) Jx.refl LowJ.refl (Nat.le_refl _) lJ lD lP lM ⟨rfl, J⟩
  rw [if_neg (by decide)]
  by_cases hw : wrongE st.pgs.length a s cs = 0
  case neg =>
    have hb : (wrongE st.pgs.length a s cs != 0) = true := by simpa using hw
    rw [if_pos (.inl hw)]
    generalize wrongE st.pgs.length a s cs = n at *
    (repeat' (first | refine To.seq hxE2 ?_ | refine To.op0 hxE2 (by simp only [go_sem, eqs hxE2, reduceIte, seval, qo, qw, hb]; rfl) ?_ | refine To.nop hxE2 ?_ | (refine To.condT hxE2 ?_ ?_; focus (simp only [go_sem, eqs hxE2, reduceIte, seval, qo, qw, hb]; done)) | (refine To.condF hxE2 ?_ ?_; focus (simp only [go_sem, eqs hxE2, reduceIte, seval, qo, qw, hb]; done)) | refine To.ret hxE2 ?_ | refine To.skip hxE2 ?_))
    exact fin_lvj0 (n := n) (R := fun m o' => m = n ∧ PJ o' jl dd pg lm a s seq false on st) (i := 4) rfl (by simp only [go_sem, eqs hxE2, reduceIte, seval]) Jx.refl LowJ.refl (Nat.le_refl _) lJ lD lP lM ⟨rfl, J⟩
  rw [hw] at qw ⊢
  by_cases hc0 : cs = []
  · rw [if_pos (.inr hc0)]
    have hl0 : lenLV v = some (.int .i64 0, none) := by rw [hl, hc0]; rfl
    (repeat' (first | refine To.seq hxE2 ?_ | refine To.op0 hxE2 (by simp only [go_sem, eqs hxE2, reduceIte, seval, qo, qw, hl0, bne_self_eq_false]; rfl) ?_ | refine To.nop hxE2 ?_ | (refine To.condT hxE2 ?_ ?_; focus (simp only [go_sem, eqs hxE2, reduceIte, seval, qo, qw, hl0, bne_self_eq_false]; done)) | (refine To.condF hxE2 ?_ ?_; focus (simp only [go_sem, eqs hxE2, reduceIte, seval, qo, qw, hl0, bne_self_eq_false]; done)) | refine To.ret hxE2 ?_ | refine To.skip hxE2 ?_))
    exact fin_lvj0 (n := 0) (R := fun m o' => m = 0 ∧ PJ o' jl dd pg lm a s seq false on st) (i := 4) rfl (by simp only [go_sem, eqs hxE2, reduceIte, seval]) Jx.refl LowJ.refl (Nat.le_refl _) lJ lD lP lM ⟨rfl, J⟩
  rw [if_neg (by simp [hc0])]
  have hlen : cs.length ≠ 0 := fun h => hc0 (List.eq_nil_of_length_eq_zero h)
  have hb0 : ((cs.length : Int) == 0) = false := by
    rw [beq_eq_false_iff_ne]; omega
  obtain ⟨r1, oh1, q1, n, o2, d2, rfl, L1, hn1, J2⟩ := make_x (e := o.length) (d := o.length) J hc hn ha hs0 hs1
  have g1 := L1.eq
  generalize dMake on st a seq cs = w at *
  obtain ⟨n', sq', st'⟩ := w
  simp only at hn1 J2 ⊢
  subst hn1
  have hl2 := L1.dx.len
  have J3 := J2.set sq' (n != 0)
  have dx3 := jx_jl (jl := jl) (dd := dd) (pg := pg) (lm := lm) (o := o2) (.cells .ex 109 0 [.ptr dd 0, .int .i64 (a : Int), .int .i64 (s : Int), .int .i64 sq', .bool (n != 0)])
  (repeat' (first | refine To.seq hxE2 ?_ | refine To.op0 hxE2 (by simp only [go_sem, eqs hxE2, reduceIte, seval, qo, qw, hl, hb0, bne_self_eq_false]; rfl) ?_ | refine To.nop hxE2 ?_ | (refine To.condF hxE2 ?_ ?_; focus (simp only [go_sem, eqs hxE2, reduceIte, seval, qo, qw, hl, hb0, bne_self_eq_false]; done)) | refine To.skip hxE2 ?_))
  refine To.op hxE2 (by simp only [go_sem, eqs hxE2, reduceIte, seval, q1]; rfl) ?_
  rw [show oh1.getD (AM.enter ⟨o, e, d⟩) = ⟨o2, o.length, d2⟩ from g1]
  (repeat' (first | refine To.seq hxE2 ?_ | refine To.op0 hxE2 (by simp only [go_sem, eqs hxE2, reduceIte, seval, Heap.gets, Heap.sets, Heap.get, bytesA_length, bytesA_one, bytesA_plains, List.take_of_length_le, List.drop_of_length_le, Nat.add_zero, V.one, Nat.reduceLeDiff, List.all_cons, List.all_nil, ne_eq, not_false_eq_true, Nat.zero_le, J2.hj]; rfl) ?_ | refine To.op1 hxE2 (by simp only [go_sem, eqs hxE2, reduceIte, seval, Heap.gets, Heap.sets, Heap.get, bytesA_length, bytesA_one, bytesA_plains, List.take_of_length_le, List.drop_of_length_le, Nat.add_zero, V.one, Nat.reduceLeDiff, List.all_cons, List.all_nil, ne_eq, not_false_eq_true, Nat.zero_le, J2.hj]; rfl) ?_ | refine To.nop hxE2 ?_ | refine To.ret hxE2 ?_))
  exact fin_lvj0 (n := n) (R := fun m o' => m = n ∧ PJ o' jl dd pg lm a s sq' (n != 0) on st') (i := 4) rfl (by simp only [go_sem, eqs hxE2, reduceIte, seval]) (L1.dx.trans dx3) (L1.low.trans ⟨Nat.min_le_left _ _, .inr (by omega)⟩) (Nat.le_refl _) lJ lD lP lM ⟨rfl, J3⟩
end
end Go.Proofs.Ytfbkeieoeagkdaa

/- Journal: what a Live head tells of. -/
namespace Go.Proofs.Ytfbkeieoeagkdaa
open Go AM
set_option linter.unusedSimpArgs false
set_option linter.unusedVariables false
set_option maxRecDepth 100000

theorem roomF_fits (size : Int) : ∀ k n, roomF size k n = n ∨ 1 + (listsN (roomF size k n) : Int) + (roomF size k n : Int) ≤ size
  | 0, n => .inl rfl
  | k + 1, n => by
    unfold roomF
    split
    · rename_i h
      rcases roomF_fits size k (n + 1) with h1 | h1
      · rw [h1]; right; omega
      · exact .inr h1
    · exact .inl rfl
theorem room_fits {s c : Nat} (h : c ≤ roomJ s) (h1 : 1 ≤ c) : 1 + listsN c + c ≤ s := by
  rcases roomF_fits s 512 0 with h2 | h2
  · unfold roomJ at h; omega
  · have : listsN c ≤ listsN (roomJ s) := by unfold listsN; omega
    unfold roomJ at h this
    omega
def allP (st : DSt) (a k : Nat) : List Pg := (List.range k).map fun i => readP false st.pgs st.ca ((a + 1 + i : Nat) : Int)
def foundL (all : List Pg) (n cnt : Nat) : List (Int × Pg) := (List.range cnt).map fun i => ((getK (all.getD (i / 32) []) (i % 32 * 2) 2 : Int), all.getD (n + i) [])
def foundE (st : DSt) (a s cnt : Nat) (sm : Int) : Option (List (Int × Pg)) :=
  if roomJ s < cnt then none
  else if (foundL (allP st a (listsN cnt + cnt)) (listsN cnt) cnt).all (fun c => mayB st.pgs.length a s c.1) = true then
    (if (sumP (allP st a (listsN cnt + cnt)) : Int) = sm then some (foundL (allP st a (listsN cnt + cnt)) (listsN cnt) cnt) else none)
  else none
theorem allP_succ (st : DSt) (a k : Nat) : allP st a (k + 1) = allP st a k ++ [readP false st.pgs st.ca ((a + 1 + k : Nat) : Int)] := by
  unfold allP
  rw [List.range_succ, List.map_append]; rfl
theorem allP_len (st : DSt) (a k : Nat) : (allP st a k).length = k := by simp [allP]
theorem foundL_succ (all : List Pg) (n k : Nat) : foundL all n (k + 1) = foundL all n k ++ [((getK (all.getD (k / 32) []) (k % 32 * 2) 2 : Int), all.getD (n + k) [])] := by
  unfold foundL
  rw [List.range_succ, List.map_append]; rfl
theorem foundL_len (all : List Pg) (n k : Nat) : (foundL all n k).length = k := by simp [foundL]
theorem foundL_take (all : List Pg) (n : Nat) {i k : Nat} (h : i ≤ k) : (foundL all n k).take i = foundL all n i := by
  unfold foundL
  rw [← List.map_take, List.take_range, Nat.min_eq_left h]
section
variable {o : List AM.Obj} {e d dd pg lm : Nat} {on : Bool} {left : Int} {pgs : List Pg} {ca : List (Nat × Pg)}
theorem allP_64 (P : PD o dd pg lm on false left pgs ca) {a k : Nat} (h : a + 1 + k ≤ pgs.length) : ∀ p ∈ allP ⟨false, left, pgs, ca⟩ a k, p.length = 64 := by
  intro p hp
  obtain ⟨i, hi, rfl⟩ := List.mem_map.1 hp
  have hi := List.mem_range.1 hi
  exact readP_64 P (a + 1 + i) (by omega)
/-- What found gives back. -/
def FoundR (o : List AM.Obj) (e d : Nat) (r : Out) (oh : Option Heap) (x : Option (List (Int × Pg))) : Prop :=
  ∃ v rr e' d', r = .val (.tuple [v, .int .i64 (if x.isSome = true then 0 else 5)]) ∧ Gr o e d oh rr e' d' ∧ ∀ cs, x = some cs → ChRow (o ++ rr) v cs
theorem fin_found {S : Nat → V} {r1 : List AM.Obj} {d1 : Nat} {v : V} {x : Option (List (Int × Pg))} (h4 : S 4 = v) (h5 : S 5 = .int .i64 (if x.isSome = true then 0 else 5)) (hd : o.length ≤ d1) (hv : v.plain = true → ∀ cs, x = some cs → ChRow o v cs) (hv2 : v.plain = false → ∀ cs, x = some cs → ChRow (o ++ r1) v cs) :
    ∃ r oh, finish af74 ⟨o, e, d⟩ (some (.ret, S, ⟨o ++ r1, o.length, d1⟩)) = some (r, oh) ∧ FoundR o e d r oh x := by
  refine ⟨_, _, fin2 (i := 4) (j := 5) rfl, ?_⟩
  rw [h4, h5]
  obtain ⟨rr, e2, d2, hgr, hrr⟩ := leave_grow (o := o) (e := e) (d := d) (e' := o.length) (d' := d1) (rr := r1) (v := .tuple [v, .int .i64 (if x.isSome = true then 0 else 5)]) (fun _ => .inr hd) (Nat.le_refl _) hd
  refine ⟨v, rr, e2, d2, rfl, hgr, fun cs hcs => ?_⟩
  cases hp : v.plain
  · rw [hrr (by simp [V.plain, V.plains, hp])]
    exact hv2 hp cs hcs
  · exact (hv hp cs hcs).app rr
set_option maxHeartbeats 32000000 in
theorem found_x (P : PD o dd pg lm on false left pgs ca) {a s cnt : Nat} {sq : Int} {lv : Bool} {sm : Int} (hin : a + s ≤ pgs.length) (hpl : pgs.length ≤ 100000) (hc1 : 1 ≤ cnt) (hc5 : cnt ≤ 512) :
    ∃ r oh, Den FF E2 74 [.agg (regV dd a s), .agg (headV sq lv cnt sm)] ⟨o, e, d⟩ = some (r, oh) ∧ FoundR o e d r oh (foundE ⟨false, left, pgs, ca⟩ a s cnt sm) := by
  refine To.denE hxE2 (f := 74) (a := af74) rfl (E2_none rfl) (Nat.le_of_ble_eq_true rfl) ?_
  have hL : listsN cnt ≤ 100 := by unfold listsN; omega
  have qr := fun r e d => room_q (o := o ++ r) (e := e) (d := d) (size := (s : Int))
  have ql := fun r e d => lists_q (o := o ++ r) (e := e) (d := d) (n := cnt) (by omega)
  have hrv : regV dd a s = [.ptr dd 0, .int .i64 (a : Int), .int .i64 (s : Int)] := rfl
  have hhv : headV sq lv cnt sm = [.int .i64 sq, .bool lv, .int .i64 (cnt : Int), .int .u32 sm] := rfl
  unfold foundE
  by_cases hroom : roomJ s < cnt
  · rw [if_pos hroom]
    have d1 : decide ((roomJ s : Int) < (cnt : Int)) = true := decide_eq_true (by omega)
    (repeat' (first | refine To.seq hxE2 ?_ | refine To.op0 hxE2 (by simp only [go_sem, eqs hxE2, reduceIte, seval, Heap.gets, Heap.sets, Heap.get, bytesA_length, bytesA_one, bytesA_plains, List.take_of_length_le, List.drop_of_length_le, Nat.add_zero, V.one, Nat.reduceLeDiff, List.all_cons, List.all_nil, ne_eq, not_false_eq_true, Nat.zero_le, hrv, hhv, qr, d1]; rfl) ?_ | refine To.op1 hxE2 (by simp only [go_sem, eqs hxE2, reduceIte, seval, Heap.gets, Heap.sets, Heap.get, bytesA_length, bytesA_one, bytesA_plains, List.take_of_length_le, List.drop_of_length_le, Nat.add_zero, V.one, Nat.reduceLeDiff, List.all_cons, List.all_nil, ne_eq, not_false_eq_true, Nat.zero_le, hrv, hhv, qr, d1]; rfl) ?_ | refine To.nop hxE2 ?_ | (refine To.condT hxE2 ?_ ?_; focus (simp only [go_sem, eqs hxE2, reduceIte, seval, Heap.gets, Heap.sets, Heap.get, bytesA_length, bytesA_one, bytesA_plains, List.take_of_length_le, List.drop_of_length_le, Nat.add_zero, V.one, Nat.reduceLeDiff, List.all_cons, List.all_nil, ne_eq, not_false_eq_true, Nat.zero_le, hrv, hhv, qr, d1]; done)) | refine To.ret hxE2 ?_ | refine To.draw0 hxE2 ?_ | refine ToD.op0 (by simp only [go_sem, eqs hxE2, reduceIte, seval, Heap.gets, Heap.sets, Heap.get, bytesA_length, bytesA_one, bytesA_plains, List.take_of_length_le, List.drop_of_length_le, Nat.add_zero, V.one, Nat.reduceLeDiff, List.all_cons, List.all_nil, ne_eq, not_false_eq_true, Nat.zero_le, hrv, hhv, qr, d1]; rfl) (by simp only [put_some, put_none]; rfl) ?_ | refine ToD.nop ?_))
    exact fin_found (v := .nils) (x := none) (by simp only [go_sem, eqs hxE2, reduceIte, seval]) (by simp only [go_sem, eqs hxE2, reduceIte, seval]; rfl) (by omega) (fun _ cs h => by cases h) (fun _ cs h => by cases h)
  rw [if_neg hroom]
  have d1 : decide ((roomJ s : Int) < (cnt : Int)) = false := decide_eq_false (by omega)
  have hfit := room_fits (s := s) (c := cnt) (by omega) hc1
  have wN : IntKind.i64.wrap ((listsN cnt : Int) + (cnt : Int)) = ((listsN cnt + cnt : Nat) : Int) := by rw [wrap_i64 (by omega) (by omega)]; omega
  have hst : ∀ k, allP ⟨false, left, pgs, ca⟩ a k = (List.range k).map fun i => readP false pgs ca ((a + 1 + i : Nat) : Int) := fun k => rfl
  (repeat' (first | refine To.seq hxE2 ?_ | refine To.op0 hxE2 (by simp only [go_sem, eqs hxE2, reduceIte, seval, Heap.gets, Heap.sets, Heap.get, bytesA_length, bytesA_one, bytesA_plains, List.take_of_length_le, List.drop_of_length_le, Nat.add_zero, V.one, Nat.reduceLeDiff, List.all_cons, List.all_nil, ne_eq, not_false_eq_true, Nat.zero_le, hrv, hhv, qr, ql, d1, wN]; rfl) ?_ | refine To.op1 hxE2 (by simp only [go_sem, eqs hxE2, reduceIte, seval, Heap.gets, Heap.sets, Heap.get, bytesA_length, bytesA_one, bytesA_plains, List.take_of_length_le, List.drop_of_length_le, Nat.add_zero, V.one, Nat.reduceLeDiff, List.all_cons, List.all_nil, ne_eq, not_false_eq_true, Nat.zero_le, hrv, hhv, qr, ql, d1, wN]; rfl) ?_ | refine To.nop hxE2 ?_ | (refine To.condF hxE2 ?_ ?_; focus (simp only [go_sem, eqs hxE2, reduceIte, seval, Heap.gets, Heap.sets, Heap.get, bytesA_length, bytesA_one, bytesA_plains, List.take_of_length_le, List.drop_of_length_le, Nat.add_zero, V.one, Nat.reduceLeDiff, List.all_cons, List.all_nil, ne_eq, not_false_eq_true, Nat.zero_le, hrv, hhv, qr, ql, d1, wN]; done)) | refine To.block hxE2 ?_ | refine To.skip hxE2 ?_ | refine To.draw0 hxE2 ?_ | refine ToD.op0 (by simp only [go_sem, eqs hxE2, reduceIte, seval, Heap.gets, Heap.sets, Heap.get, bytesA_length, bytesA_one, bytesA_plains, List.take_of_length_le, List.drop_of_length_le, Nat.add_zero, V.one, Nat.reduceLeDiff, List.all_cons, List.all_nil, ne_eq, not_false_eq_true, Nat.zero_le, hrv, hhv, qr, ql, d1, wN]; rfl) (by simp only [put_some, put_none]; rfl) ?_ | refine ToD.nop ?_))
  refine To.loop hxE2 (fun m S h' => ∃ (i d1 : Nat) (r : List AM.Obj) (v : V), i + m = listsN cnt + cnt ∧ h' = ⟨o ++ r, o.length, d1⟩ ∧ o.length ≤ d1 ∧ (o ++ r)[o.length]? = some (.cells .ex 100 0 [.ptr dd 0, .int .i64 (a : Int), .int .i64 (s : Int)]) ∧ (o ++ r)[o.length + 1]? = some (.cells .ex 103 0 [.int .i64 sq, .bool lv, .int .i64 (cnt : Int), .int .u32 sm]) ∧
    GrowX (o ++ r) o.length v 31 64 ((allP ⟨false, left, pgs, ca⟩ a i).map bytesA) ∧ S 2 = .ptr o.length 0 ∧ S 3 = .ptr (o.length + 1) 0 ∧ S 6 = .int .i64 (listsN cnt : Int) ∧ S 7 = v ∧ S 26 = .int .i64 ((listsN cnt + cnt : Nat) : Int) ∧ S 27 = .int .i64 (i : Int)) ?_ (listsN cnt + cnt) _ _ ?_
  · rintro m S _ ⟨i, d1', r, v, hm, rfl, hd, hreg, hhd, hG, s2, s3, s6, s7, s26, s27⟩
    by_cases hi : i < listsN cnt + cnt
    · have hlt : decide ((i : Int) < ((listsN cnt + cnt : Nat) : Int)) = true := decide_eq_true (by omega)
      have wi : IntKind.i64.wrap ((i : Int) + 1) = ((i + 1 : Nat) : Int) := by rw [wrap_i64 (by omega) (by omega)]; omega
      have w1 : IntKind.i64.wrap ((a : Int) + 1) = (a : Int) + 1 := wrap_i64 (by omega) (by omega)
      have w2 : IntKind.i64.wrap ((a : Int) + 1 + (i : Int)) = ((a + 1 + i : Nat) : Int) := by rw [wrap_i64 (by omega) (by omega)]; omega
      have q := fun e d => read_q (e := e) (d := d) (P.app r) ((a + 1 + i : Nat) : Int)
      have h0 : hasE false pgs.length ((a + 1 + i : Nat) : Int) = 0 := by unfold hasE; rw [if_neg (by simp), if_neg (by rintro (h | h) <;> omega)]
      have h64 := readP_64 P (a + 1 + i) (by omega)
      have hsu : allP ⟨false, left, pgs, ca⟩ a (i + 1) = allP ⟨false, left, pgs, ca⟩ a i ++ [readP false pgs ca ((a + 1 + i : Nat) : Int)] := allP_succ _ a i
      rw [h0] at q
      generalize readP false pgs ca ((a + 1 + i : Nat) : Int) = p at *
      have htk : List.take 64 (bytesA p) = bytesA p := List.take_of_length_le (by rw [bytesA_length]; omega)
      have hdr : List.drop 64 (bytesA p) = [] := List.drop_eq_nil_of_le (by rw [bytesA_length]; omega)
      have gb : ∀ x : AM.Obj, (o ++ (r ++ [x]))[o.length + r.length]? = some x := fun x => by
        rw [app_getk]; simp
      have gb2 : ∀ x y : AM.Obj, (o ++ (r ++ [x, y]))[o.length + (r.length + 1)]? = some y := fun x y => by
        rw [app_getk, app_getk]; rfl
      have hrows : ∀ y ∈ (allP ⟨false, left, pgs, ca⟩ a i).map bytesA, y.length = 64 := fun y hy => by
        obtain ⟨q, hq, rfl⟩ := List.mem_map.1 hy
        rw [bytesA_length]
        exact allP_64 P (by omega) q hq
      have hln : ((allP ⟨false, left, pgs, ca⟩ a i).map bytesA).length ≤ 1000 := by rw [List.length_map, allP_len]; omega
      obtain ⟨v', r', D', hA, hG', hD1, hD2, _, hkeep⟩ := grow1 (o := o) (r := r ++ [.cells .ex 31 0 (bytesA p), .cells .ex 31 0 (bytesA p)]) (b := 64) (by rw [← List.append_assoc]; exact hG.app) (by decide) hrows (x := bytesA p) (by rw [bytesA_length]; exact h64) (room_small (by omega) (by decide)) (room_small (by decide) (by decide)) o.length (min d1' (o.length + r.length))
      have hreg' := hkeep o.length _ _ _ (by rw [← List.append_assoc]; exact app_old hreg _) (by decide)
      have hhd' := hkeep (o.length + 1) _ _ _ (by rw [← List.append_assoc]; exact app_old hhd _) (by decide)
      (repeat' (first | refine To.seq hxE2 ?_ | refine To.op0 hxE2 (by simp only [go_sem, eqs hxE2, reduceIte, seval, Heap.gets, Heap.sets, Heap.get, bytesA_length, bytesA_one, bytesA_plains, List.take_of_length_le, List.drop_of_length_le, Nat.add_zero, V.one, Nat.reduceLeDiff, List.all_cons, List.all_nil, ne_eq, not_false_eq_true, Nat.zero_le, s2, s3, s6, s7, s26, s27, hlt, wi, w1, w2, hreg, hhd, q, h64, htk, hdr, gb, gb2, hA, bne_self_eq_false, z64_len, z64_drop, z64_one, z64_plains, List.append_nil]; rfl) ?_ | refine To.op1 hxE2 (by simp only [go_sem, eqs hxE2, reduceIte, seval, Heap.gets, Heap.sets, Heap.get, bytesA_length, bytesA_one, bytesA_plains, List.take_of_length_le, List.drop_of_length_le, Nat.add_zero, V.one, Nat.reduceLeDiff, List.all_cons, List.all_nil, ne_eq, not_false_eq_true, Nat.zero_le, s2, s3, s6, s7, s26, s27, hlt, wi, w1, w2, hreg, hhd, q, h64, htk, hdr, gb, gb2, hA, bne_self_eq_false, z64_len, z64_drop, z64_one, z64_plains, List.append_nil]; rfl) ?_ | refine To.nop hxE2 ?_ | (refine To.condT hxE2 ?_ ?_; focus (simp only [go_sem, eqs hxE2, reduceIte, seval, Heap.gets, Heap.sets, Heap.get, bytesA_length, bytesA_one, bytesA_plains, List.take_of_length_le, List.drop_of_length_le, Nat.add_zero, V.one, Nat.reduceLeDiff, List.all_cons, List.all_nil, ne_eq, not_false_eq_true, Nat.zero_le, s2, s3, s6, s7, s26, s27, hlt, wi, w1, w2, hreg, hhd, q, h64, htk, hdr, gb, gb2, hA, bne_self_eq_false, z64_len, z64_drop, z64_one, z64_plains, List.append_nil]; done)) | (refine To.condF hxE2 ?_ ?_; focus (simp only [go_sem, eqs hxE2, reduceIte, seval, Heap.gets, Heap.sets, Heap.get, bytesA_length, bytesA_one, bytesA_plains, List.take_of_length_le, List.drop_of_length_le, Nat.add_zero, V.one, Nat.reduceLeDiff, List.all_cons, List.all_nil, ne_eq, not_false_eq_true, Nat.zero_le, s2, s3, s6, s7, s26, s27, hlt, wi, w1, w2, hreg, hhd, q, h64, htk, hdr, gb, gb2, hA, bne_self_eq_false, z64_len, z64_drop, z64_one, z64_plains, List.append_nil]; done)) | refine To.block hxE2 ?_ | refine To.skip hxE2 ?_))
      try simp only [andThen, outOf]
      refine ⟨m - 1, by omega, i + 1, D', r', v', by omega, rfl, by omega, hreg', hhd', ?_, ?_⟩
      · rw [hsu, List.map_append]; exact hG'
      · simp only [go_sem, eqs hxE2, reduceIte, seval, s2, s3, s6, s26]
    · have hlt : decide ((i : Int) < ((listsN cnt + cnt : Nat) : Int)) = false := decide_eq_false (by omega)
      obtain rfl : i = listsN cnt + cnt := by omega
      have hall64 := allP_64 P (a := a) (k := listsN cnt + cnt) (by omega)
      have halen := allP_len ⟨false, left, pgs, ca⟩ a (listsN cnt + cnt)
      generalize hall : allP ⟨false, left, pgs, ca⟩ a (listsN cnt + cnt) = all at *
      obtain ⟨mm, ck, rfl, hmm, hmb⟩ : ∃ mm ck, v = .slice mm 0 (listsN cnt + cnt) 64 ∧ (o ++ r)[mm]? = some (.cells ck 31 0 (pgC all)) ∧ o.length ≤ mm := by
        rcases hG with ⟨_, h⟩ | ⟨mm, ck, h1, h2, h3, _⟩
        · have : all = [] := by simpa using h
          rw [this] at halen
          simp only [List.length_nil] at halen
          omega
        · rw [List.length_map, halen] at h1
          refine ⟨mm, ck, h1, ?_, h3⟩
          rw [h2]; unfold pgC; rw [List.flatMap_def]
      have hcnt : ∀ r2, (o ++ (r ++ r2))[o.length + 1]? = some (.cells .ex 103 0 [.int .i64 sq, .bool lv, .int .i64 (cnt : Int), .int .u32 sm]) := fun r2 => by rw [← List.append_assoc]; exact app_old hhd _
      (repeat' (first | refine To.seq hxE2 ?_ | refine To.op0 hxE2 (by simp only [go_sem, eqs hxE2, reduceIte, seval, Heap.gets, Heap.sets, Heap.get, bytesA_length, bytesA_one, bytesA_plains, List.take_of_length_le, List.drop_of_length_le, Nat.add_zero, V.one, Nat.reduceLeDiff, List.all_cons, List.all_nil, ne_eq, not_false_eq_true, Nat.zero_le, s2, s3, s6, s7, s26, s27, hlt]; rfl) ?_ | refine To.nop hxE2 ?_ | (refine To.condF hxE2 ?_ ?_; focus (simp only [go_sem, eqs hxE2, reduceIte, seval, Heap.gets, Heap.sets, Heap.get, bytesA_length, bytesA_one, bytesA_plains, List.take_of_length_le, List.drop_of_length_le, Nat.add_zero, V.one, Nat.reduceLeDiff, List.all_cons, List.all_nil, ne_eq, not_false_eq_true, Nat.zero_le, s2, s3, s6, s7, s26, s27, hlt]; done)) | refine To.exit hxE2 ?_))
      try simp only [andThen, outOf, if_true]
      (repeat' (first | refine To.op0 hxE2 (by simp only [go_sem, eqs hxE2, reduceIte, seval, Heap.gets, Heap.sets, Heap.get, bytesA_length, bytesA_one, bytesA_plains, List.take_of_length_le, List.drop_of_length_le, Nat.add_zero, V.one, Nat.reduceLeDiff, List.all_cons, List.all_nil, ne_eq, not_false_eq_true, Nat.zero_le, s2, s3, s6, s7, hhd]; rfl) ?_ | refine To.nop hxE2 ?_ | refine To.block hxE2 ?_))
      refine To.loop hxE2 (fun m S h' => ∃ (i d1 : Nat) (r : List AM.Obj) (v : V), i + m = cnt ∧ h' = ⟨o ++ r, o.length, d1⟩ ∧ o.length ≤ d1 ∧ (o ++ r)[o.length]? = some (.cells .ex 100 0 [.ptr dd 0, .int .i64 (a : Int), .int .i64 (s : Int)]) ∧ (o ++ r)[o.length + 1]? = some (.cells .ex 103 0 [.int .i64 sq, .bool lv, .int .i64 (cnt : Int), .int .u32 sm]) ∧
        (o ++ r)[mm]? = some (.cells ck 31 0 (pgC all)) ∧ GrowX (o ++ r) o.length v 73 65 ((foundL all (listsN cnt) i).map chC) ∧ (foundL all (listsN cnt) i).all (fun c => mayB pgs.length a s c.1) = true ∧
        S 2 = .ptr o.length 0 ∧ S 3 = .ptr (o.length + 1) 0 ∧ S 6 = .int .i64 (listsN cnt : Int) ∧ S 7 = .slice mm 0 (listsN cnt + cnt) 64 ∧ S 11 = v ∧ S 50 = .int .i64 (cnt : Int) ∧ S 51 = .int .i64 (i : Int)) ?_ cnt _ _ ?_
      · rintro m2 S2 _ ⟨i, d2', r2, v, hm2, rfl, hd2, hreg2, hhd2, hmm2, hG2, hmay2, s2, s3, s6, s7, s11, s50, s51⟩
        by_cases hi : i < cnt
        · have hlt2 : decide ((i : Int) < (cnt : Int)) = true := decide_eq_true (by omega)
          have wi : IntKind.i64.wrap ((i : Int) + 1) = ((i + 1 : Nat) : Int) := by rw [wrap_i64 (by omega) (by omega)]; omega
          have t1 : Int.tdiv (i : Int) 32 = ((i / 32 : Nat) : Int) := by rw [Int.tdiv_eq_ediv_of_nonneg (by omega)]; omega
          have w1 : IntKind.i64.wrap ((i / 32 : Nat) : Int) = ((i / 32 : Nat) : Int) := wrap_i64 (by omega) (by omega)
          have t2 : Int.tmod (i : Int) 32 = ((i % 32 : Nat) : Int) := by rw [Int.tmod_eq_emod_of_nonneg (by omega)]; omega
          have w2 : IntKind.i64.wrap (((i % 32 : Nat) : Int) * 2) = ((i % 32 * 2 : Nat) : Int) := by rw [wrap_i64 (by omega) (by omega)]; omega
          have w3 : IntKind.i64.wrap ((listsN cnt : Int) + (i : Int)) = ((listsN cnt + i : Nat) : Int) := by rw [wrap_i64 (by omega) (by omega)]; omega
          have hk : i / 32 < listsN cnt + cnt := by omega
          have ix : idxOf (listsN cnt + cnt) (.int .i64 ((i / 32 : Nat) : Int)) = some (i / 32) := idxOf_nat hk
          have ix3 : idxOf (listsN cnt + cnt) (.int .i64 ((listsN cnt + i : Nat) : Int)) = some (listsN cnt + i) := idxOf_nat (by omega)
          have hfs := foundL_succ all (listsN cnt) i
          have hft := foundL_take all (listsN cnt) (i := i + 1) (k := cnt) (by omega)
          have hi2 : i % 32 * 2 + 2 ≤ 64 := by omega
          generalize i / 32 = k at *
          generalize i % 32 * 2 = i2 at *
          have hg : all[k]? = some (all[k]'(by omega)) := List.getElem?_eq_getElem (by omega)
          have hgd : all.getD k [] = all[k]'(by omega) := by rw [List.getD_eq_getElem?_getD, hg]; rfl
          have hg3 : all[listsN cnt + i]? = some (all[listsN cnt + i]'(by omega)) := List.getElem?_eq_getElem (by omega)
          have hgd3 : all.getD (listsN cnt + i) [] = all[listsN cnt + i]'(by omega) := by rw [List.getD_eq_getElem?_getD, hg3]; rfl
          rw [hgd, hgd3] at hfs
          have hp64 := hall64 _ (List.getElem_mem (by omega : k < all.length))
          have hp643 := hall64 _ (List.getElem_mem (by omega : listsN cnt + i < all.length))
          have hat := pgC_at hall64 hg
          have hat3 := pgC_at hall64 hg3
          have hk1 : (k + 1) * 64 ≤ all.length * 64 := Nat.mul_le_mul_right 64 (by omega)
          have hk3 : (listsN cnt + i + 1) * 64 ≤ all.length * 64 := Nat.mul_le_mul_right 64 (by omega)
          have hle : k * 64 + 64 ≤ (pgC all).length := by rw [pgC_len hall64]; omega
          have hle3 : (listsN cnt + i) * 64 + 64 ≤ (pgC all).length := by rw [pgC_len hall64]; omega
          generalize all[k]'(by omega) = p at *
          generalize all[listsN cnt + i]'(by omega) = p3 at *
          have qg : ∀ r e d, Den FF E2 71 [.agg (bytesA p), .int .i64 (i2 : Int), .int .i64 2] ⟨o ++ r, e, d⟩ = some (.val (.int .i64 (getK p i2 2 : Int)), none) := fun r e d => get_q hp64 (s := 2) (by omega) (by omega) hi2
          have qm := fun r e d => may_q (e := e) (d := d) (P.app r) (a := a) (s := s) (by omega) (by omega) (getK p i2 2 : Int)
          rw [hrv] at qm
          generalize (getK p i2 2 : Int) = x at *
          cases hmay : mayB pgs.length a s x
          · rw [hmay] at qm
            have hno : ¬ (foundL all (listsN cnt) cnt).all (fun c => mayB pgs.length a s c.1) = true := by
              intro h
              have h2 := List.all_eq_true.1 h (x, p3) (List.mem_of_mem_take (i := i + 1) (by rw [hft, hfs]; simp))
              rw [hmay] at h2; cases h2
            rw [if_neg hno]
            (repeat' (first | refine To.seq hxE2 ?_ | refine To.op0 hxE2 (by simp only [go_sem, eqs hxE2, reduceIte, seval, Heap.gets, Heap.sets, Heap.get, bytesA_length, bytesA_one, bytesA_plains, List.take_of_length_le, List.drop_of_length_le, Nat.add_zero, V.one, Nat.reduceLeDiff, List.all_cons, List.all_nil, ne_eq, not_false_eq_true, Nat.zero_le, s2, s3, s6, s7, s50, s51, hlt2, t1, w1, t2, w2, ix, hmm2, hat, hle, hp64, qg, hreg2, qm]; rfl) ?_ | refine To.nop hxE2 ?_ | (refine To.condT hxE2 ?_ ?_; focus (simp only [go_sem, eqs hxE2, reduceIte, seval, Heap.gets, Heap.sets, Heap.get, bytesA_length, bytesA_one, bytesA_plains, List.take_of_length_le, List.drop_of_length_le, Nat.add_zero, V.one, Nat.reduceLeDiff, List.all_cons, List.all_nil, ne_eq, not_false_eq_true, Nat.zero_le, s2, s3, s6, s7, s50, s51, hlt2, t1, w1, t2, w2, ix, hmm2, hat, hle, hp64, qg, hreg2, qm]; done)) | refine To.block hxE2 ?_ | refine To.ret hxE2 ?_ | refine To.skip hxE2 ?_))
            exact fin_found (v := .nils) (x := none) (by simp only [go_sem, eqs hxE2, reduceIte, seval]) (by simp only [go_sem, eqs hxE2, reduceIte, seval]; rfl) hd2 (fun _ cs h => by cases h) (fun _ cs h => by cases h)
          · rw [hmay] at qm
            have htk : List.take 64 (bytesA p3) = bytesA p3 := List.take_of_length_le (by rw [bytesA_length]; omega)
            have hdr : List.drop 64 (bytesA p3) = [] := List.drop_eq_nil_of_le (by rw [bytesA_length]; omega)
            have hzd : List.drop 1 z65 = z64 := rfl
            have gb : ∀ y : AM.Obj, (o ++ (r2 ++ [y]))[o.length + r2.length]? = some y := fun y => by
              rw [app_getk]; simp
            have htk65 : List.take 65 (V.int .i64 x :: bytesA p3) = V.int .i64 x :: bytesA p3 := List.take_of_length_le (by rw [List.length_cons, bytesA_length]; omega)
            have hf64 : ∀ c ∈ foundL all (listsN cnt) i, c.2.length = 64 := fun c hc => by
              obtain ⟨j, hj, rfl⟩ := List.mem_map.1 hc
              have hj := List.mem_range.1 hj
              have hgj : all[listsN cnt + j]? = some (all[listsN cnt + j]'(by omega)) := List.getElem?_eq_getElem (by omega)
              show (all.getD (listsN cnt + j) []).length = 64
              rw [List.getD_eq_getElem?_getD, hgj]
              exact hall64 _ (List.getElem_mem _)
            have hrows : ∀ y ∈ (foundL all (listsN cnt) i).map chC, y.length = 65 := fun y hy => by
              obtain ⟨c, hc, rfl⟩ := List.mem_map.1 hy
              exact chC_len (hf64 c hc)
            have hln : ((foundL all (listsN cnt) i).map chC).length ≤ 1000 := by rw [List.length_map, foundL_len]; omega
            obtain ⟨v', r', D', hA, hG', hD1, hD2, _, hkeep⟩ := grow1 (o := o) (r := r2 ++ [.cells .ex 73 0 (V.int .i64 x :: bytesA p3)]) (b := 72) (by rw [← List.append_assoc]; exact hG2.app) (by decide) hrows (x := V.int .i64 x :: bytesA p3) (by rw [List.length_cons, bytesA_length]; omega) (room_small (by omega) (by decide)) (room_small (by decide) (by decide)) o.length d2'
            have hreg' := hkeep o.length _ _ _ (by rw [← List.append_assoc]; exact app_old hreg2 _) (by decide)
            have hhd' := hkeep (o.length + 1) _ _ _ (by rw [← List.append_assoc]; exact app_old hhd2 _) (by decide)
            have hmm' := hkeep mm _ _ _ (by rw [← List.append_assoc]; exact app_old hmm2 _) (by decide)
            (repeat' (first | refine To.seq hxE2 ?_ | refine To.op0 hxE2 (by simp only [go_sem, eqs hxE2, reduceIte, seval, Heap.gets, Heap.sets, Heap.get, bytesA_length, bytesA_one, bytesA_plains, List.take_of_length_le, List.drop_of_length_le, Nat.add_zero, V.one, Nat.reduceLeDiff, List.all_cons, List.all_nil, ne_eq, not_false_eq_true, Nat.zero_le, s2, s3, s6, s7, s11, s50, s51, hlt2, wi, t1, w1, t2, w2, w3, ix, ix3, hmm2, hat, hle, hat3, hle3, hp64, hp643, qg, hreg2, qm, htk, hdr, hzd, gb, htk65, hA, z64_len, z64_drop, z64_one, z64_plains, z65_len, z65_drop, List.append_nil]; rfl) ?_ | refine To.op1 hxE2 (by simp only [go_sem, eqs hxE2, reduceIte, seval, Heap.gets, Heap.sets, Heap.get, bytesA_length, bytesA_one, bytesA_plains, List.take_of_length_le, List.drop_of_length_le, Nat.add_zero, V.one, Nat.reduceLeDiff, List.all_cons, List.all_nil, ne_eq, not_false_eq_true, Nat.zero_le, s2, s3, s6, s7, s11, s50, s51, hlt2, wi, t1, w1, t2, w2, w3, ix, ix3, hmm2, hat, hle, hat3, hle3, hp64, hp643, qg, hreg2, qm, htk, hdr, hzd, gb, htk65, hA, z64_len, z64_drop, z64_one, z64_plains, z65_len, z65_drop, List.append_nil]; rfl) ?_ | refine To.nop hxE2 ?_ | (refine To.condT hxE2 ?_ ?_; focus (simp only [go_sem, eqs hxE2, reduceIte, seval, Heap.gets, Heap.sets, Heap.get, bytesA_length, bytesA_one, bytesA_plains, List.take_of_length_le, List.drop_of_length_le, Nat.add_zero, V.one, Nat.reduceLeDiff, List.all_cons, List.all_nil, ne_eq, not_false_eq_true, Nat.zero_le, s2, s3, s6, s7, s11, s50, s51, hlt2, wi, t1, w1, t2, w2, w3, ix, ix3, hmm2, hat, hle, hat3, hle3, hp64, hp643, qg, hreg2, qm, htk, hdr, hzd, gb, htk65, hA, z64_len, z64_drop, z64_one, z64_plains, z65_len, z65_drop, List.append_nil]; done)) | (refine To.condF hxE2 ?_ ?_; focus (simp only [go_sem, eqs hxE2, reduceIte, seval, Heap.gets, Heap.sets, Heap.get, bytesA_length, bytesA_one, bytesA_plains, List.take_of_length_le, List.drop_of_length_le, Nat.add_zero, V.one, Nat.reduceLeDiff, List.all_cons, List.all_nil, ne_eq, not_false_eq_true, Nat.zero_le, s2, s3, s6, s7, s11, s50, s51, hlt2, wi, t1, w1, t2, w2, w3, ix, ix3, hmm2, hat, hle, hat3, hle3, hp64, hp643, qg, hreg2, qm, htk, hdr, hzd, gb, htk65, hA, z64_len, z64_drop, z64_one, z64_plains, z65_len, z65_drop, List.append_nil]; done)) | refine To.block hxE2 ?_ | refine To.skip hxE2 ?_))
            try simp only [andThen, outOf]
            skip
            try simp only [andThen, outOf]
            refine ⟨m2 - 1, by omega, i + 1, D', r', v', by omega, rfl, by omega, hreg', hhd', hmm', ?_, ?_, ?_⟩
            · rw [hfs, List.map_append]; exact hG'
            · rw [hfs, List.all_append, hmay2]; simp [hmay]
            · simp only [go_sem, eqs hxE2, reduceIte, seval, s2, s3, s6, s7, s50]
        · have hlt2 : decide ((i : Int) < (cnt : Int)) = false := decide_eq_false (by omega)
          obtain rfl : i = cnt := by omega
          rw [if_pos hmay2]
          have hrow : PgRow (o ++ r2) (.slice mm 0 (listsN i + i) 64) all := ⟨by rw [halen]; rfl, fun _ => ⟨mm, ck, 31, by rw [halen], hmm2⟩, hall64⟩
          have qs := fun e d => sumPages_q (e := e) (d := d) hrow (by omega)
          have hf64 : ∀ c ∈ foundL all (listsN i) i, c.2.length = 64 := fun c hc => by
            obtain ⟨j, hj, rfl⟩ := List.mem_map.1 hc
            have hj := List.mem_range.1 hj
            have hgj : all[listsN i + j]? = some (all[listsN i + j]'(by omega)) := List.getElem?_eq_getElem (by omega)
            show (all.getD (listsN i + j) []).length = 64
            rw [List.getD_eq_getElem?_getD, hgj]
            exact hall64 _ (List.getElem_mem _)
          have hsl : V.beq (.int .u32 sm) (.int .u32 sm) = true := by simp [V.beq]
          by_cases hsum : (sumP all : Int) = sm
          · rw [if_pos hsum]
            have hb : ((sumP all : Int) != sm) = false := by simp [hsum]
            generalize (sumP all : Int) = sa at *
            (repeat' (first | refine To.seq hxE2 ?_ | refine To.op0 hxE2 (by simp only [go_sem, eqs hxE2, reduceIte, seval, Heap.gets, Heap.sets, Heap.get, bytesA_length, bytesA_one, bytesA_plains, List.take_of_length_le, List.drop_of_length_le, Nat.add_zero, V.one, Nat.reduceLeDiff, List.all_cons, List.all_nil, ne_eq, not_false_eq_true, Nat.zero_le, s2, s3, s6, s7, s11, s50, s51, hlt2]; rfl) ?_ | refine To.nop hxE2 ?_ | (refine To.condF hxE2 ?_ ?_; focus (simp only [go_sem, eqs hxE2, reduceIte, seval, Heap.gets, Heap.sets, Heap.get, bytesA_length, bytesA_one, bytesA_plains, List.take_of_length_le, List.drop_of_length_le, Nat.add_zero, V.one, Nat.reduceLeDiff, List.all_cons, List.all_nil, ne_eq, not_false_eq_true, Nat.zero_le, s2, s3, s6, s7, s11, s50, s51, hlt2]; done)) | refine To.exit hxE2 ?_ | refine To.draw0 hxE2 ?_ | refine ToD.op0 (by simp only [go_sem, eqs hxE2, reduceIte, seval, Heap.gets, Heap.sets, Heap.get, bytesA_length, bytesA_one, bytesA_plains, List.take_of_length_le, List.drop_of_length_le, Nat.add_zero, V.one, Nat.reduceLeDiff, List.all_cons, List.all_nil, ne_eq, not_false_eq_true, Nat.zero_le, s2, s3, s6, s7, s11, s50, s51, hlt2]; rfl) (by simp only [put_some, put_none]; rfl) ?_ | fail))
            try simp only [andThen, outOf, if_true]
            (repeat' (first | refine To.seq hxE2 ?_ | refine To.op0 hxE2 (by simp only [go_sem, eqs hxE2, reduceIte, seval, Heap.gets, Heap.sets, Heap.get, bytesA_length, bytesA_one, bytesA_plains, List.take_of_length_le, List.drop_of_length_le, Nat.add_zero, V.one, Nat.reduceLeDiff, List.all_cons, List.all_nil, ne_eq, not_false_eq_true, Nat.zero_le, s2, s3, s6, s7, s11, s50, s51, hlt2, hhd2, qs, hb]; rfl) ?_ | refine To.nop hxE2 ?_ | (refine To.condF hxE2 ?_ ?_; focus (simp only [go_sem, eqs hxE2, reduceIte, seval, Heap.gets, Heap.sets, Heap.get, bytesA_length, bytesA_one, bytesA_plains, List.take_of_length_le, List.drop_of_length_le, Nat.add_zero, V.one, Nat.reduceLeDiff, List.all_cons, List.all_nil, ne_eq, not_false_eq_true, Nat.zero_le, s2, s3, s6, s7, s11, s50, s51, hlt2, hhd2, qs, hb]; done)) | refine To.ret hxE2 ?_ | refine To.skip hxE2 ?_ | refine ToD.op0 (by simp only [go_sem, eqs hxE2, reduceIte, seval, Heap.gets, Heap.sets, Heap.get, bytesA_length, bytesA_one, bytesA_plains, List.take_of_length_le, List.drop_of_length_le, Nat.add_zero, V.one, Nat.reduceLeDiff, List.all_cons, List.all_nil, ne_eq, not_false_eq_true, Nat.zero_le, s2, s3, s6, s7, s11, s50, s51, hlt2, hhd2, qs, hb]; rfl) (by simp only [put_some, put_none]; rfl) ?_ | refine ToD.nop ?_))
            refine fin_found (v := v) (x := some _) (by simp only [go_sem, eqs hxE2, reduceIte, seval]) (by simp only [go_sem, eqs hxE2, reduceIte, seval]; rfl) hd2 (fun hp => ?_) (fun _ cs h => by cases h; exact ChRow.grow hG2 hf64)
            rcases hG2 with ⟨_, h⟩ | ⟨_, _, rfl, _⟩
            · have : foundL all (listsN i) i = [] := by simpa using h
              have := congrArg List.length this
              rw [foundL_len] at this
              simp only [List.length_nil] at this
              omega
            · cases hp
          · rw [if_neg hsum]
            have hb : ((sumP all : Int) != sm) = true := by simp [hsum]
            generalize (sumP all : Int) = sa at *
            (repeat' (first | refine To.seq hxE2 ?_ | refine To.op0 hxE2 (by simp only [go_sem, eqs hxE2, reduceIte, seval, Heap.gets, Heap.sets, Heap.get, bytesA_length, bytesA_one, bytesA_plains, List.take_of_length_le, List.drop_of_length_le, Nat.add_zero, V.one, Nat.reduceLeDiff, List.all_cons, List.all_nil, ne_eq, not_false_eq_true, Nat.zero_le, s2, s3, s6, s7, s11, s50, s51, hlt2]; rfl) ?_ | refine To.nop hxE2 ?_ | (refine To.condF hxE2 ?_ ?_; focus (simp only [go_sem, eqs hxE2, reduceIte, seval, Heap.gets, Heap.sets, Heap.get, bytesA_length, bytesA_one, bytesA_plains, List.take_of_length_le, List.drop_of_length_le, Nat.add_zero, V.one, Nat.reduceLeDiff, List.all_cons, List.all_nil, ne_eq, not_false_eq_true, Nat.zero_le, s2, s3, s6, s7, s11, s50, s51, hlt2]; done)) | refine To.exit hxE2 ?_ | refine To.draw0 hxE2 ?_ | refine ToD.op0 (by simp only [go_sem, eqs hxE2, reduceIte, seval, Heap.gets, Heap.sets, Heap.get, bytesA_length, bytesA_one, bytesA_plains, List.take_of_length_le, List.drop_of_length_le, Nat.add_zero, V.one, Nat.reduceLeDiff, List.all_cons, List.all_nil, ne_eq, not_false_eq_true, Nat.zero_le, s2, s3, s6, s7, s11, s50, s51, hlt2]; rfl) (by simp only [put_some, put_none]; rfl) ?_ | fail))
            try simp only [andThen, outOf, if_true]
            (repeat' (first | refine To.seq hxE2 ?_ | refine To.op0 hxE2 (by simp only [go_sem, eqs hxE2, reduceIte, seval, Heap.gets, Heap.sets, Heap.get, bytesA_length, bytesA_one, bytesA_plains, List.take_of_length_le, List.drop_of_length_le, Nat.add_zero, V.one, Nat.reduceLeDiff, List.all_cons, List.all_nil, ne_eq, not_false_eq_true, Nat.zero_le, s2, s3, s6, s7, s11, s50, s51, hlt2, hhd2, qs, hb]; rfl) ?_ | refine To.nop hxE2 ?_ | (refine To.condT hxE2 ?_ ?_; focus (simp only [go_sem, eqs hxE2, reduceIte, seval, Heap.gets, Heap.sets, Heap.get, bytesA_length, bytesA_one, bytesA_plains, List.take_of_length_le, List.drop_of_length_le, Nat.add_zero, V.one, Nat.reduceLeDiff, List.all_cons, List.all_nil, ne_eq, not_false_eq_true, Nat.zero_le, s2, s3, s6, s7, s11, s50, s51, hlt2, hhd2, qs, hb]; done)) | refine To.ret hxE2 ?_ | refine ToD.op0 (by simp only [go_sem, eqs hxE2, reduceIte, seval, Heap.gets, Heap.sets, Heap.get, bytesA_length, bytesA_one, bytesA_plains, List.take_of_length_le, List.drop_of_length_le, Nat.add_zero, V.one, Nat.reduceLeDiff, List.all_cons, List.all_nil, ne_eq, not_false_eq_true, Nat.zero_le, s2, s3, s6, s7, s11, s50, s51, hlt2, hhd2, qs, hb]; rfl) (by simp only [put_some, put_none]; rfl) ?_ | refine ToD.nop ?_))
            exact fin_found (v := .nils) (x := none) (by simp only [go_sem, eqs hxE2, reduceIte, seval]) (by simp only [go_sem, eqs hxE2, reduceIte, seval]; rfl) hd2 (fun _ cs h => by cases h) (fun _ cs h => by cases h)
      · refine ⟨0, d1', r, .nils, by omega, rfl, hd, hreg, hhd, hmm, .inl ⟨rfl, rfl⟩, rfl, ?_⟩
        simp only [go_sem, eqs hxE2, reduceIte, seval, s2, s3, s6, s7]
  · refine ⟨0, o.length, [.cells .ex 100 0 [.ptr dd 0, .int .i64 (a : Int), .int .i64 (s : Int)], .cells .ex 103 0 [.int .i64 sq, .bool lv, .int .i64 (cnt : Int), .int .u32 sm]], .nils, by omega, rfl, Nat.le_refl _, app_get0 _ _ _, app_getk _ _ 1, .inl ⟨rfl, rfl⟩, ?_⟩
    simp only [go_sem, eqs hxE2, reduceIte, seval, initS]
end
end Go.Proofs.Ytfbkeieoeagkdaa

/- Journal: redo; Open. -/
namespace Go.Proofs.Ytfbkeieoeagkdaa
open Go AM
set_option linter.unusedSimpArgs false
set_option linter.unusedVariables false
set_option maxRecDepth 100000

def dRedo (on : Bool) (st : DSt) (a s : Nat) (sq : Int) (cnt : Nat) (sm : Int) : Int × Int × DSt :=
  match foundE st a s cnt sm with
  | none => (0, 5, st)
  | some cs =>
    if (dPut on st cs).1 ≠ 0 then (0, (dPut on st cs).1, (dPut on st cs).2)
    else ((cs.length : Int), (dMark on (dPut on st cs).2 a (sq + 1) false 0 0).1, (dMark on (dPut on st cs).2 a (sq + 1) false 0 0).2)
theorem foundE_len {st : DSt} {a s cnt : Nat} {sm : Int} {cs : List (Int × Pg)} (h : foundE st a s cnt sm = some cs) : cs.length = cnt := by
  unfold foundE at h
  split at h
  · cases h
  · split at h
    · split at h
      · cases h; exact foundL_len _ _ _
      · cases h
    · cases h
section
variable {o : List AM.Obj} {e d dd pg lm : Nat} {on : Bool} {left : Int} {pgs : List Pg} {ca : List (Nat × Pg)}
theorem fin_lv3 {a : AF} {i j : Nat} (hr : a.res = [.t i, .t j]) {n m : Int} {S : Nat → V} (hS : S i = .int .i64 n) (hS2 : S j = .int .i64 m) {o1 r1 : List AM.Obj} {e1 d1 : Nat} (D : Dx dd pg lm o o1) (L : Low dd pg lm o o1 o.length d1) (he : o.length ≤ e1) (h1 : dd < o.length) (h2 : pg < o.length) (h3 : lm < o.length) {st : DSt} (P1 : PDs o1 dd pg lm on st) {w : Int × Int × DSt} (hw : w = (n, m, st)) :
    ∃ v oh, finish a ⟨o, e, d⟩ (some (.ret, S, ⟨o1 ++ r1, e1, d1⟩)) = some (v, oh) ∧ v = .val (.tuple [.int .i64 w.1, .int .i64 w.2.1]) ∧ ∃ o' d', Lv dd pg lm o e d oh o' d' ∧ PDs o' dd pg lm on w.2.2 := by
  subst hw
  refine ⟨_, _, fin2 (i := i) (j := j) hr, by rw [hS, hS2], ?_⟩
  obtain ⟨d2, q1, q2, q3, q4⟩ := leave_app2 (o := o) (o' := o1) (r := r1) (e := e) (d := d) (e' := e1) (d' := d1) (v := .tuple [.int .i64 n, .int .i64 m]) rfl D.len he (fun h => by
    rcases L.2 with L | L
    · exact L
    · omega)
  refine ⟨o1, d2, ⟨by rw [hS, hS2]; exact q1, D, q4, ?_⟩, P1⟩
  rcases q2 with q2 | q2
  · exact .inl q2
  · rcases L.2 with L | L
    · exact .inl L
    · exact .inr (by omega)
set_option maxHeartbeats 32000000 in
theorem redo_x (P : PD o dd pg lm on false left pgs ca) {a s cnt : Nat} {sq : Int} {lv : Bool} {sm : Int} (hin : a + s ≤ pgs.length) (hpl : pgs.length ≤ 100000) (hc1 : 1 ≤ cnt) (hc5 : cnt ≤ 512) (hq0 : 0 ≤ sq) (hq1 : sq < 2 ^ 59) :
    ∃ r oh, Den FF E2 56 [.agg (regV dd a s), .agg (headV sq lv cnt sm)] ⟨o, e, d⟩ = some (r, oh) ∧ r = .val (.tuple [.int .i64 (dRedo on ⟨false, left, pgs, ca⟩ a s sq cnt sm).1, .int .i64 (dRedo on ⟨false, left, pgs, ca⟩ a s sq cnt sm).2.1]) ∧ ∃ o' d', Lv dd pg lm o e d oh o' d' ∧ PDs o' dd pg lm on (dRedo on ⟨false, left, pgs, ca⟩ a s sq cnt sm).2.2 := by
  refine To.denE hxE2 (f := 56) (a := af56) rfl (E2_none rfl) (Nat.le_of_ble_eq_true rfl) ?_
  have lD := P.ld
  have lP := P.lp
  have lM := P.ll
  have hrv : regV dd a s = [.ptr dd 0, .int .i64 (a : Int), .int .i64 (s : Int)] := rfl
  have hhv : headV sq lv cnt sm = [.int .i64 sq, .bool lv, .int .i64 (cnt : Int), .int .u32 sm] := rfl
  obtain ⟨r0, oh0, q0, v0, rr0, e0, d0, rfl, G0, hx⟩ := found_x (e := o.length) (d := o.length) (P.app [.cells .ex 100 0 [.ptr dd 0, .int .i64 (a : Int), .int .i64 (s : Int)], .cells .ex 103 0 [.int .i64 sq, .bool lv, .int .i64 (cnt : Int), .int .u32 sm]]) (sq := sq) (lv := lv) (sm := sm) hin hpl hc1 hc5
  have he0 : e0 = o.length := by have := G0.e; rw [List.length_append] at this; omega
  have hd0 : d0 = o.length := by have := G0.d; rw [List.length_append] at this; omega
  subst he0 hd0
  rw [hrv, hhv] at q0
  have g0 := G0.eq
  rw [List.append_assoc] at g0
  have ht3 : List.take 3 [V.ptr dd 0, .int .i64 (a : Int), .int .i64 (s : Int)] = [V.ptr dd 0, .int .i64 (a : Int), .int .i64 (s : Int)] := rfl
  unfold dRedo
  cases hf : foundE ⟨false, left, pgs, ca⟩ a s cnt sm with
  | none =>
    rw [hf] at q0
    simp only [Option.isSome_none, Bool.false_eq_true, if_false] at q0
    (repeat' (first | refine To.seq hxE2 ?_ | refine To.op0 hxE2 (by simp only [go_sem, eqs hxE2, reduceIte, seval, Heap.gets, Heap.sets, Heap.get, bytesA_length, bytesA_one, bytesA_plains, List.take_of_length_le, List.drop_of_length_le, Nat.add_zero, V.one, Nat.reduceLeDiff, List.all_cons, List.all_nil, ne_eq, not_false_eq_true, Nat.zero_le, hrv, hhv]; rfl) ?_ | refine To.op1 hxE2 (by simp only [go_sem, eqs hxE2, reduceIte, seval, Heap.gets, Heap.sets, Heap.get, bytesA_length, bytesA_one, bytesA_plains, List.take_of_length_le, List.drop_of_length_le, Nat.add_zero, V.one, Nat.reduceLeDiff, List.all_cons, List.all_nil, ne_eq, not_false_eq_true, Nat.zero_le, hrv, hhv]; rfl) ?_ | refine To.nop hxE2 ?_))
    refine To.op hxE2 (by simp only [go_sem, eqs hxE2, reduceIte, seval, q0]; rfl) ?_
    rw [g0]
    (repeat' (first | refine To.seq hxE2 ?_ | refine To.op0 hxE2 (by simp only [go_sem, eqs hxE2, reduceIte, seval, bne_self_eq_false]; rfl) ?_ | refine To.nop hxE2 ?_ | (refine To.condT hxE2 ?_ ?_; focus (simp only [go_sem, eqs hxE2, reduceIte, seval, bne_self_eq_false]; done)) | refine To.ret hxE2 ?_))
    exact fin_lv3 (i := 4) (j := 5) (n := 0) (m := 5) rfl (by simp only [go_sem, eqs hxE2, reduceIte, seval]) (by simp only [go_sem, eqs hxE2, reduceIte, seval]) Dx.refl Low.refl (Nat.le_refl _) lD lP lM P rfl
  | some cs =>
    rw [hf] at q0
    simp only [Option.isSome_some, if_true] at q0
    have hrow := hx cs hf
    rw [List.append_assoc] at hrow
    have hlen := foundE_len hf
    have hl := hrow.len
    simp only
    have hreg : ∀ (o1 : List AM.Obj) x r, o1.length = o.length → (o1 ++ (x :: r))[o.length]? = some x := fun o1 x r h => by rw [← h]; exact app_get0 _ _ _
    have hhd : ∀ (o1 : List AM.Obj) (x y : AM.Obj) r, o1.length = o.length → (o1 ++ (x :: y :: r))[o.length + 1]? = some y := fun o1 x y r h => by rw [← h]; exact app_getk _ _ 1
    obtain ⟨r2, oh2, q2, rfl, o2', d2, L2, P2⟩ := rput_x (e := o.length) (d := o.length) (a := (a : Int)) (s := (s : Int)) (P.app ([.cells .ex 100 0 [.ptr dd 0, .int .i64 (a : Int), .int .i64 (s : Int)], .cells .ex 103 0 [.int .i64 sq, .bool lv, .int .i64 (cnt : Int), .int .u32 sm]] ++ rr0)) hrow (by omega)
    obtain ⟨o2, rfl, D2⟩ := L2.dx.split lD lP lM
    have hl2 := D2.len
    have P2' := PD.chop P2 (by omega) (by omega) (by omega)
    have M2 := L2.low.chop
    have g2 := L2.eq
    rw [hrv] at q2
    obtain ⟨n1, st1, hw1⟩ : ∃ n1 st1, dPut on ⟨false, left, pgs, ca⟩ cs = (n1, st1) := ⟨_, _, rfl⟩
    rw [hw1] at q2 P2' ⊢
    simp only at q2 P2' ⊢
    have g0r := hreg o (.cells .ex 100 0 [.ptr dd 0, .int .i64 (a : Int), .int .i64 (s : Int)]) (.cells .ex 103 0 [.int .i64 sq, .bool lv, .int .i64 (cnt : Int), .int .u32 sm] :: rr0) rfl
    have g2r := hreg o2 (.cells .ex 100 0 [.ptr dd 0, .int .i64 (a : Int), .int .i64 (s : Int)]) (.cells .ex 103 0 [.int .i64 sq, .bool lv, .int .i64 (cnt : Int), .int .u32 sm] :: rr0) hl2
    have g2h := hhd o2 (.cells .ex 100 0 [.ptr dd 0, .int .i64 (a : Int), .int .i64 (s : Int)]) (.cells .ex 103 0 [.int .i64 sq, .bool lv, .int .i64 (cnt : Int), .int .u32 sm]) rr0 hl2
    simp only [List.cons_append, List.nil_append] at q2 g0 g2
    (repeat' (first | refine To.seq hxE2 ?_ | refine To.op0 hxE2 (by simp only [go_sem, eqs hxE2, reduceIte, seval, Heap.gets, Heap.sets, Heap.get, bytesA_length, bytesA_one, bytesA_plains, List.take_of_length_le, List.drop_of_length_le, Nat.add_zero, V.one, Nat.reduceLeDiff, List.all_cons, List.all_nil, ne_eq, not_false_eq_true, Nat.zero_le, hrv, hhv]; rfl) ?_ | refine To.op1 hxE2 (by simp only [go_sem, eqs hxE2, reduceIte, seval, Heap.gets, Heap.sets, Heap.get, bytesA_length, bytesA_one, bytesA_plains, List.take_of_length_le, List.drop_of_length_le, Nat.add_zero, V.one, Nat.reduceLeDiff, List.all_cons, List.all_nil, ne_eq, not_false_eq_true, Nat.zero_le, hrv, hhv]; rfl) ?_ | refine To.nop hxE2 ?_))
    refine To.op hxE2 (by simp only [go_sem, eqs hxE2, reduceIte, seval, q0]; rfl) ?_
    rw [g0]
    (repeat' (first | refine To.seq hxE2 ?_ | refine To.op0 hxE2 (by simp only [go_sem, eqs hxE2, reduceIte, seval, Heap.gets, Heap.sets, Heap.get, bytesA_length, bytesA_one, bytesA_plains, List.take_of_length_le, List.drop_of_length_le, Nat.add_zero, V.one, Nat.reduceLeDiff, List.all_cons, List.all_nil, ne_eq, not_false_eq_true, Nat.zero_le, g0r, bne_self_eq_false]; rfl) ?_ | refine To.nop hxE2 ?_ | (refine To.condF hxE2 ?_ ?_; focus (simp only [go_sem, eqs hxE2, reduceIte, seval, Heap.gets, Heap.sets, Heap.get, bytesA_length, bytesA_one, bytesA_plains, List.take_of_length_le, List.drop_of_length_le, Nat.add_zero, V.one, Nat.reduceLeDiff, List.all_cons, List.all_nil, ne_eq, not_false_eq_true, Nat.zero_le, g0r, bne_self_eq_false]; done)) | refine To.skip hxE2 ?_))
    refine To.op hxE2 (by simp only [go_sem, eqs hxE2, reduceIte, seval, q2]; rfl) ?_
    rw [g2]
    (repeat' (first | refine To.seq hxE2 ?_ | refine To.op0 hxE2 (by simp only [go_sem, eqs hxE2, reduceIte, seval]; rfl) ?_ | refine To.nop hxE2 ?_))
    by_cases hz1 : n1 = 0
    case neg =>
      have hb : (n1 != 0) = true := by simpa using hz1
      (repeat' (first | refine To.seq hxE2 ?_ | refine To.op0 hxE2 (by simp only [go_sem, eqs hxE2, reduceIte, seval, hb]; rfl) ?_ | refine To.nop hxE2 ?_ | (refine To.condT hxE2 ?_ ?_; focus (simp only [go_sem, eqs hxE2, reduceIte, seval, hb]; done)) | refine To.ret hxE2 ?_))
      exact fin_lv3 (i := 4) (j := 5) (n := 0) (m := n1) rfl (by simp only [go_sem, eqs hxE2, reduceIte, seval]) (by simp only [go_sem, eqs hxE2, reduceIte, seval]) D2 M2 (Nat.le_refl _) lD lP lM P2' (by rw [if_pos (by simpa using hz1)])
    subst hz1
    rw [if_neg (by simp)]
    obtain ⟨r3, oh3, q3, rfl, o3', d3, L3, P3⟩ := mark_x (e := o.length) (d := d2) (a := (a : Int)) (s := (s : Int)) (sq := sq + 1) (lv := false) (c := 0) (sm := 0) (P2'.app (.cells .ex 100 0 [.ptr dd 0, .int .i64 (a : Int), .int .i64 (s : Int)] :: .cells .ex 103 0 [.int .i64 sq, .bool lv, .int .i64 (cnt : Int), .int .u32 sm] :: rr0)) (by omega) (by omega)
    obtain ⟨o3, rfl, D3⟩ := L3.dx.split (by omega) (by omega) (by omega)
    have hl3 := D3.len
    have P3' := PD.chop P3 (by omega) (by omega) (by omega)
    have M3 := M2.trans L3.low.chop
    have g3 := L3.eq
    have hw2 : dMark on ⟨st1.down, st1.left, st1.pgs, st1.ca⟩ a (sq + 1) false 0 0 = dMark on st1 a (sq + 1) false 0 0 := rfl
    rw [hw2] at q3 P3'
    have hhv2 : headV (sq + 1) false 0 0 = [.int .i64 (sq + 1), .bool false, .int .i64 0, .int .u32 0] := rfl
    rw [hrv, hhv2] at q3
    have wq : IntKind.i64.wrap (sq + 1) = sq + 1 := wrap_i64 (by omega) (by omega)
    generalize dMark on st1 a (sq + 1) false 0 0 = w2 at *
    obtain ⟨n2, st2⟩ := w2
    simp only at q3 P3' ⊢
    (repeat' (first | refine To.seq hxE2 ?_ | refine To.op0 hxE2 (by simp only [go_sem, eqs hxE2, reduceIte, seval, Heap.gets, Heap.sets, Heap.get, bytesA_length, bytesA_one, bytesA_plains, List.take_of_length_le, List.drop_of_length_le, Nat.add_zero, V.one, Nat.reduceLeDiff, List.all_cons, List.all_nil, ne_eq, not_false_eq_true, Nat.zero_le, hl, g2r, g2h, wq, bne_self_eq_false]; rfl) ?_ | (refine To.condF hxE2 ?_ ?_; focus (simp only [go_sem, eqs hxE2, reduceIte, seval, Heap.gets, Heap.sets, Heap.get, bytesA_length, bytesA_one, bytesA_plains, List.take_of_length_le, List.drop_of_length_le, Nat.add_zero, V.one, Nat.reduceLeDiff, List.all_cons, List.all_nil, ne_eq, not_false_eq_true, Nat.zero_le, hl, g2r, g2h, wq, bne_self_eq_false]; done)) | refine To.skip hxE2 ?_))
    refine To.op hxE2 (by simp only [go_sem, eqs hxE2, reduceIte, seval, q3]; rfl) ?_
    rw [g3]
    (repeat' (first | refine To.op0 hxE2 (by simp only [go_sem, eqs hxE2, reduceIte, seval]; rfl) ?_ | refine To.nop hxE2 ?_ | refine To.ret hxE2 ?_))
    exact fin_lv3 (i := 4) (j := 5) (n := (cs.length : Int)) (m := n2) rfl (by simp only [go_sem, eqs hxE2, reduceIte, seval]) (by simp only [go_sem, eqs hxE2, reduceIte, seval]) (D2.trans D3) M3 (Nat.le_refl _) lD lP lM P3' rfl
end
end Go.Proofs.Ytfbkeieoeagkdaa

/- Journal: Open. -/
namespace Go.Proofs.Ytfbkeieoeagkdaa
open Go AM
set_option linter.unusedSimpArgs false
set_option linter.unusedVariables false
set_option maxRecDepth 100000

def openB (w : Int × Int × DSt) (sq : Int) : Int × Int × Int × DSt := if w.2.1 ≠ 0 then (w.2.1, 0, 0, w.2.2) else (0, sq, w.1, w.2.2)
def openM (w : Int × DSt) (sq : Int) : Int × Int × Int × DSt := if w.1 ≠ 0 then (w.1, 0, 0, w.2) else (0, sq, 0, w.2)
def dOpenP (on : Bool) (st : DSt) (a s : Nat) (p : Pg) : Int × Int × Int × DSt :=
  if (wholeP p && liveP p) = true then openB (dRedo on st a s (getK p 0 4 : Int) (getK p 5 2) (getK p 7 4 : Int)) ((getK p 0 4 : Int) + 2)
  else openM (dMark on st a (nextP p : Int) false 0 0) ((nextP p : Int) + 1)
/-- Open's error, the journal's number, the changes made, the disk's state. -/
def dOpen (on : Bool) (st : DSt) (a s : Nat) : Int × Int × Int × DSt :=
  if st.down = true then (5, 0, 0, st) else dOpenP on st a s (readP false st.pgs st.ca (a : Int))
section
variable {o : List AM.Obj} {e d dd pg lm : Nat} {on down : Bool} {left : Int} {pgs : List Pg} {ca : List (Nat × Pg)}
theorem fin3 {a : AF} {h : Heap} {S : Nat → V} {h' : Heap} {i j k : Nat} (hr : a.res = [.t i, .t j, .t k]) : finish a h (some (.ret, S, h')) = some (.val (.tuple [S i, S j, S k]), leave h h' (.tuple [S i, S j, S k])) := by
  simp only [finish, hr, resAll, resOne, resV]; rfl
/-- What Open leaves. -/
def OpenR (dd pg lm : Nat) (on : Bool) (o : List AM.Obj) (e d : Nat) (a s : Nat) (r : Out) (oh : Option Heap) (w : Int × Int × Int × DSt) : Prop :=
  (w.1 ≠ 0 ∧ r = .val (.tuple [.nilp, .int .i64 0, .int .i64 w.1]) ∧ ∃ o' d', Lv dd pg lm o e d oh o' d' ∧ PDs o' dd pg lm on w.2.2.2) ∨
  (w.1 = 0 ∧ ∃ jl, r = .val (.tuple [.ptr jl 0, .int .i64 w.2.2.1, .int .i64 0]) ∧ o.length ≤ jl ∧ ∃ o' rr e' d', oh.getD ⟨o, e, d⟩ = ⟨o' ++ rr, e', d'⟩ ∧ Dx dd pg lm o o' ∧ Low dd pg lm o o' d d' ∧ min e o.length ≤ e' ∧ e' ≤ e ∧ PJ (o' ++ rr) jl dd pg lm a s w.2.1 false on w.2.2.2)
theorem fin_open_no {S : Nat → V} {n : Int} (h6 : S 6 = .nilp) (h7 : S 7 = .int .i64 0) (h8 : S 8 = .int .i64 n) {o1 r1 : List AM.Obj} {e1 d1 : Nat} (D : Dx dd pg lm o o1) (L : Low dd pg lm o o1 o.length d1) (he : o.length ≤ e1) (h1 : dd < o.length) (h2 : pg < o.length) (h3 : lm < o.length) {st : DSt} (P1 : PDs o1 dd pg lm on st) {a s : Nat} (hn : n ≠ 0) :
    ∃ v oh, finish af31 ⟨o, e, d⟩ (some (.ret, S, ⟨o1 ++ r1, e1, d1⟩)) = some (v, oh) ∧ OpenR dd pg lm on o e d a s v oh (n, 0, 0, st) := by
  refine ⟨_, _, fin3 (i := 6) (j := 7) (k := 8) rfl, .inl ⟨hn, by rw [h6, h7, h8], ?_⟩⟩
  obtain ⟨d2, q1, q2, q3, q4⟩ := leave_app2 (o := o) (o' := o1) (r := r1) (e := e) (d := d) (e' := e1) (d' := d1) (v := .tuple [.nilp, .int .i64 0, .int .i64 n]) rfl D.len he (fun h => by
    rcases L.2 with L | L
    · exact L
    · omega)
  refine ⟨o1, d2, ⟨by rw [h6, h7, h8]; exact q1, D, q4, ?_⟩, P1⟩
  rcases q2 with q2 | q2
  · exact .inl q2
  · rcases L.2 with L | L
    · exact .inl L
    · exact .inr (by omega)
theorem fin_open {S : Nat → V} {n sq : Int} {jl : Nat} (h6 : S 6 = .ptr jl 0) (h7 : S 7 = .int .i64 n) (h8 : S 8 = .int .i64 0) {o1 r1 : List AM.Obj} {e1 d1 : Nat} (D : Dx dd pg lm o o1) (L : Low dd pg lm o o1 o.length d1) (he : o.length ≤ e1) (h1 : dd < o.length) (h2 : pg < o.length) (h3 : lm < o.length) {st : DSt} {a s : Nat} (hj : o.length ≤ jl) (J : PJ (o1 ++ r1) jl dd pg lm a s sq false on st) :
    ∃ v oh, finish af31 ⟨o, e, d⟩ (some (.ret, S, ⟨o1 ++ r1, e1, d1⟩)) = some (v, oh) ∧ OpenR dd pg lm on o e d a s v oh (0, sq, n, st) := by
  refine ⟨_, _, fin3 (i := 6) (j := 7) (k := 8) rfl, .inr ⟨rfl, jl, by rw [h6, h7, h8], hj, o1, r1, min e e1, min d d1, ?_, D, ⟨Nat.min_le_left _ _, ?_⟩, by omega, Nat.min_le_left _ _, J⟩⟩
  · rw [h6, h7, h8]
    unfold leave
    simp only
    rw [if_neg (by simp [V.plain, V.plains])]; rfl
  · rcases L.2 with L | L
    · exact .inl L
    · exact .inr (by omega)
set_option maxHeartbeats 32000000 in
theorem open_x (P : PD o dd pg lm on down left pgs ca) {a s : Nat} (hr : 1 ≤ roomJ s) (hin : a + s ≤ pgs.length) (hs1 : 1 ≤ s) (hpl : pgs.length ≤ 100000) :
    ∃ r oh, Den FF E2 31 [.ptr dd 0, .int .i64 (a : Int), .int .i64 (s : Int)] ⟨o, e, d⟩ = some (r, oh) ∧ OpenR dd pg lm on o e d a s r oh (dOpen on ⟨down, left, pgs, ca⟩ a s) := by
  refine To.denE hxE2 (f := 31) (a := af31) rfl (E2_none rfl) (Nat.le_of_ble_eq_true rfl) ?_
  have lD := P.ld
  have lP := P.lp
  have lM := P.ll
  have qd := fun r e d => down_q (e := e) (d := d) (P.app r)
  have qp := fun r e d => pages_q (e := e) (d := d) (P.app r)
  have qrd := fun r e d => read_q (e := e) (d := d) (P.app r) (a : Int)
  have qr := fun r e d => room_q (o := o ++ r) (e := e) (d := d) (size := (s : Int))
  have qd0 := fun e d => down_q (e := e) (d := d) P
  have qp0 := fun e d => pages_q (e := e) (d := d) P
  have qr0 := fun e d => room_q (o := o) (e := e) (d := d) (size := (s : Int))
  have hrv : regV dd a s = [.ptr dd 0, .int .i64 (a : Int), .int .i64 (s : Int)] := rfl
  unfold dOpen
  cases hdn : down
  case true =>
    subst hdn
    have h0 : hasE true pgs.length (a : Int) = 5 := by unfold hasE; rw [if_pos rfl]
    have hz : readP true pgs ca (a : Int) = List.replicate 64 0 := rfl
    rw [h0] at qrd
    have h64 : (bytesA (readP true pgs ca (a : Int))).length = 64 := by rw [bytesA_length, hz]; rfl
    generalize readP true pgs ca (a : Int) = p at *
    have htk : List.take 64 (bytesA p) = bytesA p := List.take_of_length_le (by omega)
    have hdr : List.drop 64 (bytesA p) = [] := List.drop_eq_nil_of_le (by omega)
    (repeat' (first | refine To.seq hxE2 ?_ | refine To.op0 hxE2 (by simp only [go_sem, eqs hxE2, reduceIte, seval, Heap.gets, Heap.sets, Heap.get, bytesA_length, bytesA_one, bytesA_plains, List.take_of_length_le, List.drop_of_length_le, Nat.add_zero, V.one, Nat.reduceLeDiff, List.all_cons, List.all_nil, ne_eq, not_false_eq_true, Nat.zero_le, qd0, qp0, qr0, qd, qp, qr, qrd, h64, htk, hdr, z64_len, z64_drop, z64_one, z64_plains, List.append_nil]; rfl) ?_ | refine To.op1 hxE2 (by simp only [go_sem, eqs hxE2, reduceIte, seval, Heap.gets, Heap.sets, Heap.get, bytesA_length, bytesA_one, bytesA_plains, List.take_of_length_le, List.drop_of_length_le, Nat.add_zero, V.one, Nat.reduceLeDiff, List.all_cons, List.all_nil, ne_eq, not_false_eq_true, Nat.zero_le, qd0, qp0, qr0, qd, qp, qr, qrd, h64, htk, hdr, z64_len, z64_drop, z64_one, z64_plains, List.append_nil]; rfl) ?_ | refine To.nop hxE2 ?_ | (refine To.condT hxE2 ?_ ?_; focus (simp only [go_sem, eqs hxE2, reduceIte, seval, Heap.gets, Heap.sets, Heap.get, bytesA_length, bytesA_one, bytesA_plains, List.take_of_length_le, List.drop_of_length_le, Nat.add_zero, V.one, Nat.reduceLeDiff, List.all_cons, List.all_nil, ne_eq, not_false_eq_true, Nat.zero_le, qd0, qp0, qr0, qd, qp, qr, qrd, h64, htk, hdr, z64_len, z64_drop, z64_one, z64_plains, List.append_nil]; done)) | (refine To.condF hxE2 ?_ ?_; focus (simp only [go_sem, eqs hxE2, reduceIte, seval, Heap.gets, Heap.sets, Heap.get, bytesA_length, bytesA_one, bytesA_plains, List.take_of_length_le, List.drop_of_length_le, Nat.add_zero, V.one, Nat.reduceLeDiff, List.all_cons, List.all_nil, ne_eq, not_false_eq_true, Nat.zero_le, qd0, qp0, qr0, qd, qp, qr, qrd, h64, htk, hdr, z64_len, z64_drop, z64_one, z64_plains, List.append_nil]; done)) | refine To.ret hxE2 ?_ | refine To.skip hxE2 ?_))
    exact fin_open_no (n := 5) (by simp only [go_sem, eqs hxE2, reduceIte, seval]) (by simp only [go_sem, eqs hxE2, reduceIte, seval]) (by simp only [go_sem, eqs hxE2, reduceIte, seval]) Dx.refl (Low.refl.less (by omega)) (by omega) lD lP lM P (by decide)
  subst hdn
  have h0 : hasE false pgs.length (a : Int) = 0 := by unfold hasE; rw [if_neg (by simp), if_neg (by rintro (h | h) <;> omega)]
  have h64 := readP_64 P a (by omega)
  rw [h0] at qrd
  have hrl := roomJ_le (s : Int)
  have b1 : ((roomJ (s : Int) : Int) == 0) = false := by simp; omega
  have b2 : decide ((a : Int) < 0) = false := decide_eq_false (by omega)
  have b3 : decide ((pgs.length : Int) < (a : Int)) = false := decide_eq_false (by omega)
  have w1 : IntKind.i64.wrap ((pgs.length : Int) - (a : Int)) = (pgs.length : Int) - (a : Int) := wrap_i64 (by omega) (by omega)
  have b4 : decide ((pgs.length : Int) - (a : Int) < (s : Int)) = false := decide_eq_false (by omega)
  simp only [Bool.false_eq_true, if_false]
  generalize readP false pgs ca (a : Int) = p at *
  unfold dOpenP
  have qdec := fun r e d => decode_q (o := o ++ r) (e := e) (d := d) h64
  have hbl : (bytesA p).length = 64 := by rw [bytesA_length]; exact h64
  have htk : List.take 64 (bytesA p) = bytesA p := List.take_of_length_le (by omega)
  have hdr : List.drop 64 (bytesA p) = [] := List.drop_eq_nil_of_le (by omega)
  have gp : ∀ (x y : AM.Obj) r, (o ++ (x :: y :: r))[o.length + 1]? = some y := fun x y r => app_getk _ _ 1
  have gh : ∀ (x y z : AM.Obj) r, (o ++ (x :: y :: z :: r))[o.length + 2]? = some z := fun x y z r => app_getk _ _ 2
  have s0 : getK p 0 4 < 4294967296 := getK_lt p 0 4
  have hm1 : min o.length (o.length + 1) = o.length := by omega
  have hm2 : min o.length (o.length + 2) = o.length := by omega
  have hpc : pgC [p] = bytesA p := by simp [pgC]
  have s3 : getK p 60 4 < 4294967296 := getK_lt p 60 4
  have hnx : nextP p ≤ 4294967296 := by unfold nextP; omega
  cases hw : wholeP p
  · rw [hw] at qdec
    simp only [Bool.false_and, Bool.false_eq_true, if_false] at qdec ⊢
    have hv0 : headV 0 false 0 0 = [.int .i64 0, .bool false, .int .i64 0, .int .u32 0] := rfl
    rw [hv0] at qdec
    have qn := fun e d => next_q (o := o ++ [.cells .ex 100 0 [.ptr dd 0, .int .i64 (a : Int), .int .i64 (s : Int)], .cells .ex 31 0 (bytesA p), .cells .ex 103 0 [.int .i64 0, .bool false, .int .i64 0, .int .u32 0], .cells .ex 31 0 (bytesA p)]) (e := e) (d := d) (v := .slice (o.length + 3) 0 1 64) (p := p) ⟨rfl, fun _ => ⟨o.length + 3, .ex, 31, rfl, by rw [app_getk _ _ 3, hpc]; rfl⟩, fun x hx => by rw [List.mem_singleton.1 hx]; exact h64⟩
    (repeat' (first | refine To.seq hxE2 ?_ | refine To.op0 hxE2 (by simp only [go_sem, eqs hxE2, reduceIte, seval, Heap.gets, Heap.sets, Heap.get, bytesA_length, bytesA_one, bytesA_plains, List.take_of_length_le, List.drop_of_length_le, Nat.add_zero, V.one, Nat.reduceLeDiff, List.all_cons, List.all_nil, ne_eq, not_false_eq_true, Nat.zero_le, qd0, qp0, qr0, qd, qp, qr, qrd, qdec, b1, b2, b3, b4, w1, hbl, h64, htk, hdr, gp, gh, z64_len, z64_drop, z64_one, z64_plains, List.append_nil, bne_self_eq_false, hm1, hm2, qn]; rfl) ?_ | refine To.op1 hxE2 (by simp only [go_sem, eqs hxE2, reduceIte, seval, Heap.gets, Heap.sets, Heap.get, bytesA_length, bytesA_one, bytesA_plains, List.take_of_length_le, List.drop_of_length_le, Nat.add_zero, V.one, Nat.reduceLeDiff, List.all_cons, List.all_nil, ne_eq, not_false_eq_true, Nat.zero_le, qd0, qp0, qr0, qd, qp, qr, qrd, qdec, b1, b2, b3, b4, w1, hbl, h64, htk, hdr, gp, gh, z64_len, z64_drop, z64_one, z64_plains, List.append_nil, bne_self_eq_false, hm1, hm2, qn]; rfl) ?_ | refine To.nop hxE2 ?_ | (refine To.condF hxE2 ?_ ?_; focus (simp only [go_sem, eqs hxE2, reduceIte, seval, Heap.gets, Heap.sets, Heap.get, bytesA_length, bytesA_one, bytesA_plains, List.take_of_length_le, List.drop_of_length_le, Nat.add_zero, V.one, Nat.reduceLeDiff, List.all_cons, List.all_nil, ne_eq, not_false_eq_true, Nat.zero_le, qd0, qp0, qr0, qd, qp, qr, qrd, qdec, b1, b2, b3, b4, w1, hbl, h64, htk, hdr, gp, gh, z64_len, z64_drop, z64_one, z64_plains, List.append_nil, bne_self_eq_false, hm1, hm2, qn]; done)) | refine To.skip hxE2 ?_))
    obtain ⟨r2, oh2, q2, rfl, o2', d2, L2, P2⟩ := mark_x (e := o.length) (d := o.length) (a := (a : Int)) (s := (s : Int)) (sq := (nextP p : Int)) (lv := false) (c := 0) (sm := 0) (P.app [.cells .ex 100 0 [.ptr dd 0, .int .i64 (a : Int), .int .i64 (s : Int)], .cells .ex 31 0 (bytesA p), .cells .ex 103 0 [.int .i64 0, .bool false, .int .i64 0, .int .u32 0], .cells .ex 31 0 (bytesA p)]) (by omega) (by omega)
    obtain ⟨o2, rfl, D2⟩ := L2.dx.split lD lP lM
    have hl2 := D2.len
    have P2' := PD.chop P2 (by omega) (by omega) (by omega)
    have M2 := L2.low.chop
    have g2 := L2.eq
    have hhv2 : headV (nextP p : Int) false 0 0 = [.int .i64 (nextP p : Int), .bool false, .int .i64 0, .int .u32 0] := rfl
    rw [hrv, hhv2] at q2
    have gr2 : ∀ x r, (o2 ++ (x :: r))[o.length]? = some x := fun x r => by rw [← hl2]; exact app_get0 _ _ _
    have wn : IntKind.i64.wrap ((nextP p : Int) + 1) = (nextP p : Int) + 1 := wrap_i64 (by omega) (by omega)
    generalize dMark on ⟨false, left, pgs, ca⟩ (a : Int) (nextP p : Int) false 0 0 = w2 at *
    obtain ⟨n2, st2⟩ := w2
    simp only at q2 P2' ⊢
    refine To.op hxE2 (by simp only [go_sem, eqs hxE2, reduceIte, seval, q2]; rfl) ?_
    rw [g2]
    (repeat' (first | refine To.seq hxE2 ?_ | refine To.op0 hxE2 (by simp only [go_sem, eqs hxE2, reduceIte, seval]; rfl) ?_ | refine To.nop hxE2 ?_))
    unfold openM
    simp only
    by_cases hz : n2 = 0
    case neg =>
      have hb : (n2 != 0) = true := by simpa using hz
      rw [if_pos (by simpa using hz)]
      (repeat' (first | refine To.seq hxE2 ?_ | refine To.op0 hxE2 (by simp only [go_sem, eqs hxE2, reduceIte, seval, hb]; rfl) ?_ | refine To.nop hxE2 ?_ | (refine To.condT hxE2 ?_ ?_; focus (simp only [go_sem, eqs hxE2, reduceIte, seval, hb]; done)) | refine To.ret hxE2 ?_))
      exact fin_open_no (n := n2) (by simp only [go_sem, eqs hxE2, reduceIte, seval]) (by simp only [go_sem, eqs hxE2, reduceIte, seval]) (by simp only [go_sem, eqs hxE2, reduceIte, seval]) D2 M2 (Nat.le_refl _) lD lP lM P2' hz
    subst hz
    rw [if_neg (by simp)]
    have hJ : ∀ r x, (o2 ++ (r ++ [x]))[o2.length + r.length]? = some x := fun r x => by rw [app_getk]; simp
    (repeat' (first | refine To.seq hxE2 ?_ | refine To.op0 hxE2 (by simp only [go_sem, eqs hxE2, reduceIte, seval, Heap.gets, Heap.sets, Heap.get, bytesA_length, bytesA_one, bytesA_plains, List.take_of_length_le, List.drop_of_length_le, Nat.add_zero, V.one, Nat.reduceLeDiff, List.all_cons, List.all_nil, ne_eq, not_false_eq_true, Nat.zero_le, gr2, wn, bne_self_eq_false]; rfl) ?_ | refine To.op1 hxE2 (by simp only [go_sem, eqs hxE2, reduceIte, seval, Heap.gets, Heap.sets, Heap.get, bytesA_length, bytesA_one, bytesA_plains, List.take_of_length_le, List.drop_of_length_le, Nat.add_zero, V.one, Nat.reduceLeDiff, List.all_cons, List.all_nil, ne_eq, not_false_eq_true, Nat.zero_le, gr2, wn, bne_self_eq_false]; rfl) ?_ | refine To.nop hxE2 ?_ | (refine To.condF hxE2 ?_ ?_; focus (simp only [go_sem, eqs hxE2, reduceIte, seval, Heap.gets, Heap.sets, Heap.get, bytesA_length, bytesA_one, bytesA_plains, List.take_of_length_le, List.drop_of_length_le, Nat.add_zero, V.one, Nat.reduceLeDiff, List.all_cons, List.all_nil, ne_eq, not_false_eq_true, Nat.zero_le, gr2, wn, bne_self_eq_false]; done)) | refine To.ret hxE2 ?_ | refine To.skip hxE2 ?_))
    refine fin_open (jl := o2.length + 4) (by simp only [go_sem, eqs hxE2, reduceIte, seval]) (by simp only [go_sem, eqs hxE2, reduceIte, seval]) (by simp only [go_sem, eqs hxE2, reduceIte, seval]) D2 M2 (Nat.le_refl _) lD lP lM (by omega) ⟨?_, PD.app P2' _⟩
    exact hJ [_, _, _, _] _
  · rw [hw] at qdec
    simp only [Bool.true_and, if_true] at qdec ⊢
    have hv1 : headV (getK p 0 4 : Int) (liveP p) (getK p 5 2 : Int) (getK p 7 4 : Int) = [.int .i64 (getK p 0 4 : Int), .bool (liveP p), .int .i64 (getK p 5 2 : Int), .int .u32 (getK p 7 4 : Int)] := rfl
    rw [hv1] at qdec
    cases hlv : liveP p
    · rw [hlv] at qdec
      simp only [Bool.false_eq_true, if_false]
      have qn := fun e d => next_q (o := o ++ [.cells .ex 100 0 [.ptr dd 0, .int .i64 (a : Int), .int .i64 (s : Int)], .cells .ex 31 0 (bytesA p), .cells .ex 103 0 [.int .i64 (getK p 0 4 : Int), .bool false, .int .i64 (getK p 5 2 : Int), .int .u32 (getK p 7 4 : Int)], .cells .ex 31 0 (bytesA p)]) (e := e) (d := d) (v := .slice (o.length + 3) 0 1 64) (p := p) ⟨rfl, fun _ => ⟨o.length + 3, .ex, 31, rfl, by rw [app_getk _ _ 3, hpc]; rfl⟩, fun x hx => by rw [List.mem_singleton.1 hx]; exact h64⟩
      (repeat' (first | refine To.seq hxE2 ?_ | refine To.op0 hxE2 (by simp only [go_sem, eqs hxE2, reduceIte, seval, Heap.gets, Heap.sets, Heap.get, bytesA_length, bytesA_one, bytesA_plains, List.take_of_length_le, List.drop_of_length_le, Nat.add_zero, V.one, Nat.reduceLeDiff, List.all_cons, List.all_nil, ne_eq, not_false_eq_true, Nat.zero_le, qd0, qp0, qr0, qd, qp, qr, qrd, qdec, b1, b2, b3, b4, w1, hbl, h64, htk, hdr, gp, gh, z64_len, z64_drop, z64_one, z64_plains, List.append_nil, bne_self_eq_false, hm1, hm2, qn]; rfl) ?_ | refine To.op1 hxE2 (by simp only [go_sem, eqs hxE2, reduceIte, seval, Heap.gets, Heap.sets, Heap.get, bytesA_length, bytesA_one, bytesA_plains, List.take_of_length_le, List.drop_of_length_le, Nat.add_zero, V.one, Nat.reduceLeDiff, List.all_cons, List.all_nil, ne_eq, not_false_eq_true, Nat.zero_le, qd0, qp0, qr0, qd, qp, qr, qrd, qdec, b1, b2, b3, b4, w1, hbl, h64, htk, hdr, gp, gh, z64_len, z64_drop, z64_one, z64_plains, List.append_nil, bne_self_eq_false, hm1, hm2, qn]; rfl) ?_ | refine To.nop hxE2 ?_ | (refine To.condF hxE2 ?_ ?_; focus (simp only [go_sem, eqs hxE2, reduceIte, seval, Heap.gets, Heap.sets, Heap.get, bytesA_length, bytesA_one, bytesA_plains, List.take_of_length_le, List.drop_of_length_le, Nat.add_zero, V.one, Nat.reduceLeDiff, List.all_cons, List.all_nil, ne_eq, not_false_eq_true, Nat.zero_le, qd0, qp0, qr0, qd, qp, qr, qrd, qdec, b1, b2, b3, b4, w1, hbl, h64, htk, hdr, gp, gh, z64_len, z64_drop, z64_one, z64_plains, List.append_nil, bne_self_eq_false, hm1, hm2, qn]; done)) | refine To.skip hxE2 ?_))
      obtain ⟨r2, oh2, q2, rfl, o2', d2, L2, P2⟩ := mark_x (e := o.length) (d := o.length) (a := (a : Int)) (s := (s : Int)) (sq := (nextP p : Int)) (lv := false) (c := 0) (sm := 0) (P.app [.cells .ex 100 0 [.ptr dd 0, .int .i64 (a : Int), .int .i64 (s : Int)], .cells .ex 31 0 (bytesA p), .cells .ex 103 0 [.int .i64 (getK p 0 4 : Int), .bool false, .int .i64 (getK p 5 2 : Int), .int .u32 (getK p 7 4 : Int)], .cells .ex 31 0 (bytesA p)]) (by omega) (by omega)
      obtain ⟨o2, rfl, D2⟩ := L2.dx.split lD lP lM
      have hl2 := D2.len
      have P2' := PD.chop P2 (by omega) (by omega) (by omega)
      have M2 := L2.low.chop
      have g2 := L2.eq
      have hhv2 : headV (nextP p : Int) false 0 0 = [.int .i64 (nextP p : Int), .bool false, .int .i64 0, .int .u32 0] := rfl
      rw [hrv, hhv2] at q2
      have gr2 : ∀ x r, (o2 ++ (x :: r))[o.length]? = some x := fun x r => by rw [← hl2]; exact app_get0 _ _ _
      have wn : IntKind.i64.wrap ((nextP p : Int) + 1) = (nextP p : Int) + 1 := wrap_i64 (by omega) (by omega)
      generalize dMark on ⟨false, left, pgs, ca⟩ (a : Int) (nextP p : Int) false 0 0 = w2 at *
      obtain ⟨n2, st2⟩ := w2
      simp only at q2 P2' ⊢
      refine To.op hxE2 (by simp only [go_sem, eqs hxE2, reduceIte, seval, q2]; rfl) ?_
      rw [g2]
      (repeat' (first | refine To.seq hxE2 ?_ | refine To.op0 hxE2 (by simp only [go_sem, eqs hxE2, reduceIte, seval]; rfl) ?_ | refine To.nop hxE2 ?_))
      unfold openM
      simp only
      by_cases hz : n2 = 0
      case neg =>
        have hb : (n2 != 0) = true := by simpa using hz
        rw [if_pos (by simpa using hz)]
        (repeat' (first | refine To.seq hxE2 ?_ | refine To.op0 hxE2 (by simp only [go_sem, eqs hxE2, reduceIte, seval, hb]; rfl) ?_ | refine To.nop hxE2 ?_ | (refine To.condT hxE2 ?_ ?_; focus (simp only [go_sem, eqs hxE2, reduceIte, seval, hb]; done)) | refine To.ret hxE2 ?_))
        exact fin_open_no (n := n2) (by simp only [go_sem, eqs hxE2, reduceIte, seval]) (by simp only [go_sem, eqs hxE2, reduceIte, seval]) (by simp only [go_sem, eqs hxE2, reduceIte, seval]) D2 M2 (Nat.le_refl _) lD lP lM P2' hz
      subst hz
      rw [if_neg (by simp)]
      have hJ : ∀ r x, (o2 ++ (r ++ [x]))[o2.length + r.length]? = some x := fun r x => by rw [app_getk]; simp
      (repeat' (first | refine To.seq hxE2 ?_ | refine To.op0 hxE2 (by simp only [go_sem, eqs hxE2, reduceIte, seval, Heap.gets, Heap.sets, Heap.get, bytesA_length, bytesA_one, bytesA_plains, List.take_of_length_le, List.drop_of_length_le, Nat.add_zero, V.one, Nat.reduceLeDiff, List.all_cons, List.all_nil, ne_eq, not_false_eq_true, Nat.zero_le, gr2, wn, bne_self_eq_false]; rfl) ?_ | refine To.op1 hxE2 (by simp only [go_sem, eqs hxE2, reduceIte, seval, Heap.gets, Heap.sets, Heap.get, bytesA_length, bytesA_one, bytesA_plains, List.take_of_length_le, List.drop_of_length_le, Nat.add_zero, V.one, Nat.reduceLeDiff, List.all_cons, List.all_nil, ne_eq, not_false_eq_true, Nat.zero_le, gr2, wn, bne_self_eq_false]; rfl) ?_ | refine To.nop hxE2 ?_ | (refine To.condF hxE2 ?_ ?_; focus (simp only [go_sem, eqs hxE2, reduceIte, seval, Heap.gets, Heap.sets, Heap.get, bytesA_length, bytesA_one, bytesA_plains, List.take_of_length_le, List.drop_of_length_le, Nat.add_zero, V.one, Nat.reduceLeDiff, List.all_cons, List.all_nil, ne_eq, not_false_eq_true, Nat.zero_le, gr2, wn, bne_self_eq_false]; done)) | refine To.ret hxE2 ?_ | refine To.skip hxE2 ?_))
      refine fin_open (jl := o2.length + 4) (by simp only [go_sem, eqs hxE2, reduceIte, seval]) (by simp only [go_sem, eqs hxE2, reduceIte, seval]) (by simp only [go_sem, eqs hxE2, reduceIte, seval]) D2 M2 (Nat.le_refl _) lD lP lM (by omega) ⟨?_, PD.app P2' _⟩
      exact hJ [_, _, _, _] _
    · rw [hlv] at qdec
      simp only [if_true]
      have hri : rightH (getK p 0 4) true (getK p 5 2) (getK p 7 4) = true := by
        unfold wholeP at hw
        rw [hlv] at hw
        exact (Bool.and_eq_true_iff.1 hw).1
      have hcn : 1 ≤ getK p 5 2 ∧ getK p 5 2 ≤ 512 := by
        unfold rightH at hri
        have := of_decide_eq_true ((Bool.and_eq_true_iff.1 hri).2)
        omega
      (repeat' (first | refine To.seq hxE2 ?_ | refine To.op0 hxE2 (by simp only [go_sem, eqs hxE2, reduceIte, seval, Heap.gets, Heap.sets, Heap.get, bytesA_length, bytesA_one, bytesA_plains, List.take_of_length_le, List.drop_of_length_le, Nat.add_zero, V.one, Nat.reduceLeDiff, List.all_cons, List.all_nil, ne_eq, not_false_eq_true, Nat.zero_le, qd0, qp0, qr0, qd, qp, qr, qrd, qdec, b1, b2, b3, b4, w1, hbl, h64, htk, hdr, gp, gh, z64_len, z64_drop, z64_one, z64_plains, List.append_nil, bne_self_eq_false, hm1, hm2]; rfl) ?_ | refine To.op1 hxE2 (by simp only [go_sem, eqs hxE2, reduceIte, seval, Heap.gets, Heap.sets, Heap.get, bytesA_length, bytesA_one, bytesA_plains, List.take_of_length_le, List.drop_of_length_le, Nat.add_zero, V.one, Nat.reduceLeDiff, List.all_cons, List.all_nil, ne_eq, not_false_eq_true, Nat.zero_le, qd0, qp0, qr0, qd, qp, qr, qrd, qdec, b1, b2, b3, b4, w1, hbl, h64, htk, hdr, gp, gh, z64_len, z64_drop, z64_one, z64_plains, List.append_nil, bne_self_eq_false, hm1, hm2]; rfl) ?_ | refine To.nop hxE2 ?_ | (refine To.condT hxE2 ?_ ?_; focus (simp only [go_sem, eqs hxE2, reduceIte, seval, Heap.gets, Heap.sets, Heap.get, bytesA_length, bytesA_one, bytesA_plains, List.take_of_length_le, List.drop_of_length_le, Nat.add_zero, V.one, Nat.reduceLeDiff, List.all_cons, List.all_nil, ne_eq, not_false_eq_true, Nat.zero_le, qd0, qp0, qr0, qd, qp, qr, qrd, qdec, b1, b2, b3, b4, w1, hbl, h64, htk, hdr, gp, gh, z64_len, z64_drop, z64_one, z64_plains, List.append_nil, bne_self_eq_false, hm1, hm2]; done)) | (refine To.condF hxE2 ?_ ?_; focus (simp only [go_sem, eqs hxE2, reduceIte, seval, Heap.gets, Heap.sets, Heap.get, bytesA_length, bytesA_one, bytesA_plains, List.take_of_length_le, List.drop_of_length_le, Nat.add_zero, V.one, Nat.reduceLeDiff, List.all_cons, List.all_nil, ne_eq, not_false_eq_true, Nat.zero_le, qd0, qp0, qr0, qd, qp, qr, qrd, qdec, b1, b2, b3, b4, w1, hbl, h64, htk, hdr, gp, gh, z64_len, z64_drop, z64_one, z64_plains, List.append_nil, bne_self_eq_false, hm1, hm2]; done)) | refine To.skip hxE2 ?_))
      obtain ⟨r2, oh2, q2, rfl, o2', d2, L2, P2⟩ := redo_x (e := o.length) (d := o.length) (sq := (getK p 0 4 : Int)) (lv := true) (sm := (getK p 7 4 : Int)) (P.app [.cells .ex 100 0 [.ptr dd 0, .int .i64 (a : Int), .int .i64 (s : Int)], .cells .ex 31 0 (bytesA p), .cells .ex 103 0 [.int .i64 (getK p 0 4 : Int), .bool true, .int .i64 (getK p 5 2 : Int), .int .u32 (getK p 7 4 : Int)]]) hin hpl hcn.1 hcn.2 (by omega) (by omega)
      obtain ⟨o2, rfl, D2⟩ := L2.dx.split lD lP lM
      have hl2 := D2.len
      have P2' := PD.chop P2 (by omega) (by omega) (by omega)
      have M2 := L2.low.chop
      have g2 := L2.eq
      have hhv2 : headV (getK p 0 4 : Int) true (getK p 5 2 : Int) (getK p 7 4 : Int) = [.int .i64 (getK p 0 4 : Int), .bool true, .int .i64 (getK p 5 2 : Int), .int .u32 (getK p 7 4 : Int)] := rfl
      rw [hrv, hhv2] at q2
      have gr2 : ∀ x r, (o2 ++ (x :: r))[o.length]? = some x := fun x r => by rw [← hl2]; exact app_get0 _ _ _
      have gh2 : ∀ x y z r, (o2 ++ (x :: y :: z :: r))[o.length + 2]? = some z := fun x y z r => by rw [← hl2]; exact app_getk _ _ 2
      have wn : IntKind.i64.wrap ((getK p 0 4 : Int) + 2) = (getK p 0 4 : Int) + 2 := wrap_i64 (by omega) (by omega)
      generalize dRedo on ⟨false, left, pgs, ca⟩ a s (getK p 0 4 : Int) (getK p 5 2) (getK p 7 4 : Int) = w2 at *
      obtain ⟨n1, n2, st2⟩ := w2
      simp only at q2 P2' ⊢
      refine To.op hxE2 (by simp only [go_sem, eqs hxE2, reduceIte, seval, q2]; rfl) ?_
      rw [g2]
      (repeat' (first | refine To.seq hxE2 ?_ | refine To.op0 hxE2 (by simp only [go_sem, eqs hxE2, reduceIte, seval]; rfl) ?_ | refine To.nop hxE2 ?_))
      unfold openB
      simp only
      by_cases hz : n2 = 0
      case neg =>
        have hb : (n2 != 0) = true := by simpa using hz
        rw [if_pos (by simpa using hz)]
        (repeat' (first | refine To.seq hxE2 ?_ | refine To.op0 hxE2 (by simp only [go_sem, eqs hxE2, reduceIte, seval, hb]; rfl) ?_ | refine To.nop hxE2 ?_ | (refine To.condT hxE2 ?_ ?_; focus (simp only [go_sem, eqs hxE2, reduceIte, seval, hb]; done)) | refine To.ret hxE2 ?_))
        exact fin_open_no (n := n2) (by simp only [go_sem, eqs hxE2, reduceIte, seval]) (by simp only [go_sem, eqs hxE2, reduceIte, seval]) (by simp only [go_sem, eqs hxE2, reduceIte, seval]) D2 M2 (Nat.le_refl _) lD lP lM P2' hz
      subst hz
      rw [if_neg (by simp)]
      have hJ : ∀ r x, (o2 ++ (r ++ [x]))[o2.length + r.length]? = some x := fun r x => by rw [app_getk]; simp
      (repeat' (first | refine To.seq hxE2 ?_ | refine To.op0 hxE2 (by simp only [go_sem, eqs hxE2, reduceIte, seval, Heap.gets, Heap.sets, Heap.get, bytesA_length, bytesA_one, bytesA_plains, List.take_of_length_le, List.drop_of_length_le, Nat.add_zero, V.one, Nat.reduceLeDiff, List.all_cons, List.all_nil, ne_eq, not_false_eq_true, Nat.zero_le, gr2, gh2, wn, bne_self_eq_false]; rfl) ?_ | refine To.op1 hxE2 (by simp only [go_sem, eqs hxE2, reduceIte, seval, Heap.gets, Heap.sets, Heap.get, bytesA_length, bytesA_one, bytesA_plains, List.take_of_length_le, List.drop_of_length_le, Nat.add_zero, V.one, Nat.reduceLeDiff, List.all_cons, List.all_nil, ne_eq, not_false_eq_true, Nat.zero_le, gr2, gh2, wn, bne_self_eq_false]; rfl) ?_ | refine To.nop hxE2 ?_ | (refine To.condF hxE2 ?_ ?_; focus (simp only [go_sem, eqs hxE2, reduceIte, seval, Heap.gets, Heap.sets, Heap.get, bytesA_length, bytesA_one, bytesA_plains, List.take_of_length_le, List.drop_of_length_le, Nat.add_zero, V.one, Nat.reduceLeDiff, List.all_cons, List.all_nil, ne_eq, not_false_eq_true, Nat.zero_le, gr2, gh2, wn, bne_self_eq_false]; done)) | refine To.ret hxE2 ?_ | refine To.skip hxE2 ?_))
      refine fin_open (jl := o2.length + 3) (by simp only [go_sem, eqs hxE2, reduceIte, seval]) (by simp only [go_sem, eqs hxE2, reduceIte, seval]) (by simp only [go_sem, eqs hxE2, reduceIte, seval]) D2 M2 (Nat.le_refl _) lD lP lM (by omega) ⟨?_, PD.app P2' _⟩
      exact hJ [_, _, _] _
end
end Go.Proofs.Ytfbkeieoeagkdaa

/- Store: a store in memory; calls that read. -/
namespace Go.Proofs.Ytfbkeieoeagkdaa
open Go AM
set_option linter.unusedSimpArgs false
set_option linter.unusedVariables false
set_option maxRecDepth 100000

/-- Pages by their numbers, fit for a map. -/
structure OkM (np : Nat) (m : List (Nat × Pg)) : Prop where
  nd : (m.map (·.1)).Nodup
  fit : ∀ e ∈ m, e.2.length = 64 ∧ e.1 < np
/-- A store in memory. -/
structure PS (o : List AM.Obj) (sp jl dd pg lm st gr : Nat) (a s : Nat) (seq : Int) (over on : Bool) (ds : DSt) (S G : List (Nat × Pg)) : Prop where
  hs : o[sp]? = some (.cells .ex 115 0 [.ptr jl 0, .ptr dd 0, .int .i64 (a : Int), .int .i64 (s : Int), .map st, .map gr])
  J : PJ o jl dd pg lm a s seq over on ds
  hS : o[st]? = some (.map (S.map ent))
  hG : o[gr]? = some (.map (G.map ent))
  n1 : st ≠ gr
  n2 : st ≠ lm
  n3 : gr ≠ lm
  okS : OkM ds.pgs.length S
  okG : OkM ds.pgs.length G
def mayE (over : Bool) (np a s : Nat) (i : Int) : Int := if over = true then 5 else if i < 0 ∨ (np : Int) ≤ i ∨ ((a : Int) ≤ i ∧ i < (a : Int) + s) then 22 else 0
section
variable {o : List AM.Obj} {e d sp jl dd pg lm st gr a s : Nat} {seq : Int} {over on : Bool} {ds : DSt} {S G : List (Nat × Pg)}
theorem PS.ls (P : PS o sp jl dd pg lm st gr a s seq over on ds S G) : sp < o.length := get_lt P.hs
theorem PS.lst (P : PS o sp jl dd pg lm st gr a s seq over on ds S G) : st < o.length := get_lt P.hS
theorem PS.lgr (P : PS o sp jl dd pg lm st gr a s seq over on ds S G) : gr < o.length := get_lt P.hG
theorem PS.app (P : PS o sp jl dd pg lm st gr a s seq over on ds S G) (r : List AM.Obj) : PS (o ++ r) sp jl dd pg lm st gr a s seq over on ds S G :=
  ⟨app_old P.hs r, P.J.app r, app_old P.hS r, app_old P.hG r, P.n1, P.n2, P.n3, P.okS, P.okG⟩
theorem sover_q (P : PS o sp jl dd pg lm st gr a s seq over on ds S G) : Den FF E2 42 [.ptr sp 0] ⟨o, e, d⟩ = some (.val (.bool over), none) := by
  refine To.den hxE2 (f := 42) (a := af42) rfl (E2_none rfl) (Nat.le_of_ble_eq_true rfl) ?_
  have q := fun e d => jover_q (e := e) (d := d) P.J
  (repeat' (first | refine To.seq hxE2 ?_ | refine To.op0 hxE2 (by simp only [go_sem, eqs hxE2, reduceIte, seval, Heap.gets, Heap.sets, Heap.get, bytesA_length, bytesA_one, bytesA_plains, List.take_of_length_le, List.drop_of_length_le, Nat.add_zero, V.one, Nat.reduceLeDiff, List.all_cons, List.all_nil, ne_eq, not_false_eq_true, Nat.zero_le, P.hs, q]; rfl) ?_ | refine To.nop hxE2 ?_ | refine To.ret hxE2 ?_))
  try simp only [andThen, outOf]
  exact fin_k1 (i := 2) (v := .bool over) rfl (by simp only [go_sem, eqs hxE2, reduceIte, seval]) rfl (Kp.enter' _)
theorem sstep_q (P : PS o sp jl dd pg lm st gr a s seq over on ds S G) : Den FF E2 40 [.ptr sp 0] ⟨o, e, d⟩ = some (.val (.int .i64 (S.length : Int)), none) := by
  refine To.den hxE2 (f := 40) (a := af40) rfl (E2_none rfl) (Nat.le_of_ble_eq_true rfl) ?_
  (repeat' (first | refine To.seq hxE2 ?_ | refine To.op0 hxE2 (by simp only [go_sem, eqs hxE2, reduceIte, seval, Heap.gets, Heap.sets, Heap.get, bytesA_length, bytesA_one, bytesA_plains, List.take_of_length_le, List.drop_of_length_le, Nat.add_zero, V.one, Nat.reduceLeDiff, List.all_cons, List.all_nil, ne_eq, not_false_eq_true, Nat.zero_le, P.hs, P.hS, List.length_map]; rfl) ?_ | refine To.nop hxE2 ?_ | (refine To.condF hxE2 ?_ ?_; focus (simp only [go_sem, eqs hxE2, reduceIte, seval, Heap.gets, Heap.sets, Heap.get, bytesA_length, bytesA_one, bytesA_plains, List.take_of_length_le, List.drop_of_length_le, Nat.add_zero, V.one, Nat.reduceLeDiff, List.all_cons, List.all_nil, ne_eq, not_false_eq_true, Nat.zero_le, P.hs, P.hS, List.length_map]; done)) | refine To.ret hxE2 ?_ | refine To.skip hxE2 ?_))
  try simp only [andThen, outOf]
  exact fin_k1 (i := 2) (v := .int .i64 (S.length : Int)) rfl (by simp only [go_sem, eqs hxE2, reduceIte, seval]) rfl (Kp.enter' _)
theorem sgroup_q (P : PS o sp jl dd pg lm st gr a s seq over on ds S G) : Den FF E2 41 [.ptr sp 0] ⟨o, e, d⟩ = some (.val (.int .i64 (G.length : Int)), none) := by
  refine To.den hxE2 (f := 41) (a := af41) rfl (E2_none rfl) (Nat.le_of_ble_eq_true rfl) ?_
  (repeat' (first | refine To.seq hxE2 ?_ | refine To.op0 hxE2 (by simp only [go_sem, eqs hxE2, reduceIte, seval, Heap.gets, Heap.sets, Heap.get, bytesA_length, bytesA_one, bytesA_plains, List.take_of_length_le, List.drop_of_length_le, Nat.add_zero, V.one, Nat.reduceLeDiff, List.all_cons, List.all_nil, ne_eq, not_false_eq_true, Nat.zero_le, P.hs, P.hG, List.length_map]; rfl) ?_ | refine To.nop hxE2 ?_ | (refine To.condF hxE2 ?_ ?_; focus (simp only [go_sem, eqs hxE2, reduceIte, seval, Heap.gets, Heap.sets, Heap.get, bytesA_length, bytesA_one, bytesA_plains, List.take_of_length_le, List.drop_of_length_le, Nat.add_zero, V.one, Nat.reduceLeDiff, List.all_cons, List.all_nil, ne_eq, not_false_eq_true, Nat.zero_le, P.hs, P.hG, List.length_map]; done)) | refine To.ret hxE2 ?_ | refine To.skip hxE2 ?_))
  try simp only [andThen, outOf]
  exact fin_k1 (i := 2) (v := .int .i64 (G.length : Int)) rfl (by simp only [go_sem, eqs hxE2, reduceIte, seval]) rfl (Kp.enter' _)
set_option maxHeartbeats 4000000 in
theorem smay_q (P : PS o sp jl dd pg lm st gr a s seq over on ds S G) (ha : a ≤ 100000) (hs : s ≤ 1000000) (i : Int) : Den FF E2 62 [.ptr sp 0, .int .i64 i] ⟨o, e, d⟩ = some (.val (.int .i64 (mayE over ds.pgs.length a s i)), none) := by
  refine To.den hxE2 (f := 62) (a := af62) rfl (E2_none rfl) (Nat.le_of_ble_eq_true rfl) ?_
  have q := fun e d => sover_q (e := e) (d := d) P
  have qp := fun e d => pages_q (e := e) (d := d) P.J.P
  unfold mayE
  cases over
  case true =>
    rw [if_pos rfl]
    (repeat' (first | refine To.seq hxE2 ?_ | refine To.op0 hxE2 (by simp only [go_sem, eqs hxE2, reduceIte, seval, Heap.gets, Heap.sets, Heap.get, bytesA_length, bytesA_one, bytesA_plains, List.take_of_length_le, List.drop_of_length_le, Nat.add_zero, V.one, Nat.reduceLeDiff, List.all_cons, List.all_nil, ne_eq, not_false_eq_true, Nat.zero_le, q]; rfl) ?_ | refine To.nop hxE2 ?_ | (refine To.condT hxE2 ?_ ?_; focus (simp only [go_sem, eqs hxE2, reduceIte, seval, Heap.gets, Heap.sets, Heap.get, bytesA_length, bytesA_one, bytesA_plains, List.take_of_length_le, List.drop_of_length_le, Nat.add_zero, V.one, Nat.reduceLeDiff, List.all_cons, List.all_nil, ne_eq, not_false_eq_true, Nat.zero_le, q]; done)) | refine To.block hxE2 ?_ | refine To.ret hxE2 ?_))
    exact fin_k1 (i := 4) (v := .int .i64 5) rfl (by simp only [go_sem, eqs hxE2, reduceIte, seval]) rfl (Kp.enter' _)
  rw [if_neg (by decide)]
  have wa : IntKind.i64.wrap ((a : Int) + (s : Int)) = (a : Int) + (s : Int) := wrap_i64 (by omega) (by omega)
  by_cases h1 : i < 0
  · have d1 : decide (i < 0) = true := decide_eq_true h1
    rw [if_pos (.inl h1)]
    (repeat' (first | refine To.seq hxE2 ?_ | refine To.op0 hxE2 (by simp only [go_sem, eqs hxE2, reduceIte, seval, Heap.gets, Heap.sets, Heap.get, bytesA_length, bytesA_one, bytesA_plains, List.take_of_length_le, List.drop_of_length_le, Nat.add_zero, V.one, Nat.reduceLeDiff, List.all_cons, List.all_nil, ne_eq, not_false_eq_true, Nat.zero_le, q, qp, P.hs, d1]; rfl) ?_ | refine To.nop hxE2 ?_ | (refine To.condT hxE2 ?_ ?_; focus (simp only [go_sem, eqs hxE2, reduceIte, seval, Heap.gets, Heap.sets, Heap.get, bytesA_length, bytesA_one, bytesA_plains, List.take_of_length_le, List.drop_of_length_le, Nat.add_zero, V.one, Nat.reduceLeDiff, List.all_cons, List.all_nil, ne_eq, not_false_eq_true, Nat.zero_le, q, qp, P.hs, d1]; done)) | (refine To.condF hxE2 ?_ ?_; focus (simp only [go_sem, eqs hxE2, reduceIte, seval, Heap.gets, Heap.sets, Heap.get, bytesA_length, bytesA_one, bytesA_plains, List.take_of_length_le, List.drop_of_length_le, Nat.add_zero, V.one, Nat.reduceLeDiff, List.all_cons, List.all_nil, ne_eq, not_false_eq_true, Nat.zero_le, q, qp, P.hs, d1]; done)) | refine To.block hxE2 ?_ | refine To.ret hxE2 ?_ | refine To.draw0 hxE2 ?_ | refine ToD.op0 (by simp only [go_sem, eqs hxE2, reduceIte, seval, Heap.gets, Heap.sets, Heap.get, bytesA_length, bytesA_one, bytesA_plains, List.take_of_length_le, List.drop_of_length_le, Nat.add_zero, V.one, Nat.reduceLeDiff, List.all_cons, List.all_nil, ne_eq, not_false_eq_true, Nat.zero_le, q, qp, P.hs, d1]; rfl) (by simp only [put_some, put_none]; rfl) ?_ | refine ToD.nop ?_))
    exact fin_k1 (i := 4) (v := .int .i64 22) rfl (by simp only [go_sem, eqs hxE2, reduceIte, seval]) rfl (Kp.enter' _)
  have d1 : decide (i < 0) = false := decide_eq_false h1
  by_cases h2 : (ds.pgs.length : Int) ≤ i
  · have d2 : decide ((ds.pgs.length : Int) ≤ i) = true := decide_eq_true h2
    rw [if_pos (.inr (.inl h2))]
    (repeat' (first | refine To.seq hxE2 ?_ | refine To.op0 hxE2 (by simp only [go_sem, eqs hxE2, reduceIte, seval, Heap.gets, Heap.sets, Heap.get, bytesA_length, bytesA_one, bytesA_plains, List.take_of_length_le, List.drop_of_length_le, Nat.add_zero, V.one, Nat.reduceLeDiff, List.all_cons, List.all_nil, ne_eq, not_false_eq_true, Nat.zero_le, q, qp, P.hs, d1, d2]; rfl) ?_ | refine To.nop hxE2 ?_ | (refine To.condT hxE2 ?_ ?_; focus (simp only [go_sem, eqs hxE2, reduceIte, seval, Heap.gets, Heap.sets, Heap.get, bytesA_length, bytesA_one, bytesA_plains, List.take_of_length_le, List.drop_of_length_le, Nat.add_zero, V.one, Nat.reduceLeDiff, List.all_cons, List.all_nil, ne_eq, not_false_eq_true, Nat.zero_le, q, qp, P.hs, d1, d2]; done)) | (refine To.condF hxE2 ?_ ?_; focus (simp only [go_sem, eqs hxE2, reduceIte, seval, Heap.gets, Heap.sets, Heap.get, bytesA_length, bytesA_one, bytesA_plains, List.take_of_length_le, List.drop_of_length_le, Nat.add_zero, V.one, Nat.reduceLeDiff, List.all_cons, List.all_nil, ne_eq, not_false_eq_true, Nat.zero_le, q, qp, P.hs, d1, d2]; done)) | refine To.block hxE2 ?_ | refine To.ret hxE2 ?_ | refine To.draw0 hxE2 ?_ | refine ToD.op0 (by simp only [go_sem, eqs hxE2, reduceIte, seval, Heap.gets, Heap.sets, Heap.get, bytesA_length, bytesA_one, bytesA_plains, List.take_of_length_le, List.drop_of_length_le, Nat.add_zero, V.one, Nat.reduceLeDiff, List.all_cons, List.all_nil, ne_eq, not_false_eq_true, Nat.zero_le, q, qp, P.hs, d1, d2]; rfl) (by simp only [put_some, put_none]; rfl) ?_ | refine ToD.nop ?_))
    exact fin_k1 (i := 4) (v := .int .i64 22) rfl (by simp only [go_sem, eqs hxE2, reduceIte, seval]) rfl (Kp.enter' _)
  have d2 : decide ((ds.pgs.length : Int) ≤ i) = false := decide_eq_false h2
  by_cases h3 : (a : Int) ≤ i
  · have d3 : decide ((a : Int) ≤ i) = true := decide_eq_true h3
    by_cases h4 : i < (a : Int) + (s : Int)
    · have d4 : decide (i < (a : Int) + (s : Int)) = true := decide_eq_true h4
      rw [if_pos (.inr (.inr ⟨h3, h4⟩))]
      (repeat' (first | refine To.seq hxE2 ?_ | refine To.op0 hxE2 (by simp only [go_sem, eqs hxE2, reduceIte, seval, Heap.gets, Heap.sets, Heap.get, bytesA_length, bytesA_one, bytesA_plains, List.take_of_length_le, List.drop_of_length_le, Nat.add_zero, V.one, Nat.reduceLeDiff, List.all_cons, List.all_nil, ne_eq, not_false_eq_true, Nat.zero_le, q, qp, P.hs, d1, d2, d3, d4, wa]; rfl) ?_ | refine To.nop hxE2 ?_ | (refine To.condT hxE2 ?_ ?_; focus (simp only [go_sem, eqs hxE2, reduceIte, seval, Heap.gets, Heap.sets, Heap.get, bytesA_length, bytesA_one, bytesA_plains, List.take_of_length_le, List.drop_of_length_le, Nat.add_zero, V.one, Nat.reduceLeDiff, List.all_cons, List.all_nil, ne_eq, not_false_eq_true, Nat.zero_le, q, qp, P.hs, d1, d2, d3, d4, wa]; done)) | (refine To.condF hxE2 ?_ ?_; focus (simp only [go_sem, eqs hxE2, reduceIte, seval, Heap.gets, Heap.sets, Heap.get, bytesA_length, bytesA_one, bytesA_plains, List.take_of_length_le, List.drop_of_length_le, Nat.add_zero, V.one, Nat.reduceLeDiff, List.all_cons, List.all_nil, ne_eq, not_false_eq_true, Nat.zero_le, q, qp, P.hs, d1, d2, d3, d4, wa]; done)) | refine To.block hxE2 ?_ | refine To.ret hxE2 ?_ | refine To.draw0 hxE2 ?_ | refine ToD.op0 (by simp only [go_sem, eqs hxE2, reduceIte, seval, Heap.gets, Heap.sets, Heap.get, bytesA_length, bytesA_one, bytesA_plains, List.take_of_length_le, List.drop_of_length_le, Nat.add_zero, V.one, Nat.reduceLeDiff, List.all_cons, List.all_nil, ne_eq, not_false_eq_true, Nat.zero_le, q, qp, P.hs, d1, d2, d3, d4, wa]; rfl) (by simp only [put_some, put_none]; rfl) ?_ | refine ToD.nop ?_))
      exact fin_k1 (i := 4) (v := .int .i64 22) rfl (by simp only [go_sem, eqs hxE2, reduceIte, seval]) rfl (Kp.enter' _)
    · have d4 : decide (i < (a : Int) + (s : Int)) = false := decide_eq_false h4
      rw [if_neg (by omega)]
      (repeat' (first | refine To.seq hxE2 ?_ | refine To.op0 hxE2 (by simp only [go_sem, eqs hxE2, reduceIte, seval, Heap.gets, Heap.sets, Heap.get, bytesA_length, bytesA_one, bytesA_plains, List.take_of_length_le, List.drop_of_length_le, Nat.add_zero, V.one, Nat.reduceLeDiff, List.all_cons, List.all_nil, ne_eq, not_false_eq_true, Nat.zero_le, q, qp, P.hs, d1, d2, d3, d4, wa]; rfl) ?_ | refine To.nop hxE2 ?_ | (refine To.condF hxE2 ?_ ?_; focus (simp only [go_sem, eqs hxE2, reduceIte, seval, Heap.gets, Heap.sets, Heap.get, bytesA_length, bytesA_one, bytesA_plains, List.take_of_length_le, List.drop_of_length_le, Nat.add_zero, V.one, Nat.reduceLeDiff, List.all_cons, List.all_nil, ne_eq, not_false_eq_true, Nat.zero_le, q, qp, P.hs, d1, d2, d3, d4, wa]; done)) | refine To.block hxE2 ?_ | refine To.ret hxE2 ?_ | refine To.skip hxE2 ?_ | refine To.draw0 hxE2 ?_ | refine ToD.op0 (by simp only [go_sem, eqs hxE2, reduceIte, seval, Heap.gets, Heap.sets, Heap.get, bytesA_length, bytesA_one, bytesA_plains, List.take_of_length_le, List.drop_of_length_le, Nat.add_zero, V.one, Nat.reduceLeDiff, List.all_cons, List.all_nil, ne_eq, not_false_eq_true, Nat.zero_le, q, qp, P.hs, d1, d2, d3, d4, wa]; rfl) (by simp only [put_some, put_none]; rfl) ?_ | refine ToD.nop ?_))
      exact fin_k1 (i := 4) (v := .int .i64 0) rfl (by simp only [go_sem, eqs hxE2, reduceIte, seval]) rfl (Kp.enter' _)
  · have d3 : decide ((a : Int) ≤ i) = false := decide_eq_false h3
    rw [if_neg (by omega)]
    (repeat' (first | refine To.seq hxE2 ?_ | refine To.op0 hxE2 (by simp only [go_sem, eqs hxE2, reduceIte, seval, Heap.gets, Heap.sets, Heap.get, bytesA_length, bytesA_one, bytesA_plains, List.take_of_length_le, List.drop_of_length_le, Nat.add_zero, V.one, Nat.reduceLeDiff, List.all_cons, List.all_nil, ne_eq, not_false_eq_true, Nat.zero_le, q, qp, P.hs, d1, d2, d3, wa]; rfl) ?_ | refine To.nop hxE2 ?_ | (refine To.condF hxE2 ?_ ?_; focus (simp only [go_sem, eqs hxE2, reduceIte, seval, Heap.gets, Heap.sets, Heap.get, bytesA_length, bytesA_one, bytesA_plains, List.take_of_length_le, List.drop_of_length_le, Nat.add_zero, V.one, Nat.reduceLeDiff, List.all_cons, List.all_nil, ne_eq, not_false_eq_true, Nat.zero_le, q, qp, P.hs, d1, d2, d3, wa]; done)) | refine To.block hxE2 ?_ | refine To.ret hxE2 ?_ | refine To.skip hxE2 ?_ | refine To.draw0 hxE2 ?_ | refine ToD.op0 (by simp only [go_sem, eqs hxE2, reduceIte, seval, Heap.gets, Heap.sets, Heap.get, bytesA_length, bytesA_one, bytesA_plains, List.take_of_length_le, List.drop_of_length_le, Nat.add_zero, V.one, Nat.reduceLeDiff, List.all_cons, List.all_nil, ne_eq, not_false_eq_true, Nat.zero_le, q, qp, P.hs, d1, d2, d3, wa]; rfl) (by simp only [put_some, put_none]; rfl) ?_ | refine ToD.nop ?_))
    exact fin_k1 (i := 4) (v := .int .i64 0) rfl (by simp only [go_sem, eqs hxE2, reduceIte, seval]) rfl (Kp.enter' _)
end
end Go.Proofs.Ytfbkeieoeagkdaa

/- Store: Put, Read. -/
namespace Go.Proofs.Ytfbkeieoeagkdaa
open Go AM
set_option linter.unusedSimpArgs false
set_option linter.unusedVariables false
set_option maxRecDepth 100000

theorem mayE_ok {over : Bool} {np a s : Nat} {i : Int} (h : mayE over np a s i = 0) : over = false ∧ ∃ k : Nat, i = (k : Int) ∧ k < np ∧ ¬ (a ≤ k ∧ k < a + s) := by
  unfold mayE at h
  split at h
  · cases h
  · rename_i hd
    split at h
    · cases h
    · rename_i hi
      obtain ⟨k, rfl⟩ := Int.eq_ofNat_of_zero_le (a := i) (by omega)
      exact ⟨by simpa using hd, k, rfl, by omega, by omega⟩
theorem okM_put {np k : Nat} {p : Pg} {S : List (Nat × Pg)} (h : OkM np S) (hp : p.length = 64) (hk : k < np) : OkM np (putC k p S) :=
  ⟨putC_nodup h.nd, fun x hx => by
    rcases putC_mem hx with rfl | hx
    · exact ⟨hp, hk⟩
    · exact h.fit x hx⟩
section
variable {o : List AM.Obj} {e d sp jl dd pg lm st gr a s : Nat} {seq : Int} {over on : Bool} {ds : DSt} {S G : List (Nat × Pg)}
set_option maxHeartbeats 4000000 in
theorem sput_no (P : PS o sp jl dd pg lm st gr a s seq over on ds S G) (ha : a ≤ 100000) (hs : s ≤ 1000000) {i : Int} {p : Pg} (hp : p.length = 64) (h0 : mayE over ds.pgs.length a s i ≠ 0) : Den FF E2 37 [.ptr sp 0, .int .i64 i, .agg (bytesA p)] ⟨o, e, d⟩ = some (.val (.int .i64 (mayE over ds.pgs.length a s i)), none) := by
  refine To.den hxE2 (f := 37) (a := af37) rfl (E2_none rfl) (Nat.le_of_ble_eq_true rfl) ?_
  have q := fun r e d => smay_q (e := e) (d := d) (P.app r) ha hs i
  have hb : (mayE over ds.pgs.length a s i != 0) = true := by simpa using h0
  generalize mayE over ds.pgs.length a s i = er at q hb ⊢
  (repeat' (first | refine To.seq hxE2 ?_ | refine To.op0 hxE2 (by simp only [go_sem, eqs hxE2, reduceIte, seval, Heap.gets, Heap.sets, Heap.get, bytesA_length, bytesA_one, bytesA_plains, List.take_of_length_le, List.drop_of_length_le, Nat.add_zero, V.one, Nat.reduceLeDiff, List.all_cons, List.all_nil, ne_eq, not_false_eq_true, Nat.zero_le, q, hb]; rfl) ?_ | refine To.op1 hxE2 (by simp only [go_sem, eqs hxE2, reduceIte, seval, Heap.gets, Heap.sets, Heap.get, bytesA_length, bytesA_one, bytesA_plains, List.take_of_length_le, List.drop_of_length_le, Nat.add_zero, V.one, Nat.reduceLeDiff, List.all_cons, List.all_nil, ne_eq, not_false_eq_true, Nat.zero_le, q, hb]; rfl) ?_ | refine To.nop hxE2 ?_ | (refine To.condT hxE2 ?_ ?_; focus (simp only [go_sem, eqs hxE2, reduceIte, seval, Heap.gets, Heap.sets, Heap.get, bytesA_length, bytesA_one, bytesA_plains, List.take_of_length_le, List.drop_of_length_le, Nat.add_zero, V.one, Nat.reduceLeDiff, List.all_cons, List.all_nil, ne_eq, not_false_eq_true, Nat.zero_le, q, hb]; done)) | refine To.ret hxE2 ?_))
  try simp only [andThen, outOf]
  exact fin_k1 (i := 6) (v := .int .i64 er) rfl (by simp only [go_sem, eqs hxE2, reduceIte, seval]) rfl (kp_app (by omega) (by omega))
set_option maxHeartbeats 4000000 in
theorem sput_full (P : PS o sp jl dd pg lm st gr a s seq over on ds S G) (ha : a ≤ 100000) (hs : s ≤ 1000000) {k : Nat} {p : Pg} (hp : p.length = 64) (h0 : mayE over ds.pgs.length a s (k : Int) = 0) (hf : findC k S = none) (hl : roomJ s ≤ S.length) : Den FF E2 37 [.ptr sp 0, .int .i64 (k : Int), .agg (bytesA p)] ⟨o, e, d⟩ = some (.val (.int .i64 28), none) := by
  refine To.den hxE2 (f := 37) (a := af37) rfl (E2_none rfl) (Nat.le_of_ble_eq_true rfl) ?_
  have q := fun r e d => smay_q (e := e) (d := d) (P.app r) ha hs (k : Int)
  rw [h0] at q
  have qr := fun r e d => jroom_q (e := e) (d := d) (P.J.app r)
  have gs := fun r => app_old P.hs r
  have gS := fun r => app_old P.hS r
  have hkey : V.key .i (.int .i64 (k : Int)) = true := rfl
  have hmf := mapFind_ent k S P.okS.nd
  rw [hf] at hmf
  have hd : decide ((roomJ s : Int) ≤ (S.length : Int)) = true := decide_eq_true (by omega)
  (repeat' (first | refine To.seq hxE2 ?_ | refine To.op0 hxE2 (by simp only [go_sem, eqs hxE2, reduceIte, seval, Heap.gets, Heap.sets, Heap.get, bytesA_length, bytesA_one, bytesA_plains, List.take_of_length_le, List.drop_of_length_le, Nat.add_zero, V.one, Nat.reduceLeDiff, List.all_cons, List.all_nil, ne_eq, not_false_eq_true, Nat.zero_le, q, qr, gs, gS, hkey, hmf, hd, List.length_map, z64_len, z64_drop, z64_one, z64_plains, bne_self_eq_false, Option.isSome_none, Option.getD_none, Option.map_none]; rfl) ?_ | refine To.op1 hxE2 (by simp only [go_sem, eqs hxE2, reduceIte, seval, Heap.gets, Heap.sets, Heap.get, bytesA_length, bytesA_one, bytesA_plains, List.take_of_length_le, List.drop_of_length_le, Nat.add_zero, V.one, Nat.reduceLeDiff, List.all_cons, List.all_nil, ne_eq, not_false_eq_true, Nat.zero_le, q, qr, gs, gS, hkey, hmf, hd, List.length_map, z64_len, z64_drop, z64_one, z64_plains, bne_self_eq_false, Option.isSome_none, Option.getD_none, Option.map_none]; rfl) ?_ | refine To.nop hxE2 ?_ | (refine To.condT hxE2 ?_ ?_; focus (simp only [go_sem, eqs hxE2, reduceIte, seval, Heap.gets, Heap.sets, Heap.get, bytesA_length, bytesA_one, bytesA_plains, List.take_of_length_le, List.drop_of_length_le, Nat.add_zero, V.one, Nat.reduceLeDiff, List.all_cons, List.all_nil, ne_eq, not_false_eq_true, Nat.zero_le, q, qr, gs, gS, hkey, hmf, hd, List.length_map, z64_len, z64_drop, z64_one, z64_plains, bne_self_eq_false, Option.isSome_none, Option.getD_none, Option.map_none]; done)) | (refine To.condF hxE2 ?_ ?_; focus (simp only [go_sem, eqs hxE2, reduceIte, seval, Heap.gets, Heap.sets, Heap.get, bytesA_length, bytesA_one, bytesA_plains, List.take_of_length_le, List.drop_of_length_le, Nat.add_zero, V.one, Nat.reduceLeDiff, List.all_cons, List.all_nil, ne_eq, not_false_eq_true, Nat.zero_le, q, qr, gs, gS, hkey, hmf, hd, List.length_map, z64_len, z64_drop, z64_one, z64_plains, bne_self_eq_false, Option.isSome_none, Option.getD_none, Option.map_none]; done)) | refine To.ret hxE2 ?_ | refine To.skip hxE2 ?_ | refine To.draw0 hxE2 ?_ | refine ToD.op0 (by simp only [go_sem, eqs hxE2, reduceIte, seval, Heap.gets, Heap.sets, Heap.get, bytesA_length, bytesA_one, bytesA_plains, List.take_of_length_le, List.drop_of_length_le, Nat.add_zero, V.one, Nat.reduceLeDiff, List.all_cons, List.all_nil, ne_eq, not_false_eq_true, Nat.zero_le, q, qr, gs, gS, hkey, hmf, hd, List.length_map, z64_len, z64_drop, z64_one, z64_plains, bne_self_eq_false, Option.isSome_none, Option.getD_none, Option.map_none]; rfl) (by simp only [put_some, put_none]; rfl) ?_ | refine ToD.nop ?_))
  try simp only [andThen, outOf]
  exact fin_k1 (i := 6) (v := .int .i64 28) rfl (by simp only [go_sem, eqs hxE2, reduceIte, seval]) rfl (kp_app (by omega) (by omega))
theorem PS.putS (P : PS o sp jl dd pg lm st gr a s seq over on ds S G) {k : Nat} {p : Pg} (hp : p.length = 64) (hk : k < ds.pgs.length) : PS (o.set st (.map ((putC k p S).map ent))) sp jl dd pg lm st gr a s seq over on ds (putC k p S) G := by
  have n0 := ne_map P.hs P.hS
  have n4 := ne_map P.J.hj P.hS
  have n5 := ne_map P.J.P.hd P.hS
  have n6 := ne_map P.J.P.hp P.hS
  refine ⟨by rw [List.getElem?_set_ne (Ne.symm n0)]; exact P.hs, ⟨by rw [List.getElem?_set_ne (Ne.symm n4)]; exact P.J.hj, ?_⟩, List.getElem?_set_self P.lst, by rw [List.getElem?_set_ne P.n1]; exact P.hG, P.n1, P.n2, P.n3, okM_put P.okS hp hk, P.okG⟩
  have D := P.J.P
  exact ⟨by rw [List.getElem?_set_ne (Ne.symm n5)]; exact D.hd, by rw [List.getElem?_set_ne (Ne.symm n6)]; exact D.hp, by rw [List.getElem?_set_ne P.n2]; exact D.hm, D.p64, D.c64, D.nd⟩
set_option maxHeartbeats 4000000 in
theorem sput_ok (P : PS o sp jl dd pg lm st gr a s seq over on ds S G) (ha : a ≤ 100000) (hs : s ≤ 1000000) {k : Nat} {p : Pg} (hp : p.length = 64) (h0 : mayE over ds.pgs.length a s (k : Int) = 0) (hf : findC k S ≠ none ∨ S.length < roomJ s) :
    ∃ r oh, Den FF E2 37 [.ptr sp 0, .int .i64 (k : Int), .agg (bytesA p)] ⟨o, e, d⟩ = some (r, oh) ∧ r = .val (.int .i64 0) ∧ ∃ d', oh.getD ⟨o, e, d⟩ = ⟨o.set st (.map ((putC k p S).map ent)), e, d'⟩ ∧ PS (o.set st (.map ((putC k p S).map ent))) sp jl dd pg lm st gr a s seq over on ds (putC k p S) G := by
  refine To.denE hxE2 (f := 37) (a := af37) rfl (E2_none rfl) (Nat.le_of_ble_eq_true rfl) ?_
  have q := fun r e d => smay_q (e := e) (d := d) (P.app r) ha hs (k : Int)
  rw [h0] at q
  have qr := fun r e d => jroom_q (e := e) (d := d) (P.J.app r)
  have gs := fun r => app_old P.hs r
  have gS := fun r => app_old P.hS r
  have hkey : V.key .i (.int .i64 (k : Int)) = true := rfl
  have hmf := mapFind_ent k S P.okS.nd
  have hmp := mapPut_ent k p S P.okS.nd
  have hlst := P.lst
  have gb : ∀ (x : AM.Obj) r, (o ++ (x :: r))[o.length]? = some x := fun x r => app_get0 _ _ _
  have hst : ∀ x r, (o ++ r).set st x = o.set st x ++ r := fun x r => set_app _ _ _ hlst
  have htk : List.take 64 (bytesA p) = bytesA p := List.take_of_length_le (by rw [bytesA_length]; omega)
  obtain ⟨_, k', hk', hk, _⟩ := mayE_ok h0
  obtain rfl : k = k' := by omega
  have hfin : ∀ (S' : Nat → V) (d1 : Nat) (r : List AM.Obj), S' 6 = .int .i64 0 → d1 ≤ st → ∃ rr oh, finish af37 ⟨o, e, d⟩ (some (.ret, S', ⟨o.set st (.map ((putC k p S).map ent)) ++ r, o.length, d1⟩)) = some (rr, oh) ∧ rr = .val (.int .i64 0) ∧ ∃ d', oh.getD ⟨o, e, d⟩ = ⟨o.set st (.map ((putC k p S).map ent)), e, d'⟩ ∧ PS (o.set st (.map ((putC k p S).map ent))) sp jl dd pg lm st gr a s seq over on ds (putC k p S) G := by
    intro S' d1 r h6 hd1
    refine ⟨_, _, fin1 (i := 6) rfl, by rw [h6], ?_⟩
    rw [h6]
    obtain ⟨d2, hlv, _⟩ := leave_app2 (o := o) (o' := o.set st (.map ((putC k p S).map ent))) (r := r) (e := e) (d := d) (e' := o.length) (d' := d1) (v := .int .i64 0) rfl (by simp) (Nat.le_refl _) (fun h => by omega)
    exact ⟨d2, hlv, P.putS hp hk⟩
  cases hfc : findC k S with
  | some p0 =>
    rw [hfc] at hmf
    have hp64 : p0.length = 64 := by
      unfold findC at hfc
      obtain ⟨x, hx, rfl⟩ := Option.map_eq_some_iff.1 hfc
      exact (P.okS.fit x (List.mem_of_find?_eq_some hx)).1
    have htk0 : List.take 64 (bytesA p0) = bytesA p0 := List.take_of_length_le (by rw [bytesA_length]; omega)
    (repeat' (first | refine To.seq hxE2 ?_ | refine To.op0 hxE2 (by simp only [go_sem, eqs hxE2, reduceIte, seval, Heap.gets, Heap.sets, Heap.get, bytesA_length, bytesA_one, bytesA_plains, List.take_of_length_le, List.drop_of_length_le, Nat.add_zero, V.one, Nat.reduceLeDiff, List.all_cons, List.all_nil, ne_eq, not_false_eq_true, Nat.zero_le, q, qr, gs, gS, gb, hkey, hmf, hmp, hp64, hp, htk0, htk, hst, Heap.setMap, List.length_map, z64_len, z64_drop, z64_one, z64_plains, bne_self_eq_false, Option.isSome_some, Option.getD_some, Option.map_some]; rfl) ?_ | refine To.op1 hxE2 (by simp only [go_sem, eqs hxE2, reduceIte, seval, Heap.gets, Heap.sets, Heap.get, bytesA_length, bytesA_one, bytesA_plains, List.take_of_length_le, List.drop_of_length_le, Nat.add_zero, V.one, Nat.reduceLeDiff, List.all_cons, List.all_nil, ne_eq, not_false_eq_true, Nat.zero_le, q, qr, gs, gS, gb, hkey, hmf, hmp, hp64, hp, htk0, htk, hst, Heap.setMap, List.length_map, z64_len, z64_drop, z64_one, z64_plains, bne_self_eq_false, Option.isSome_some, Option.getD_some, Option.map_some]; rfl) ?_ | refine To.nop hxE2 ?_ | (refine To.condF hxE2 ?_ ?_; focus (simp only [go_sem, eqs hxE2, reduceIte, seval, Heap.gets, Heap.sets, Heap.get, bytesA_length, bytesA_one, bytesA_plains, List.take_of_length_le, List.drop_of_length_le, Nat.add_zero, V.one, Nat.reduceLeDiff, List.all_cons, List.all_nil, ne_eq, not_false_eq_true, Nat.zero_le, q, qr, gs, gS, gb, hkey, hmf, hmp, hp64, hp, htk0, htk, hst, Heap.setMap, List.length_map, z64_len, z64_drop, z64_one, z64_plains, bne_self_eq_false, Option.isSome_some, Option.getD_some, Option.map_some]; done)) | refine To.ret hxE2 ?_ | refine To.skip hxE2 ?_ | refine To.draw0 hxE2 ?_ | refine ToD.op0 (by simp only [go_sem, eqs hxE2, reduceIte, seval, Heap.gets, Heap.sets, Heap.get, bytesA_length, bytesA_one, bytesA_plains, List.take_of_length_le, List.drop_of_length_le, Nat.add_zero, V.one, Nat.reduceLeDiff, List.all_cons, List.all_nil, ne_eq, not_false_eq_true, Nat.zero_le, q, qr, gs, gS, gb, hkey, hmf, hmp, hp64, hp, htk0, htk, hst, Heap.setMap, List.length_map, z64_len, z64_drop, z64_one, z64_plains, bne_self_eq_false, Option.isSome_some, Option.getD_some, Option.map_some]; rfl) (by simp only [put_some, put_none]; rfl) ?_ | refine ToD.op1 (by simp only [go_sem, eqs hxE2, reduceIte, seval, Heap.gets, Heap.sets, Heap.get, bytesA_length, bytesA_one, bytesA_plains, List.take_of_length_le, List.drop_of_length_le, Nat.add_zero, V.one, Nat.reduceLeDiff, List.all_cons, List.all_nil, ne_eq, not_false_eq_true, Nat.zero_le, q, qr, gs, gS, gb, hkey, hmf, hmp, hp64, hp, htk0, htk, hst, Heap.setMap, List.length_map, z64_len, z64_drop, z64_one, z64_plains, bne_self_eq_false, Option.isSome_some, Option.getD_some, Option.map_some]; rfl) (by simp only [put_some, put_none]; rfl) (by simp only [KD.app, go_sem, eqs hxE2, reduceIte, seval, Heap.gets, Heap.sets, Heap.get, bytesA_length, bytesA_one, bytesA_plains, List.take_of_length_le, List.drop_of_length_le, Nat.add_zero, V.one, Nat.reduceLeDiff, List.all_cons, List.all_nil, ne_eq, not_false_eq_true, Nat.zero_le, q, qr, gs, gS, gb, hkey, hmf, hmp, hp64, hp, htk0, htk, hst, Heap.setMap, List.length_map, z64_len, z64_drop, z64_one, z64_plains, bne_self_eq_false, Option.isSome_some, Option.getD_some, Option.map_some]; rfl) ?_ | refine ToD.nop ?_))
    try simp only [andThen, outOf]
    exact hfin _ _ _ (by simp only [go_sem, eqs hxE2, reduceIte, seval]) (by omega)
  | none =>
    rw [hfc] at hmf
    have hlt : S.length < roomJ s := by
      rcases hf with hf | hf
      · exact absurd hfc hf
      · exact hf
    have hd : decide ((roomJ s : Int) ≤ (S.length : Int)) = false := decide_eq_false (by omega)
    (repeat' (first | refine To.seq hxE2 ?_ | refine To.op0 hxE2 (by simp only [go_sem, eqs hxE2, reduceIte, seval, Heap.gets, Heap.sets, Heap.get, bytesA_length, bytesA_one, bytesA_plains, List.take_of_length_le, List.drop_of_length_le, Nat.add_zero, V.one, Nat.reduceLeDiff, List.all_cons, List.all_nil, ne_eq, not_false_eq_true, Nat.zero_le, q, qr, gs, gS, gb, hkey, hmf, hmp, hp, hd, htk, hst, Heap.setMap, List.length_map, z64_len, z64_drop, z64_one, z64_plains, bne_self_eq_false, Option.isSome_none, Option.getD_none, Option.map_none]; rfl) ?_ | refine To.op1 hxE2 (by simp only [go_sem, eqs hxE2, reduceIte, seval, Heap.gets, Heap.sets, Heap.get, bytesA_length, bytesA_one, bytesA_plains, List.take_of_length_le, List.drop_of_length_le, Nat.add_zero, V.one, Nat.reduceLeDiff, List.all_cons, List.all_nil, ne_eq, not_false_eq_true, Nat.zero_le, q, qr, gs, gS, gb, hkey, hmf, hmp, hp, hd, htk, hst, Heap.setMap, List.length_map, z64_len, z64_drop, z64_one, z64_plains, bne_self_eq_false, Option.isSome_none, Option.getD_none, Option.map_none]; rfl) ?_ | refine To.nop hxE2 ?_ | (refine To.condF hxE2 ?_ ?_; focus (simp only [go_sem, eqs hxE2, reduceIte, seval, Heap.gets, Heap.sets, Heap.get, bytesA_length, bytesA_one, bytesA_plains, List.take_of_length_le, List.drop_of_length_le, Nat.add_zero, V.one, Nat.reduceLeDiff, List.all_cons, List.all_nil, ne_eq, not_false_eq_true, Nat.zero_le, q, qr, gs, gS, gb, hkey, hmf, hmp, hp, hd, htk, hst, Heap.setMap, List.length_map, z64_len, z64_drop, z64_one, z64_plains, bne_self_eq_false, Option.isSome_none, Option.getD_none, Option.map_none]; done)) | refine To.ret hxE2 ?_ | refine To.skip hxE2 ?_ | refine To.draw0 hxE2 ?_ | refine ToD.op0 (by simp only [go_sem, eqs hxE2, reduceIte, seval, Heap.gets, Heap.sets, Heap.get, bytesA_length, bytesA_one, bytesA_plains, List.take_of_length_le, List.drop_of_length_le, Nat.add_zero, V.one, Nat.reduceLeDiff, List.all_cons, List.all_nil, ne_eq, not_false_eq_true, Nat.zero_le, q, qr, gs, gS, gb, hkey, hmf, hmp, hp, hd, htk, hst, Heap.setMap, List.length_map, z64_len, z64_drop, z64_one, z64_plains, bne_self_eq_false, Option.isSome_none, Option.getD_none, Option.map_none]; rfl) (by simp only [put_some, put_none]; rfl) ?_ | refine ToD.op1 (by simp only [go_sem, eqs hxE2, reduceIte, seval, Heap.gets, Heap.sets, Heap.get, bytesA_length, bytesA_one, bytesA_plains, List.take_of_length_le, List.drop_of_length_le, Nat.add_zero, V.one, Nat.reduceLeDiff, List.all_cons, List.all_nil, ne_eq, not_false_eq_true, Nat.zero_le, q, qr, gs, gS, gb, hkey, hmf, hmp, hp, hd, htk, hst, Heap.setMap, List.length_map, z64_len, z64_drop, z64_one, z64_plains, bne_self_eq_false, Option.isSome_none, Option.getD_none, Option.map_none]; rfl) (by simp only [put_some, put_none]; rfl) (by simp only [KD.app, go_sem, eqs hxE2, reduceIte, seval, Heap.gets, Heap.sets, Heap.get, bytesA_length, bytesA_one, bytesA_plains, List.take_of_length_le, List.drop_of_length_le, Nat.add_zero, V.one, Nat.reduceLeDiff, List.all_cons, List.all_nil, ne_eq, not_false_eq_true, Nat.zero_le, q, qr, gs, gS, gb, hkey, hmf, hmp, hp, hd, htk, hst, Heap.setMap, List.length_map, z64_len, z64_drop, z64_one, z64_plains, bne_self_eq_false, Option.isSome_none, Option.getD_none, Option.map_none]; rfl) ?_ | refine ToD.nop ?_))
    try simp only [andThen, outOf]
    exact hfin _ _ _ (by simp only [go_sem, eqs hxE2, reduceIte, seval]) (by omega)
end
end Go.Proofs.Ytfbkeieoeagkdaa

/- Store: pages as changes. -/
namespace Go.Proofs.Ytfbkeieoeagkdaa
open Go AM
set_option linter.unusedSimpArgs false
set_option linter.unusedVariables false
set_option maxRecDepth 100000

def csK (G : List (Nat × Pg)) (K : List Nat) : List (Int × Pg) := K.map fun i : Nat => ((i : Int), (findC i G).getD (zs 64))
/-- Pages as changes, by their numbers. -/
def csG (np : Nat) (G : List (Nat × Pg)) : List (Int × Pg) := csK G (keysN np G)
theorem csK_succ (G : List (Nat × Pg)) {K : List Nat} {i k : Nat} (h : K[i]? = some k) : csK G (K.take (i + 1)) = csK G (K.take i) ++ [((k : Int), (findC k G).getD (zs 64))] := by
  unfold csK
  rw [List.take_add_one, h, Option.toList_some, List.map_append]; rfl
theorem findC_64 {np k : Nat} {G : List (Nat × Pg)} {p : Pg} (h : OkM np G) (hf : findC k G = some p) : p.length = 64 := by
  unfold findC at hf
  obtain ⟨x, hx, rfl⟩ := Option.map_eq_some_iff.1 hf
  exact (h.fit x (List.mem_of_find?_eq_some hx)).1
theorem csK_64 {np : Nat} {G : List (Nat × Pg)} (h : OkM np G) {K : List Nat} : ∀ c ∈ csK G K, c.2.length = 64 := fun c hc => by
  obtain ⟨i, _, rfl⟩ := List.mem_map.1 hc
  show ((findC i G).getD (zs 64)).length = 64
  cases hf : findC i G with
  | none => rfl
  | some p => exact findC_64 h hf
theorem csK_len (G : List (Nat × Pg)) (K : List Nat) : (csK G K).length = K.length := List.length_map ..
theorem OkM.small {np : Nat} {G : List (Nat × Pg)} (h : OkM np G) (hn : np ≤ 1000000) : ∀ e ∈ G, e.1 < 1000000 := fun e he => by have := (h.fit e he).2; omega
theorem OkM.keys {np : Nat} {G : List (Nat × Pg)} (h : OkM np G) : G.length = (keysN np G).length := by
  have h0 := isort_keys h.nd fun e he => (h.fit e he).2
  have h1 := (isort_perm (G.map fun e => (e.1 : Int))).length_eq
  rw [h0] at h1
  simpa using h1.symm
theorem keysN_le (np : Nat) (G : List (Nat × Pg)) : (keysN np G).length ≤ np := Nat.le_trans (List.length_filter_le _ _) (by rw [List.length_range]; exact Nat.le_refl _)
section
variable {o : List AM.Obj} {e d gr np : Nat} {G : List (Nat × Pg)}
theorem keys2_q : Den FF E2 82 [.map gr] ⟨o, o.length, o.length⟩ = some (.val (.fn 91 [] [.ptr o.length 0]), some ⟨o ++ [.cells .ex 113 0 [.map gr]], o.length, o.length⟩) := by
  refine To.den hxE2 (f := 82) (a := af82) rfl (E2_none rfl) (Nat.le_of_ble_eq_true rfl) ?_
  (repeat' (first | refine To.seq hxE2 ?_ | refine To.op0 hxE2 (by simp only [go_sem, eqs hxE2, reduceIte, seval, Heap.gets, Heap.sets, Heap.get, bytesA_length, bytesA_one, bytesA_plains, List.take_of_length_le, List.drop_of_length_le, Nat.add_zero, V.one, Nat.reduceLeDiff, List.all_cons, List.all_nil, ne_eq, not_false_eq_true, Nat.zero_le]; rfl) ?_ | refine To.op1 hxE2 (by simp only [go_sem, eqs hxE2, reduceIte, seval, Heap.gets, Heap.sets, Heap.get, bytesA_length, bytesA_one, bytesA_plains, List.take_of_length_le, List.drop_of_length_le, Nat.add_zero, V.one, Nat.reduceLeDiff, List.all_cons, List.all_nil, ne_eq, not_false_eq_true, Nat.zero_le]; rfl) ?_ | refine To.nop hxE2 ?_ | refine To.ret hxE2 ?_))
  try simp only [andThen, outOf]
  rw [fin1 (i := 2) rfl, leave_some (by simp only [go_sem, eqs hxE2, reduceIte, seval])]
  simp only [go_sem, eqs hxE2, reduceIte, seval]
theorem sorted2_nil {b t : Nat} {r : List AM.Obj} {e d : Nat} (hm : (o ++ r)[gr]? = some (.map [])) (hb : (o ++ r)[b]? = some (.cells .ex t 0 [.map gr])) :
    Den FF E2 50 [.fn 91 [] [.ptr b 0]] ⟨o ++ r, e, d⟩ = some (.val .nils, none) := by
  refine den_hand rfl rfl (sortedH_of2 ?_)
  unfold sortedG2
  simp only [hb, hm, keysOf]
  rw [if_pos ⟨rfl, Nat.zero_le _⟩, if_pos trivial]
theorem sorted2_some (hn : np ≤ 1000) (hG : OkM np G) (hc : G ≠ []) {b t : Nat} {r : List AM.Obj} {e d : Nat} (hm : (o ++ r)[gr]? = some (.map (G.map ent))) (hb : (o ++ r)[b]? = some (.cells .ex t 0 [.map gr])) :
    Den FF E2 50 [.fn 91 [] [.ptr b 0]] ⟨o ++ r, e, d⟩ = some (.val (.slice (o ++ r).length 0 (keysN np G).length 1), some ⟨(o ++ r) ++ [.cells .gr 3 0 ((keysN np G).map fun i : Nat => V.int .i64 (i : Int))], e, d⟩) := by
  refine den_hand rfl rfl (sortedH_of2 ?_)
  have hlen : G.length ≤ 1000000 := by
    rw [hG.keys]
    have := keysN_le np G
    omega
  have hne : ¬ (G.map fun e => (e.1 : Int)) = [] := by simpa using hc
  unfold sortedG2
  simp only [hb, hm, keysOf_ent (hG.small (by omega))]
  rw [if_pos ⟨apart_ent hG.nd, by rw [List.length_map]; exact hlen⟩, if_neg hne, isort_keys hG.nd fun e he => (hG.fit e he).2, List.map_map, List.length_map, hG.keys]
  rfl
set_option maxHeartbeats 8000000 in
theorem changes_x (hn : np ≤ 1000) (hG : OkM np G) (hm : o[gr]? = some (.map (G.map ent))) :
    ∃ r oh, Den FF E2 65 [.map gr] ⟨o, e, d⟩ = some (r, oh) ∧ ∃ v rr e' d', r = .val v ∧ Gr o e d oh rr e' d' ∧ ChRow (o ++ rr) v (csG np G) := by
  refine To.denE hxE2 (f := 65) (a := af65) rfl (E2_none rfl) (Nat.le_of_ble_eq_true rfl) ?_
  have hK := keysN_le np G
  have hKm : ∀ i ∈ keysN np G, i ∈ G.map (·.1) := fun i hi => (keysN_mem.1 hi).2
  have hc0 : G = [] → keysN np G = [] := fun h => List.eq_nil_of_length_eq_zero (by rw [← hG.keys, h]; rfl)
  have qk := keys2_q (o := o) (gr := gr)
  have hmr : ∀ r, (o ++ r)[gr]? = some (.map (G.map ent)) := fun r => app_old hm r
  have qs : ∃ kv kr, Den FF E2 50 [.fn 91 [] [.ptr o.length 0]] ⟨o ++ [.cells .ex 113 0 [.map gr]], o.length, o.length⟩ = some (.val kv, kr) ∧ (∃ r, kr.getD ⟨o ++ [.cells .ex 113 0 [.map gr]], o.length, o.length⟩ = ⟨o ++ r, o.length, o.length⟩ ∧
      (keysN np G ≠ [] → kv = .slice (o.length + 1) 0 (keysN np G).length 1 ∧ (o ++ r)[o.length + 1]? = some (.cells .gr 3 0 ((keysN np G).map fun i : Nat => V.int .i64 (i : Int))))) ∧ lenLV kv = some (.int .i64 ((keysN np G).length : Int), none) := by
    by_cases hc : G = []
    · subst hc
      refine ⟨_, _, sorted2_nil (hmr _) (app_get0 _ _ _), ⟨_, rfl, fun h => absurd (hc0 rfl) h⟩, ?_⟩
      rw [hc0 rfl]; rfl
    · refine ⟨_, _, sorted2_some hn hG hc (hmr _) (app_get0 _ _ _), ⟨_, by rw [List.append_assoc]; rfl, fun _ => ⟨by simp, ?_⟩⟩, rfl⟩
      exact app_getk _ _ 1
  obtain ⟨kv, kr, qs, ⟨r, hr, hkv⟩, hkl⟩ := qs
  (repeat' (first | refine To.seq hxE2 ?_ | refine To.op0 hxE2 (by simp only [go_sem, eqs hxE2, reduceIte, seval, Heap.gets, Heap.sets, Heap.get, bytesA_length, bytesA_one, bytesA_plains, List.take_of_length_le, List.drop_of_length_le, Nat.add_zero, V.one, Nat.reduceLeDiff, List.all_cons, List.all_nil, ne_eq, not_false_eq_true, Nat.zero_le, qk]; rfl) ?_ | refine To.op1 hxE2 (by simp only [go_sem, eqs hxE2, reduceIte, seval, Heap.gets, Heap.sets, Heap.get, bytesA_length, bytesA_one, bytesA_plains, List.take_of_length_le, List.drop_of_length_le, Nat.add_zero, V.one, Nat.reduceLeDiff, List.all_cons, List.all_nil, ne_eq, not_false_eq_true, Nat.zero_le, qk]; rfl) ?_ | refine To.nop hxE2 ?_))
  refine To.op hxE2 (by simp only [go_sem, eqs hxE2, reduceIte, seval, qs]; rfl) ?_
  rw [hr]
  (repeat' (first | refine To.op0 hxE2 (by simp only [go_sem, eqs hxE2, reduceIte, seval, Heap.gets, Heap.sets, Heap.get, bytesA_length, bytesA_one, bytesA_plains, List.take_of_length_le, List.drop_of_length_le, Nat.add_zero, V.one, Nat.reduceLeDiff, List.all_cons, List.all_nil, ne_eq, not_false_eq_true, Nat.zero_le, hkl]; rfl) ?_ | refine To.nop hxE2 ?_ | refine To.block hxE2 ?_))
  unfold csG
  generalize hKe : keysN np G = K at *
  refine To.loop hxE2 (fun m S h' => ∃ (i d1 : Nat) (r : List AM.Obj) (v : V), i + m = K.length ∧ h' = ⟨o ++ r, o.length, d1⟩ ∧ o.length ≤ d1 ∧ GrowX (o ++ r) o.length v 73 65 ((csK G (K.take i)).map chC) ∧ (K ≠ [] → (o ++ r)[o.length + 1]? = some (.cells .gr 3 0 (K.map fun i : Nat => V.int .i64 (i : Int)))) ∧ S 0 = .map gr ∧ S 3 = v ∧ S 8 = kv ∧ S 9 = .int .i64 (K.length : Int) ∧ S 10 = .int .i64 (i : Int)) ?_ K.length _ _ ?_
  · clear hr qs hkl
    rintro m S _ ⟨i, d1, r, v, hm', rfl, hd, hGx, hrow, s0, s3, s8, s9, s10⟩
    by_cases hi : i < K.length
    · have hlt : decide ((i : Int) < (K.length : Int)) = true := decide_eq_true (by omega)
      have ix : idxOf K.length (.int .i64 (i : Int)) = some i := idxOf_nat hi
      have wi : IntKind.i64.wrap ((i : Int) + 1) = ((i + 1 : Nat) : Int) := by rw [wrap_i64 (by omega) (by omega)]; omega
      have hK0 : K ≠ [] := by rintro rfl; simp at hi
      obtain ⟨rfl, _⟩ := hkv hK0
      have hrw := hrow hK0
      have hg : K[i]? = some K[i] := List.getElem?_eq_getElem hi
      have hsu := csK_succ G hg
      have hmem := hKm _ (List.getElem_mem hi)
      generalize K[i] = k at *
      have hkj : (K.map fun i : Nat => V.int .i64 (i : Int))[i]? = some (.int .i64 (k : Int)) := by rw [List.getElem?_map, hg]; rfl
      have hkey : V.key .i (.int .i64 (k : Int)) = true := rfl
      have hmf := mapFind_ent k G hG.nd
      obtain ⟨p, hfp⟩ : ∃ p, findC k G = some p := by
        have h1 := (hasK_iff (i := k) (ca := G)).2 hmem
        exact Option.isSome_iff_exists.1 h1
      have h64 := findC_64 hG hfp
      rw [hfp] at hmf hsu
      rw [Option.getD_some] at hsu
      have gl := hmr r
      have htk : List.take 64 (bytesA p) = bytesA p := List.take_of_length_le (by rw [bytesA_length]; omega)
      have hdr : List.drop 64 (bytesA p) = [] := List.drop_eq_nil_of_le (by rw [bytesA_length]; omega)
      have hzd : List.drop 1 z65 = z64 := rfl
      have hz1 : z65 = .int .i64 0 :: z64 := rfl
      have htk65 : List.take 65 (V.int .i64 (k : Int) :: bytesA p) = V.int .i64 (k : Int) :: bytesA p := List.take_of_length_le (by rw [List.length_cons, bytesA_length]; omega)
      have hrows : ∀ y ∈ (csK G (K.take i)).map chC, y.length = 65 := fun y hy => by
        obtain ⟨c, hc, rfl⟩ := List.mem_map.1 hy
        exact chC_len (csK_64 hG c hc)
      have hln : ((csK G (K.take i)).map chC).length ≤ 1000 := by rw [List.length_map, csK_len, List.length_take]; omega
      obtain ⟨v', r', D', hA, hG', hD1, hD2, _, hkeep⟩ := grow1 (o := o) (r := r ++ [.cells .ex 73 0 (V.int .i64 (k : Int) :: bytesA p)]) (b := 72) (by rw [← List.append_assoc]; exact hGx.app) (by decide) hrows (x := V.int .i64 (k : Int) :: bytesA p) (by rw [List.length_cons, bytesA_length]; omega) (room_small (by omega) (by decide)) (room_small (by decide) (by decide)) o.length d1
      have gb : ∀ x : AM.Obj, (o ++ (r ++ [x]))[o.length + r.length]? = some x := fun x => by
        rw [app_getk]; simp
      (repeat' (first | refine To.seq hxE2 ?_ | refine To.op0 hxE2 (by simp only [go_sem, eqs hxE2, reduceIte, seval, Heap.gets, Heap.sets, Heap.get, bytesA_length, bytesA_one, bytesA_plains, List.take_of_length_le, List.drop_of_length_le, Nat.add_zero, V.one, Nat.reduceLeDiff, List.all_cons, List.all_nil, ne_eq, not_false_eq_true, Nat.zero_le, s0, s3, s8, s9, s10, hlt, ix, hrw, hkj, hkey, hmf, gl, h64, htk, hdr, gb, htk65, hA, wi, z64_len, z64_drop, z64_one, z64_plains, z65_len, z65_drop, hzd, hz1, List.append_nil, Option.map_some, Option.getD_some]; rfl) ?_ | refine To.op1 hxE2 (by simp only [go_sem, eqs hxE2, reduceIte, seval, Heap.gets, Heap.sets, Heap.get, bytesA_length, bytesA_one, bytesA_plains, List.take_of_length_le, List.drop_of_length_le, Nat.add_zero, V.one, Nat.reduceLeDiff, List.all_cons, List.all_nil, ne_eq, not_false_eq_true, Nat.zero_le, s0, s3, s8, s9, s10, hlt, ix, hrw, hkj, hkey, hmf, gl, h64, htk, hdr, gb, htk65, hA, wi, z64_len, z64_drop, z64_one, z64_plains, z65_len, z65_drop, hzd, hz1, List.append_nil, Option.map_some, Option.getD_some]; rfl) ?_ | refine To.nop hxE2 ?_ | (refine To.condT hxE2 ?_ ?_; focus (simp only [go_sem, eqs hxE2, reduceIte, seval, Heap.gets, Heap.sets, Heap.get, bytesA_length, bytesA_one, bytesA_plains, List.take_of_length_le, List.drop_of_length_le, Nat.add_zero, V.one, Nat.reduceLeDiff, List.all_cons, List.all_nil, ne_eq, not_false_eq_true, Nat.zero_le, s0, s3, s8, s9, s10, hlt, ix, hrw, hkj, hkey, hmf, gl, h64, htk, hdr, gb, htk65, hA, wi, z64_len, z64_drop, z64_one, z64_plains, z65_len, z65_drop, hzd, hz1, List.append_nil, Option.map_some, Option.getD_some]; done)) | refine To.block hxE2 ?_ | refine To.skip hxE2 ?_))
      try simp only [andThen, outOf]
      refine ⟨m - 1, by omega, i + 1, D', r', v', by omega, rfl, by omega, ?_, fun _ => hkeep _ _ _ _ (by rw [← List.append_assoc]; exact app_old hrw _) (by decide), ?_⟩
      · rw [hsu, List.map_append]; exact hG'
      · simp only [go_sem, eqs hxE2, reduceIte, seval, s0, s8, s9]
    · have hlt : decide ((i : Int) < (K.length : Int)) = false := decide_eq_false (by omega)
      have hie : K.take i = K := List.take_of_length_le (by omega)
      rw [hie] at hGx
      (repeat' (first | refine To.seq hxE2 ?_ | refine To.op0 hxE2 (by simp only [go_sem, eqs hxE2, reduceIte, seval, Heap.gets, Heap.sets, Heap.get, bytesA_length, bytesA_one, bytesA_plains, List.take_of_length_le, List.drop_of_length_le, Nat.add_zero, V.one, Nat.reduceLeDiff, List.all_cons, List.all_nil, ne_eq, not_false_eq_true, Nat.zero_le, s3, s8, s9, s10, hlt]; rfl) ?_ | refine To.nop hxE2 ?_ | (refine To.condF hxE2 ?_ ?_; focus (simp only [go_sem, eqs hxE2, reduceIte, seval, Heap.gets, Heap.sets, Heap.get, bytesA_length, bytesA_one, bytesA_plains, List.take_of_length_le, List.drop_of_length_le, Nat.add_zero, V.one, Nat.reduceLeDiff, List.all_cons, List.all_nil, ne_eq, not_false_eq_true, Nat.zero_le, s3, s8, s9, s10, hlt]; done)) | refine To.ret hxE2 ?_ | refine To.exit hxE2 ?_))
      try simp only [andThen, outOf, if_true]
      skip
      have hfl := csK_64 (K := K) hG
      have h5 : ∀ S' : Nat → V, S' 2 = v → ∃ r' oh, finish af65 ⟨o, e, d⟩ (some (.ret, S', ⟨o ++ r, o.length, d1⟩)) = some (r', oh) ∧ ∃ v rr e' d', r' = .val v ∧ Gr o e d oh rr e' d' ∧ ChRow (o ++ rr) v (csK G K) := by
        intro S' h4
        refine ⟨_, _, fin1 (i := 2) rfl, ?_⟩
        rw [h4]
        obtain ⟨rr, e2, d2, hgr, hrr⟩ := leave_grow (o := o) (e := e) (d := d) (e' := o.length) (d' := d1) (rr := r) (v := v) (fun _ => .inr hd) (Nat.le_refl _) hd
        refine ⟨v, rr, e2, d2, rfl, hgr, ?_⟩
        rcases hGx with ⟨rfl, h0⟩ | ⟨m, ck, rfl, h2, h3⟩
        · have h0 : csK G K = [] := by simpa using h0
          rw [h0]
          exact ⟨rfl, fun h => absurd rfl h, by simp⟩
        · rw [hrr rfl]
          exact ChRow.grow (base := o.length) (.inr ⟨m, ck, rfl, h2, h3⟩) hfl
      exact h5 _ (by simp only [go_sem, eqs hxE2, reduceIte, seval, s3])
  · refine ⟨0, _, r, .nils, by omega, rfl, ?_, .inl ⟨rfl, rfl⟩, fun h => (hkv h).2, ?_⟩
    · exact Nat.le_refl _
    · simp only [go_sem, eqs hxE2, reduceIte, seval, initS]
end
end Go.Proofs.Ytfbkeieoeagkdaa

/- Store: Drop, Sync. -/
namespace Go.Proofs.Ytfbkeieoeagkdaa
open Go AM
set_option linter.unusedSimpArgs false
set_option linter.unusedVariables false
set_option maxRecDepth 100000

/-- All but a store's own objects stays. -/
structure Sx (sp jl dd pg lm st gr : Nat) (o o' : List AM.Obj) : Prop where
  len : o.length ≤ o'.length
  get : ∀ l, l < o.length → l ≠ sp → l ≠ jl → l ≠ dd → l ≠ pg → l ≠ lm → l ≠ st → l ≠ gr → o'[l]? = o[l]?
theorem dMake_len (on : Bool) (st : DSt) (a : Nat) (seq : Int) (cs : List (Int × Pg)) : (dMake on st a seq cs).2.2.pgs.length = st.pgs.length := by
  unfold dMake
  split
  · exact dPut_len on _ _
  · split
    · exact (dMark_len on _ _ _ _ _ _).trans (dPut_len on _ _)
    · split
      · exact (dPut_len on _ _).trans ((dMark_len on _ _ _ _ _ _).trans (dPut_len on _ _))
      · exact (dMark_len on _ _ _ _ _ _).trans ((dPut_len on _ _).trans ((dMark_len on _ _ _ _ _ _).trans (dPut_len on _ _)))
theorem dCommit_len (on : Bool) (st : DSt) (a s : Nat) (seq : Int) (over : Bool) (cs : List (Int × Pg)) : (dCommit on st a s seq over cs).2.2.2.pgs.length = st.pgs.length := by
  unfold dCommit
  split
  · rfl
  · split
    · rfl
    · exact dMake_len _ _ _ _ _
section
variable {o o1 : List AM.Obj} {e d sp jl dd pg lm st gr a s : Nat} {seq : Int} {over on : Bool} {ds : DSt} {S G : List (Nat × Pg)}
theorem Sx.refl : Sx sp jl dd pg lm st gr o o := ⟨Nat.le_refl _, fun _ _ _ _ _ _ _ _ _ => rfl⟩
theorem Sx.ofJ (D : Jx jl dd pg lm o o1) : Sx sp jl dd pg lm st gr o o1 := ⟨Nat.le_of_eq D.len.symm, fun l _ _ b c d e _ _ => D.get l b c d e⟩
theorem PS.jx (P : PS o sp jl dd pg lm st gr a s seq over on ds S G) {seq' : Int} {over' : Bool} {ds' : DSt} (D : Jx jl dd pg lm o o1) (J : PJ o1 jl dd pg lm a s seq' over' on ds') (hl : ds'.pgs.length = ds.pgs.length) : PS o1 sp jl dd pg lm st gr a s seq' over' on ds' S G := by
  have a1 := ty_ne P.hs P.J.hj (by decide)
  have a2 := ty_ne P.hs P.J.P.hd (by decide)
  have a3 := ty_ne P.hs P.J.P.hp (by decide)
  have a4 := ne_map P.hs P.J.P.hm
  have b1 := ne_map P.J.hj P.hS
  have b2 := ne_map P.J.P.hd P.hS
  have b3 := ne_map P.J.P.hp P.hS
  have c1 := ne_map P.J.hj P.hG
  have c2 := ne_map P.J.P.hd P.hG
  have c3 := ne_map P.J.P.hp P.hG
  exact ⟨by rw [D.get _ a1 a2 a3 a4]; exact P.hs, J, by rw [D.get _ (Ne.symm b1) (Ne.symm b2) (Ne.symm b3) P.n2]; exact P.hS, by rw [D.get _ (Ne.symm c1) (Ne.symm c2) (Ne.symm c3) P.n3]; exact P.hG, P.n1, P.n2, P.n3, by rw [hl]; exact P.okS, by rw [hl]; exact P.okG⟩
theorem Sx.trans {o2 : List AM.Obj} (h : Sx sp jl dd pg lm st gr o o1) (k : Sx sp jl dd pg lm st gr o1 o2) : Sx sp jl dd pg lm st gr o o2 :=
  ⟨Nat.le_trans h.len k.len, fun l hl a b c d e f g => (k.get l (Nat.lt_of_lt_of_le hl h.len) a b c d e f g).trans (h.get l hl a b c d e f g)⟩
/-- The store's own object. -/
def stO (jl dd a s st gr : Nat) : AM.Obj := .cells .ex 115 0 [.ptr jl 0, .ptr dd 0, .int .i64 (a : Int), .int .i64 (s : Int), .map st, .map gr]
theorem PS.move (P : PS o sp jl dd pg lm st gr a s seq over on ds S G) (r : List AM.Obj) {st' gr' : Nat} {S' G' : List (Nat × Pg)} (h1 : (o ++ r)[st']? = some (.map (S'.map ent))) (h2 : (o ++ r)[gr']? = some (.map (G'.map ent))) (n1 : st' ≠ gr') (n2 : st' ≠ lm) (n3 : gr' ≠ lm) (k1 : OkM ds.pgs.length S') (k2 : OkM ds.pgs.length G') :
    PS ((o ++ r).set sp (stO jl dd a s st' gr')) sp jl dd pg lm st' gr' a s seq over on ds S' G' := by
  have Q := P.app r
  have a1 := ty_ne Q.hs Q.J.hj (by decide)
  have a2 := ty_ne Q.hs Q.J.P.hd (by decide)
  have a3 := ty_ne Q.hs Q.J.P.hp (by decide)
  have a4 := ne_map Q.hs Q.J.P.hm
  have a5 := ne_map Q.hs h1
  have a6 := ne_map Q.hs h2
  have D := Q.J.P
  exact ⟨List.getElem?_set_self Q.ls, ⟨by rw [List.getElem?_set_ne a1]; exact Q.J.hj, ⟨by rw [List.getElem?_set_ne a2]; exact D.hd, by rw [List.getElem?_set_ne a3]; exact D.hp, by rw [List.getElem?_set_ne a4]; exact D.hm, D.p64, D.c64, D.nd⟩⟩, by rw [List.getElem?_set_ne a5]; exact h1, by rw [List.getElem?_set_ne a6]; exact h2, n1, n2, n3, k1, k2⟩
theorem okM_nil {np : Nat} : OkM np [] := ⟨List.nodup_nil, fun _ h => by cases h⟩
theorem Sx.move (r : List AM.Obj) (x : AM.Obj) : Sx sp jl dd pg lm st gr o ((o ++ r).set sp x) :=
  ⟨by simp, fun l hl h _ _ _ _ _ _ => by rw [List.getElem?_set_ne (Ne.symm h), List.getElem?_append_left hl]⟩
set_option maxHeartbeats 4000000 in
theorem sdrop_q (P : PS o sp jl dd pg lm st gr a s seq over on ds S G) :
    ∃ r oh, Den FF E2 35 [.ptr sp 0] ⟨o, e, d⟩ = some (r, oh) ∧ r = .val (.tuple []) ∧ ∃ o' e' d' st', oh.getD ⟨o, e, d⟩ = ⟨o', e', d'⟩ ∧ Sx sp jl dd pg lm st gr o o' ∧ o.length ≤ st' ∧ e' ≤ sp ∧ PS o' sp jl dd pg lm st' gr a s seq over on ds [] G := by
  refine To.denE hxE2 (f := 35) (a := af35) rfl (E2_none rfl) (Nat.le_of_ble_eq_true rfl) ?_
  have gs := fun r => app_old P.hs r
  have hls := P.ls
  have hlg := P.lgr
  have hlm := P.J.P.ll
  (repeat' (first | refine To.seq hxE2 ?_ | refine To.op0 hxE2 (by simp only [go_sem, eqs hxE2, reduceIte, seval, Heap.gets, Heap.sets, Heap.get, bytesA_length, bytesA_one, bytesA_plains, List.take_of_length_le, List.drop_of_length_le, Nat.add_zero, V.one, Nat.reduceLeDiff, List.all_cons, List.all_nil, ne_eq, not_false_eq_true, Nat.zero_le, gs, P.hs]; rfl) ?_ | refine To.op1 hxE2 (by simp only [go_sem, eqs hxE2, reduceIte, seval, Heap.gets, Heap.sets, Heap.get, bytesA_length, bytesA_one, bytesA_plains, List.take_of_length_le, List.drop_of_length_le, Nat.add_zero, V.one, Nat.reduceLeDiff, List.all_cons, List.all_nil, ne_eq, not_false_eq_true, Nat.zero_le, gs, P.hs]; rfl) ?_ | refine To.nop hxE2 ?_ | (refine To.condT hxE2 ?_ ?_; focus (simp only [go_sem, eqs hxE2, reduceIte, seval, Heap.gets, Heap.sets, Heap.get, bytesA_length, bytesA_one, bytesA_plains, List.take_of_length_le, List.drop_of_length_le, Nat.add_zero, V.one, Nat.reduceLeDiff, List.all_cons, List.all_nil, ne_eq, not_false_eq_true, Nat.zero_le, gs, P.hs]; done))))
  try simp only [andThen, outOf]
  refine ⟨_, _, fin0n rfl, rfl, ?_⟩
  refine ⟨(o ++ [AM.Obj.map []]).set sp (stO jl dd a s o.length gr), min e (min o.length sp), min d (min o.length sp), o.length, ?_, Sx.move _ _, Nat.le_refl _, by omega, P.move [.map []] (app_get0 _ _ _) (app_old P.hG _) (by omega) (by omega) P.n3 okM_nil P.okG⟩
  unfold leave
  simp only
  rw [if_neg (by omega)]; rfl
theorem leave_low {o o1 : List AM.Obj} {e d e1 d1 : Nat} (v : V) (h : e1 < o.length) : leave ⟨o, e, d⟩ ⟨o1, e1, d1⟩ v = some ⟨o1, min e e1, min d d1⟩ := by
  unfold leave
  simp only
  rw [if_neg (by omega)]
/-- What a Sync comes to: the error; the next number; is it over; the disk; the group. -/
def dSync (on : Bool) (ds : DSt) (a s : Nat) (seq : Int) (over : Bool) (G : List (Nat × Pg)) : Int × Int × Bool × DSt × List (Nat × Pg) :=
  if over = true then (5, seq, true, ds, G)
  else ((dCommit on ds a s seq false (csG ds.pgs.length G)).1, (dCommit on ds a s seq false (csG ds.pgs.length G)).2.1, (dCommit on ds a s seq false (csG ds.pgs.length G)).2.2.1, (dCommit on ds a s seq false (csG ds.pgs.length G)).2.2.2, if (dCommit on ds a s seq false (csG ds.pgs.length G)).1 = 0 then [] else G)
theorem dSync_len (on : Bool) (ds : DSt) (a s : Nat) (seq : Int) (over : Bool) (G : List (Nat × Pg)) : (dSync on ds a s seq over G).2.2.2.1.pgs.length = ds.pgs.length := by
  unfold dSync
  split
  · rfl
  · exact dCommit_len _ _ _ _ _ _ _
/-- Why what is left isn't let go. -/
def Lw (sp : Nat) (o : List AM.Obj) (e : Nat) (o' : List AM.Obj) (e' d' : Nat) : Prop := e' ≤ sp ∨ (o'.length = o.length ∧ e' = e ∧ (o' = o ∨ d' < o.length))
theorem Lw.leave {o o' : List AM.Obj} {e d e' d' sp : Nat} {v : V} (hv : v.plain = true) (h : Lw sp o o.length o' e' d') (hsp : sp < o.length) : ∃ e2 d2, (leave ⟨o, e, d⟩ ⟨o', e', d'⟩ v).getD ⟨o, e, d⟩ = ⟨o', e2, d2⟩ ∧ Lw sp o e o' e2 d2 := by
  rcases h with h | ⟨h1, h2, h3⟩
  · rw [leave_low v (by omega)]
    exact ⟨_, _, rfl, .inl (by omega)⟩
  · subst h2
    unfold AM.leave
    simp only
    rw [if_pos ⟨Nat.le_refl _, hv⟩]
    by_cases hd : o.length ≤ d'
    · rw [if_pos hd]
      have : o' = o := h3.resolve_right (by omega)
      subst this
      exact ⟨_, _, rfl, .inr ⟨rfl, rfl, .inl rfl⟩⟩
    · rw [if_neg hd, List.take_of_length_le (by omega)]
      exact ⟨_, _, rfl, .inr ⟨h1, rfl, h3.imp id (fun h => by omega)⟩⟩
/-- What a call of a store leaves. -/
def SL (sp jl dd pg lm st gr : Nat) (a s : Nat) (on : Bool) (o : List AM.Obj) (e d : Nat) (oh : Option Heap) (seq : Int) (over : Bool) (ds : DSt) (S G : List (Nat × Pg)) : Prop :=
  ∃ o' e' d' st' gr', oh.getD ⟨o, e, d⟩ = ⟨o', e', d'⟩ ∧ Sx sp jl dd pg lm st gr o o' ∧ (st' = st ∨ o.length ≤ st') ∧ (gr' = gr ∨ o.length ≤ gr') ∧ Lw sp o e o' e' d' ∧ PS o' sp jl dd pg lm st' gr' a s seq over on ds S G
set_option maxHeartbeats 8000000 in
theorem ssync_q (P : PS o sp jl dd pg lm st gr a s seq over on ds S G) (ha : a ≤ 100000) (hs : s ≤ 1000000) (hnp : ds.pgs.length ≤ 500) (hs0 : 0 ≤ seq) (hs1 : seq < 2 ^ 59) :
    ∃ r oh, Den FF E2 39 [.ptr sp 0] ⟨o, e, d⟩ = some (r, oh) ∧ r = .val (.int .i64 (dSync on ds a s seq over G).1) ∧
      SL sp jl dd pg lm st gr a s on o e d oh (dSync on ds a s seq over G).2.1 (dSync on ds a s seq over G).2.2.1 (dSync on ds a s seq over G).2.2.2.1 S (dSync on ds a s seq over G).2.2.2.2 := by
  refine To.denE hxE2 (f := 39) (a := af39) rfl (E2_none rfl) (Nat.le_of_ble_eq_true rfl) ?_
  have hls := P.ls
  have hlj := P.J.lj
  have hlg := P.lgr
  have hld := P.J.P.ld
  have hlp := P.J.P.lp
  have hlm := P.J.P.ll
  have hlst := P.lst
  have q := fun e d => sover_q (e := e) (d := d) P
  unfold dSync
  cases over
  case true =>
    rw [if_pos rfl]
    (repeat' (first | refine To.seq hxE2 ?_ | refine To.op0 hxE2 (by simp only [go_sem, eqs hxE2, reduceIte, seval, Heap.gets, Heap.sets, Heap.get, bytesA_length, bytesA_one, bytesA_plains, List.take_of_length_le, List.drop_of_length_le, Nat.add_zero, V.one, Nat.reduceLeDiff, List.all_cons, List.all_nil, ne_eq, not_false_eq_true, Nat.zero_le, q]; rfl) ?_ | refine To.nop hxE2 ?_ | (refine To.condT hxE2 ?_ ?_; focus (simp only [go_sem, eqs hxE2, reduceIte, seval, Heap.gets, Heap.sets, Heap.get, bytesA_length, bytesA_one, bytesA_plains, List.take_of_length_le, List.drop_of_length_le, Nat.add_zero, V.one, Nat.reduceLeDiff, List.all_cons, List.all_nil, ne_eq, not_false_eq_true, Nat.zero_le, q]; done)) | refine To.ret hxE2 ?_))
    refine ⟨_, _, fin_k1 (i := 2) (v := .int .i64 5) rfl (by simp only [go_sem, eqs hxE2, reduceIte, seval]) rfl (Kp.enter' _), rfl, ?_⟩
    exact ⟨o, e, d, st, gr, rfl, Sx.refl, .inl rfl, .inl rfl, .inr ⟨rfl, rfl, .inl rfl⟩, P⟩
  rw [if_neg (by decide)]
  obtain ⟨rc, ohc, qc, v, rr, e1, d1, rfl, Gc, hch⟩ := changes_x (e := o.length) (d := o.length) (by omega) P.okG P.hG
  have hk := keysN_le ds.pgs.length G
  have hcl : (csG ds.pgs.length G).length ≤ 500 := by unfold csG; rw [csK_len]; omega
  obtain ⟨r2, oh2, q2, n, o2, d2, rfl, L2, rfl, J2⟩ := commit_x (e := e1) (d := d1) (P.J.app rr) hch hcl ha hs hs0 hs1
  have hlen := dCommit_len on ds a s seq false (csG ds.pgs.length G)
  generalize dCommit on ds a s seq false (csG ds.pgs.length G) = w at *
  obtain ⟨n, sq', ov', ds'⟩ := w
  simp only at J2 q2 hlen ⊢
  have gs := fun r => app_old P.hs r
  have hg1 := Gc.eq
  have he1 := Gc.e
  have hd1 := Gc.d
  have hg2 := L2.eq
  obtain ⟨o3, rfl, D3⟩ := L2.dx.split hlj hld hlp hlm
  have L3 := L2.low.chop
  have J3 := J2.chop (by rw [D3.len]; exact hlj) (by rw [D3.len]; exact hld) (by rw [D3.len]; exact hlp) (by rw [D3.len]; exact hlm)
  have P3 := P.jx D3 J3 hlen
  (repeat' (first | refine To.seq hxE2 ?_ | refine To.op0 hxE2 (by simp only [go_sem, eqs hxE2, reduceIte, seval, Heap.gets, Heap.sets, Heap.get, bytesA_length, bytesA_one, bytesA_plains, List.take_of_length_le, List.drop_of_length_le, Nat.add_zero, V.one, Nat.reduceLeDiff, List.all_cons, List.all_nil, ne_eq, not_false_eq_true, Nat.zero_le, q, P.hs]; rfl) ?_ | refine To.nop hxE2 ?_ | (refine To.condF hxE2 ?_ ?_; focus (simp only [go_sem, eqs hxE2, reduceIte, seval, Heap.gets, Heap.sets, Heap.get, bytesA_length, bytesA_one, bytesA_plains, List.take_of_length_le, List.drop_of_length_le, Nat.add_zero, V.one, Nat.reduceLeDiff, List.all_cons, List.all_nil, ne_eq, not_false_eq_true, Nat.zero_le, q, P.hs]; done)) | refine To.skip hxE2 ?_ | refine To.draw0 hxE2 ?_ | refine ToD.op0 (by simp only [go_sem, eqs hxE2, reduceIte, seval, Heap.gets, Heap.sets, Heap.get, bytesA_length, bytesA_one, bytesA_plains, List.take_of_length_le, List.drop_of_length_le, Nat.add_zero, V.one, Nat.reduceLeDiff, List.all_cons, List.all_nil, ne_eq, not_false_eq_true, Nat.zero_le, q, P.hs]; rfl) (by simp only [put_some, put_none]; rfl) ?_ | fail))
  refine ToD.callD rfl rfl rfl (by simp only [go_sem, eqs hxE2, reduceIte, seval]; exact qc) hg1 ?_ ?_
  · simp only [go_sem, eqs hxE2, reduceIte, seval, Heap.gets, Heap.sets, Heap.get, bytesA_length, bytesA_one, bytesA_plains, List.take_of_length_le, List.drop_of_length_le, Nat.add_zero, V.one, Nat.reduceLeDiff, List.all_cons, List.all_nil, ne_eq, not_false_eq_true, Nat.zero_le, gs]
  skip
  refine ToD.callD rfl rfl rfl (by simp only [go_sem, eqs hxE2, reduceIte, seval]; exact q2) hg2 rfl ?_
  by_cases hn : n = 0
  · subst hn
    (repeat' (first | refine To.seq hxE2 ?_ | refine To.op0 hxE2 (by simp only [go_sem, eqs hxE2, reduceIte, seval, Heap.gets, Heap.sets, Heap.get, bytesA_length, bytesA_one, bytesA_plains, List.take_of_length_le, List.drop_of_length_le, Nat.add_zero, V.one, Nat.reduceLeDiff, List.all_cons, List.all_nil, ne_eq, not_false_eq_true, Nat.zero_le, P3.hs, app_old P3.hs, bne_self_eq_false]; rfl) ?_ | refine To.op1 hxE2 (by simp only [go_sem, eqs hxE2, reduceIte, seval, Heap.gets, Heap.sets, Heap.get, bytesA_length, bytesA_one, bytesA_plains, List.take_of_length_le, List.drop_of_length_le, Nat.add_zero, V.one, Nat.reduceLeDiff, List.all_cons, List.all_nil, ne_eq, not_false_eq_true, Nat.zero_le, P3.hs, app_old P3.hs, bne_self_eq_false]; rfl) ?_ | refine To.nop hxE2 ?_ | (refine To.condF hxE2 ?_ ?_; focus (simp only [go_sem, eqs hxE2, reduceIte, seval, Heap.gets, Heap.sets, Heap.get, bytesA_length, bytesA_one, bytesA_plains, List.take_of_length_le, List.drop_of_length_le, Nat.add_zero, V.one, Nat.reduceLeDiff, List.all_cons, List.all_nil, ne_eq, not_false_eq_true, Nat.zero_le, P3.hs, app_old P3.hs, bne_self_eq_false]; done)) | refine To.ret hxE2 ?_ | refine To.skip hxE2 ?_ | refine ToD.op0 (by simp only [go_sem, eqs hxE2, reduceIte, seval, Heap.gets, Heap.sets, Heap.get, bytesA_length, bytesA_one, bytesA_plains, List.take_of_length_le, List.drop_of_length_le, Nat.add_zero, V.one, Nat.reduceLeDiff, List.all_cons, List.all_nil, ne_eq, not_false_eq_true, Nat.zero_le, P3.hs, app_old P3.hs, bne_self_eq_false]; rfl) (by simp only [put_some, put_none]; rfl) ?_ | refine ToD.nop ?_))
    rw [if_pos rfl]
    refine ⟨_, _, fin1 (i := 2) rfl, by simp only [go_sem, eqs hxE2, reduceIte, seval], ?_⟩
    rw [leave_low _ (by omega)]
    have P4 := P3.move (rr ++ [.map []]) (st' := st) (gr' := o3.length + rr.length) (S' := S) (G' := []) (app_old P3.hS _) (by rw [app_getk]; simp) (by rw [D3.len]; omega) P3.n2 (by rw [D3.len]; omega) P3.okS okM_nil
    have X4 := Sx.move (sp := sp) (jl := jl) (dd := dd) (pg := pg) (lm := lm) (st := st) (gr := gr) (o := o3) (rr ++ [.map []]) (stO jl dd a s st (o3.length + rr.length))
    have X3 := Sx.ofJ (sp := sp) (st := st) (gr := gr) D3
    exact ⟨_, _, _, st, o3.length + rr.length, rfl, X3.trans X4, .inl rfl, .inr (by rw [D3.len]; omega), .inl (by omega), P4⟩
  · have hb : (n != 0) = true := by simpa using hn
    (repeat' (first | refine To.seq hxE2 ?_ | refine To.op0 hxE2 (by simp only [go_sem, eqs hxE2, reduceIte, seval, hb]; rfl) ?_ | refine To.nop hxE2 ?_ | (refine To.condT hxE2 ?_ ?_; focus (simp only [go_sem, eqs hxE2, reduceIte, seval, hb]; done)) | refine To.ret hxE2 ?_ | refine ToD.op0 (by simp only [go_sem, eqs hxE2, reduceIte, seval, hb]; rfl) (by simp only [put_some, put_none]; rfl) ?_ | refine ToD.nop ?_))
    simp only [andThen]
    skip
    rw [if_neg hn]
    have h5 : ∀ S' : Nat → V, S' 2 = .int .i64 n → ∃ v oh, finish af39 ⟨o, e, d⟩ (some (.ret, S', ⟨o3 ++ rr, e1, d2⟩)) = some (v, oh) ∧ v = .val (.int .i64 n) ∧ SL sp jl dd pg lm st gr a s on o e d oh sq' ov' ds' S G := by
      intro S' h2
      refine ⟨_, _, fin1 (i := 2) rfl, by rw [h2], ?_⟩
      rw [h2]
      obtain ⟨d4, hlv, hdd, _⟩ := leave_app2 (o := o) (o' := o3) (r := rr) (e := e) (d := d) (e' := e1) (d' := d2) (v := .int .i64 n) rfl D3.len (by omega) (fun h => by
        rcases L3.2 with L | L
        · exact L
        · omega)
      refine ⟨o3, e, d4, st, gr, hlv, Sx.ofJ D3, .inl rfl, .inl rfl, .inr ⟨D3.len, rfl, ?_⟩, P3⟩
      rcases hdd with h | h
      · exact .inl h
      · rcases L3.2 with L | L
        · exact .inl L
        · exact .inr (by omega)
    exact h5 _ (by simp only [go_sem, eqs hxE2, reduceIte, seval])
end
end Go.Proofs.Ytfbkeieoeagkdaa

