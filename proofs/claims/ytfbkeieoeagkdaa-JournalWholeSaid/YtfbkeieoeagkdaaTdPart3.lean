/- Own texts, joined: TdJng, TdJnh, TdJni, TdJnj, TdJnk, TdJnl, TdJnm, TdJnn, TdJno, TdJnp, TdJnq, TdJnr, TdJns. -/
import Derived.Test.YtfbkeieoeagkdaaTdPart2
/- Journal: numbers, laid, may. -/
namespace Go.Proofs.Ytfbkeieoeagkdaa
open Go AM
set_option linter.unusedSimpArgs false
set_option linter.unusedVariables false
set_option maxRecDepth 100000

def numsI (cs : List (Int × Pg)) : Nat → List Pg
  | 0 => List.replicate (listsN cs.length) (zs 64)
  | i + 1 => (numsI cs i).set (i / 32) (setK ((numsI cs i).getD (i / 32) []) (i % 32 * 2) 2 (cs.getD i (0, [])).1 2)
def numsL (cs : List (Int × Pg)) : List Pg := numsI cs cs.length
def laidL (cs : List (Int × Pg)) : List Pg := numsL cs ++ cs.map (·.2)
theorem numsI_len (cs : List (Int × Pg)) : ∀ i, (numsI cs i).length = listsN cs.length
  | 0 => List.length_replicate
  | i + 1 => by rw [numsI, List.length_set, numsI_len cs i]
theorem numsI_64 (cs : List (Int × Pg)) : ∀ i, i ≤ cs.length → ∀ p ∈ numsI cs i, p.length = 64
  | 0, _, p, hp => by rw [numsI] at hp; rw [List.eq_of_mem_replicate hp]; rfl
  | i + 1, hi, p, hp => by
    rw [numsI] at hp
    have ih := numsI_64 cs i (by omega)
    rcases List.mem_or_eq_of_mem_set hp with h | rfl
    · exact ih p h
    · rw [setK_len, List.getD_eq_getElem?_getD, List.getElem?_eq_getElem (by rw [numsI_len]; unfold listsN; omega)]
      exact ih _ (List.getElem_mem _)
theorem laidL_64 {cs : List (Int × Pg)} (h : ∀ c ∈ cs, c.2.length = 64) : ∀ p ∈ laidL cs, p.length = 64 := by
  intro p hp
  rcases List.mem_append.1 hp with hp | hp
  · exact numsI_64 cs _ (Nat.le_refl _) p hp
  · obtain ⟨c, hc, rfl⟩ := List.mem_map.1 hp
    exact h c hc
theorem laidL_len (cs : List (Int × Pg)) : (laidL cs).length = listsN cs.length + cs.length := by
  unfold laidL numsL
  rw [List.length_append, numsI_len, List.length_map]
def mayB (np at_ size : Nat) (i : Int) : Bool := decide (0 ≤ i) && decide (i < (np : Int)) && (decide (i < (at_ : Int)) || decide ((at_ : Int) + (size : Int) ≤ i))
section
variable {o : List AM.Obj} {e d dd pg lm : Nat} {on down : Bool} {left : Int} {pgs : List Pg} {ca : List (Nat × Pg)}
set_option maxHeartbeats 4000000 in
theorem may_q (P : PD o dd pg lm on down left pgs ca) {a s : Nat} (ha : a ≤ 1000000) (hs : s ≤ 1000000) (i : Int) : Den FF E2 77 [.agg (regV dd a s), .int .i64 i] ⟨o, e, d⟩ = some (.val (.bool (mayB pgs.length a s i)), none) := by
  refine To.den hxE2 (f := 77) (a := af77) rfl (E2_none rfl) (Nat.le_of_ble_eq_true rfl) ?_
  have q := fun r e d => pages_q (e := e) (d := d) (P.app r)
  have w : IntKind.i64.wrap ((a : Int) + (s : Int)) = (a : Int) + (s : Int) := wrap_i64 (by omega) (by omega)
  unfold mayB
  cases c0 : decide (0 ≤ i)
  · (repeat' (first | refine To.seq hxE2 ?_ | refine To.op0 hxE2 (by simp only [go_sem, eqs hxE2, reduceIte, seval, Heap.gets, Heap.sets, Heap.get, bytesA_length, bytesA_one, bytesA_plains, List.take_of_length_le, List.drop_of_length_le, Nat.add_zero, V.one, Nat.reduceLeDiff, List.all_cons, List.all_nil, ne_eq, not_false_eq_true, Nat.zero_le, regV, c0]; rfl) ?_ | refine To.op1 hxE2 (by simp only [go_sem, eqs hxE2, reduceIte, seval, Heap.gets, Heap.sets, Heap.get, bytesA_length, bytesA_one, bytesA_plains, List.take_of_length_le, List.drop_of_length_le, Nat.add_zero, V.one, Nat.reduceLeDiff, List.all_cons, List.all_nil, ne_eq, not_false_eq_true, Nat.zero_le, regV, c0]; rfl) ?_ | refine To.nop hxE2 ?_ | refine To.ret hxE2 ?_))
    try simp only [andThen, outOf]
    exact fin_k1 (i := 4) (v := .bool false) rfl (by simp only [go_sem, eqs hxE2, reduceIte, seval]) rfl (kp_app (by omega) (by omega))
  cases c1 : decide (i < (pgs.length : Int))
  · (repeat' (first | refine To.seq hxE2 ?_ | refine To.op0 hxE2 (by simp only [go_sem, eqs hxE2, reduceIte, seval, Heap.gets, Heap.sets, Heap.get, bytesA_length, bytesA_one, bytesA_plains, List.take_of_length_le, List.drop_of_length_le, Nat.add_zero, V.one, Nat.reduceLeDiff, List.all_cons, List.all_nil, ne_eq, not_false_eq_true, Nat.zero_le, regV, c0, c1, q]; rfl) ?_ | refine To.op1 hxE2 (by simp only [go_sem, eqs hxE2, reduceIte, seval, Heap.gets, Heap.sets, Heap.get, bytesA_length, bytesA_one, bytesA_plains, List.take_of_length_le, List.drop_of_length_le, Nat.add_zero, V.one, Nat.reduceLeDiff, List.all_cons, List.all_nil, ne_eq, not_false_eq_true, Nat.zero_le, regV, c0, c1, q]; rfl) ?_ | refine To.nop hxE2 ?_ | refine To.ret hxE2 ?_))
    try simp only [andThen, outOf]
    exact fin_k1 (i := 4) (v := .bool false) rfl (by simp only [go_sem, eqs hxE2, reduceIte, seval]) rfl (kp_app (by omega) (by omega))
  cases c2 : decide (i < (a : Int))
  · (repeat' (first | refine To.seq hxE2 ?_ | refine To.op0 hxE2 (by simp only [go_sem, eqs hxE2, reduceIte, seval, Heap.gets, Heap.sets, Heap.get, bytesA_length, bytesA_one, bytesA_plains, List.take_of_length_le, List.drop_of_length_le, Nat.add_zero, V.one, Nat.reduceLeDiff, List.all_cons, List.all_nil, ne_eq, not_false_eq_true, Nat.zero_le, regV, c0, c1, c2, q, w]; rfl) ?_ | refine To.op1 hxE2 (by simp only [go_sem, eqs hxE2, reduceIte, seval, Heap.gets, Heap.sets, Heap.get, bytesA_length, bytesA_one, bytesA_plains, List.take_of_length_le, List.drop_of_length_le, Nat.add_zero, V.one, Nat.reduceLeDiff, List.all_cons, List.all_nil, ne_eq, not_false_eq_true, Nat.zero_le, regV, c0, c1, c2, q, w]; rfl) ?_ | refine To.nop hxE2 ?_ | refine To.ret hxE2 ?_))
    try simp only [andThen, outOf]
    exact fin_k1 (i := 4) (v := .bool (decide ((a : Int) + (s : Int) ≤ i))) rfl (by simp only [go_sem, eqs hxE2, reduceIte, seval]) rfl (kp_app (by omega) (by omega))
  · (repeat' (first | refine To.seq hxE2 ?_ | refine To.op0 hxE2 (by simp only [go_sem, eqs hxE2, reduceIte, seval, Heap.gets, Heap.sets, Heap.get, bytesA_length, bytesA_one, bytesA_plains, List.take_of_length_le, List.drop_of_length_le, Nat.add_zero, V.one, Nat.reduceLeDiff, List.all_cons, List.all_nil, ne_eq, not_false_eq_true, Nat.zero_le, regV, c0, c1, c2, q, w]; rfl) ?_ | refine To.op1 hxE2 (by simp only [go_sem, eqs hxE2, reduceIte, seval, Heap.gets, Heap.sets, Heap.get, bytesA_length, bytesA_one, bytesA_plains, List.take_of_length_le, List.drop_of_length_le, Nat.add_zero, V.one, Nat.reduceLeDiff, List.all_cons, List.all_nil, ne_eq, not_false_eq_true, Nat.zero_le, regV, c0, c1, c2, q, w]; rfl) ?_ | refine To.nop hxE2 ?_ | refine To.ret hxE2 ?_))
    try simp only [andThen, outOf]
    exact fin_k1 (i := 4) (v := .bool true) rfl (by simp only [go_sem, eqs hxE2, reduceIte, seval]) rfl (kp_app (by omega) (by omega))
set_option maxHeartbeats 16000000 in
theorem numbers_x {v : V} {cs : List (Int × Pg)} (hc : ChRow o v cs) (hn : cs.length ≤ 500) :
    ∃ r oh, Den FF E2 88 [v] ⟨o, e, d⟩ = some (r, oh) ∧ ∃ pv rr e' d', r = .val pv ∧ pv.plain = false ∧ Gr o e d oh rr e' d' ∧ GrowX (o ++ rr) o.length pv 31 64 ((numsL cs).map bytesA) := by
  refine To.denE hxE2 (f := 88) (a := af88) rfl (E2_none rfl) (Nat.le_of_ble_eq_true rfl) ?_
  have hl := hc.len
  have ql := fun e d => lists_q (o := o) (e := e) (d := d) (n := cs.length) (by omega)
  have hL : listsN cs.length ≤ 100 := by unfold listsN; omega
  have c1 : (0 : Int) ≤ (listsN cs.length : Int) := by omega
  have c2 : (listsN cs.length : Int) * 64 ≤ (AM.ok1 : Int) := by unfold AM.ok1; omega
  have c2' : (listsN cs.length : Int) * ((64 : Nat) : Int) ≤ (AM.ok1 : Int) := c2
  have c3 : (listsN cs.length : Int) ≤ (AM.ok1 : Int) := by unfold AM.ok1; omega
  (repeat' (first | refine To.seq hxE2 ?_ | refine To.op0 hxE2 (by simp only [go_sem, eqs hxE2, reduceIte, seval, Heap.gets, Heap.sets, Heap.get, bytesA_length, bytesA_one, bytesA_plains, List.take_of_length_le, List.drop_of_length_le, Nat.add_zero, V.one, Nat.reduceLeDiff, List.all_cons, List.all_nil, ne_eq, not_false_eq_true, Nat.zero_le, hl, ql, c1, c2, c2', c3, Int.le_refl, Int.toNat_natCast, and_self, reps_pages]; rfl) ?_ | refine To.op1 hxE2 (by simp only [go_sem, eqs hxE2, reduceIte, seval, Heap.gets, Heap.sets, Heap.get, bytesA_length, bytesA_one, bytesA_plains, List.take_of_length_le, List.drop_of_length_le, Nat.add_zero, V.one, Nat.reduceLeDiff, List.all_cons, List.all_nil, ne_eq, not_false_eq_true, Nat.zero_le, hl, ql, c1, c2, c2', c3, Int.le_refl, Int.toNat_natCast, and_self, reps_pages]; rfl) ?_ | refine To.nop hxE2 ?_ | refine To.block hxE2 ?_))
  refine To.loop hxE2 (fun m S h' => ∃ (i d1 : Nat) (r : List AM.Obj), i + m = cs.length ∧ h' = ⟨o ++ (.cells .ex 31 0 (pgC (numsI cs i)) :: r), o.length, d1⟩ ∧ o.length ≤ d1 ∧ S 3 = .slice o.length 0 (listsN cs.length) 64 ∧ S 11 = v ∧ S 12 = .int .i64 (cs.length : Int) ∧ S 13 = .int .i64 (i : Int)) ?_ cs.length _ _ ?_
  · rintro m S _ ⟨i, d1, r, hm, rfl, hd, s3, s11, s12, s13⟩
    by_cases hi : i < cs.length
    · have hlt : decide ((i : Int) < (cs.length : Int)) = true := decide_eq_true (by omega)
      have ix : idxOf cs.length (.int .i64 (i : Int)) = some i := idxOf_nat hi
      have wi : IntKind.i64.wrap ((i : Int) + 1) = ((i + 1 : Nat) : Int) := by rw [wrap_i64 (by omega) (by omega)]; omega
      obtain ⟨c, hx⟩ : ∃ c, cs[i]? = some c := ⟨cs[i], List.getElem?_eq_getElem hi⟩
      obtain ⟨l, ck, t, rfl, hlb, hkd⟩ := hc.at_ (by rintro rfl; simp at hi)
      have h65 : ∀ r ∈ cs.map chC, r.length = 65 := by
        intro r hr
        obtain ⟨y, hy, rfl⟩ := List.mem_map.1 hr
        exact chC_len (hc.p64 y hy)
      obtain ⟨a1, a2⟩ := flat_drop h65 (by rw [List.getElem?_map, hx]; rfl : (cs.map chC)[i]? = some (chC c))
      have hc64 := hc.p64 c (List.mem_of_getElem? hx)
      have hcl := chC_len hc64
      have hco := chC_one c
      have hcp := chC_plains c
      have hc0 : (chC c)[0]? = some (.int .i64 c.1) := rfl
      have gl : ∀ r, (o ++ r)[l]? = some (.cells ck t 0 (cs.map chC).flatten) := fun r => app_old hlb r
      have t1 : Int.tdiv (i : Int) 32 = ((i / 32 : Nat) : Int) := by rw [Int.tdiv_eq_ediv_of_nonneg (by omega)]; omega
      have w1 : IntKind.i64.wrap ((i / 32 : Nat) : Int) = ((i / 32 : Nat) : Int) := wrap_i64 (by omega) (by omega)
      have t2 : Int.tmod (i : Int) 32 = ((i % 32 : Nat) : Int) := by rw [Int.tmod_eq_emod_of_nonneg (by omega)]; omega
      have w2 : IntKind.i64.wrap (((i % 32 : Nat) : Int) * 2) = ((i % 32 * 2 : Nat) : Int) := by rw [wrap_i64 (by omega) (by omega)]; omega
      have hk : i / 32 < listsN cs.length := by unfold listsN; omega
      have ix2 : idxOf (listsN cs.length) (.int .i64 ((i / 32 : Nat) : Int)) = some (i / 32) := idxOf_nat hk
      have hN := numsI_len cs i
      have h64 := numsI_64 cs i (by omega)
      have hst : numsI cs (i + 1) = (numsI cs i).set (i / 32) (setK ((numsI cs i).getD (i / 32) []) (i % 32 * 2) 2 c.1 2) := by
        rw [numsI, List.getD_eq_getElem?_getD (l := cs), hx]; rfl
      generalize numsI cs i = N at *
      generalize hkk : i / 32 = k at *
      have hg : N[k]? = some (N[k]'(by omega)) := List.getElem?_eq_getElem (by omega)
      have hgd : N.getD k [] = N[k]'(by omega) := by rw [List.getD_eq_getElem?_getD, hg]; rfl
      rw [hgd] at hst
      have hp64 := h64 _ (List.getElem_mem (by omega : k < N.length))
      have hat := pgC_at h64 hg
      have hk1 : (k + 1) * 64 ≤ N.length * 64 := Nat.mul_le_mul_right 64 (by omega)
      have hle : k * 64 + 64 ≤ (pgC N).length := by rw [pgC_len h64]; omega
      generalize hp : N[k]'(by omega) = p at *
      have qs : ∀ r e d, Den FF E2 87 [.agg (bytesA p), .int .i64 ((i % 32 * 2 : Nat) : Int), .int .i64 2, .int .i64 c.1] ⟨o ++ r, e, d⟩ = some (.val (.agg (bytesA (setK p (i % 32 * 2) 2 c.1 2))), none) := fun r e d => set_q (o := o ++ r) (e := e) (d := d) hp64 (a := i % 32 * 2) (s := 2) (by omega) (by omega) (by omega) c.1
      have hs64 : (setK p (i % 32 * 2) 2 c.1 2).length = 64 := by rw [setK_len, hp64]
      have e2 : List.take (k * 64) (pgC N) ++ (bytesA (setK p (i % 32 * 2) 2 c.1 2) ++ List.drop (k * 64 + 64) (pgC N)) = pgC (N.set k (setK p (i % 32 * 2) 2 c.1 2)) := by
        rw [pgC_set h64 hg hs64, List.append_assoc]
      rw [← hst] at e2
      generalize setK p (i % 32 * 2) 2 c.1 2 = p2 at *
      have htk : List.take 64 (bytesA p2) = bytesA p2 := List.take_of_length_le (by rw [bytesA_length]; omega)
      have gb : ∀ x y : AM.Obj, (o ++ (x :: (r ++ [y])))[o.length + (r.length + 1)]? = some y := fun x y => by
        rw [app_getk, List.getElem?_cons_succ]; simp
      have ga : ∀ (x : AM.Obj) r', (o ++ (x :: r'))[o.length]? = some x := fun x r' => app_get0 _ _ _
      have hst0 : ∀ (x y : AM.Obj) r', (o ++ (x :: r')).set o.length y = o ++ (y :: r') := fun x y r' => app_set0 _ _ _ _
      generalize i % 32 * 2 = i2 at *
      (repeat' (first | refine To.seq hxE2 ?_ | refine To.op0 hxE2 (by simp only [go_sem, eqs hxE2, reduceIte, seval, Heap.gets, Heap.sets, Heap.get, bytesA_length, bytesA_one, bytesA_plains, List.take_of_length_le, List.drop_of_length_le, Nat.add_zero, V.one, Nat.reduceLeDiff, List.all_cons, List.all_nil, ne_eq, not_false_eq_true, Nat.zero_le, s3, s11, s12, s13, hlt, ix, wi, gl, a1, a2, hcl, hco, hcp, hc0, t1, w1, t2, w2, ix2, ga, gb, hst0, hat, hle, hp64, hs64, htk, qs, e2, z65_len, z65_drop, z65_one, z65_plains]; rfl) ?_ | refine To.op1 hxE2 (by simp only [go_sem, eqs hxE2, reduceIte, seval, Heap.gets, Heap.sets, Heap.get, bytesA_length, bytesA_one, bytesA_plains, List.take_of_length_le, List.drop_of_length_le, Nat.add_zero, V.one, Nat.reduceLeDiff, List.all_cons, List.all_nil, ne_eq, not_false_eq_true, Nat.zero_le, s3, s11, s12, s13, hlt, ix, wi, gl, a1, a2, hcl, hco, hcp, hc0, t1, w1, t2, w2, ix2, ga, gb, hst0, hat, hle, hp64, hs64, htk, qs, e2, z65_len, z65_drop, z65_one, z65_plains]; rfl) ?_ | refine To.nop hxE2 ?_ | (refine To.condT hxE2 ?_ ?_; focus (simp only [go_sem, eqs hxE2, reduceIte, seval, Heap.gets, Heap.sets, Heap.get, bytesA_length, bytesA_one, bytesA_plains, List.take_of_length_le, List.drop_of_length_le, Nat.add_zero, V.one, Nat.reduceLeDiff, List.all_cons, List.all_nil, ne_eq, not_false_eq_true, Nat.zero_le, s3, s11, s12, s13, hlt, ix, wi, gl, a1, a2, hcl, hco, hcp, hc0, t1, w1, t2, w2, ix2, ga, gb, hst0, hat, hle, hp64, hs64, htk, qs, e2, z65_len, z65_drop, z65_one, z65_plains]; done)) | refine To.block hxE2 ?_ | refine To.skip hxE2 ?_ | refine To.draw0 hxE2 ?_ | refine ToD.op0 (by simp only [go_sem, eqs hxE2, reduceIte, seval, Heap.gets, Heap.sets, Heap.get, bytesA_length, bytesA_one, bytesA_plains, List.take_of_length_le, List.drop_of_length_le, Nat.add_zero, V.one, Nat.reduceLeDiff, List.all_cons, List.all_nil, ne_eq, not_false_eq_true, Nat.zero_le, s3, s11, s12, s13, hlt, ix, wi, gl, a1, a2, hcl, hco, hcp, hc0, t1, w1, t2, w2, ix2, ga, gb, hst0, hat, hle, hp64, hs64, htk, qs, e2, z65_len, z65_drop, z65_one, z65_plains]; rfl) (by simp only [put_some, put_none]; rfl) ?_ | refine ToD.op1 (by simp only [go_sem, eqs hxE2, reduceIte, seval, Heap.gets, Heap.sets, Heap.get, bytesA_length, bytesA_one, bytesA_plains, List.take_of_length_le, List.drop_of_length_le, Nat.add_zero, V.one, Nat.reduceLeDiff, List.all_cons, List.all_nil, ne_eq, not_false_eq_true, Nat.zero_le, s3, s11, s12, s13, hlt, ix, wi, gl, a1, a2, hcl, hco, hcp, hc0, t1, w1, t2, w2, ix2, ga, gb, hst0, hat, hle, hp64, hs64, htk, qs, e2, z65_len, z65_drop, z65_one, z65_plains]; rfl) (by simp only [put_some, put_none]; rfl) (by simp only [KD.app, go_sem, eqs hxE2, reduceIte, seval, Heap.gets, Heap.sets, Heap.get, bytesA_length, bytesA_one, bytesA_plains, List.take_of_length_le, List.drop_of_length_le, Nat.add_zero, V.one, Nat.reduceLeDiff, List.all_cons, List.all_nil, ne_eq, not_false_eq_true, Nat.zero_le, s3, s11, s12, s13, hlt, ix, wi, gl, a1, a2, hcl, hco, hcp, hc0, t1, w1, t2, w2, ix2, ga, gb, hst0, hat, hle, hp64, hs64, htk, qs, e2, z65_len, z65_drop, z65_one, z65_plains]; rfl) ?_ | refine ToD.nop ?_))
      try simp only [andThen, outOf]
      refine ⟨m - 1, by omega, i + 1, _, _, by omega, rfl, ?_, ?_⟩
      · omega
      · simp only [go_sem, eqs hxE2, reduceIte, seval, s3, s11, s12]
    · have hlt : decide ((i : Int) < (cs.length : Int)) = false := decide_eq_false (by omega)
      obtain rfl : i = cs.length := by omega
      (repeat' (first | refine To.seq hxE2 ?_ | refine To.op0 hxE2 (by simp only [go_sem, eqs hxE2, reduceIte, seval, Heap.gets, Heap.sets, Heap.get, bytesA_length, bytesA_one, bytesA_plains, List.take_of_length_le, List.drop_of_length_le, Nat.add_zero, V.one, Nat.reduceLeDiff, List.all_cons, List.all_nil, ne_eq, not_false_eq_true, Nat.zero_le, s3, s11, s12, s13, hlt]; rfl) ?_ | refine To.nop hxE2 ?_ | (refine To.condF hxE2 ?_ ?_; focus (simp only [go_sem, eqs hxE2, reduceIte, seval, Heap.gets, Heap.sets, Heap.get, bytesA_length, bytesA_one, bytesA_plains, List.take_of_length_le, List.drop_of_length_le, Nat.add_zero, V.one, Nat.reduceLeDiff, List.all_cons, List.all_nil, ne_eq, not_false_eq_true, Nat.zero_le, s3, s11, s12, s13, hlt]; done)) | refine To.ret hxE2 ?_ | refine To.exit hxE2 ?_))
      try simp only [andThen, outOf, if_true]
      skip
      refine ⟨_, _, fin1 (i := 2) rfl, ?_⟩
      have h2 : ∀ S' : Nat → V, S' 2 = .slice o.length 0 (listsN cs.length) 64 → ∃ pv rr e' d', Out.val (S' 2) = .val pv ∧ pv.plain = false ∧ Gr o e d (leave ⟨o, e, d⟩ ⟨o ++ (.cells .ex 31 0 (pgC (numsI cs cs.length)) :: r), o.length, d1⟩ (S' 2)) rr e' d' ∧ GrowX (o ++ rr) o.length pv 31 64 ((numsL cs).map bytesA) := by
        intro S' h2
        rw [h2]
        obtain ⟨rr, e2, d2, hgr, hrr⟩ := leave_grow (o := o) (e := e) (d := d) (e' := o.length) (d' := d1) (rr := .cells .ex 31 0 (pgC (numsI cs cs.length)) :: r) (v := .slice o.length 0 (listsN cs.length) 64) (fun h => by cases h) (Nat.le_refl _) hd
        refine ⟨_, rr, e2, d2, rfl, rfl, hgr, ?_⟩
        rw [hrr rfl]
        refine .inr ⟨o.length, .ex, ?_, ?_, Nat.le_refl _, .inl rfl⟩
        · rw [List.length_map]; unfold numsL; rw [numsI_len]
        · rw [app_get0]
          unfold numsL pgC
          rw [List.flatMap_def]
      exact h2 _ (by simp only [go_sem, eqs hxE2, reduceIte, seval, s3])
  · refine ⟨0, o.length, [], by omega, rfl, Nat.le_refl _, ?_⟩
    simp only [go_sem, eqs hxE2, reduceIte, seval, initS]
set_option maxHeartbeats 16000000 in
theorem laid_x {v : V} {cs : List (Int × Pg)} (hc : ChRow o v cs) (hn : cs.length ≤ 500) :
    ∃ r oh, Den FF E2 78 [v] ⟨o, e, d⟩ = some (r, oh) ∧ ∃ pv rr e' d', r = .val pv ∧ pv.plain = false ∧ Gr o e d oh rr e' d' ∧ GrowX (o ++ rr) o.length pv 31 64 ((laidL cs).map bytesA) := by
  refine To.denE hxE2 (f := 78) (a := af78) rfl (E2_none rfl) (Nat.le_of_ble_eq_true rfl) ?_
  have hl := hc.len
  obtain ⟨r0, oh0, q0, pv0, rr0, e0, d0, rfl, hpl0, G0, hG0⟩ := numbers_x (e := o.length) (d := o.length) hc hn
  have hL : listsN cs.length ≤ 100 := by unfold listsN; omega
  (repeat' (first | refine To.seq hxE2 ?_ | refine To.op0 hxE2 (by simp only [go_sem, eqs hxE2, reduceIte, seval]; rfl) ?_ | refine To.nop hxE2 ?_))
  refine To.op hxE2 (by simp only [go_sem, eqs hxE2, reduceIte, seval, q0]; rfl) ?_
  rw [show oh0.getD (AM.enter ⟨o, e, d⟩) = ⟨o ++ rr0, e0, d0⟩ from G0.eq]
  have he0 : e0 = o.length := by have := G0.e; omega
  have hd0 : d0 = o.length := by have := G0.d; omega
  subst he0 hd0
  (repeat' (first | refine To.seq hxE2 ?_ | refine To.op0 hxE2 (by simp only [go_sem, eqs hxE2, reduceIte, seval, Heap.gets, Heap.sets, Heap.get, bytesA_length, bytesA_one, bytesA_plains, List.take_of_length_le, List.drop_of_length_le, Nat.add_zero, V.one, Nat.reduceLeDiff, List.all_cons, List.all_nil, ne_eq, not_false_eq_true, Nat.zero_le, hl]; rfl) ?_ | refine To.nop hxE2 ?_ | refine To.block hxE2 ?_))
  refine To.loop hxE2 (fun m S h' => ∃ (i d1 : Nat) (r : List AM.Obj) (pv : V), i + m = cs.length ∧ h' = ⟨o ++ r, o.length, d1⟩ ∧ o.length ≤ d1 ∧ pv.plain = false ∧ GrowX (o ++ r) o.length pv 31 64 ((numsL cs ++ (cs.take i).map (·.2)).map bytesA) ∧ S 3 = pv ∧ S 8 = v ∧ S 9 = .int .i64 (cs.length : Int) ∧ S 10 = .int .i64 (i : Int)) ?_ cs.length _ _ ?_
  · rintro m S _ ⟨i, d1, r, pv, hm, rfl, hd, hpl, hG, s3, s8, s9, s10⟩
    by_cases hi : i < cs.length
    · have hlt : decide ((i : Int) < (cs.length : Int)) = true := decide_eq_true (by omega)
      have ix : idxOf cs.length (.int .i64 (i : Int)) = some i := idxOf_nat hi
      have wi : IntKind.i64.wrap ((i : Int) + 1) = ((i + 1 : Nat) : Int) := by rw [wrap_i64 (by omega) (by omega)]; omega
      obtain ⟨c, hx⟩ : ∃ c, cs[i]? = some c := ⟨cs[i], List.getElem?_eq_getElem hi⟩
      obtain ⟨l, ck, t, rfl, hlb, hkd⟩ := hc.at_ (by rintro rfl; simp at hi)
      have h65 : ∀ r ∈ cs.map chC, r.length = 65 := by
        intro r hr
        obtain ⟨y, hy, rfl⟩ := List.mem_map.1 hr
        exact chC_len (hc.p64 y hy)
      obtain ⟨a1, a2⟩ := flat_drop h65 (by rw [List.getElem?_map, hx]; rfl : (cs.map chC)[i]? = some (chC c))
      have hc64 := hc.p64 c (List.mem_of_getElem? hx)
      have hcl := chC_len hc64
      have hco := chC_one c
      have hcp := chC_plains c
      have hc1 : List.take 64 (List.drop 1 (chC c)) = bytesA c.2 := by
        show List.take 64 (bytesA c.2) = _
        exact List.take_of_length_le (by rw [bytesA_length]; omega)
      have gl : ∀ r, (o ++ r)[l]? = some (.cells ck t 0 (cs.map chC).flatten) := fun r => app_old hlb r
      have htk : List.take 64 (bytesA c.2) = bytesA c.2 := List.take_of_length_le (by rw [bytesA_length]; omega)
      have hdr : List.drop 64 (bytesA c.2) = [] := List.drop_eq_nil_of_le (by rw [bytesA_length]; omega)
      have gb : ∀ x : AM.Obj, (o ++ (r ++ [x]))[o.length + r.length]? = some x := fun x => by
        rw [app_getk]; simp
      have gb2 : ∀ x y : AM.Obj, (o ++ (r ++ [x, y]))[o.length + (r.length + 1)]? = some y := fun x y => by
        rw [app_getk, app_getk]; rfl
      have hrows : ∀ y ∈ (numsL cs ++ (cs.take i).map (·.2)).map bytesA, y.length = 64 := fun y hy => by
        obtain ⟨q, hq, rfl⟩ := List.mem_map.1 hy
        rw [bytesA_length]
        rcases List.mem_append.1 hq with hq | hq
        · exact numsI_64 cs _ (Nat.le_refl _) q hq
        · obtain ⟨c', hc', rfl⟩ := List.mem_map.1 hq
          exact hc.p64 c' (List.mem_of_mem_take hc')
      have hln : ((numsL cs ++ (cs.take i).map (·.2)).map bytesA).length ≤ 1000 := by
        rw [List.length_map, List.length_append, List.length_map, List.length_take]
        unfold numsL
        rw [numsI_len]; omega
      obtain ⟨v', r', D', hA, hG', hD1, hD2, _⟩ := grow1 (o := o) (r := r ++ [.cells .ex 73 0 (chC c), .cells .ex 31 0 (bytesA c.2)]) (b := 64) (by rw [← List.append_assoc]; exact hG.app) (by decide) hrows (x := bytesA c.2) (by rw [bytesA_length]; exact hc64) (room_small (by omega) (by decide)) (room_small (by decide) (by decide)) o.length (min d1 (o.length + r.length))
      have hpl' : v'.plain = false := by
        rcases hG' with ⟨rfl, h⟩ | ⟨_, _, rfl, _⟩
        · simp at h
        · rfl
      (repeat' (first | refine To.seq hxE2 ?_ | refine To.op0 hxE2 (by simp only [go_sem, eqs hxE2, reduceIte, seval, Heap.gets, Heap.sets, Heap.get, bytesA_length, bytesA_one, bytesA_plains, List.take_of_length_le, List.drop_of_length_le, Nat.add_zero, V.one, Nat.reduceLeDiff, List.all_cons, List.all_nil, ne_eq, not_false_eq_true, Nat.zero_le, s3, s8, s9, s10, hlt, ix, wi, gl, a1, a2, hcl, hco, hcp, hc1, hc64, htk, hdr, gb, gb2, hA, z64_len, z64_drop, z64_one, z64_plains, z65_len, z65_drop, z65_one, z65_plains, List.append_nil]; rfl) ?_ | refine To.op1 hxE2 (by simp only [go_sem, eqs hxE2, reduceIte, seval, Heap.gets, Heap.sets, Heap.get, bytesA_length, bytesA_one, bytesA_plains, List.take_of_length_le, List.drop_of_length_le, Nat.add_zero, V.one, Nat.reduceLeDiff, List.all_cons, List.all_nil, ne_eq, not_false_eq_true, Nat.zero_le, s3, s8, s9, s10, hlt, ix, wi, gl, a1, a2, hcl, hco, hcp, hc1, hc64, htk, hdr, gb, gb2, hA, z64_len, z64_drop, z64_one, z64_plains, z65_len, z65_drop, z65_one, z65_plains, List.append_nil]; rfl) ?_ | refine To.nop hxE2 ?_ | (refine To.condT hxE2 ?_ ?_; focus (simp only [go_sem, eqs hxE2, reduceIte, seval, Heap.gets, Heap.sets, Heap.get, bytesA_length, bytesA_one, bytesA_plains, List.take_of_length_le, List.drop_of_length_le, Nat.add_zero, V.one, Nat.reduceLeDiff, List.all_cons, List.all_nil, ne_eq, not_false_eq_true, Nat.zero_le, s3, s8, s9, s10, hlt, ix, wi, gl, a1, a2, hcl, hco, hcp, hc1, hc64, htk, hdr, gb, gb2, hA, z64_len, z64_drop, z64_one, z64_plains, z65_len, z65_drop, z65_one, z65_plains, List.append_nil]; done)) | refine To.block hxE2 ?_ | refine To.skip hxE2 ?_))
      try simp only [andThen, outOf]
      refine ⟨m - 1, by omega, i + 1, D', r', v', by omega, rfl, by omega, hpl', ?_, ?_⟩
      · rw [List.take_add_one, hx, Option.toList_some]
        simp only [List.map_append, List.map_cons, List.map_nil, List.append_assoc] at hG' ⊢
        exact hG'
      · simp only [go_sem, eqs hxE2, reduceIte, seval, s8, s9]
    · have hlt : decide ((i : Int) < (cs.length : Int)) = false := decide_eq_false (by omega)
      have hie : cs.take i = cs := List.take_of_length_le (by omega)
      rw [hie] at hG
      (repeat' (first | refine To.seq hxE2 ?_ | refine To.op0 hxE2 (by simp only [go_sem, eqs hxE2, reduceIte, seval, Heap.gets, Heap.sets, Heap.get, bytesA_length, bytesA_one, bytesA_plains, List.take_of_length_le, List.drop_of_length_le, Nat.add_zero, V.one, Nat.reduceLeDiff, List.all_cons, List.all_nil, ne_eq, not_false_eq_true, Nat.zero_le, s3, s8, s9, s10, hlt]; rfl) ?_ | refine To.nop hxE2 ?_ | (refine To.condF hxE2 ?_ ?_; focus (simp only [go_sem, eqs hxE2, reduceIte, seval, Heap.gets, Heap.sets, Heap.get, bytesA_length, bytesA_one, bytesA_plains, List.take_of_length_le, List.drop_of_length_le, Nat.add_zero, V.one, Nat.reduceLeDiff, List.all_cons, List.all_nil, ne_eq, not_false_eq_true, Nat.zero_le, s3, s8, s9, s10, hlt]; done)) | refine To.ret hxE2 ?_ | refine To.exit hxE2 ?_))
      try simp only [andThen, outOf, if_true]
      skip
      have h5 : ∀ S' : Nat → V, S' 2 = pv → ∃ r' oh, finish af78 ⟨o, e, d⟩ (some (.ret, S', ⟨o ++ r, o.length, d1⟩)) = some (r', oh) ∧ ∃ pv rr e' d', r' = .val pv ∧ pv.plain = false ∧ Gr o e d oh rr e' d' ∧ GrowX (o ++ rr) o.length pv 31 64 ((laidL cs).map bytesA) := by
        intro S' h4
        refine ⟨_, _, fin1 (i := 2) rfl, ?_⟩
        rw [h4]
        obtain ⟨rr, e2, d2, hgr, hrr⟩ := leave_grow (o := o) (e := e) (d := d) (e' := o.length) (d' := d1) (rr := r) (v := pv) (fun _ => .inr hd) (Nat.le_refl _) hd
        refine ⟨pv, rr, e2, d2, rfl, hpl, hgr, ?_⟩
        rw [hrr hpl]
        exact hG
      exact h5 _ (by simp only [go_sem, eqs hxE2, reduceIte, seval, s3])
  · refine ⟨0, o.length, rr0, pv0, by omega, rfl, Nat.le_refl _, hpl0, ?_, ?_⟩
    · rw [List.take_zero, List.map_nil, List.append_nil]; exact hG0
    · simp only [go_sem, eqs hxE2, reduceIte, seval, initS]
end
end Go.Proofs.Ytfbkeieoeagkdaa

/- Journal: marks; changes made. -/
namespace Go.Proofs.Ytfbkeieoeagkdaa
open Go AM
set_option linter.unusedSimpArgs false
set_option linter.unusedVariables false
set_option maxRecDepth 100000

def dMark (on : Bool) (st : DSt) (a : Int) (sq : Int) (lv : Bool) (c sm : Int) : Int × DSt :=
  if rightH sq lv c sm = true then dPut on st [(a, headP sq lv c sm)] else (5, st)
theorem dMark_len (on : Bool) (st : DSt) (a sq : Int) (lv : Bool) (c sm : Int) : (dMark on st a sq lv c sm).2.pgs.length = st.pgs.length := by
  unfold dMark
  split
  · exact dPut_len on _ st
  · rfl
section
variable {o : List AM.Obj} {e d dd pg lm : Nat} {on down : Bool} {left : Int} {pgs : List Pg} {ca : List (Nat × Pg)}
theorem fin_lv {a : AF} {i : Nat} (hr : a.res = [.t i]) {n : Int} {S : Nat → V} (hS : S i = .int .i64 n) {o1 r1 : List AM.Obj} {e1 d1 : Nat} (D : Dx dd pg lm o o1) (L : Low dd pg lm o o1 o.length d1) (he : o.length ≤ e1) (h1 : dd < o.length) (h2 : pg < o.length) (h3 : lm < o.length) :
    ∃ v oh, finish a ⟨o, e, d⟩ (some (.ret, S, ⟨o1 ++ r1, e1, d1⟩)) = some (v, oh) ∧ v = .val (.int .i64 n) ∧ ∃ d', Lv dd pg lm o e d oh o1 d' := by
  refine ⟨_, _, fin1 (i := i) hr, by rw [hS], ?_⟩
  obtain ⟨d2, q1, q2, q3, q4⟩ := leave_app2 (o := o) (o' := o1) (r := r1) (e := e) (d := d) (e' := e1) (d' := d1) (v := .int .i64 n) rfl D.len he (fun h => by
    rcases L.2 with L | L
    · exact L
    · omega)
  refine ⟨d2, ⟨by rw [hS]; exact q1, D, q4, ?_⟩⟩
  rcases q2 with q2 | q2
  · exact .inl q2
  · rcases L.2 with L | L
    · exact .inl L
    · exact .inr (by omega)
theorem fin_lv2 {a : AF} {i : Nat} (hr : a.res = [.t i]) {n : Int} {S : Nat → V} (hS : S i = .int .i64 n) {o1 r1 : List AM.Obj} {e1 d1 : Nat} (D : Dx dd pg lm o o1) (L : Low dd pg lm o o1 o.length d1) (he : o.length ≤ e1) (h1 : dd < o.length) (h2 : pg < o.length) (h3 : lm < o.length) {st : DSt} (P1 : PDs o1 dd pg lm on st) {w : Int × DSt} (hw : w = (n, st)) :
    ∃ v oh, finish a ⟨o, e, d⟩ (some (.ret, S, ⟨o1 ++ r1, e1, d1⟩)) = some (v, oh) ∧ v = .val (.int .i64 w.1) ∧ ∃ o' d', Lv dd pg lm o e d oh o' d' ∧ PDs o' dd pg lm on w.2 := by
  subst hw
  obtain ⟨v, oh, hf, rfl, d', hL⟩ := fin_lv (e := e) (d := d) (r1 := r1) hr hS D L he h1 h2 h3
  exact ⟨_, oh, hf, rfl, o1, d', hL, P1⟩
set_option maxHeartbeats 16000000 in
theorem mark_x (P : PD o dd pg lm on down left pgs ca) {a s : Int} {sq : Int} {lv : Bool} {c sm : Int} (h0 : 0 ≤ sm) (h1 : sm < 2 ^ 32) :
    ∃ r oh, Den FF E2 58 [.agg (regV dd a s), .agg (headV sq lv c sm)] ⟨o, e, d⟩ = some (r, oh) ∧ r = .val (.int .i64 (dMark on ⟨down, left, pgs, ca⟩ a sq lv c sm).1) ∧ ∃ o' d', Lv dd pg lm o e d oh o' d' ∧ PDs o' dd pg lm on (dMark on ⟨down, left, pgs, ca⟩ a sq lv c sm).2 := by
  refine To.denE hxE2 (f := 58) (a := af58) rfl (E2_none rfl) (Nat.le_of_ble_eq_true rfl) ?_
  have lD := P.ld
  have lP := P.lp
  have lM := P.ll
  have q1 := fun r e d => encode_q (o := o ++ r) (e := e) (d := d) (s := sq) (lv := lv) (c := c) h0 h1
  have hl := headP_len sq lv c sm
  have hv : (headV sq lv c sm).length = 4 := rfl
  have ho : (headV sq lv c sm).all V.one = true := rfl
  have ht4 : List.take 4 (headV sq lv c sm) = headV sq lv c sm := rfl
  unfold dMark
  generalize headV sq lv c sm = hV at *
  have hrv : regV dd a s = [.ptr dd 0, .int .i64 a, .int .i64 s] := rfl
  have hrl : (regV dd a s).length = 3 := rfl
  have hr1 : (regV dd a s)[1]? = some (.int .i64 a) := rfl
  have hro : (regV dd a s).all V.one = true := rfl
  have ht3 : List.take 3 (regV dd a s) = regV dd a s := rfl
  cases hr : rightH sq lv c sm
  · rw [hr] at q1
    simp only [Bool.false_eq_true, if_false] at q1 ⊢
    generalize regV dd a s = rv at *
    (repeat' (first | refine To.seq hxE2 ?_ | refine To.op0 hxE2 (by simp only [go_sem, eqs hxE2, reduceIte, seval, Heap.gets, Heap.sets, Heap.get, bytesA_length, bytesA_one, bytesA_plains, List.take_of_length_le, List.drop_of_length_le, Nat.add_zero, V.one, Nat.reduceLeDiff, List.all_cons, List.all_nil, ne_eq, not_false_eq_true, Nat.zero_le, q1, hv, ho, ht4, hrl, hro, z64_len, z64_drop, z64_take, z64_one, z64_plains]; rfl) ?_ | refine To.op1 hxE2 (by simp only [go_sem, eqs hxE2, reduceIte, seval, Heap.gets, Heap.sets, Heap.get, bytesA_length, bytesA_one, bytesA_plains, List.take_of_length_le, List.drop_of_length_le, Nat.add_zero, V.one, Nat.reduceLeDiff, List.all_cons, List.all_nil, ne_eq, not_false_eq_true, Nat.zero_le, q1, hv, ho, ht4, hrl, hro, z64_len, z64_drop, z64_take, z64_one, z64_plains]; rfl) ?_ | refine To.nop hxE2 ?_ | (refine To.condT hxE2 ?_ ?_; focus (simp only [go_sem, eqs hxE2, reduceIte, seval, Heap.gets, Heap.sets, Heap.get, bytesA_length, bytesA_one, bytesA_plains, List.take_of_length_le, List.drop_of_length_le, Nat.add_zero, V.one, Nat.reduceLeDiff, List.all_cons, List.all_nil, ne_eq, not_false_eq_true, Nat.zero_le, q1, hv, ho, ht4, hrl, hro, z64_len, z64_drop, z64_take, z64_one, z64_plains]; done)) | refine To.ret hxE2 ?_))
    exact fin_lv2 (i := 4) rfl (n := 5) (by simp only [go_sem, eqs hxE2, reduceIte, seval]) Dx.refl (Low.refl.less (by omega)) (by omega) lD lP lM P rfl
  · rw [hr] at q1
    simp only [if_true] at q1 ⊢
    have htk : List.take 64 (bytesA (headP sq lv c sm)) = bytesA (headP sq lv c sm) := List.take_of_length_le (by rw [bytesA_length]; omega)
    have hdr : List.drop 64 (bytesA (headP sq lv c sm)) = [] := List.drop_eq_nil_of_le (by rw [bytesA_length]; omega)
    generalize headP sq lv c sm = pH at *
    have hzd : List.drop 1 z65 = z64 := rfl
    generalize hrvv : regV dd a s = rv at *
    (repeat' (first | refine To.seq hxE2 ?_ | refine To.op0 hxE2 (by simp only [go_sem, eqs hxE2, reduceIte, seval, Heap.gets, Heap.sets, Heap.get, bytesA_length, bytesA_one, bytesA_plains, List.take_of_length_le, List.drop_of_length_le, Nat.add_zero, V.one, Nat.reduceLeDiff, List.all_cons, List.all_nil, ne_eq, not_false_eq_true, Nat.zero_le, q1, hv, ho, ht4, hrl, hr1, hro, ht3, hl, htk, hdr, hzd, z64_len, z64_drop, z64_take, z64_one, z64_plains, z65_len, z65_drop, List.append_nil]; rfl) ?_ | refine To.op1 hxE2 (by simp only [go_sem, eqs hxE2, reduceIte, seval, Heap.gets, Heap.sets, Heap.get, bytesA_length, bytesA_one, bytesA_plains, List.take_of_length_le, List.drop_of_length_le, Nat.add_zero, V.one, Nat.reduceLeDiff, List.all_cons, List.all_nil, ne_eq, not_false_eq_true, Nat.zero_le, q1, hv, ho, ht4, hrl, hr1, hro, ht3, hl, htk, hdr, hzd, z64_len, z64_drop, z64_take, z64_one, z64_plains, z65_len, z65_drop, List.append_nil]; rfl) ?_ | refine To.nop hxE2 ?_ | (refine To.condF hxE2 ?_ ?_; focus (simp only [go_sem, eqs hxE2, reduceIte, seval, Heap.gets, Heap.sets, Heap.get, bytesA_length, bytesA_one, bytesA_plains, List.take_of_length_le, List.drop_of_length_le, Nat.add_zero, V.one, Nat.reduceLeDiff, List.all_cons, List.all_nil, ne_eq, not_false_eq_true, Nat.zero_le, q1, hv, ho, ht4, hrl, hr1, hro, ht3, hl, htk, hdr, hzd, z64_len, z64_drop, z64_take, z64_one, z64_plains, z65_len, z65_drop, List.append_nil]; done)) | refine To.skip hxE2 ?_))
    have hrow : ChRow (o ++ [.cells .ex 100 0 rv, .cells .ex 103 0 hV, .cells .ex 31 0 (bytesA pH), .cells .ex 73 0 (V.int .i64 a :: bytesA pH)]) (.slice (o.length + 3) 0 1 65) [(a, pH)] := by
      refine ⟨rfl, fun _ => ⟨o.length + 3, .ex, 73, rfl, ?_, .inr rfl⟩, fun c hc => ?_⟩
      · rw [app_getk]
        simp [chC]
      · rw [List.mem_singleton.1 hc]; exact hl
    obtain ⟨r2, oh2, q2, rfl, o2, d2, L2, P2⟩ := rput_x (e := o.length) (d := min o.length (o.length + 2)) (a := a) (s := s) (P.app [.cells .ex 100 0 rv, .cells .ex 103 0 hV, .cells .ex 31 0 (bytesA pH), .cells .ex 73 0 (V.int .i64 a :: bytesA pH)]) hrow (by simp)
    rw [hrvv] at q2
    obtain ⟨o3, rfl, D3⟩ := L2.dx.split lD lP lM
    have hl3 := D3.len
    have P3 := PD.chop P2 (by omega) (by omega) (by omega)
    have L3 := (Low.refl (o := o) (d := o.length)).less (Nat.min_le_left o.length (o.length + 2)) |>.trans L2.low.chop
    have hg2 := L2.eq
    generalize dPut on ⟨down, left, pgs, ca⟩ [(a, pH)] = w at *
    obtain ⟨n, st⟩ := w
    simp only at q2 P3
    refine To.op hxE2 (by simp only [go_sem, eqs hxE2, reduceIte, seval, q2]; rfl) ?_
    rw [hg2]
    (repeat' (first | refine To.op0 hxE2 (by simp only [go_sem, eqs hxE2, reduceIte, seval]; rfl) ?_ | refine To.nop hxE2 ?_ | refine To.ret hxE2 ?_))
    exact fin_lv2 (i := 4) rfl (by simp only [go_sem, eqs hxE2, reduceIte, seval]) D3 L3 (Nat.le_refl _) lD lP lM P3 rfl
end
/-- A journal in memory. -/
structure PJ (o : List AM.Obj) (jl dd pg lm : Nat) (a s : Nat) (seq : Int) (over : Bool) (on : Bool) (st : DSt) : Prop where
  hj : o[jl]? = some (.cells .ex 109 0 [.ptr dd 0, .int .i64 (a : Int), .int .i64 (s : Int), .int .i64 seq, .bool over])
  P : PDs o dd pg lm on st
/-- All but the journal's and the disk's objects stays. -/
structure Jx (jl dd pg lm : Nat) (o o' : List AM.Obj) : Prop where
  len : o'.length = o.length
  get : ∀ l, l ≠ jl → l ≠ dd → l ≠ pg → l ≠ lm → o'[l]? = o[l]?
def LowJ (jl dd pg lm : Nat) (o o' : List AM.Obj) (d d' : Nat) : Prop := d' ≤ d ∧ (o' = o ∨ d' ≤ max jl (max dd (max pg lm)))
structure LvJ (jl dd pg lm : Nat) (o : List AM.Obj) (e d : Nat) (oh : Option Heap) (o' : List AM.Obj) (d' : Nat) : Prop where
  eq : oh.getD ⟨o, e, d⟩ = ⟨o', e, d'⟩
  dx : Jx jl dd pg lm o o'
  low : LowJ jl dd pg lm o o' d d'
section
variable {o o1 o2 : List AM.Obj} {e d d1 d2 jl dd pg lm a s : Nat} {on over : Bool} {seq : Int} {st : DSt}
theorem Jx.refl : Jx jl dd pg lm o o := ⟨rfl, fun _ _ _ _ _ => rfl⟩
theorem Jx.trans (h : Jx jl dd pg lm o o1) (k : Jx jl dd pg lm o1 o2) : Jx jl dd pg lm o o2 := ⟨k.len.trans h.len, fun l x a b c => (k.get l x a b c).trans (h.get l x a b c)⟩
theorem Dx.j (h : Dx dd pg lm o o1) : Jx jl dd pg lm o o1 := ⟨h.len, fun l _ a b c => h.get l a b c⟩
theorem jx_jl (x : AM.Obj) : Jx jl dd pg lm o (o.set jl x) := ⟨by simp, fun l a _ _ _ => List.getElem?_set_ne (Ne.symm a)⟩
theorem LowJ.refl : LowJ jl dd pg lm o o d d := ⟨Nat.le_refl _, .inl rfl⟩
theorem LowJ.trans {d d1 d2 : Nat} (h : LowJ jl dd pg lm o o1 d d1) (k : LowJ jl dd pg lm o1 o2 d1 d2) : LowJ jl dd pg lm o o2 d d2 := by
  obtain ⟨h1, h2⟩ := h
  obtain ⟨k1, k2⟩ := k
  refine ⟨Nat.le_trans k1 h1, ?_⟩
  rcases k2 with k2 | k2
  · rcases h2 with h2 | h2
    · exact .inl (k2.trans h2)
    · exact .inr (by omega)
  · exact .inr k2
theorem LowJ.less (h : LowJ jl dd pg lm o o1 d d1) (hd : d2 ≤ d1) : LowJ jl dd pg lm o o1 d d2 := ⟨Nat.le_trans hd h.1, h.2.imp id (fun h => Nat.le_trans hd h)⟩
theorem LowJ.chop {r o1 : List AM.Obj} (h : LowJ jl dd pg lm (o ++ r) (o1 ++ r) d d1) : LowJ jl dd pg lm o o1 d d1 := ⟨h.1, h.2.imp (fun h => List.append_cancel_right h) id⟩
theorem Low.j (h : Low dd pg lm o o1 d d1) : LowJ jl dd pg lm o o1 d d1 := ⟨h.1, h.2.imp id (fun h => by omega)⟩
theorem Jx.split {r o' : List AM.Obj} (h : Jx jl dd pg lm (o ++ r) o') (h0 : jl < o.length) (h1 : dd < o.length) (h2 : pg < o.length) (h3 : lm < o.length) : ∃ o1, o' = o1 ++ r ∧ Jx jl dd pg lm o o1 := by
  have hlen := h.len
  rw [List.length_append] at hlen
  refine ⟨o'.take o.length, ?_, by rw [List.length_take]; omega, fun l x a b c => ?_⟩
  · apply List.ext_getElem?
    intro j
    by_cases hj : j < o.length
    · rw [List.getElem?_append_left (by rw [List.length_take]; omega), List.getElem?_take_of_lt hj]
    · have := h.get j (by omega) (by omega) (by omega) (by omega)
      rw [this, List.getElem?_append_right (by omega), List.getElem?_append_right (by rw [List.length_take]; omega), List.length_take, show j - min o.length o'.length = j - o.length by omega]
  · by_cases hl : l < o.length
    · rw [List.getElem?_take_of_lt hl, h.get l x a b c, List.getElem?_append_left hl]
    · rw [List.getElem?_eq_none (by rw [List.length_take]; omega), List.getElem?_eq_none (by omega)]
theorem PJ.lj (J : PJ o jl dd pg lm a s seq over on st) : jl < o.length := get_lt J.hj
theorem PJ.n1 (J : PJ o jl dd pg lm a s seq over on st) : jl ≠ dd := ty_ne J.hj J.P.hd (by decide)
theorem PJ.n2 (J : PJ o jl dd pg lm a s seq over on st) : jl ≠ pg := ty_ne J.hj J.P.hp (by decide)
theorem PJ.n3 (J : PJ o jl dd pg lm a s seq over on st) : jl ≠ lm := ne_map J.hj J.P.hm
theorem PJ.app (J : PJ o jl dd pg lm a s seq over on st) (r : List AM.Obj) : PJ (o ++ r) jl dd pg lm a s seq over on st := ⟨app_old J.hj r, J.P.app r⟩
theorem PJ.chop {r : List AM.Obj} (J : PJ (o ++ r) jl dd pg lm a s seq over on st) (h0 : jl < o.length) (h1 : dd < o.length) (h2 : pg < o.length) (h3 : lm < o.length) : PJ o jl dd pg lm a s seq over on st :=
  ⟨by rw [← List.getElem?_append_left h0 (l₂ := r)]; exact J.hj, PD.chop J.P h1 h2 h3⟩
/-- The disk's objects turned. -/
theorem PJ.dx {st' : DSt} (J : PJ o jl dd pg lm a s seq over on st) (D : Dx dd pg lm o o1) (P1 : PDs o1 dd pg lm on st') : PJ o1 jl dd pg lm a s seq over on st' :=
  ⟨by rw [D.get _ J.n1 J.n2 J.n3]; exact J.hj, P1⟩
/-- The journal's own object turned. -/
theorem PJ.set (J : PJ o jl dd pg lm a s seq over on st) (seq' : Int) (over' : Bool) : PJ (o.set jl (.cells .ex 109 0 [.ptr dd 0, .int .i64 (a : Int), .int .i64 (s : Int), .int .i64 seq', .bool over'])) jl dd pg lm a s seq' over' on st :=
  ⟨List.getElem?_set_self J.lj, ⟨by rw [List.getElem?_set_ne J.n1]; exact J.P.hd, by rw [List.getElem?_set_ne J.n2]; exact J.P.hp, by rw [List.getElem?_set_ne J.n3]; exact J.P.hm, J.P.p64, J.P.c64, J.P.nd⟩⟩
theorem fin_lvj {a' : AF} {i : Nat} (hr : a'.res = [.t i]) {n : Int} {S : Nat → V} (hS : S i = .int .i64 n) {o1 r1 : List AM.Obj} {e1 d1 : Nat} (D : Jx jl dd pg lm o o1) (L : LowJ jl dd pg lm o o1 o.length d1) (he : o.length ≤ e1) (h0 : jl < o.length) (h1 : dd < o.length) (h2 : pg < o.length) (h3 : lm < o.length) {R : Int → List AM.Obj → Prop} (hR : R n o1) :
    ∃ v oh, finish a' ⟨o, e, d⟩ (some (.ret, S, ⟨o1 ++ r1, e1, d1⟩)) = some (v, oh) ∧ ∃ n o' d', v = .val (.int .i64 n) ∧ LvJ jl dd pg lm o e d oh o' d' ∧ R n o' := by
  refine ⟨_, _, fin1 (i := i) hr, n, o1, ?_⟩
  obtain ⟨d2, q1, q2, q3, q4⟩ := leave_app2 (o := o) (o' := o1) (r := r1) (e := e) (d := d) (e' := e1) (d' := d1) (v := .int .i64 n) rfl D.len he (fun h => by
    rcases L.2 with L | L
    · exact L
    · omega)
  refine ⟨d2, by rw [hS], ⟨by rw [hS]; exact q1, D, q4, ?_⟩, hR⟩
  rcases q2 with q2 | q2
  · exact .inl q2
  · rcases L.2 with L | L
    · exact .inl L
    · exact .inr (by omega)
set_option maxHeartbeats 16000000 in
theorem turn_x (J : PJ o jl dd pg lm a s seq over on st) {sq0 : Int} {lv : Bool} {c sm : Int} (h0 : 0 ≤ sm) (h1 : sm < 2 ^ 32) (hs0 : 0 ≤ seq) (hs1 : seq < 2 ^ 60) :
    ∃ r oh, Den FF E2 80 [.ptr jl 0, .agg (headV sq0 lv c sm)] ⟨o, e, d⟩ = some (r, oh) ∧ ∃ n o' d', r = .val (.int .i64 n) ∧ LvJ jl dd pg lm o e d oh o' d' ∧ (n = (dMark on st a seq lv c sm).1 ∧ PJ o' jl dd pg lm a s (seq + 1) over on (dMark on st a seq lv c sm).2) := by
  refine To.denE hxE2 (f := 80) (a := af80) rfl (E2_none rfl) (Nat.le_of_ble_eq_true rfl) ?_
  have lJ := J.lj
  have lD := J.P.ld
  have lP := J.P.lp
  have lM := J.P.ll
  have J1 := J.set (seq + 1) over
  have dx1 := jx_jl (jl := jl) (dd := dd) (pg := pg) (lm := lm) (o := o) (.cells .ex 109 0 [.ptr dd 0, .int .i64 (a : Int), .int .i64 (s : Int), .int .i64 (seq + 1), .bool over])
  generalize hO : o.set jl (.cells .ex 109 0 [.ptr dd 0, .int .i64 (a : Int), .int .i64 (s : Int), .int .i64 (seq + 1), .bool over]) = o1 at J1 dx1
  have hl1 := dx1.len
  have wq : IntKind.i64.wrap (seq + 1) = seq + 1 := wrap_i64 (by omega) (by omega)
  have gj : ∀ r, (o ++ r)[jl]? = some (.cells .ex 109 0 [.ptr dd 0, .int .i64 (a : Int), .int .i64 (s : Int), .int .i64 seq, .bool over]) := fun r => app_old J.hj r
  have gj1 : ∀ r, (o1 ++ r)[jl]? = some (.cells .ex 109 0 [.ptr dd 0, .int .i64 (a : Int), .int .i64 (s : Int), .int .i64 (seq + 1), .bool over]) := fun r => app_old J1.hj r
  have hst : ∀ r, (o ++ r).set jl (.cells .ex 109 0 [.ptr dd 0, .int .i64 (a : Int), .int .i64 (s : Int), .int .i64 (seq + 1), .bool over]) = o1 ++ r := fun r => by rw [← hO]; exact List.set_append_left _ _ lJ
  have gb : ∀ x : AM.Obj, (o1 ++ [x])[o.length]? = some x := fun x => by rw [← hl1]; exact app_get0 _ _ _
  obtain ⟨r2, oh2, q2, rfl, o2, d2, L2, P2⟩ := mark_x (e := o.length) (d := min o.length jl) (a := a) (s := s) (sq := seq) (lv := lv) (c := c) (J1.P.app [.cells .ex 103 0 (headV seq lv c sm)]) h0 h1
  have hhv : headV seq lv c sm = [.int .i64 seq, .bool lv, .int .i64 c, .int .u32 sm] := rfl
  have hrv : regV dd a s = [.ptr dd 0, .int .i64 (a : Int), .int .i64 (s : Int)] := rfl
  rw [hhv, hrv] at q2
  obtain ⟨o3, rfl, D3⟩ := L2.dx.split (by omega) (by omega) (by omega)
  have hl3 := D3.len
  have P3 := PD.chop P2 (by omega) (by omega) (by omega)
  have LJ : LowJ jl dd pg lm o o1 o.length (min o.length jl) := ⟨Nat.min_le_left _ _, .inr (by omega)⟩
  have L3 := LJ.trans L2.low.chop.j
  have hg2 := L2.eq
  rw [hhv] at hg2
  generalize dMark on st a seq lv c sm = w at *
  obtain ⟨n, st2⟩ := w
  simp only at q2 P3
  (repeat' (first | refine To.seq hxE2 ?_ | refine To.op0 hxE2 (by simp only [go_sem, eqs hxE2, reduceIte, seval, Heap.gets, Heap.sets, Heap.get, bytesA_length, bytesA_one, bytesA_plains, List.take_of_length_le, List.drop_of_length_le, Nat.add_zero, V.one, Nat.reduceLeDiff, List.all_cons, List.all_nil, ne_eq, not_false_eq_true, Nat.zero_le, headV, gj, gj1, hst, gb, wq]; rfl) ?_ | refine To.op1 hxE2 (by simp only [go_sem, eqs hxE2, reduceIte, seval, Heap.gets, Heap.sets, Heap.get, bytesA_length, bytesA_one, bytesA_plains, List.take_of_length_le, List.drop_of_length_le, Nat.add_zero, V.one, Nat.reduceLeDiff, List.all_cons, List.all_nil, ne_eq, not_false_eq_true, Nat.zero_le, headV, gj, gj1, hst, gb, wq]; rfl) ?_ | refine To.nop hxE2 ?_ | refine To.draw0 hxE2 ?_ | refine ToD.op0 (by simp only [go_sem, eqs hxE2, reduceIte, seval, Heap.gets, Heap.sets, Heap.get, bytesA_length, bytesA_one, bytesA_plains, List.take_of_length_le, List.drop_of_length_le, Nat.add_zero, V.one, Nat.reduceLeDiff, List.all_cons, List.all_nil, ne_eq, not_false_eq_true, Nat.zero_le, headV, gj, gj1, hst, gb, wq]; rfl) (by simp only [put_some, put_none]; rfl) ?_ | fail))
  refine ToD.callD rfl rfl rfl (by simp only [go_sem, eqs hxE2, reduceIte, seval]; exact q2) hg2 rfl ?_
  (repeat' (first | refine To.ret hxE2 ?_ | refine ToD.op0 (by simp only [go_sem, eqs hxE2, reduceIte, seval]; rfl) (by simp only [put_some, put_none]; rfl) ?_ | refine ToD.nop ?_))
  skip
  exact fin_lvj (R := fun m o' => m = n ∧ PJ o' jl dd pg lm a s (seq + 1) over on st2) (i := 4) rfl (by simp only [go_sem, eqs hxE2, reduceIte, seval]) (dx1.trans D3.j) L3 (Nat.le_refl _) lJ lD lP lM ⟨rfl, J1.dx D3 P3⟩
end
end Go.Proofs.Ytfbkeieoeagkdaa

/- Journal: a Commit's steps. -/
namespace Go.Proofs.Ytfbkeieoeagkdaa
open Go AM
set_option linter.unusedSimpArgs false
set_option linter.unusedVariables false
set_option maxRecDepth 100000

def dMake (on : Bool) (st : DSt) (a : Nat) (seq : Int) (cs : List (Int × Pg)) : Int × Int × DSt :=
  if (dPut on st (fromL ((a : Int) + 1) (laidL cs))).1 ≠ 0 then ((dPut on st (fromL ((a : Int) + 1) (laidL cs))).1, seq, (dPut on st (fromL ((a : Int) + 1) (laidL cs))).2) else
  if (dMark on (dPut on st (fromL ((a : Int) + 1) (laidL cs))).2 a seq true cs.length (sumP (laidL cs))).1 ≠ 0 then ((dMark on (dPut on st (fromL ((a : Int) + 1) (laidL cs))).2 a seq true cs.length (sumP (laidL cs))).1, seq + 1, (dMark on (dPut on st (fromL ((a : Int) + 1) (laidL cs))).2 a seq true cs.length (sumP (laidL cs))).2) else
  if (dPut on (dMark on (dPut on st (fromL ((a : Int) + 1) (laidL cs))).2 a seq true cs.length (sumP (laidL cs))).2 cs).1 ≠ 0 then ((dPut on (dMark on (dPut on st (fromL ((a : Int) + 1) (laidL cs))).2 a seq true cs.length (sumP (laidL cs))).2 cs).1, seq + 1, (dPut on (dMark on (dPut on st (fromL ((a : Int) + 1) (laidL cs))).2 a seq true cs.length (sumP (laidL cs))).2 cs).2) else
  ((dMark on (dPut on (dMark on (dPut on st (fromL ((a : Int) + 1) (laidL cs))).2 a seq true cs.length (sumP (laidL cs))).2 cs).2 a (seq + 1) false 0 0).1, seq + 2, (dMark on (dPut on (dMark on (dPut on st (fromL ((a : Int) + 1) (laidL cs))).2 a seq true cs.length (sumP (laidL cs))).2 cs).2 a (seq + 1) false 0 0).2)
section
variable {o o1 o2 : List AM.Obj} {e d d1 d2 jl dd pg lm a s : Nat} {on over : Bool} {seq : Int} {st : DSt}
theorem ChRow.jx {v : V} {cs : List (Int × Pg)} (h : ChRow o v cs) (J : PJ o jl dd pg lm a s seq over on st) (D : Jx jl dd pg lm o o1) : ChRow o1 v cs := by
  refine ⟨h.len, fun hc => ?_, h.p64⟩
  obtain ⟨l, ck, t, h1, h2, h3⟩ := h.at_ hc
  refine ⟨l, ck, t, h1, ?_, h3⟩
  rw [D.get l ?_ ?_ ?_ ?_]
  · exact h2
  · rintro rfl
    have := J.hj
    rw [h2] at this
    simp only [Option.some.injEq, AM.Obj.cells.injEq] at this
    rcases h3 with rfl | rfl
    · cases this.1
    · exact absurd this.2.1 (by decide)
  · rintro rfl
    have := J.P.hd
    rw [h2] at this
    simp only [Option.some.injEq, AM.Obj.cells.injEq] at this
    rcases h3 with rfl | rfl
    · cases this.1
    · exact absurd this.2.1 (by decide)
  · rintro rfl
    have := J.P.hp
    rw [h2] at this
    simp only [Option.some.injEq, AM.Obj.cells.injEq] at this
    rcases h3 with rfl | rfl
    · cases this.1
    · exact absurd this.2.1 (by decide)
  · rintro rfl
    have := J.P.hm
    rw [h2] at this
    cases this
theorem GrowX.base {rr : List AM.Obj} {v : V} {t e' : Nat} {rows : List (List V)} (h : GrowX (o ++ rr) o.length v t e' rows) (hl : o1.length = o.length) : GrowX (o1 ++ rr) o.length v t e' rows := by
  rcases h with h | ⟨m, ck, h1, h2, h3, h4⟩
  · exact .inl h
  · refine .inr ⟨m, ck, h1, ?_, h3, h4⟩
    rw [List.getElem?_append_right h3] at h2
    rw [List.getElem?_append_right (by omega), hl]
    exact h2
set_option maxHeartbeats 32000000 in
theorem make_x (J : PJ o jl dd pg lm a s seq over on st) {v : V} {cs : List (Int × Pg)} (hc : ChRow o v cs) (hn : cs.length ≤ 500) (ha : a ≤ 100000) (hs0 : 0 ≤ seq) (hs1 : seq < 2 ^ 59) :
    ∃ r oh, Den FF E2 61 [.ptr jl 0, v] ⟨o, e, d⟩ = some (r, oh) ∧ ∃ n o' d', r = .val (.int .i64 n) ∧ LvJ jl dd pg lm o e d oh o' d' ∧ (n = (dMake on st a seq cs).1 ∧ PJ o' jl dd pg lm a s (dMake on st a seq cs).2.1 over on (dMake on st a seq cs).2.2) := by
  refine To.denE hxE2 (f := 61) (a := af61) rfl (E2_none rfl) (Nat.le_of_ble_eq_true rfl) ?_
  have lJ := J.lj
  have lD := J.P.ld
  have lP := J.P.lp
  have lM := J.P.ll
  have hl := hc.len
  have hL : (laidL cs).length ≤ 1000 := by rw [laidL_len]; unfold listsN; omega
  obtain ⟨r0, oh0, q0, pv, rr0, e0, d0, rfl, hpl, G0, hG0⟩ := laid_x (e := o.length) (d := o.length) hc hn
  have he0 : e0 = o.length := by have := G0.e; omega
  have hd0 : d0 = o.length := by have := G0.d; omega
  subst he0 hd0
  have hp0 := PgRow.grow hG0 (laidL_64 hc.p64)
  obtain ⟨r1, oh1, q1, v1, rr1, e1, d1, rfl, G1, hc1⟩ := from_x (e := o.length) (d := o.length) hp0 hL (a := (a : Int) + 1) (by omega) (by omega)
  have he1 : e1 = o.length := by have := G1.e; rw [List.length_append] at this; omega
  have hd1 : d1 = o.length := by have := G1.d; rw [List.length_append] at this; omega
  subst he1 hd1
  rw [List.append_assoc] at hc1
  have g1 := G1.eq
  rw [List.append_assoc] at g1
  obtain ⟨r2, oh2, q2, rfl, o2', d2, L2, P2⟩ := rput_x (e := o.length) (d := o.length) (a := (a : Int)) (s := (s : Int)) (J.P.app (rr0 ++ rr1)) hc1 (by rw [fromL_len]; omega)
  obtain ⟨o2, rfl, D2⟩ := L2.dx.split lD lP lM
  have hl2 := D2.len
  have P2' := PD.chop P2 (by omega) (by omega) (by omega)
  have M2 : LowJ jl dd pg lm o o2 o.length d2 := L2.low.chop.j
  have g2 := L2.eq
  have hrv : regV dd a s = [.ptr dd 0, .int .i64 (a : Int), .int .i64 (s : Int)] := rfl
  have gj : ∀ r, (o ++ r)[jl]? = some (.cells .ex 109 0 [.ptr dd 0, .int .i64 (a : Int), .int .i64 (s : Int), .int .i64 seq, .bool over]) := fun r => app_old J.hj r
  have wa : IntKind.i64.wrap ((a : Int) + 1) = (a : Int) + 1 := wrap_i64 (by omega) (by omega)
  have hG1 : GrowX (o ++ (rr0 ++ rr1)) o.length pv 31 64 ((laidL cs).map bytesA) := by rw [← List.append_assoc]; exact hG0.app
  have hp2 := PgRow.grow (hG1.base hl2) (laidL_64 hc.p64)
  have qs := fun e d => sumPages_q (e := e) (d := d) hp2 (by omega)
  have hsl := sumP_lt (laidL cs)
  generalize rr0 ++ rr1 = R at *
  obtain ⟨n1, st1, hw1⟩ : ∃ n1 st1, dPut on st (fromL ((a : Int) + 1) (laidL cs)) = (n1, st1) := ⟨_, _, rfl⟩
  obtain ⟨n2, st2, hw2⟩ : ∃ n2 st2, dMark on st1 a seq true cs.length (sumP (laidL cs)) = (n2, st2) := ⟨_, _, rfl⟩
  obtain ⟨n3, st3, hw3⟩ : ∃ n3 st3, dPut on st2 cs = (n3, st3) := ⟨_, _, rfl⟩
  obtain ⟨n4, st4, hw4⟩ : ∃ n4 st4, dMark on st3 a (seq + 1) false 0 0 = (n4, st4) := ⟨_, _, rfl⟩
  have hw1' : dPut on ⟨st.down, st.left, st.pgs, st.ca⟩ (fromL ((a : Int) + 1) (laidL cs)) = (n1, st1) := hw1
  rw [hw1'] at q2
  rw [hw1'] at P2'
  have J2 : PJ o2 jl dd pg lm a s seq over on st1 := J.dx D2 P2'
  simp only at q2
  (repeat' (first | refine To.seq hxE2 ?_ | refine To.op0 hxE2 (by simp only [go_sem, eqs hxE2, reduceIte, seval]; rfl) ?_ | refine To.nop hxE2 ?_))
  refine To.op hxE2 (by simp only [go_sem, eqs hxE2, reduceIte, seval, q0]; rfl) ?_
  rw [show oh0.getD (AM.enter ⟨o, e, d⟩) = ⟨o ++ rr0, o.length, o.length⟩ from G0.eq]
  (repeat' (first | refine To.seq hxE2 ?_ | refine To.op0 hxE2 (by simp only [go_sem, eqs hxE2, reduceIte, seval, Heap.gets, Heap.sets, Heap.get, bytesA_length, bytesA_one, bytesA_plains, List.take_of_length_le, List.drop_of_length_le, Nat.add_zero, V.one, Nat.reduceLeDiff, List.all_cons, List.all_nil, ne_eq, not_false_eq_true, Nat.zero_le, gj, wa]; rfl) ?_ | refine To.nop hxE2 ?_ | refine To.draw0 hxE2 ?_ | refine ToD.op0 (by simp only [go_sem, eqs hxE2, reduceIte, seval, Heap.gets, Heap.sets, Heap.get, bytesA_length, bytesA_one, bytesA_plains, List.take_of_length_le, List.drop_of_length_le, Nat.add_zero, V.one, Nat.reduceLeDiff, List.all_cons, List.all_nil, ne_eq, not_false_eq_true, Nat.zero_le, gj, wa]; rfl) (by simp only [put_some, put_none]; rfl) ?_ | fail))
  refine ToD.callD rfl rfl rfl (by simp only [go_sem, eqs hxE2, reduceIte, seval]; exact q1) g1 ?_ ?_
  · simp only [go_sem, eqs hxE2, reduceIte, seval, Heap.gets, Heap.sets, Heap.get, bytesA_length, bytesA_one, bytesA_plains, List.take_of_length_le, List.drop_of_length_le, Nat.add_zero, V.one, Nat.reduceLeDiff, List.all_cons, List.all_nil, ne_eq, not_false_eq_true, Nat.zero_le, lookA, List.all_cons, List.all_nil, gj]
  refine ToD.callD rfl rfl rfl (by simp only [go_sem, eqs hxE2, reduceIte, seval]; exact q2) g2 rfl ?_
  (repeat' (first | refine To.seq hxE2 ?_ | refine To.op0 hxE2 (by simp only [go_sem, eqs hxE2, reduceIte, seval]; rfl) ?_ | refine To.nop hxE2 ?_ | refine ToD.op0 (by simp only [go_sem, eqs hxE2, reduceIte, seval]; rfl) (by simp only [put_some, put_none]; rfl) ?_ | refine ToD.nop ?_))
  by_cases hz1 : n1 = 0
  case neg =>
    have hb : (n1 != 0) = true := by simpa using hz1
    have hr : dMake on st a seq cs = (n1, seq, st1) := by
      unfold dMake
      rw [hw1, if_pos (by simpa using hz1)]
    (repeat' (first | refine To.seq hxE2 ?_ | refine To.op0 hxE2 (by simp only [go_sem, eqs hxE2, reduceIte, seval, hb]; rfl) ?_ | refine To.nop hxE2 ?_ | (refine To.condT hxE2 ?_ ?_; focus (simp only [go_sem, eqs hxE2, reduceIte, seval, hb]; done)) | refine To.ret hxE2 ?_))
    exact fin_lvj (n := n1) (R := fun m o' => m = (dMake on st a seq cs).1 ∧ PJ o' jl dd pg lm a s (dMake on st a seq cs).2.1 over on (dMake on st a seq cs).2.2) (i := 4) rfl (by simp only [go_sem, eqs hxE2, reduceIte, seval]) D2.j M2 (Nat.le_refl _) lJ lD lP lM (by rw [hr]; exact ⟨rfl, J2⟩)
  subst hz1
  obtain ⟨r3, oh3, q3, n2', o3', d3, rfl, L3, rfl, J3'⟩ := turn_x (e := o.length) (d := d2) (sq0 := 0) (lv := true) (c := (cs.length : Int)) (sm := (sumP (laidL cs) : Int)) (J2.app R) (by omega) (by omega) hs0 (by omega)
  rw [hw2] at q3 J3'
  simp only at q3 J3'
  obtain ⟨o3, rfl, D3⟩ := L3.dx.split (by omega) (by omega) (by omega) (by omega)
  have hl3 := D3.len
  have J3 := J3'.chop (by omega) (by omega) (by omega) (by omega)
  have M3 := M2.trans L3.low.chop
  have g3 := L3.eq
  have hhv : headV 0 true (cs.length : Int) (sumP (laidL cs) : Int) = [.int .i64 0, .bool true, .int .i64 (cs.length : Int), .int .u32 (sumP (laidL cs) : Int)] := rfl
  rw [hhv] at q3
  (repeat' (first | refine To.seq hxE2 ?_ | refine To.op0 hxE2 (by simp only [go_sem, eqs hxE2, reduceIte, seval, hl, qs, bne_self_eq_false]; rfl) ?_ | (refine To.condF hxE2 ?_ ?_; focus (simp only [go_sem, eqs hxE2, reduceIte, seval, hl, qs, bne_self_eq_false]; done)) | refine To.skip hxE2 ?_))
  refine To.op hxE2 (by simp only [go_sem, eqs hxE2, reduceIte, seval, q3]; rfl) ?_
  rw [g3]
  (repeat' (first | refine To.seq hxE2 ?_ | refine To.op0 hxE2 (by simp only [go_sem, eqs hxE2, reduceIte, seval]; rfl) ?_ | refine To.nop hxE2 ?_))
  by_cases hz2 : n2 = 0
  case neg =>
    have hb : (n2 != 0) = true := by simpa using hz2
    have hr : dMake on st a seq cs = (n2, seq + 1, st2) := by
      unfold dMake
      rw [hw1, if_neg (by simp), hw2, if_pos (by simpa using hz2)]
    (repeat' (first | refine To.seq hxE2 ?_ | refine To.op0 hxE2 (by simp only [go_sem, eqs hxE2, reduceIte, seval, hb]; rfl) ?_ | refine To.nop hxE2 ?_ | (refine To.condT hxE2 ?_ ?_; focus (simp only [go_sem, eqs hxE2, reduceIte, seval, hb]; done)) | refine To.ret hxE2 ?_))
    exact fin_lvj (n := n2) (R := fun m o' => m = (dMake on st a seq cs).1 ∧ PJ o' jl dd pg lm a s (dMake on st a seq cs).2.1 over on (dMake on st a seq cs).2.2) (i := 4) rfl (by simp only [go_sem, eqs hxE2, reduceIte, seval]) (D2.j.trans D3) M3 (Nat.le_refl _) lJ lD lP lM (by rw [hr]; exact ⟨rfl, J3⟩)
  subst hz2
  have hc3 := ((hc.jx J D2.j).jx J2 D3).app R
  obtain ⟨r4, oh4, q4, rfl, o4', d4, L4, P4⟩ := rput_x (e := o.length) (d := d3) (a := (a : Int)) (s := (s : Int)) (J3.P.app R) hc3 (by omega)
  have hw3' : dPut on ⟨st2.down, st2.left, st2.pgs, st2.ca⟩ cs = (n3, st3) := hw3
  rw [hw3'] at q4 P4
  simp only at q4 P4
  obtain ⟨o4, rfl, D4⟩ := L4.dx.split (by omega) (by omega) (by omega)
  have hl4 := D4.len
  have J4 := J3.dx D4 (PD.chop P4 (by omega) (by omega) (by omega))
  have M4 := M3.trans L4.low.chop.j
  have g4 := L4.eq
  have gj3 : ∀ r, (o3 ++ r)[jl]? = some (.cells .ex 109 0 [.ptr dd 0, .int .i64 (a : Int), .int .i64 (s : Int), .int .i64 (seq + 1), .bool over]) := fun r => app_old J3.hj r
  rw [hrv] at q4
  (repeat' (first | refine To.seq hxE2 ?_ | refine To.op0 hxE2 (by simp only [go_sem, eqs hxE2, reduceIte, seval, Heap.gets, Heap.sets, Heap.get, bytesA_length, bytesA_one, bytesA_plains, List.take_of_length_le, List.drop_of_length_le, Nat.add_zero, V.one, Nat.reduceLeDiff, List.all_cons, List.all_nil, ne_eq, not_false_eq_true, Nat.zero_le, gj3, bne_self_eq_false]; rfl) ?_ | (refine To.condF hxE2 ?_ ?_; focus (simp only [go_sem, eqs hxE2, reduceIte, seval, Heap.gets, Heap.sets, Heap.get, bytesA_length, bytesA_one, bytesA_plains, List.take_of_length_le, List.drop_of_length_le, Nat.add_zero, V.one, Nat.reduceLeDiff, List.all_cons, List.all_nil, ne_eq, not_false_eq_true, Nat.zero_le, gj3, bne_self_eq_false]; done)) | refine To.skip hxE2 ?_))
  refine To.op hxE2 (by simp only [go_sem, eqs hxE2, reduceIte, seval, q4]; rfl) ?_
  rw [g4]
  (repeat' (first | refine To.seq hxE2 ?_ | refine To.op0 hxE2 (by simp only [go_sem, eqs hxE2, reduceIte, seval]; rfl) ?_ | refine To.nop hxE2 ?_))
  by_cases hz3 : n3 = 0
  case neg =>
    have hb : (n3 != 0) = true := by simpa using hz3
    have hr : dMake on st a seq cs = (n3, seq + 1, st3) := by
      unfold dMake
      rw [hw1, if_neg (by simp), hw2, if_neg (by simp), hw3, if_pos (by simpa using hz3)]
    (repeat' (first | refine To.seq hxE2 ?_ | refine To.op0 hxE2 (by simp only [go_sem, eqs hxE2, reduceIte, seval, hb]; rfl) ?_ | refine To.nop hxE2 ?_ | (refine To.condT hxE2 ?_ ?_; focus (simp only [go_sem, eqs hxE2, reduceIte, seval, hb]; done)) | refine To.ret hxE2 ?_))
    exact fin_lvj (n := n3) (R := fun m o' => m = (dMake on st a seq cs).1 ∧ PJ o' jl dd pg lm a s (dMake on st a seq cs).2.1 over on (dMake on st a seq cs).2.2) (i := 4) rfl (by simp only [go_sem, eqs hxE2, reduceIte, seval]) ((D2.j.trans D3).trans D4.j) M4 (Nat.le_refl _) lJ lD lP lM (by rw [hr]; exact ⟨rfl, J4⟩)
  subst hz3
  obtain ⟨r5, oh5, q5, n4', o5', d5, rfl, L5, rfl, J5'⟩ := turn_x (e := o.length) (d := d4) (sq0 := 0) (lv := false) (c := 0) (sm := 0) (J4.app R) (by omega) (by omega) (by omega) (by omega)
  rw [hw4] at q5 J5'
  simp only at q5 J5'
  obtain ⟨o5, rfl, D5⟩ := L5.dx.split (by omega) (by omega) (by omega) (by omega)
  have hl5 := D5.len
  have J5 := J5'.chop (by omega) (by omega) (by omega) (by omega)
  have M5 := M4.trans L5.low.chop
  have g5 := L5.eq
  have hhv2 : headV 0 false 0 0 = [.int .i64 0, .bool false, .int .i64 0, .int .u32 0] := rfl
  rw [hhv2] at q5
  have hr : dMake on st a seq cs = (n4, seq + 2, st4) := by
    unfold dMake
    rw [hw1, if_neg (by simp), hw2, if_neg (by simp), hw3, if_neg (by simp), hw4]
  have e2 : seq + 1 + 1 = seq + 2 := by omega
  rw [e2] at J5
  (repeat' (first | refine To.seq hxE2 ?_ | refine To.op0 hxE2 (by simp only [go_sem, eqs hxE2, reduceIte, seval, bne_self_eq_false]; rfl) ?_ | (refine To.condF hxE2 ?_ ?_; focus (simp only [go_sem, eqs hxE2, reduceIte, seval, bne_self_eq_false]; done)) | refine To.skip hxE2 ?_))
  refine To.op hxE2 (by simp only [go_sem, eqs hxE2, reduceIte, seval, q5]; rfl) ?_
  rw [g5]
  (repeat' (first | refine To.op0 hxE2 (by simp only [go_sem, eqs hxE2, reduceIte, seval]; rfl) ?_ | refine To.nop hxE2 ?_ | refine To.ret hxE2 ?_))
  exact fin_lvj (n := n4) (R := fun m o' => m = (dMake on st a seq cs).1 ∧ PJ o' jl dd pg lm a s (dMake on st a seq cs).2.1 over on (dMake on st a seq cs).2.2) (i := 4) rfl (by simp only [go_sem, eqs hxE2, reduceIte, seval]) (((D2.j.trans D3).trans D4.j).trans D5) M5 (Nat.le_refl _) lJ lD lP lM (by rw [hr]; exact ⟨rfl, J5⟩)
end
end Go.Proofs.Ytfbkeieoeagkdaa

/- Journal: Commit. -/
namespace Go.Proofs.Ytfbkeieoeagkdaa
open Go AM
set_option linter.unusedSimpArgs false
set_option linter.unusedVariables false
set_option maxRecDepth 100000

def seenE (l : List Int) : List (V × V) := l.map fun k => (.int .i64 k, .bool true)
theorem seen_lone {k : Int} {l : List Int} (h : k ∉ l) : loneK .i (.int .i64 k) (seenE l) = true := by
  refine List.all_eq_true.2 fun e he => ?_
  obtain ⟨j, hj, rfl⟩ := List.mem_map.1 he
  have : (k == j) = false := by simpa using fun hk : k = j => h (hk ▸ hj)
  simp only [eqK_int, this]
theorem seen_find (k : Int) : ∀ {l : List Int}, l.Nodup → mapFind .i (.int .i64 k) (seenE l) = some (if k ∈ l then some (.bool true) else none)
  | [], _ => rfl
  | j :: r, h => by
    obtain ⟨h1, h2⟩ := List.nodup_cons.1 h
    have ih := seen_find k h2
    have e1 : seenE (j :: r) = (.int .i64 j, .bool true) :: seenE r := rfl
    rw [e1]
    unfold mapFind
    by_cases hk : k = j
    · subst hk
      have : (k == k) = true := beq_self_eq_true _
      simp only [eqK_int, this, seen_lone h1, if_true]
      rw [if_pos List.mem_cons_self]
    · have : (k == j) = false := by simpa using hk
      simp only [eqK_int, this]
      rw [ih]
      have : k ∈ j :: r ↔ k ∈ r := by simp [hk]
      simp only [this]
theorem seen_put (k : Int) : ∀ {l : List Int}, k ∉ l → mapPut .i (.int .i64 k) (.bool true) (seenE l) = some (seenE (l ++ [k]))
  | [], _ => rfl
  | j :: r, h => by
    have hk : k ≠ j := fun hk => h (hk ▸ List.mem_cons_self)
    have ih := seen_put k (l := r) fun hr => h (List.mem_cons_of_mem _ hr)
    have e1 : seenE (j :: r) = (.int .i64 j, .bool true) :: seenE r := rfl
    rw [e1]
    unfold mapPut
    have : (k == j) = false := by simpa using hk
    simp only [eqK_int, this, ih]
    rfl
def goodC (np a s : Nat) (cs : List (Int × Pg)) : Bool := cs.all (fun c => mayB np a s c.1) && decide (cs.map (·.1)).Nodup
def wrongE (np a s : Nat) (cs : List (Int × Pg)) : Int := if goodC np a s cs = true then (if roomJ s < cs.length then 28 else 0) else 22
section
variable {o o1 o2 : List AM.Obj} {e d d1 d2 jl dd pg lm a s : Nat} {on over : Bool} {seq : Int} {st : DSt}
set_option maxHeartbeats 1000000 in
theorem jover_q (J : PJ o jl dd pg lm a s seq over on st) : Den FF E2 59 [.ptr jl 0] ⟨o, e, d⟩ = some (.val (.bool over), none) := by
  refine To.den hxE2 (f := 59) (a := af59) rfl (E2_none rfl) (Nat.le_of_ble_eq_true rfl) ?_
  (repeat' (first | refine To.seq hxE2 ?_ | refine To.op0 hxE2 (by simp only [go_sem, eqs hxE2, reduceIte, seval, Heap.gets, Heap.sets, Heap.get, bytesA_length, bytesA_one, bytesA_plains, List.take_of_length_le, List.drop_of_length_le, Nat.add_zero, V.one, Nat.reduceLeDiff, List.all_cons, List.all_nil, ne_eq, not_false_eq_true, Nat.zero_le, J.hj]; rfl) ?_ | refine To.nop hxE2 ?_ | refine To.ret hxE2 ?_))
  try simp only [andThen, outOf]
  exact fin_k1 (i := 2) (v := .bool over) rfl (by simp only [go_sem, eqs hxE2, reduceIte, seval]) rfl (Kp.enter' _)
set_option maxHeartbeats 1000000 in
theorem jroom_q (J : PJ o jl dd pg lm a s seq over on st) : Den FF E2 54 [.ptr jl 0] ⟨o, e, d⟩ = some (.val (.int .i64 (roomJ s : Int)), none) := by
  refine To.den hxE2 (f := 54) (a := af54) rfl (E2_none rfl) (Nat.le_of_ble_eq_true rfl) ?_
  have q := fun e d => room_q (o := o) (e := e) (d := d) (size := (s : Int))
  (repeat' (first | refine To.seq hxE2 ?_ | refine To.op0 hxE2 (by simp only [go_sem, eqs hxE2, reduceIte, seval, Heap.gets, Heap.sets, Heap.get, bytesA_length, bytesA_one, bytesA_plains, List.take_of_length_le, List.drop_of_length_le, Nat.add_zero, V.one, Nat.reduceLeDiff, List.all_cons, List.all_nil, ne_eq, not_false_eq_true, Nat.zero_le, J.hj, q]; rfl) ?_ | refine To.nop hxE2 ?_ | (refine To.condF hxE2 ?_ ?_; focus (simp only [go_sem, eqs hxE2, reduceIte, seval, Heap.gets, Heap.sets, Heap.get, bytesA_length, bytesA_one, bytesA_plains, List.take_of_length_le, List.drop_of_length_le, Nat.add_zero, V.one, Nat.reduceLeDiff, List.all_cons, List.all_nil, ne_eq, not_false_eq_true, Nat.zero_le, J.hj, q]; done)) | refine To.ret hxE2 ?_ | refine To.skip hxE2 ?_))
  try simp only [andThen, outOf]
  exact fin_k1 (i := 2) (v := .int .i64 (roomJ s : Int)) rfl (by simp only [go_sem, eqs hxE2, reduceIte, seval]) rfl (Kp.enter' _)
set_option maxHeartbeats 16000000 in
theorem wrong_q (J : PJ o jl dd pg lm a s seq over on st) {v : V} {cs : List (Int × Pg)} (hc : ChRow o v cs) (hn : cs.length ≤ 500) (ha : a ≤ 1000000) (hs : s ≤ 1000000) : Den FF E2 60 [.ptr jl 0, v] ⟨o, e, d⟩ = some (.val (.int .i64 (wrongE st.pgs.length a s cs)), none) := by
  refine To.den hxE2 (f := 60) (a := af60) rfl (E2_none rfl) (Nat.le_of_ble_eq_true rfl) ?_
  have hl := hc.len
  have gj : ∀ r, (o ++ r)[jl]? = some (.cells .ex 109 0 [.ptr dd 0, .int .i64 (a : Int), .int .i64 (s : Int), .int .i64 seq, .bool over]) := fun r => app_old J.hj r
  (repeat' (first | refine To.seq hxE2 ?_ | refine To.op0 hxE2 (by simp only [go_sem, eqs hxE2, reduceIte, seval, Heap.gets, Heap.sets, Heap.get, bytesA_length, bytesA_one, bytesA_plains, List.take_of_length_le, List.drop_of_length_le, Nat.add_zero, V.one, Nat.reduceLeDiff, List.all_cons, List.all_nil, ne_eq, not_false_eq_true, Nat.zero_le, hl]; rfl) ?_ | refine To.op1 hxE2 (by simp only [go_sem, eqs hxE2, reduceIte, seval, Heap.gets, Heap.sets, Heap.get, bytesA_length, bytesA_one, bytesA_plains, List.take_of_length_le, List.drop_of_length_le, Nat.add_zero, V.one, Nat.reduceLeDiff, List.all_cons, List.all_nil, ne_eq, not_false_eq_true, Nat.zero_le, hl]; rfl) ?_ | refine To.nop hxE2 ?_ | refine To.block hxE2 ?_))
  refine To.loop hxE2 (fun m S h' => ∃ (i e1 d1 : Nat) (r : List AM.Obj), i + m = cs.length ∧ h' = ⟨o ++ (.map (seenE ((cs.take i).map (·.1))) :: r), e1, d1⟩ ∧ o.length ≤ e1 ∧ o.length ≤ d1 ∧ (cs.take i).all (fun c => mayB st.pgs.length a s c.1) = true ∧ ((cs.take i).map (·.1)).Nodup ∧ S 0 = .ptr jl 0 ∧ S 1 = v ∧ S 5 = .map o.length ∧ S 9 = v ∧ S 10 = .int .i64 (cs.length : Int) ∧ S 11 = .int .i64 (i : Int)) ?_ cs.length _ _ ?_
  · rintro m S _ ⟨i, e1, d1, r, hm, rfl, he, hd, hall, hnd, s0, s1, s5, s9, s10, s11⟩
    by_cases hi : i < cs.length
    · have hlt : decide ((i : Int) < (cs.length : Int)) = true := decide_eq_true (by omega)
      have ix : idxOf cs.length (.int .i64 (i : Int)) = some i := idxOf_nat hi
      have wi : IntKind.i64.wrap ((i : Int) + 1) = ((i + 1 : Nat) : Int) := by rw [wrap_i64 (by omega) (by omega)]; omega
      obtain ⟨c, hx⟩ : ∃ c, cs[i]? = some c := ⟨cs[i], List.getElem?_eq_getElem hi⟩
      obtain ⟨l, ck, t, rfl, hlb, hkd⟩ := hc.at_ (by rintro rfl; simp at hi)
      have h65 : ∀ r ∈ cs.map chC, r.length = 65 := by
        intro r hr
        obtain ⟨y, hy, rfl⟩ := List.mem_map.1 hr
        exact chC_len (hc.p64 y hy)
      obtain ⟨a1, a2⟩ := flat_drop h65 (by rw [List.getElem?_map, hx]; rfl : (cs.map chC)[i]? = some (chC c))
      have hcl := chC_len (hc.p64 c (List.mem_of_getElem? hx))
      have hco := chC_one c
      have hcp := chC_plains c
      have hc0 : (chC c)[0]? = some (.int .i64 c.1) := rfl
      have gl : ∀ r, (o ++ r)[l]? = some (.cells ck t 0 (cs.map chC).flatten) := fun r => app_old hlb r
      have qm := fun r e d => may_q (e := e) (d := d) (J.P.app r) ha hs c.1
      have hrv : regV dd a s = [.ptr dd 0, .int .i64 (a : Int), .int .i64 (s : Int)] := rfl
      rw [hrv] at qm
      have gm : ∀ (x : AM.Obj) r', (o ++ (x :: r'))[o.length]? = some x := fun x r' => app_get0 _ _ _
      have gb : ∀ x y : AM.Obj, (o ++ (x :: (r ++ [y])))[o.length + (r.length + 1)]? = some y := fun x y => by
        rw [app_getk, List.getElem?_cons_succ]; simp
      have hkey : V.key .i (.int .i64 c.1) = true := rfl
      have hsf := seen_find c.1 hnd
      have htk1 : cs.take (i + 1) = cs.take i ++ [c] := by rw [List.take_add_one, hx]; rfl
      cases hmay : mayB st.pgs.length a s c.1
      · rw [hmay] at qm
        have hw : wrongE st.pgs.length a s cs = 22 := by
          unfold wrongE goodC
          rw [if_neg]
          intro h
          rw [Bool.and_eq_true] at h
          have := List.all_eq_true.1 h.1 c (List.mem_of_getElem? hx)
          rw [hmay] at this; cases this
        rw [hw]
        (repeat' (first | refine To.seq hxE2 ?_ | refine To.op0 hxE2 (by simp only [go_sem, eqs hxE2, reduceIte, seval, Heap.gets, Heap.sets, Heap.get, bytesA_length, bytesA_one, bytesA_plains, List.take_of_length_le, List.drop_of_length_le, Nat.add_zero, V.one, Nat.reduceLeDiff, List.all_cons, List.all_nil, ne_eq, not_false_eq_true, Nat.zero_le, s0, s5, s9, s10, s11, hlt, ix, gl, a1, a2, hcl, hco, hcp, hc0, gj, gb, gm, qm, z65_len, z65_drop, z65_one, z65_plains, List.append_nil]; rfl) ?_ | refine To.op1 hxE2 (by simp only [go_sem, eqs hxE2, reduceIte, seval, Heap.gets, Heap.sets, Heap.get, bytesA_length, bytesA_one, bytesA_plains, List.take_of_length_le, List.drop_of_length_le, Nat.add_zero, V.one, Nat.reduceLeDiff, List.all_cons, List.all_nil, ne_eq, not_false_eq_true, Nat.zero_le, s0, s5, s9, s10, s11, hlt, ix, gl, a1, a2, hcl, hco, hcp, hc0, gj, gb, gm, qm, z65_len, z65_drop, z65_one, z65_plains, List.append_nil]; rfl) ?_ | refine To.nop hxE2 ?_ | (refine To.condT hxE2 ?_ ?_; focus (simp only [go_sem, eqs hxE2, reduceIte, seval, Heap.gets, Heap.sets, Heap.get, bytesA_length, bytesA_one, bytesA_plains, List.take_of_length_le, List.drop_of_length_le, Nat.add_zero, V.one, Nat.reduceLeDiff, List.all_cons, List.all_nil, ne_eq, not_false_eq_true, Nat.zero_le, s0, s5, s9, s10, s11, hlt, ix, gl, a1, a2, hcl, hco, hcp, hc0, gj, gb, gm, qm, z65_len, z65_drop, z65_one, z65_plains, List.append_nil]; done)) | refine To.block hxE2 ?_ | refine To.ret hxE2 ?_ | refine To.skip hxE2 ?_ | refine To.draw0 hxE2 ?_ | refine ToD.op0 (by simp only [go_sem, eqs hxE2, reduceIte, seval, Heap.gets, Heap.sets, Heap.get, bytesA_length, bytesA_one, bytesA_plains, List.take_of_length_le, List.drop_of_length_le, Nat.add_zero, V.one, Nat.reduceLeDiff, List.all_cons, List.all_nil, ne_eq, not_false_eq_true, Nat.zero_le, s0, s5, s9, s10, s11, hlt, ix, gl, a1, a2, hcl, hco, hcp, hc0, gj, gb, gm, qm, z65_len, z65_drop, z65_one, z65_plains, List.append_nil]; rfl) (by simp only [put_some, put_none]; rfl) ?_ | refine ToD.nop ?_))
        try simp only [andThen, outOf]
        refine fin_k1 (i := 4) (v := .int .i64 22) rfl (by simp only [go_sem, eqs hxE2, reduceIte, seval]) rfl (kp_app he ?_)
        omega
      rw [hmay] at qm
      by_cases hin : c.1 ∈ (cs.take i).map (·.1)
      · rw [if_pos hin] at hsf
        have hw : wrongE st.pgs.length a s cs = 22 := by
          unfold wrongE goodC
          rw [if_neg]
          intro h
          rw [Bool.and_eq_true, decide_eq_true_eq] at h
          have h2 := h.2
          have : (cs.map (·.1)) = (cs.take (i + 1)).map (·.1) ++ (cs.drop (i + 1)).map (·.1) := by rw [← List.map_append, List.take_append_drop]
          rw [this, htk1, List.map_append] at h2
          have h3 := (List.nodup_append.1 (List.nodup_append.1 h2).1).2.2
          exact h3 _ hin c.1 (by simp) rfl
        rw [hw]
        (repeat' (first | refine To.seq hxE2 ?_ | refine To.op0 hxE2 (by simp only [go_sem, eqs hxE2, reduceIte, seval, Heap.gets, Heap.sets, Heap.get, bytesA_length, bytesA_one, bytesA_plains, List.take_of_length_le, List.drop_of_length_le, Nat.add_zero, V.one, Nat.reduceLeDiff, List.all_cons, List.all_nil, ne_eq, not_false_eq_true, Nat.zero_le, s0, s5, s9, s10, s11, hlt, ix, gl, a1, a2, hcl, hco, hcp, hc0, gj, gb, gm, qm, hkey, hsf, z65_len, z65_drop, z65_one, z65_plains, List.append_nil]; rfl) ?_ | refine To.op1 hxE2 (by simp only [go_sem, eqs hxE2, reduceIte, seval, Heap.gets, Heap.sets, Heap.get, bytesA_length, bytesA_one, bytesA_plains, List.take_of_length_le, List.drop_of_length_le, Nat.add_zero, V.one, Nat.reduceLeDiff, List.all_cons, List.all_nil, ne_eq, not_false_eq_true, Nat.zero_le, s0, s5, s9, s10, s11, hlt, ix, gl, a1, a2, hcl, hco, hcp, hc0, gj, gb, gm, qm, hkey, hsf, z65_len, z65_drop, z65_one, z65_plains, List.append_nil]; rfl) ?_ | refine To.nop hxE2 ?_ | (refine To.condT hxE2 ?_ ?_; focus (simp only [go_sem, eqs hxE2, reduceIte, seval, Heap.gets, Heap.sets, Heap.get, bytesA_length, bytesA_one, bytesA_plains, List.take_of_length_le, List.drop_of_length_le, Nat.add_zero, V.one, Nat.reduceLeDiff, List.all_cons, List.all_nil, ne_eq, not_false_eq_true, Nat.zero_le, s0, s5, s9, s10, s11, hlt, ix, gl, a1, a2, hcl, hco, hcp, hc0, gj, gb, gm, qm, hkey, hsf, z65_len, z65_drop, z65_one, z65_plains, List.append_nil]; done)) | refine To.block hxE2 ?_ | refine To.ret hxE2 ?_ | refine To.skip hxE2 ?_ | refine To.draw0 hxE2 ?_ | refine ToD.op0 (by simp only [go_sem, eqs hxE2, reduceIte, seval, Heap.gets, Heap.sets, Heap.get, bytesA_length, bytesA_one, bytesA_plains, List.take_of_length_le, List.drop_of_length_le, Nat.add_zero, V.one, Nat.reduceLeDiff, List.all_cons, List.all_nil, ne_eq, not_false_eq_true, Nat.zero_le, s0, s5, s9, s10, s11, hlt, ix, gl, a1, a2, hcl, hco, hcp, hc0, gj, gb, gm, qm, hkey, hsf, z65_len, z65_drop, z65_one, z65_plains, List.append_nil]; rfl) (by simp only [put_some, put_none]; rfl) ?_ | refine ToD.nop ?_))
        try simp only [andThen, outOf]
        refine fin_k1 (i := 4) (v := .int .i64 22) rfl (by simp only [go_sem, eqs hxE2, reduceIte, seval]) rfl (kp_app he ?_)
        omega
      · rw [if_neg hin] at hsf
        have hsp := seen_put c.1 hin
        have hset : ∀ (x y : AM.Obj) r', (o ++ (x :: r')).set o.length y = o ++ (y :: r') := fun x y r' => app_set0 _ _ _ _
        (repeat' (first | refine To.seq hxE2 ?_ | refine To.op0 hxE2 (by simp only [go_sem, eqs hxE2, reduceIte, seval, Heap.gets, Heap.sets, Heap.get, bytesA_length, bytesA_one, bytesA_plains, List.take_of_length_le, List.drop_of_length_le, Nat.add_zero, V.one, Nat.reduceLeDiff, List.all_cons, List.all_nil, ne_eq, not_false_eq_true, Nat.zero_le, s0, s5, s9, s10, s11, hlt, ix, wi, gl, a1, a2, hcl, hco, hcp, hc0, gj, gb, gm, qm, hkey, hsf, hsp, hset, Heap.setMap, Option.getD_none, z65_len, z65_drop, z65_one, z65_plains, List.append_nil]; rfl) ?_ | refine To.op1 hxE2 (by simp only [go_sem, eqs hxE2, reduceIte, seval, Heap.gets, Heap.sets, Heap.get, bytesA_length, bytesA_one, bytesA_plains, List.take_of_length_le, List.drop_of_length_le, Nat.add_zero, V.one, Nat.reduceLeDiff, List.all_cons, List.all_nil, ne_eq, not_false_eq_true, Nat.zero_le, s0, s5, s9, s10, s11, hlt, ix, wi, gl, a1, a2, hcl, hco, hcp, hc0, gj, gb, gm, qm, hkey, hsf, hsp, hset, Heap.setMap, Option.getD_none, z65_len, z65_drop, z65_one, z65_plains, List.append_nil]; rfl) ?_ | refine To.nop hxE2 ?_ | (refine To.condT hxE2 ?_ ?_; focus (simp only [go_sem, eqs hxE2, reduceIte, seval, Heap.gets, Heap.sets, Heap.get, bytesA_length, bytesA_one, bytesA_plains, List.take_of_length_le, List.drop_of_length_le, Nat.add_zero, V.one, Nat.reduceLeDiff, List.all_cons, List.all_nil, ne_eq, not_false_eq_true, Nat.zero_le, s0, s5, s9, s10, s11, hlt, ix, wi, gl, a1, a2, hcl, hco, hcp, hc0, gj, gb, gm, qm, hkey, hsf, hsp, hset, Heap.setMap, Option.getD_none, z65_len, z65_drop, z65_one, z65_plains, List.append_nil]; done)) | (refine To.condF hxE2 ?_ ?_; focus (simp only [go_sem, eqs hxE2, reduceIte, seval, Heap.gets, Heap.sets, Heap.get, bytesA_length, bytesA_one, bytesA_plains, List.take_of_length_le, List.drop_of_length_le, Nat.add_zero, V.one, Nat.reduceLeDiff, List.all_cons, List.all_nil, ne_eq, not_false_eq_true, Nat.zero_le, s0, s5, s9, s10, s11, hlt, ix, wi, gl, a1, a2, hcl, hco, hcp, hc0, gj, gb, gm, qm, hkey, hsf, hsp, hset, Heap.setMap, Option.getD_none, z65_len, z65_drop, z65_one, z65_plains, List.append_nil]; done)) | refine To.block hxE2 ?_ | refine To.skip hxE2 ?_ | refine To.draw0 hxE2 ?_ | refine ToD.op0 (by simp only [go_sem, eqs hxE2, reduceIte, seval, Heap.gets, Heap.sets, Heap.get, bytesA_length, bytesA_one, bytesA_plains, List.take_of_length_le, List.drop_of_length_le, Nat.add_zero, V.one, Nat.reduceLeDiff, List.all_cons, List.all_nil, ne_eq, not_false_eq_true, Nat.zero_le, s0, s5, s9, s10, s11, hlt, ix, wi, gl, a1, a2, hcl, hco, hcp, hc0, gj, gb, gm, qm, hkey, hsf, hsp, hset, Heap.setMap, Option.getD_none, z65_len, z65_drop, z65_one, z65_plains, List.append_nil]; rfl) (by simp only [put_some, put_none]; rfl) ?_ | refine ToD.nop ?_))
        try simp only [andThen, outOf]
        skip
        try simp only [andThen, outOf]
        refine ⟨m - 1, by omega, i + 1, _, _, _, by omega, by rw [htk1, List.map_append]; rfl, he, ?_, ?_, ?_, ?_⟩
        · omega
        · rw [htk1, List.all_append, hall]; simp [hmay]
        · rw [htk1, List.map_append]
          refine List.nodup_append.2 ⟨hnd, by simp, fun x hx y hy => ?_⟩
          rintro rfl
          simp only [List.map_cons, List.map_nil, List.mem_singleton] at hy
          exact hin (hy ▸ hx)
        · simp only [go_sem, eqs hxE2, reduceIte, seval, s0, s1, s5, s9, s10]
    · have hlt : decide ((i : Int) < (cs.length : Int)) = false := decide_eq_false (by omega)
      have hie : cs.take i = cs := List.take_of_length_le (by omega)
      rw [hie] at hall hnd ⊢
      have hgood : goodC st.pgs.length a s cs = true := by
        unfold goodC
        rw [hall, decide_eq_true hnd]; rfl
      have qr := fun r e d => jroom_q (e := e) (d := d) (J.app r)
      unfold wrongE
      rw [if_pos hgood]
      by_cases hr : roomJ s < cs.length
      · have d1' : decide ((roomJ s : Int) < (cs.length : Int)) = true := decide_eq_true (by omega)
        rw [if_pos hr]
        (repeat' (first | refine To.seq hxE2 ?_ | refine To.op0 hxE2 (by simp only [go_sem, eqs hxE2, reduceIte, seval, Heap.gets, Heap.sets, Heap.get, bytesA_length, bytesA_one, bytesA_plains, List.take_of_length_le, List.drop_of_length_le, Nat.add_zero, V.one, Nat.reduceLeDiff, List.all_cons, List.all_nil, ne_eq, not_false_eq_true, Nat.zero_le, s0, s1, s9, s10, s11, hlt, hl, qr, d1']; rfl) ?_ | refine To.nop hxE2 ?_ | (refine To.condT hxE2 ?_ ?_; focus (simp only [go_sem, eqs hxE2, reduceIte, seval, Heap.gets, Heap.sets, Heap.get, bytesA_length, bytesA_one, bytesA_plains, List.take_of_length_le, List.drop_of_length_le, Nat.add_zero, V.one, Nat.reduceLeDiff, List.all_cons, List.all_nil, ne_eq, not_false_eq_true, Nat.zero_le, s0, s1, s9, s10, s11, hlt, hl, qr, d1']; done)) | (refine To.condF hxE2 ?_ ?_; focus (simp only [go_sem, eqs hxE2, reduceIte, seval, Heap.gets, Heap.sets, Heap.get, bytesA_length, bytesA_one, bytesA_plains, List.take_of_length_le, List.drop_of_length_le, Nat.add_zero, V.one, Nat.reduceLeDiff, List.all_cons, List.all_nil, ne_eq, not_false_eq_true, Nat.zero_le, s0, s1, s9, s10, s11, hlt, hl, qr, d1']; done)) | refine To.ret hxE2 ?_ | refine To.exit hxE2 ?_))
        try simp only [andThen, outOf, if_true]
        skip
        exact fin_k1 (i := 4) (v := .int .i64 28) rfl (by simp only [go_sem, eqs hxE2, reduceIte, seval]) rfl (kp_app he hd)
      · have d1' : decide ((roomJ s : Int) < (cs.length : Int)) = false := decide_eq_false (by omega)
        rw [if_neg hr]
        (repeat' (first | refine To.seq hxE2 ?_ | refine To.op0 hxE2 (by simp only [go_sem, eqs hxE2, reduceIte, seval, Heap.gets, Heap.sets, Heap.get, bytesA_length, bytesA_one, bytesA_plains, List.take_of_length_le, List.drop_of_length_le, Nat.add_zero, V.one, Nat.reduceLeDiff, List.all_cons, List.all_nil, ne_eq, not_false_eq_true, Nat.zero_le, s0, s1, s9, s10, s11, hlt, hl, qr, d1']; rfl) ?_ | refine To.nop hxE2 ?_ | (refine To.condF hxE2 ?_ ?_; focus (simp only [go_sem, eqs hxE2, reduceIte, seval, Heap.gets, Heap.sets, Heap.get, bytesA_length, bytesA_one, bytesA_plains, List.take_of_length_le, List.drop_of_length_le, Nat.add_zero, V.one, Nat.reduceLeDiff, List.all_cons, List.all_nil, ne_eq, not_false_eq_true, Nat.zero_le, s0, s1, s9, s10, s11, hlt, hl, qr, d1']; done)) | refine To.ret hxE2 ?_ | refine To.exit hxE2 ?_ | refine To.skip hxE2 ?_))
        try simp only [andThen, outOf, if_true]
        skip
        exact fin_k1 (i := 4) (v := .int .i64 0) rfl (by simp only [go_sem, eqs hxE2, reduceIte, seval]) rfl (kp_app he hd)
  · refine ⟨0, _, _, [], by omega, rfl, ?_, ?_, by simp, by simp, ?_⟩
    · simp
    · simp
    · simp only [go_sem, eqs hxE2, reduceIte, seval, initS]
theorem fin_lvj0 {a' : AF} {i : Nat} (hr : a'.res = [.t i]) {n : Int} {S : Nat → V} (hS : S i = .int .i64 n) {o1 : List AM.Obj} {e1 d1 : Nat} (D : Jx jl dd pg lm o o1) (L : LowJ jl dd pg lm o o1 o.length d1) (he : o.length ≤ e1) (h0 : jl < o.length) (h1 : dd < o.length) (h2 : pg < o.length) (h3 : lm < o.length) {R : Int → List AM.Obj → Prop} (hR : R n o1) :
    ∃ v oh, finish a' ⟨o, e, d⟩ (some (.ret, S, ⟨o1, e1, d1⟩)) = some (v, oh) ∧ ∃ n o' d', v = .val (.int .i64 n) ∧ LvJ jl dd pg lm o e d oh o' d' ∧ R n o' := by
  have h := fin_lvj (e := e) (d := d) (r1 := []) hr hS D L he h0 h1 h2 h3 hR
  rw [List.append_nil] at h
  exact h
/-- What a Commit comes to: the error; the next number; is it over; the disk. -/
def dCommit (on : Bool) (st : DSt) (a s : Nat) (seq : Int) (over : Bool) (cs : List (Int × Pg)) : Int × Int × Bool × DSt :=
  if over = true then (5, seq, over, st)
  else if wrongE st.pgs.length a s cs ≠ 0 ∨ cs = [] then (wrongE st.pgs.length a s cs, seq, over, st)
  else ((dMake on st a seq cs).1, (dMake on st a seq cs).2.1, (dMake on st a seq cs).1 != 0, (dMake on st a seq cs).2.2)
set_option maxHeartbeats 16000000 in
theorem commit_x (J : PJ o jl dd pg lm a s seq over on st) {v : V} {cs : List (Int × Pg)} (hc : ChRow o v cs) (hn : cs.length ≤ 500) (ha : a ≤ 100000) (hs : s ≤ 1000000) (hs0 : 0 ≤ seq) (hs1 : seq < 2 ^ 59) :
    ∃ r oh, Den FF E2 32 [.ptr jl 0, v] ⟨o, e, d⟩ = some (r, oh) ∧ ∃ n o' d', r = .val (.int .i64 n) ∧ LvJ jl dd pg lm o e d oh o' d' ∧ (n = (dCommit on st a s seq over cs).1 ∧ PJ o' jl dd pg lm a s (dCommit on st a s seq over cs).2.1 (dCommit on st a s seq over cs).2.2.1 on (dCommit on st a s seq over cs).2.2.2) := by
  refine To.denE hxE2 (f := 32) (a := af32) rfl (E2_none rfl) (Nat.le_of_ble_eq_true rfl) ?_
  have lJ := J.lj
  have lD := J.P.ld
  have lP := J.P.lp
  have lM := J.P.ll
  have hl := hc.len
  have qo := fun e d => jover_q (e := e) (d := d) J
  have qw := fun e d => wrong_q (e := e) (d := d) J hc hn (by omega) hs
  unfold dCommit
  cases over
  case true =>
    rw [if_pos rfl]
    (repeat' (first | refine To.seq hxE2 ?_ | refine To.op0 hxE2 (by simp only [go_sem, eqs hxE2, reduceIte, seval, qo]; rfl) ?_ | refine To.nop hxE2 ?_ | (refine To.condT hxE2 ?_ ?_; focus (simp only [go_sem, eqs hxE2, reduceIte, seval, qo]; done)) | refine To.ret hxE2 ?_))
    exact fin_lvj0 (n := 5) (R := fun m o' => m = 5 ∧ PJ o' jl dd pg lm a s seq true on st) (i := 4) rfl (by simp only [go_sem, eqs hxE2, reduceIte, seval]) Jx.refl LowJ.refl (Nat.le_refl _) lJ lD lP lM ⟨rfl, J⟩
  rw [if_neg (by decide)]
  by_cases hw : wrongE st.pgs.length a s cs = 0
  case neg =>
    have hb : (wrongE st.pgs.length a s cs != 0) = true := by simpa using hw
    rw [if_pos (.inl hw)]
    generalize wrongE st.pgs.length a s cs = n at *
    (repeat' (first | refine To.seq hxE2 ?_ | refine To.op0 hxE2 (by simp only [go_sem, eqs hxE2, reduceIte, seval, qo, qw, hb]; rfl) ?_ | refine To.nop hxE2 ?_ | (refine To.condT hxE2 ?_ ?_; focus (simp only [go_sem, eqs hxE2, reduceIte, seval, qo, qw, hb]; done)) | (refine To.condF hxE2 ?_ ?_; focus (simp only [go_sem, eqs hxE2, reduceIte, seval, qo, qw, hb]; done)) | refine To.ret hxE2 ?_ | refine To.skip hxE2 ?_))
    exact fin_lvj0 (n := n) (R := fun m o' => m = n ∧ PJ o' jl dd pg lm a s seq false on st) (i := 4) rfl (by simp only [go_sem, eqs hxE2, reduceIte, seval]) Jx.refl LowJ.refl (Nat.le_refl _) lJ lD lP lM ⟨rfl, J⟩
  rw [hw] at qw ⊢
  by_cases hc0 : cs = []
  · rw [if_pos (.inr hc0)]
    have hl0 : lenLV v = some (.int .i64 0, none) := by rw [hl, hc0]; rfl
    (repeat' (first | refine To.seq hxE2 ?_ | refine To.op0 hxE2 (by simp only [go_sem, eqs hxE2, reduceIte, seval, qo, qw, hl0, bne_self_eq_false]; rfl) ?_ | refine To.nop hxE2 ?_ | (refine To.condT hxE2 ?_ ?_; focus (simp only [go_sem, eqs hxE2, reduceIte, seval, qo, qw, hl0, bne_self_eq_false]; done)) | (refine To.condF hxE2 ?_ ?_; focus (simp only [go_sem, eqs hxE2, reduceIte, seval, qo, qw, hl0, bne_self_eq_false]; done)) | refine To.ret hxE2 ?_ | refine To.skip hxE2 ?_))
    exact fin_lvj0 (n := 0) (R := fun m o' => m = 0 ∧ PJ o' jl dd pg lm a s seq false on st) (i := 4) rfl (by simp only [go_sem, eqs hxE2, reduceIte, seval]) Jx.refl LowJ.refl (Nat.le_refl _) lJ lD lP lM ⟨rfl, J⟩
  rw [if_neg (by simp [hc0])]
  have hlen : cs.length ≠ 0 := fun h => hc0 (List.eq_nil_of_length_eq_zero h)
  have hb0 : ((cs.length : Int) == 0) = false := by
    rw [beq_eq_false_iff_ne]; omega
  obtain ⟨r1, oh1, q1, n, o2, d2, rfl, L1, hn1, J2⟩ := make_x (e := o.length) (d := o.length) J hc hn ha hs0 hs1
  have g1 := L1.eq
  generalize dMake on st a seq cs = w at *
  obtain ⟨n', sq', st'⟩ := w
  simp only at hn1 J2 ⊢
  subst hn1
  have hl2 := L1.dx.len
  have J3 := J2.set sq' (n != 0)
  have dx3 := jx_jl (jl := jl) (dd := dd) (pg := pg) (lm := lm) (o := o2) (.cells .ex 109 0 [.ptr dd 0, .int .i64 (a : Int), .int .i64 (s : Int), .int .i64 sq', .bool (n != 0)])
  (repeat' (first | refine To.seq hxE2 ?_ | refine To.op0 hxE2 (by simp only [go_sem, eqs hxE2, reduceIte, seval, qo, qw, hl, hb0, bne_self_eq_false]; rfl) ?_ | refine To.nop hxE2 ?_ | (refine To.condF hxE2 ?_ ?_; focus (simp only [go_sem, eqs hxE2, reduceIte, seval, qo, qw, hl, hb0, bne_self_eq_false]; done)) | refine To.skip hxE2 ?_))
  refine To.op hxE2 (by simp only [go_sem, eqs hxE2, reduceIte, seval, q1]; rfl) ?_
  rw [show oh1.getD (AM.enter ⟨o, e, d⟩) = ⟨o2, o.length, d2⟩ from g1]
  (repeat' (first | refine To.seq hxE2 ?_ | refine To.op0 hxE2 (by simp only [go_sem, eqs hxE2, reduceIte, seval, Heap.gets, Heap.sets, Heap.get, bytesA_length, bytesA_one, bytesA_plains, List.take_of_length_le, List.drop_of_length_le, Nat.add_zero, V.one, Nat.reduceLeDiff, List.all_cons, List.all_nil, ne_eq, not_false_eq_true, Nat.zero_le, J2.hj]; rfl) ?_ | refine To.op1 hxE2 (by simp only [go_sem, eqs hxE2, reduceIte, seval, Heap.gets, Heap.sets, Heap.get, bytesA_length, bytesA_one, bytesA_plains, List.take_of_length_le, List.drop_of_length_le, Nat.add_zero, V.one, Nat.reduceLeDiff, List.all_cons, List.all_nil, ne_eq, not_false_eq_true, Nat.zero_le, J2.hj]; rfl) ?_ | refine To.nop hxE2 ?_ | refine To.ret hxE2 ?_))
  exact fin_lvj0 (n := n) (R := fun m o' => m = n ∧ PJ o' jl dd pg lm a s sq' (n != 0) on st') (i := 4) rfl (by simp only [go_sem, eqs hxE2, reduceIte, seval]) (L1.dx.trans dx3) (L1.low.trans ⟨Nat.min_le_left _ _, .inr (by omega)⟩) (Nat.le_refl _) lJ lD lP lM ⟨rfl, J3⟩
end
end Go.Proofs.Ytfbkeieoeagkdaa

/- Journal: what a Live head tells of. -/
namespace Go.Proofs.Ytfbkeieoeagkdaa
open Go AM
set_option linter.unusedSimpArgs false
set_option linter.unusedVariables false
set_option maxRecDepth 100000

theorem roomF_fits (size : Int) : ∀ k n, roomF size k n = n ∨ 1 + (listsN (roomF size k n) : Int) + (roomF size k n : Int) ≤ size
  | 0, n => .inl rfl
  | k + 1, n => by
    unfold roomF
    split
    · rename_i h
      rcases roomF_fits size k (n + 1) with h1 | h1
      · rw [h1]; right; omega
      · exact .inr h1
    · exact .inl rfl
theorem room_fits {s c : Nat} (h : c ≤ roomJ s) (h1 : 1 ≤ c) : 1 + listsN c + c ≤ s := by
  rcases roomF_fits s 512 0 with h2 | h2
  · unfold roomJ at h; omega
  · have : listsN c ≤ listsN (roomJ s) := by unfold listsN; omega
    unfold roomJ at h this
    omega
def allP (st : DSt) (a k : Nat) : List Pg := (List.range k).map fun i => readP false st.pgs st.ca ((a + 1 + i : Nat) : Int)
def foundL (all : List Pg) (n cnt : Nat) : List (Int × Pg) := (List.range cnt).map fun i => ((getK (all.getD (i / 32) []) (i % 32 * 2) 2 : Int), all.getD (n + i) [])
def foundE (st : DSt) (a s cnt : Nat) (sm : Int) : Option (List (Int × Pg)) :=
  if roomJ s < cnt then none
  else if (foundL (allP st a (listsN cnt + cnt)) (listsN cnt) cnt).all (fun c => mayB st.pgs.length a s c.1) = true then
    (if (sumP (allP st a (listsN cnt + cnt)) : Int) = sm then some (foundL (allP st a (listsN cnt + cnt)) (listsN cnt) cnt) else none)
  else none
theorem allP_succ (st : DSt) (a k : Nat) : allP st a (k + 1) = allP st a k ++ [readP false st.pgs st.ca ((a + 1 + k : Nat) : Int)] := by
  unfold allP
  rw [List.range_succ, List.map_append]; rfl
theorem allP_len (st : DSt) (a k : Nat) : (allP st a k).length = k := by simp [allP]
theorem foundL_succ (all : List Pg) (n k : Nat) : foundL all n (k + 1) = foundL all n k ++ [((getK (all.getD (k / 32) []) (k % 32 * 2) 2 : Int), all.getD (n + k) [])] := by
  unfold foundL
  rw [List.range_succ, List.map_append]; rfl
theorem foundL_len (all : List Pg) (n k : Nat) : (foundL all n k).length = k := by simp [foundL]
theorem foundL_take (all : List Pg) (n : Nat) {i k : Nat} (h : i ≤ k) : (foundL all n k).take i = foundL all n i := by
  unfold foundL
  rw [← List.map_take, List.take_range, Nat.min_eq_left h]
section
variable {o : List AM.Obj} {e d dd pg lm : Nat} {on : Bool} {left : Int} {pgs : List Pg} {ca : List (Nat × Pg)}
theorem allP_64 (P : PD o dd pg lm on false left pgs ca) {a k : Nat} (h : a + 1 + k ≤ pgs.length) : ∀ p ∈ allP ⟨false, left, pgs, ca⟩ a k, p.length = 64 := by
  intro p hp
  obtain ⟨i, hi, rfl⟩ := List.mem_map.1 hp
  have hi := List.mem_range.1 hi
  exact readP_64 P (a + 1 + i) (by omega)
/-- What found gives back. -/
def FoundR (o : List AM.Obj) (e d : Nat) (r : Out) (oh : Option Heap) (x : Option (List (Int × Pg))) : Prop :=
  ∃ v rr e' d', r = .val (.tuple [v, .int .i64 (if x.isSome = true then 0 else 5)]) ∧ Gr o e d oh rr e' d' ∧ ∀ cs, x = some cs → ChRow (o ++ rr) v cs
theorem fin_found {S : Nat → V} {r1 : List AM.Obj} {d1 : Nat} {v : V} {x : Option (List (Int × Pg))} (h4 : S 4 = v) (h5 : S 5 = .int .i64 (if x.isSome = true then 0 else 5)) (hd : o.length ≤ d1) (hv : v.plain = true → ∀ cs, x = some cs → ChRow o v cs) (hv2 : v.plain = false → ∀ cs, x = some cs → ChRow (o ++ r1) v cs) :
    ∃ r oh, finish af74 ⟨o, e, d⟩ (some (.ret, S, ⟨o ++ r1, o.length, d1⟩)) = some (r, oh) ∧ FoundR o e d r oh x := by
  refine ⟨_, _, fin2 (i := 4) (j := 5) rfl, ?_⟩
  rw [h4, h5]
  obtain ⟨rr, e2, d2, hgr, hrr⟩ := leave_grow (o := o) (e := e) (d := d) (e' := o.length) (d' := d1) (rr := r1) (v := .tuple [v, .int .i64 (if x.isSome = true then 0 else 5)]) (fun _ => .inr hd) (Nat.le_refl _) hd
  refine ⟨v, rr, e2, d2, rfl, hgr, fun cs hcs => ?_⟩
  cases hp : v.plain
  · rw [hrr (by simp [V.plain, V.plains, hp])]
    exact hv2 hp cs hcs
  · exact (hv hp cs hcs).app rr
set_option maxHeartbeats 32000000 in
theorem found_x (P : PD o dd pg lm on false left pgs ca) {a s cnt : Nat} {sq : Int} {lv : Bool} {sm : Int} (hin : a + s ≤ pgs.length) (hpl : pgs.length ≤ 100000) (hc1 : 1 ≤ cnt) (hc5 : cnt ≤ 512) :
    ∃ r oh, Den FF E2 74 [.agg (regV dd a s), .agg (headV sq lv cnt sm)] ⟨o, e, d⟩ = some (r, oh) ∧ FoundR o e d r oh (foundE ⟨false, left, pgs, ca⟩ a s cnt sm) := by
  refine To.denE hxE2 (f := 74) (a := af74) rfl (E2_none rfl) (Nat.le_of_ble_eq_true rfl) ?_
  have hL : listsN cnt ≤ 100 := by unfold listsN; omega
  have qr := fun r e d => room_q (o := o ++ r) (e := e) (d := d) (size := (s : Int))
  have ql := fun r e d => lists_q (o := o ++ r) (e := e) (d := d) (n := cnt) (by omega)
  have hrv : regV dd a s = [.ptr dd 0, .int .i64 (a : Int), .int .i64 (s : Int)] := rfl
  have hhv : headV sq lv cnt sm = [.int .i64 sq, .bool lv, .int .i64 (cnt : Int), .int .u32 sm] := rfl
  unfold foundE
  by_cases hroom : roomJ s < cnt
  · rw [if_pos hroom]
    have d1 : decide ((roomJ s : Int) < (cnt : Int)) = true := decide_eq_true (by omega)
    (repeat' (first | refine To.seq hxE2 ?_ | refine To.op0 hxE2 (by simp only [go_sem, eqs hxE2, reduceIte, seval, Heap.gets, Heap.sets, Heap.get, bytesA_length, bytesA_one, bytesA_plains, List.take_of_length_le, List.drop_of_length_le, Nat.add_zero, V.one, Nat.reduceLeDiff, List.all_cons, List.all_nil, ne_eq, not_false_eq_true, Nat.zero_le, hrv, hhv, qr, d1]; rfl) ?_ | refine To.op1 hxE2 (by simp only [go_sem, eqs hxE2, reduceIte, seval, Heap.gets, Heap.sets, Heap.get, bytesA_length, bytesA_one, bytesA_plains, List.take_of_length_le, List.drop_of_length_le, Nat.add_zero, V.one, Nat.reduceLeDiff, List.all_cons, List.all_nil, ne_eq, not_false_eq_true, Nat.zero_le, hrv, hhv, qr, d1]; rfl) ?_ | refine To.nop hxE2 ?_ | (refine To.condT hxE2 ?_ ?_; focus (simp only [go_sem, eqs hxE2, reduceIte, seval, Heap.gets, Heap.sets, Heap.get, bytesA_length, bytesA_one, bytesA_plains, List.take_of_length_le, List.drop_of_length_le, Nat.add_zero, V.one, Nat.reduceLeDiff, List.all_cons, List.all_nil, ne_eq, not_false_eq_true, Nat.zero_le, hrv, hhv, qr, d1]; done)) | refine To.ret hxE2 ?_ | refine To.draw0 hxE2 ?_ | refine ToD.op0 (by simp only [go_sem, eqs hxE2, reduceIte, seval, Heap.gets, Heap.sets, Heap.get, bytesA_length, bytesA_one, bytesA_plains, List.take_of_length_le, List.drop_of_length_le, Nat.add_zero, V.one, Nat.reduceLeDiff, List.all_cons, List.all_nil, ne_eq, not_false_eq_true, Nat.zero_le, hrv, hhv, qr, d1]; rfl) (by simp only [put_some, put_none]; rfl) ?_ | refine ToD.nop ?_))
    exact fin_found (v := .nils) (x := none) (by simp only [go_sem, eqs hxE2, reduceIte, seval]) (by simp only [go_sem, eqs hxE2, reduceIte, seval]; rfl) (by omega) (fun _ cs h => by cases h) (fun _ cs h => by cases h)
  rw [if_neg hroom]
  have d1 : decide ((roomJ s : Int) < (cnt : Int)) = false := decide_eq_false (by omega)
  have hfit := room_fits (s := s) (c := cnt) (by omega) hc1
  have wN : IntKind.i64.wrap ((listsN cnt : Int) + (cnt : Int)) = ((listsN cnt + cnt : Nat) : Int) := by rw [wrap_i64 (by omega) (by omega)]; omega
  have hst : ∀ k, allP ⟨false, left, pgs, ca⟩ a k = (List.range k).map fun i => readP false pgs ca ((a + 1 + i : Nat) : Int) := fun k => rfl
  (repeat' (first | refine To.seq hxE2 ?_ | refine To.op0 hxE2 (by simp only [go_sem, eqs hxE2, reduceIte, seval, Heap.gets, Heap.sets, Heap.get, bytesA_length, bytesA_one, bytesA_plains, List.take_of_length_le, List.drop_of_length_le, Nat.add_zero, V.one, Nat.reduceLeDiff, List.all_cons, List.all_nil, ne_eq, not_false_eq_true, Nat.zero_le, hrv, hhv, qr, ql, d1, wN]; rfl) ?_ | refine To.op1 hxE2 (by simp only [go_sem, eqs hxE2, reduceIte, seval, Heap.gets, Heap.sets, Heap.get, bytesA_length, bytesA_one, bytesA_plains, List.take_of_length_le, List.drop_of_length_le, Nat.add_zero, V.one, Nat.reduceLeDiff, List.all_cons, List.all_nil, ne_eq, not_false_eq_true, Nat.zero_le, hrv, hhv, qr, ql, d1, wN]; rfl) ?_ | refine To.nop hxE2 ?_ | (refine To.condF hxE2 ?_ ?_; focus (simp only [go_sem, eqs hxE2, reduceIte, seval, Heap.gets, Heap.sets, Heap.get, bytesA_length, bytesA_one, bytesA_plains, List.take_of_length_le, List.drop_of_length_le, Nat.add_zero, V.one, Nat.reduceLeDiff, List.all_cons, List.all_nil, ne_eq, not_false_eq_true, Nat.zero_le, hrv, hhv, qr, ql, d1, wN]; done)) | refine To.block hxE2 ?_ | refine To.skip hxE2 ?_ | refine To.draw0 hxE2 ?_ | refine ToD.op0 (by simp only [go_sem, eqs hxE2, reduceIte, seval, Heap.gets, Heap.sets, Heap.get, bytesA_length, bytesA_one, bytesA_plains, List.take_of_length_le, List.drop_of_length_le, Nat.add_zero, V.one, Nat.reduceLeDiff, List.all_cons, List.all_nil, ne_eq, not_false_eq_true, Nat.zero_le, hrv, hhv, qr, ql, d1, wN]; rfl) (by simp only [put_some, put_none]; rfl) ?_ | refine ToD.nop ?_))
  refine To.loop hxE2 (fun m S h' => ∃ (i d1 : Nat) (r : List AM.Obj) (v : V), i + m = listsN cnt + cnt ∧ h' = ⟨o ++ r, o.length, d1⟩ ∧ o.length ≤ d1 ∧ (o ++ r)[o.length]? = some (.cells .ex 100 0 [.ptr dd 0, .int .i64 (a : Int), .int .i64 (s : Int)]) ∧ (o ++ r)[o.length + 1]? = some (.cells .ex 103 0 [.int .i64 sq, .bool lv, .int .i64 (cnt : Int), .int .u32 sm]) ∧
    GrowX (o ++ r) o.length v 31 64 ((allP ⟨false, left, pgs, ca⟩ a i).map bytesA) ∧ S 2 = .ptr o.length 0 ∧ S 3 = .ptr (o.length + 1) 0 ∧ S 6 = .int .i64 (listsN cnt : Int) ∧ S 7 = v ∧ S 26 = .int .i64 ((listsN cnt + cnt : Nat) : Int) ∧ S 27 = .int .i64 (i : Int)) ?_ (listsN cnt + cnt) _ _ ?_
  · rintro m S _ ⟨i, d1', r, v, hm, rfl, hd, hreg, hhd, hG, s2, s3, s6, s7, s26, s27⟩
    by_cases hi : i < listsN cnt + cnt
    · have hlt : decide ((i : Int) < ((listsN cnt + cnt : Nat) : Int)) = true := decide_eq_true (by omega)
      have wi : IntKind.i64.wrap ((i : Int) + 1) = ((i + 1 : Nat) : Int) := by rw [wrap_i64 (by omega) (by omega)]; omega
      have w1 : IntKind.i64.wrap ((a : Int) + 1) = (a : Int) + 1 := wrap_i64 (by omega) (by omega)
      have w2 : IntKind.i64.wrap ((a : Int) + 1 + (i : Int)) = ((a + 1 + i : Nat) : Int) := by rw [wrap_i64 (by omega) (by omega)]; omega
      have q := fun e d => read_q (e := e) (d := d) (P.app r) ((a + 1 + i : Nat) : Int)
      have h0 : hasE false pgs.length ((a + 1 + i : Nat) : Int) = 0 := by unfold hasE; rw [if_neg (by simp), if_neg (by rintro (h | h) <;> omega)]
      have h64 := readP_64 P (a + 1 + i) (by omega)
      have hsu : allP ⟨false, left, pgs, ca⟩ a (i + 1) = allP ⟨false, left, pgs, ca⟩ a i ++ [readP false pgs ca ((a + 1 + i : Nat) : Int)] := allP_succ _ a i
      rw [h0] at q
      generalize readP false pgs ca ((a + 1 + i : Nat) : Int) = p at *
      have htk : List.take 64 (bytesA p) = bytesA p := List.take_of_length_le (by rw [bytesA_length]; omega)
      have hdr : List.drop 64 (bytesA p) = [] := List.drop_eq_nil_of_le (by rw [bytesA_length]; omega)
      have gb : ∀ x : AM.Obj, (o ++ (r ++ [x]))[o.length + r.length]? = some x := fun x => by
        rw [app_getk]; simp
      have gb2 : ∀ x y : AM.Obj, (o ++ (r ++ [x, y]))[o.length + (r.length + 1)]? = some y := fun x y => by
        rw [app_getk, app_getk]; rfl
      have hrows : ∀ y ∈ (allP ⟨false, left, pgs, ca⟩ a i).map bytesA, y.length = 64 := fun y hy => by
        obtain ⟨q, hq, rfl⟩ := List.mem_map.1 hy
        rw [bytesA_length]
        exact allP_64 P (by omega) q hq
      have hln : ((allP ⟨false, left, pgs, ca⟩ a i).map bytesA).length ≤ 1000 := by rw [List.length_map, allP_len]; omega
      obtain ⟨v', r', D', hA, hG', hD1, hD2, _, hkeep⟩ := grow1 (o := o) (r := r ++ [.cells .ex 31 0 (bytesA p), .cells .ex 31 0 (bytesA p)]) (b := 64) (by rw [← List.append_assoc]; exact hG.app) (by decide) hrows (x := bytesA p) (by rw [bytesA_length]; exact h64) (room_small (by omega) (by decide)) (room_small (by decide) (by decide)) o.length (min d1' (o.length + r.length))
      have hreg' := hkeep o.length _ _ _ (by rw [← List.append_assoc]; exact app_old hreg _) (by decide)
      have hhd' := hkeep (o.length + 1) _ _ _ (by rw [← List.append_assoc]; exact app_old hhd _) (by decide)
      (repeat' (first | refine To.seq hxE2 ?_ | refine To.op0 hxE2 (by simp only [go_sem, eqs hxE2, reduceIte, seval, Heap.gets, Heap.sets, Heap.get, bytesA_length, bytesA_one, bytesA_plains, List.take_of_length_le, List.drop_of_length_le, Nat.add_zero, V.one, Nat.reduceLeDiff, List.all_cons, List.all_nil, ne_eq, not_false_eq_true, Nat.zero_le, s2, s3, s6, s7, s26, s27, hlt, wi, w1, w2, hreg, hhd, q, h64, htk, hdr, gb, gb2, hA, bne_self_eq_false, z64_len, z64_drop, z64_one, z64_plains, List.append_nil]; rfl) ?_ | refine To.op1 hxE2 (by simp only [go_sem, eqs hxE2, reduceIte, seval, Heap.gets, Heap.sets, Heap.get, bytesA_length, bytesA_one, bytesA_plains, List.take_of_length_le, List.drop_of_length_le, Nat.add_zero, V.one, Nat.reduceLeDiff, List.all_cons, List.all_nil, ne_eq, not_false_eq_true, Nat.zero_le, s2, s3, s6, s7, s26, s27, hlt, wi, w1, w2, hreg, hhd, q, h64, htk, hdr, gb, gb2, hA, bne_self_eq_false, z64_len, z64_drop, z64_one, z64_plains, List.append_nil]; rfl) ?_ | refine To.nop hxE2 ?_ | (refine To.condT hxE2 ?_ ?_; focus (simp only [go_sem, eqs hxE2, reduceIte, seval, Heap.gets, Heap.sets, Heap.get, bytesA_length, bytesA_one, bytesA_plains, List.take_of_length_le, List.drop_of_length_le, Nat.add_zero, V.one, Nat.reduceLeDiff, List.all_cons, List.all_nil, ne_eq, not_false_eq_true, Nat.zero_le, s2, s3, s6, s7, s26, s27, hlt, wi, w1, w2, hreg, hhd, q, h64, htk, hdr, gb, gb2, hA, bne_self_eq_false, z64_len, z64_drop, z64_one, z64_plains, List.append_nil]; done)) | (refine To.condF hxE2 ?_ ?_; focus (simp only [go_sem, eqs hxE2, reduceIte, seval, Heap.gets, Heap.sets, Heap.get, bytesA_length, bytesA_one, bytesA_plains, List.take_of_length_le, List.drop_of_length_le, Nat.add_zero, V.one, Nat.reduceLeDiff, List.all_cons, List.all_nil, ne_eq, not_false_eq_true, Nat.zero_le, s2, s3, s6, s7, s26, s27, hlt, wi, w1, w2, hreg, hhd, q, h64, htk, hdr, gb, gb2, hA, bne_self_eq_false, z64_len, z64_drop, z64_one, z64_plains, List.append_nil]; done)) | refine To.block hxE2 ?_ | refine To.skip hxE2 ?_))
      try simp only [andThen, outOf]
      refine ⟨m - 1, by omega, i + 1, D', r', v', by omega, rfl, by omega, hreg', hhd', ?_, ?_⟩
      · rw [hsu, List.map_append]; exact hG'
      · simp only [go_sem, eqs hxE2, reduceIte, seval, s2, s3, s6, s26]
    · have hlt : decide ((i : Int) < ((listsN cnt + cnt : Nat) : Int)) = false := decide_eq_false (by omega)
      obtain rfl : i = listsN cnt + cnt := by omega
      have hall64 := allP_64 P (a := a) (k := listsN cnt + cnt) (by omega)
      have halen := allP_len ⟨false, left, pgs, ca⟩ a (listsN cnt + cnt)
      generalize hall : allP ⟨false, left, pgs, ca⟩ a (listsN cnt + cnt) = all at *
      obtain ⟨mm, ck, rfl, hmm, hmb⟩ : ∃ mm ck, v = .slice mm 0 (listsN cnt + cnt) 64 ∧ (o ++ r)[mm]? = some (.cells ck 31 0 (pgC all)) ∧ o.length ≤ mm := by
        rcases hG with ⟨_, h⟩ | ⟨mm, ck, h1, h2, h3, _⟩
        · have : all = [] := by simpa using h
          rw [this] at halen
          simp only [List.length_nil] at halen
          omega
        · rw [List.length_map, halen] at h1
          refine ⟨mm, ck, h1, ?_, h3⟩
          rw [h2]; unfold pgC; rw [List.flatMap_def]
      have hcnt : ∀ r2, (o ++ (r ++ r2))[o.length + 1]? = some (.cells .ex 103 0 [.int .i64 sq, .bool lv, .int .i64 (cnt : Int), .int .u32 sm]) := fun r2 => by rw [← List.append_assoc]; exact app_old hhd _
      (repeat' (first | refine To.seq hxE2 ?_ | refine To.op0 hxE2 (by simp only [go_sem, eqs hxE2, reduceIte, seval, Heap.gets, Heap.sets, Heap.get, bytesA_length, bytesA_one, bytesA_plains, List.take_of_length_le, List.drop_of_length_le, Nat.add_zero, V.one, Nat.reduceLeDiff, List.all_cons, List.all_nil, ne_eq, not_false_eq_true, Nat.zero_le, s2, s3, s6, s7, s26, s27, hlt]; rfl) ?_ | refine To.nop hxE2 ?_ | (refine To.condF hxE2 ?_ ?_; focus (simp only [go_sem, eqs hxE2, reduceIte, seval, Heap.gets, Heap.sets, Heap.get, bytesA_length, bytesA_one, bytesA_plains, List.take_of_length_le, List.drop_of_length_le, Nat.add_zero, V.one, Nat.reduceLeDiff, List.all_cons, List.all_nil, ne_eq, not_false_eq_true, Nat.zero_le, s2, s3, s6, s7, s26, s27, hlt]; done)) | refine To.exit hxE2 ?_))
      try simp only [andThen, outOf, if_true]
      (repeat' (first | refine To.op0 hxE2 (by simp only [go_sem, eqs hxE2, reduceIte, seval, Heap.gets, Heap.sets, Heap.get, bytesA_length, bytesA_one, bytesA_plains, List.take_of_length_le, List.drop_of_length_le, Nat.add_zero, V.one, Nat.reduceLeDiff, List.all_cons, List.all_nil, ne_eq, not_false_eq_true, Nat.zero_le, s2, s3, s6, s7, hhd]; rfl) ?_ | refine To.nop hxE2 ?_ | refine To.block hxE2 ?_))
      refine To.loop hxE2 (fun m S h' => ∃ (i d1 : Nat) (r : List AM.Obj) (v : V), i + m = cnt ∧ h' = ⟨o ++ r, o.length, d1⟩ ∧ o.length ≤ d1 ∧ (o ++ r)[o.length]? = some (.cells .ex 100 0 [.ptr dd 0, .int .i64 (a : Int), .int .i64 (s : Int)]) ∧ (o ++ r)[o.length + 1]? = some (.cells .ex 103 0 [.int .i64 sq, .bool lv, .int .i64 (cnt : Int), .int .u32 sm]) ∧
        (o ++ r)[mm]? = some (.cells ck 31 0 (pgC all)) ∧ GrowX (o ++ r) o.length v 73 65 ((foundL all (listsN cnt) i).map chC) ∧ (foundL all (listsN cnt) i).all (fun c => mayB pgs.length a s c.1) = true ∧
        S 2 = .ptr o.length 0 ∧ S 3 = .ptr (o.length + 1) 0 ∧ S 6 = .int .i64 (listsN cnt : Int) ∧ S 7 = .slice mm 0 (listsN cnt + cnt) 64 ∧ S 11 = v ∧ S 50 = .int .i64 (cnt : Int) ∧ S 51 = .int .i64 (i : Int)) ?_ cnt _ _ ?_
      · rintro m2 S2 _ ⟨i, d2', r2, v, hm2, rfl, hd2, hreg2, hhd2, hmm2, hG2, hmay2, s2, s3, s6, s7, s11, s50, s51⟩
        by_cases hi : i < cnt
        · have hlt2 : decide ((i : Int) < (cnt : Int)) = true := decide_eq_true (by omega)
          have wi : IntKind.i64.wrap ((i : Int) + 1) = ((i + 1 : Nat) : Int) := by rw [wrap_i64 (by omega) (by omega)]; omega
          have t1 : Int.tdiv (i : Int) 32 = ((i / 32 : Nat) : Int) := by rw [Int.tdiv_eq_ediv_of_nonneg (by omega)]; omega
          have w1 : IntKind.i64.wrap ((i / 32 : Nat) : Int) = ((i / 32 : Nat) : Int) := wrap_i64 (by omega) (by omega)
          have t2 : Int.tmod (i : Int) 32 = ((i % 32 : Nat) : Int) := by rw [Int.tmod_eq_emod_of_nonneg (by omega)]; omega
          have w2 : IntKind.i64.wrap (((i % 32 : Nat) : Int) * 2) = ((i % 32 * 2 : Nat) : Int) := by rw [wrap_i64 (by omega) (by omega)]; omega
          have w3 : IntKind.i64.wrap ((listsN cnt : Int) + (i : Int)) = ((listsN cnt + i : Nat) : Int) := by rw [wrap_i64 (by omega) (by omega)]; omega
          have hk : i / 32 < listsN cnt + cnt := by omega
          have ix : idxOf (listsN cnt + cnt) (.int .i64 ((i / 32 : Nat) : Int)) = some (i / 32) := idxOf_nat hk
          have ix3 : idxOf (listsN cnt + cnt) (.int .i64 ((listsN cnt + i : Nat) : Int)) = some (listsN cnt + i) := idxOf_nat (by omega)
          have hfs := foundL_succ all (listsN cnt) i
          have hft := foundL_take all (listsN cnt) (i := i + 1) (k := cnt) (by omega)
          have hi2 : i % 32 * 2 + 2 ≤ 64 := by omega
          generalize i / 32 = k at *
          generalize i % 32 * 2 = i2 at *
          have hg : all[k]? = some (all[k]'(by omega)) := List.getElem?_eq_getElem (by omega)
          have hgd : all.getD k [] = all[k]'(by omega) := by rw [List.getD_eq_getElem?_getD, hg]; rfl
          have hg3 : all[listsN cnt + i]? = some (all[listsN cnt + i]'(by omega)) := List.getElem?_eq_getElem (by omega)
          have hgd3 : all.getD (listsN cnt + i) [] = all[listsN cnt + i]'(by omega) := by rw [List.getD_eq_getElem?_getD, hg3]; rfl
          rw [hgd, hgd3] at hfs
          have hp64 := hall64 _ (List.getElem_mem (by omega : k < all.length))
          have hp643 := hall64 _ (List.getElem_mem (by omega : listsN cnt + i < all.length))
          have hat := pgC_at hall64 hg
          have hat3 := pgC_at hall64 hg3
          have hk1 : (k + 1) * 64 ≤ all.length * 64 := Nat.mul_le_mul_right 64 (by omega)
          have hk3 : (listsN cnt + i + 1) * 64 ≤ all.length * 64 := Nat.mul_le_mul_right 64 (by omega)
          have hle : k * 64 + 64 ≤ (pgC all).length := by rw [pgC_len hall64]; omega
          have hle3 : (listsN cnt + i) * 64 + 64 ≤ (pgC all).length := by rw [pgC_len hall64]; omega
          generalize all[k]'(by omega) = p at *
          generalize all[listsN cnt + i]'(by omega) = p3 at *
          have qg : ∀ r e d, Den FF E2 71 [.agg (bytesA p), .int .i64 (i2 : Int), .int .i64 2] ⟨o ++ r, e, d⟩ = some (.val (.int .i64 (getK p i2 2 : Int)), none) := fun r e d => get_q hp64 (s := 2) (by omega) (by omega) hi2
          have qm := fun r e d => may_q (e := e) (d := d) (P.app r) (a := a) (s := s) (by omega) (by omega) (getK p i2 2 : Int)
          rw [hrv] at qm
          generalize (getK p i2 2 : Int) = x at *
          cases hmay : mayB pgs.length a s x
          · rw [hmay] at qm
            have hno : ¬ (foundL all (listsN cnt) cnt).all (fun c => mayB pgs.length a s c.1) = true := by
              intro h
              have h2 := List.all_eq_true.1 h (x, p3) (List.mem_of_mem_take (i := i + 1) (by rw [hft, hfs]; simp))
              rw [hmay] at h2; cases h2
            rw [if_neg hno]
            (repeat' (first | refine To.seq hxE2 ?_ | refine To.op0 hxE2 (by simp only [go_sem, eqs hxE2, reduceIte, seval, Heap.gets, Heap.sets, Heap.get, bytesA_length, bytesA_one, bytesA_plains, List.take_of_length_le, List.drop_of_length_le, Nat.add_zero, V.one, Nat.reduceLeDiff, List.all_cons, List.all_nil, ne_eq, not_false_eq_true, Nat.zero_le, s2, s3, s6, s7, s50, s51, hlt2, t1, w1, t2, w2, ix, hmm2, hat, hle, hp64, qg, hreg2, qm]; rfl) ?_ | refine To.nop hxE2 ?_ | (refine To.condT hxE2 ?_ ?_; focus (simp only [go_sem, eqs hxE2, reduceIte, seval, Heap.gets, Heap.sets, Heap.get, bytesA_length, bytesA_one, bytesA_plains, List.take_of_length_le, List.drop_of_length_le, Nat.add_zero, V.one, Nat.reduceLeDiff, List.all_cons, List.all_nil, ne_eq, not_false_eq_true, Nat.zero_le, s2, s3, s6, s7, s50, s51, hlt2, t1, w1, t2, w2, ix, hmm2, hat, hle, hp64, qg, hreg2, qm]; done)) | refine To.block hxE2 ?_ | refine To.ret hxE2 ?_ | refine To.skip hxE2 ?_))
            exact fin_found (v := .nils) (x := none) (by simp only [go_sem, eqs hxE2, reduceIte, seval]) (by simp only [go_sem, eqs hxE2, reduceIte, seval]; rfl) hd2 (fun _ cs h => by cases h) (fun _ cs h => by cases h)
          · rw [hmay] at qm
            have htk : List.take 64 (bytesA p3) = bytesA p3 := List.take_of_length_le (by rw [bytesA_length]; omega)
            have hdr : List.drop 64 (bytesA p3) = [] := List.drop_eq_nil_of_le (by rw [bytesA_length]; omega)
            have hzd : List.drop 1 z65 = z64 := rfl
            have gb : ∀ y : AM.Obj, (o ++ (r2 ++ [y]))[o.length + r2.length]? = some y := fun y => by
              rw [app_getk]; simp
            have htk65 : List.take 65 (V.int .i64 x :: bytesA p3) = V.int .i64 x :: bytesA p3 := List.take_of_length_le (by rw [List.length_cons, bytesA_length]; omega)
            have hf64 : ∀ c ∈ foundL all (listsN cnt) i, c.2.length = 64 := fun c hc => by
              obtain ⟨j, hj, rfl⟩ := List.mem_map.1 hc
              have hj := List.mem_range.1 hj
              have hgj : all[listsN cnt + j]? = some (all[listsN cnt + j]'(by omega)) := List.getElem?_eq_getElem (by omega)
              show (all.getD (listsN cnt + j) []).length = 64
              rw [List.getD_eq_getElem?_getD, hgj]
              exact hall64 _ (List.getElem_mem _)
            have hrows : ∀ y ∈ (foundL all (listsN cnt) i).map chC, y.length = 65 := fun y hy => by
              obtain ⟨c, hc, rfl⟩ := List.mem_map.1 hy
              exact chC_len (hf64 c hc)
            have hln : ((foundL all (listsN cnt) i).map chC).length ≤ 1000 := by rw [List.length_map, foundL_len]; omega
            obtain ⟨v', r', D', hA, hG', hD1, hD2, _, hkeep⟩ := grow1 (o := o) (r := r2 ++ [.cells .ex 73 0 (V.int .i64 x :: bytesA p3)]) (b := 72) (by rw [← List.append_assoc]; exact hG2.app) (by decide) hrows (x := V.int .i64 x :: bytesA p3) (by rw [List.length_cons, bytesA_length]; omega) (room_small (by omega) (by decide)) (room_small (by decide) (by decide)) o.length d2'
            have hreg' := hkeep o.length _ _ _ (by rw [← List.append_assoc]; exact app_old hreg2 _) (by decide)
            have hhd' := hkeep (o.length + 1) _ _ _ (by rw [← List.append_assoc]; exact app_old hhd2 _) (by decide)
            have hmm' := hkeep mm _ _ _ (by rw [← List.append_assoc]; exact app_old hmm2 _) (by decide)
            (repeat' (first | refine To.seq hxE2 ?_ | refine To.op0 hxE2 (by simp only [go_sem, eqs hxE2, reduceIte, seval, Heap.gets, Heap.sets, Heap.get, bytesA_length, bytesA_one, bytesA_plains, List.take_of_length_le, List.drop_of_length_le, Nat.add_zero, V.one, Nat.reduceLeDiff, List.all_cons, List.all_nil, ne_eq, not_false_eq_true, Nat.zero_le, s2, s3, s6, s7, s11, s50, s51, hlt2, wi, t1, w1, t2, w2, w3, ix, ix3, hmm2, hat, hle, hat3, hle3, hp64, hp643, qg, hreg2, qm, htk, hdr, hzd, gb, htk65, hA, z64_len, z64_drop, z64_one, z64_plains, z65_len, z65_drop, List.append_nil]; rfl) ?_ | refine To.op1 hxE2 (by simp only [go_sem, eqs hxE2, reduceIte, seval, Heap.gets, Heap.sets, Heap.get, bytesA_length, bytesA_one, bytesA_plains, List.take_of_length_le, List.drop_of_length_le, Nat.add_zero, V.one, Nat.reduceLeDiff, List.all_cons, List.all_nil, ne_eq, not_false_eq_true, Nat.zero_le, s2, s3, s6, s7, s11, s50, s51, hlt2, wi, t1, w1, t2, w2, w3, ix, ix3, hmm2, hat, hle, hat3, hle3, hp64, hp643, qg, hreg2, qm, htk, hdr, hzd, gb, htk65, hA, z64_len, z64_drop, z64_one, z64_plains, z65_len, z65_drop, List.append_nil]; rfl) ?_ | refine To.nop hxE2 ?_ | (refine To.condT hxE2 ?_ ?_; focus (simp only [go_sem, eqs hxE2, reduceIte, seval, Heap.gets, Heap.sets, Heap.get, bytesA_length, bytesA_one, bytesA_plains, List.take_of_length_le, List.drop_of_length_le, Nat.add_zero, V.one, Nat.reduceLeDiff, List.all_cons, List.all_nil, ne_eq, not_false_eq_true, Nat.zero_le, s2, s3, s6, s7, s11, s50, s51, hlt2, wi, t1, w1, t2, w2, w3, ix, ix3, hmm2, hat, hle, hat3, hle3, hp64, hp643, qg, hreg2, qm, htk, hdr, hzd, gb, htk65, hA, z64_len, z64_drop, z64_one, z64_plains, z65_len, z65_drop, List.append_nil]; done)) | (refine To.condF hxE2 ?_ ?_; focus (simp only [go_sem, eqs hxE2, reduceIte, seval, Heap.gets, Heap.sets, Heap.get, bytesA_length, bytesA_one, bytesA_plains, List.take_of_length_le, List.drop_of_length_le, Nat.add_zero, V.one, Nat.reduceLeDiff, List.all_cons, List.all_nil, ne_eq, not_false_eq_true, Nat.zero_le, s2, s3, s6, s7, s11, s50, s51, hlt2, wi, t1, w1, t2, w2, w3, ix, ix3, hmm2, hat, hle, hat3, hle3, hp64, hp643, qg, hreg2, qm, htk, hdr, hzd, gb, htk65, hA, z64_len, z64_drop, z64_one, z64_plains, z65_len, z65_drop, List.append_nil]; done)) | refine To.block hxE2 ?_ | refine To.skip hxE2 ?_))
            try simp only [andThen, outOf]
            skip
            try simp only [andThen, outOf]
            refine ⟨m2 - 1, by omega, i + 1, D', r', v', by omega, rfl, by omega, hreg', hhd', hmm', ?_, ?_, ?_⟩
            · rw [hfs, List.map_append]; exact hG'
            · rw [hfs, List.all_append, hmay2]; simp [hmay]
            · simp only [go_sem, eqs hxE2, reduceIte, seval, s2, s3, s6, s7, s50]
        · have hlt2 : decide ((i : Int) < (cnt : Int)) = false := decide_eq_false (by omega)
          obtain rfl : i = cnt := by omega
          rw [if_pos hmay2]
          have hrow : PgRow (o ++ r2) (.slice mm 0 (listsN i + i) 64) all := ⟨by rw [halen]; rfl, fun _ => ⟨mm, ck, 31, by rw [halen], hmm2⟩, hall64⟩
          have qs := fun e d => sumPages_q (e := e) (d := d) hrow (by omega)
          have hf64 : ∀ c ∈ foundL all (listsN i) i, c.2.length = 64 := fun c hc => by
            obtain ⟨j, hj, rfl⟩ := List.mem_map.1 hc
            have hj := List.mem_range.1 hj
            have hgj : all[listsN i + j]? = some (all[listsN i + j]'(by omega)) := List.getElem?_eq_getElem (by omega)
            show (all.getD (listsN i + j) []).length = 64
            rw [List.getD_eq_getElem?_getD, hgj]
            exact hall64 _ (List.getElem_mem _)
          have hsl : V.beq (.int .u32 sm) (.int .u32 sm) = true := by simp [V.beq]
          by_cases hsum : (sumP all : Int) = sm
          · rw [if_pos hsum]
            have hb : ((sumP all : Int) != sm) = false := by simp [hsum]
            generalize (sumP all : Int) = sa at *
            (repeat' (first | refine To.seq hxE2 ?_ | refine To.op0 hxE2 (by simp only [go_sem, eqs hxE2, reduceIte, seval, Heap.gets, Heap.sets, Heap.get, bytesA_length, bytesA_one, bytesA_plains, List.take_of_length_le, List.drop_of_length_le, Nat.add_zero, V.one, Nat.reduceLeDiff, List.all_cons, List.all_nil, ne_eq, not_false_eq_true, Nat.zero_le, s2, s3, s6, s7, s11, s50, s51, hlt2]; rfl) ?_ | refine To.nop hxE2 ?_ | (refine To.condF hxE2 ?_ ?_; focus (simp only [go_sem, eqs hxE2, reduceIte, seval, Heap.gets, Heap.sets, Heap.get, bytesA_length, bytesA_one, bytesA_plains, List.take_of_length_le, List.drop_of_length_le, Nat.add_zero, V.one, Nat.reduceLeDiff, List.all_cons, List.all_nil, ne_eq, not_false_eq_true, Nat.zero_le, s2, s3, s6, s7, s11, s50, s51, hlt2]; done)) | refine To.exit hxE2 ?_ | refine To.draw0 hxE2 ?_ | refine ToD.op0 (by simp only [go_sem, eqs hxE2, reduceIte, seval, Heap.gets, Heap.sets, Heap.get, bytesA_length, bytesA_one, bytesA_plains, List.take_of_length_le, List.drop_of_length_le, Nat.add_zero, V.one, Nat.reduceLeDiff, List.all_cons, List.all_nil, ne_eq, not_false_eq_true, Nat.zero_le, s2, s3, s6, s7, s11, s50, s51, hlt2]; rfl) (by simp only [put_some, put_none]; rfl) ?_ | fail))
            try simp only [andThen, outOf, if_true]
            (repeat' (first | refine To.seq hxE2 ?_ | refine To.op0 hxE2 (by simp only [go_sem, eqs hxE2, reduceIte, seval, Heap.gets, Heap.sets, Heap.get, bytesA_length, bytesA_one, bytesA_plains, List.take_of_length_le, List.drop_of_length_le, Nat.add_zero, V.one, Nat.reduceLeDiff, List.all_cons, List.all_nil, ne_eq, not_false_eq_true, Nat.zero_le, s2, s3, s6, s7, s11, s50, s51, hlt2, hhd2, qs, hb]; rfl) ?_ | refine To.nop hxE2 ?_ | (refine To.condF hxE2 ?_ ?_; focus (simp only [go_sem, eqs hxE2, reduceIte, seval, Heap.gets, Heap.sets, Heap.get, bytesA_length, bytesA_one, bytesA_plains, List.take_of_length_le, List.drop_of_length_le, Nat.add_zero, V.one, Nat.reduceLeDiff, List.all_cons, List.all_nil, ne_eq, not_false_eq_true, Nat.zero_le, s2, s3, s6, s7, s11, s50, s51, hlt2, hhd2, qs, hb]; done)) | refine To.ret hxE2 ?_ | refine To.skip hxE2 ?_ | refine ToD.op0 (by simp only [go_sem, eqs hxE2, reduceIte, seval, Heap.gets, Heap.sets, Heap.get, bytesA_length, bytesA_one, bytesA_plains, List.take_of_length_le, List.drop_of_length_le, Nat.add_zero, V.one, Nat.reduceLeDiff, List.all_cons, List.all_nil, ne_eq, not_false_eq_true, Nat.zero_le, s2, s3, s6, s7, s11, s50, s51, hlt2, hhd2, qs, hb]; rfl) (by simp only [put_some, put_none]; rfl) ?_ | refine ToD.nop ?_))
            refine fin_found (v := v) (x := some _) (by simp only [go_sem, eqs hxE2, reduceIte, seval]) (by simp only [go_sem, eqs hxE2, reduceIte, seval]; rfl) hd2 (fun hp => ?_) (fun _ cs h => by cases h; exact ChRow.grow hG2 hf64)
            rcases hG2 with ⟨_, h⟩ | ⟨_, _, rfl, _⟩
            · have : foundL all (listsN i) i = [] := by simpa using h
              have := congrArg List.length this
              rw [foundL_len] at this
              simp only [List.length_nil] at this
              omega
            · cases hp
          · rw [if_neg hsum]
            have hb : ((sumP all : Int) != sm) = true := by simp [hsum]
            generalize (sumP all : Int) = sa at *
            (repeat' (first | refine To.seq hxE2 ?_ | refine To.op0 hxE2 (by simp only [go_sem, eqs hxE2, reduceIte, seval, Heap.gets, Heap.sets, Heap.get, bytesA_length, bytesA_one, bytesA_plains, List.take_of_length_le, List.drop_of_length_le, Nat.add_zero, V.one, Nat.reduceLeDiff, List.all_cons, List.all_nil, ne_eq, not_false_eq_true, Nat.zero_le, s2, s3, s6, s7, s11, s50, s51, hlt2]; rfl) ?_ | refine To.nop hxE2 ?_ | (refine To.condF hxE2 ?_ ?_; focus (simp only [go_sem, eqs hxE2, reduceIte, seval, Heap.gets, Heap.sets, Heap.get, bytesA_length, bytesA_one, bytesA_plains, List.take_of_length_le, List.drop_of_length_le, Nat.add_zero, V.one, Nat.reduceLeDiff, List.all_cons, List.all_nil, ne_eq, not_false_eq_true, Nat.zero_le, s2, s3, s6, s7, s11, s50, s51, hlt2]; done)) | refine To.exit hxE2 ?_ | refine To.draw0 hxE2 ?_ | refine ToD.op0 (by simp only [go_sem, eqs hxE2, reduceIte, seval, Heap.gets, Heap.sets, Heap.get, bytesA_length, bytesA_one, bytesA_plains, List.take_of_length_le, List.drop_of_length_le, Nat.add_zero, V.one, Nat.reduceLeDiff, List.all_cons, List.all_nil, ne_eq, not_false_eq_true, Nat.zero_le, s2, s3, s6, s7, s11, s50, s51, hlt2]; rfl) (by simp only [put_some, put_none]; rfl) ?_ | fail))
            try simp only [andThen, outOf, if_true]
            (repeat' (first | refine To.seq hxE2 ?_ | refine To.op0 hxE2 (by simp only [go_sem, eqs hxE2, reduceIte, seval, Heap.gets, Heap.sets, Heap.get, bytesA_length, bytesA_one, bytesA_plains, List.take_of_length_le, List.drop_of_length_le, Nat.add_zero, V.one, Nat.reduceLeDiff, List.all_cons, List.all_nil, ne_eq, not_false_eq_true, Nat.zero_le, s2, s3, s6, s7, s11, s50, s51, hlt2, hhd2, qs, hb]; rfl) ?_ | refine To.nop hxE2 ?_ | (refine To.condT hxE2 ?_ ?_; focus (simp only [go_sem, eqs hxE2, reduceIte, seval, Heap.gets, Heap.sets, Heap.get, bytesA_length, bytesA_one, bytesA_plains, List.take_of_length_le, List.drop_of_length_le, Nat.add_zero, V.one, Nat.reduceLeDiff, List.all_cons, List.all_nil, ne_eq, not_false_eq_true, Nat.zero_le, s2, s3, s6, s7, s11, s50, s51, hlt2, hhd2, qs, hb]; done)) | refine To.ret hxE2 ?_ | refine ToD.op0 (by simp only [go_sem, eqs hxE2, reduceIte, seval, Heap.gets, Heap.sets, Heap.get, bytesA_length, bytesA_one, bytesA_plains, List.take_of_length_le, List.drop_of_length_le, Nat.add_zero, V.one, Nat.reduceLeDiff, List.all_cons, List.all_nil, ne_eq, not_false_eq_true, Nat.zero_le, s2, s3, s6, s7, s11, s50, s51, hlt2, hhd2, qs, hb]; rfl) (by simp only [put_some, put_none]; rfl) ?_ | refine ToD.nop ?_))
            exact fin_found (v := .nils) (x := none) (by simp only [go_sem, eqs hxE2, reduceIte, seval]) (by simp only [go_sem, eqs hxE2, reduceIte, seval]; rfl) hd2 (fun _ cs h => by cases h) (fun _ cs h => by cases h)
      · refine ⟨0, d1', r, .nils, by omega, rfl, hd, hreg, hhd, hmm, .inl ⟨rfl, rfl⟩, rfl, ?_⟩
        simp only [go_sem, eqs hxE2, reduceIte, seval, s2, s3, s6, s7]
  · refine ⟨0, o.length, [.cells .ex 100 0 [.ptr dd 0, .int .i64 (a : Int), .int .i64 (s : Int)], .cells .ex 103 0 [.int .i64 sq, .bool lv, .int .i64 (cnt : Int), .int .u32 sm]], .nils, by omega, rfl, Nat.le_refl _, app_get0 _ _ _, app_getk _ _ 1, .inl ⟨rfl, rfl⟩, ?_⟩
    simp only [go_sem, eqs hxE2, reduceIte, seval, initS]
end
end Go.Proofs.Ytfbkeieoeagkdaa

/- Journal: redo; Open. -/
namespace Go.Proofs.Ytfbkeieoeagkdaa
open Go AM
set_option linter.unusedSimpArgs false
set_option linter.unusedVariables false
set_option maxRecDepth 100000

def dRedo (on : Bool) (st : DSt) (a s : Nat) (sq : Int) (cnt : Nat) (sm : Int) : Int × Int × DSt :=
  match foundE st a s cnt sm with
  | none => (0, 5, st)
  | some cs =>
    if (dPut on st cs).1 ≠ 0 then (0, (dPut on st cs).1, (dPut on st cs).2)
    else ((cs.length : Int), (dMark on (dPut on st cs).2 a (sq + 1) false 0 0).1, (dMark on (dPut on st cs).2 a (sq + 1) false 0 0).2)
theorem foundE_len {st : DSt} {a s cnt : Nat} {sm : Int} {cs : List (Int × Pg)} (h : foundE st a s cnt sm = some cs) : cs.length = cnt := by
  unfold foundE at h
  split at h
  · cases h
  · split at h
    · split at h
      · cases h; exact foundL_len _ _ _
      · cases h
    · cases h
section
variable {o : List AM.Obj} {e d dd pg lm : Nat} {on : Bool} {left : Int} {pgs : List Pg} {ca : List (Nat × Pg)}
theorem fin_lv3 {a : AF} {i j : Nat} (hr : a.res = [.t i, .t j]) {n m : Int} {S : Nat → V} (hS : S i = .int .i64 n) (hS2 : S j = .int .i64 m) {o1 r1 : List AM.Obj} {e1 d1 : Nat} (D : Dx dd pg lm o o1) (L : Low dd pg lm o o1 o.length d1) (he : o.length ≤ e1) (h1 : dd < o.length) (h2 : pg < o.length) (h3 : lm < o.length) {st : DSt} (P1 : PDs o1 dd pg lm on st) {w : Int × Int × DSt} (hw : w = (n, m, st)) :
    ∃ v oh, finish a ⟨o, e, d⟩ (some (.ret, S, ⟨o1 ++ r1, e1, d1⟩)) = some (v, oh) ∧ v = .val (.tuple [.int .i64 w.1, .int .i64 w.2.1]) ∧ ∃ o' d', Lv dd pg lm o e d oh o' d' ∧ PDs o' dd pg lm on w.2.2 := by
  subst hw
  refine ⟨_, _, fin2 (i := i) (j := j) hr, by rw [hS, hS2], ?_⟩
  obtain ⟨d2, q1, q2, q3, q4⟩ := leave_app2 (o := o) (o' := o1) (r := r1) (e := e) (d := d) (e' := e1) (d' := d1) (v := .tuple [.int .i64 n, .int .i64 m]) rfl D.len he (fun h => by
    rcases L.2 with L | L
    · exact L
    · omega)
  refine ⟨o1, d2, ⟨by rw [hS, hS2]; exact q1, D, q4, ?_⟩, P1⟩
  rcases q2 with q2 | q2
  · exact .inl q2
  · rcases L.2 with L | L
    · exact .inl L
    · exact .inr (by omega)
set_option maxHeartbeats 32000000 in
theorem redo_x (P : PD o dd pg lm on false left pgs ca) {a s cnt : Nat} {sq : Int} {lv : Bool} {sm : Int} (hin : a + s ≤ pgs.length) (hpl : pgs.length ≤ 100000) (hc1 : 1 ≤ cnt) (hc5 : cnt ≤ 512) (hq0 : 0 ≤ sq) (hq1 : sq < 2 ^ 59) :
    ∃ r oh, Den FF E2 56 [.agg (regV dd a s), .agg (headV sq lv cnt sm)] ⟨o, e, d⟩ = some (r, oh) ∧ r = .val (.tuple [.int .i64 (dRedo on ⟨false, left, pgs, ca⟩ a s sq cnt sm).1, .int .i64 (dRedo on ⟨false, left, pgs, ca⟩ a s sq cnt sm).2.1]) ∧ ∃ o' d', Lv dd pg lm o e d oh o' d' ∧ PDs o' dd pg lm on (dRedo on ⟨false, left, pgs, ca⟩ a s sq cnt sm).2.2 := by
  refine To.denE hxE2 (f := 56) (a := af56) rfl (E2_none rfl) (Nat.le_of_ble_eq_true rfl) ?_
  have lD := P.ld
  have lP := P.lp
  have lM := P.ll
  have hrv : regV dd a s = [.ptr dd 0, .int .i64 (a : Int), .int .i64 (s : Int)] := rfl
  have hhv : headV sq lv cnt sm = [.int .i64 sq, .bool lv, .int .i64 (cnt : Int), .int .u32 sm] := rfl
  obtain ⟨r0, oh0, q0, v0, rr0, e0, d0, rfl, G0, hx⟩ := found_x (e := o.length) (d := o.length) (P.app [.cells .ex 100 0 [.ptr dd 0, .int .i64 (a : Int), .int .i64 (s : Int)], .cells .ex 103 0 [.int .i64 sq, .bool lv, .int .i64 (cnt : Int), .int .u32 sm]]) (sq := sq) (lv := lv) (sm := sm) hin hpl hc1 hc5
  have he0 : e0 = o.length := by have := G0.e; rw [List.length_append] at this; omega
  have hd0 : d0 = o.length := by have := G0.d; rw [List.length_append] at this; omega
  subst he0 hd0
  rw [hrv, hhv] at q0
  have g0 := G0.eq
  rw [List.append_assoc] at g0
  have ht3 : List.take 3 [V.ptr dd 0, .int .i64 (a : Int), .int .i64 (s : Int)] = [V.ptr dd 0, .int .i64 (a : Int), .int .i64 (s : Int)] := rfl
  unfold dRedo
  cases hf : foundE ⟨false, left, pgs, ca⟩ a s cnt sm with
  | none =>
    rw [hf] at q0
    simp only [Option.isSome_none, Bool.false_eq_true, if_false] at q0
    (repeat' (first | refine To.seq hxE2 ?_ | refine To.op0 hxE2 (by simp only [go_sem, eqs hxE2, reduceIte, seval, Heap.gets, Heap.sets, Heap.get, bytesA_length, bytesA_one, bytesA_plains, List.take_of_length_le, List.drop_of_length_le, Nat.add_zero, V.one, Nat.reduceLeDiff, List.all_cons, List.all_nil, ne_eq, not_false_eq_true, Nat.zero_le, hrv, hhv]; rfl) ?_ | refine To.op1 hxE2 (by simp only [go_sem, eqs hxE2, reduceIte, seval, Heap.gets, Heap.sets, Heap.get, bytesA_length, bytesA_one, bytesA_plains, List.take_of_length_le, List.drop_of_length_le, Nat.add_zero, V.one, Nat.reduceLeDiff, List.all_cons, List.all_nil, ne_eq, not_false_eq_true, Nat.zero_le, hrv, hhv]; rfl) ?_ | refine To.nop hxE2 ?_))
    refine To.op hxE2 (by simp only [go_sem, eqs hxE2, reduceIte, seval, q0]; rfl) ?_
    rw [g0]
    (repeat' (first | refine To.seq hxE2 ?_ | refine To.op0 hxE2 (by simp only [go_sem, eqs hxE2, reduceIte, seval, bne_self_eq_false]; rfl) ?_ | refine To.nop hxE2 ?_ | (refine To.condT hxE2 ?_ ?_; focus (simp only [go_sem, eqs hxE2, reduceIte, seval, bne_self_eq_false]; done)) | refine To.ret hxE2 ?_))
    exact fin_lv3 (i := 4) (j := 5) (n := 0) (m := 5) rfl (by simp only [go_sem, eqs hxE2, reduceIte, seval]) (by simp only [go_sem, eqs hxE2, reduceIte, seval]) Dx.refl Low.refl (Nat.le_refl _) lD lP lM P rfl
  | some cs =>
    rw [hf] at q0
    simp only [Option.isSome_some, if_true] at q0
    have hrow := hx cs hf
    rw [List.append_assoc] at hrow
    have hlen := foundE_len hf
    have hl := hrow.len
    simp only
    have hreg : ∀ (o1 : List AM.Obj) x r, o1.length = o.length → (o1 ++ (x :: r))[o.length]? = some x := fun o1 x r h => by rw [← h]; exact app_get0 _ _ _
    have hhd : ∀ (o1 : List AM.Obj) (x y : AM.Obj) r, o1.length = o.length → (o1 ++ (x :: y :: r))[o.length + 1]? = some y := fun o1 x y r h => by rw [← h]; exact app_getk _ _ 1
    obtain ⟨r2, oh2, q2, rfl, o2', d2, L2, P2⟩ := rput_x (e := o.length) (d := o.length) (a := (a : Int)) (s := (s : Int)) (P.app ([.cells .ex 100 0 [.ptr dd 0, .int .i64 (a : Int), .int .i64 (s : Int)], .cells .ex 103 0 [.int .i64 sq, .bool lv, .int .i64 (cnt : Int), .int .u32 sm]] ++ rr0)) hrow (by omega)
    obtain ⟨o2, rfl, D2⟩ := L2.dx.split lD lP lM
    have hl2 := D2.len
    have P2' := PD.chop P2 (by omega) (by omega) (by omega)
    have M2 := L2.low.chop
    have g2 := L2.eq
    rw [hrv] at q2
    obtain ⟨n1, st1, hw1⟩ : ∃ n1 st1, dPut on ⟨false, left, pgs, ca⟩ cs = (n1, st1) := ⟨_, _, rfl⟩
    rw [hw1] at q2 P2' ⊢
    simp only at q2 P2' ⊢
    have g0r := hreg o (.cells .ex 100 0 [.ptr dd 0, .int .i64 (a : Int), .int .i64 (s : Int)]) (.cells .ex 103 0 [.int .i64 sq, .bool lv, .int .i64 (cnt : Int), .int .u32 sm] :: rr0) rfl
    have g2r := hreg o2 (.cells .ex 100 0 [.ptr dd 0, .int .i64 (a : Int), .int .i64 (s : Int)]) (.cells .ex 103 0 [.int .i64 sq, .bool lv, .int .i64 (cnt : Int), .int .u32 sm] :: rr0) hl2
    have g2h := hhd o2 (.cells .ex 100 0 [.ptr dd 0, .int .i64 (a : Int), .int .i64 (s : Int)]) (.cells .ex 103 0 [.int .i64 sq, .bool lv, .int .i64 (cnt : Int), .int .u32 sm]) rr0 hl2
    simp only [List.cons_append, List.nil_append] at q2 g0 g2
    (repeat' (first | refine To.seq hxE2 ?_ | refine To.op0 hxE2 (by simp only [go_sem, eqs hxE2, reduceIte, seval, Heap.gets, Heap.sets, Heap.get, bytesA_length, bytesA_one, bytesA_plains, List.take_of_length_le, List.drop_of_length_le, Nat.add_zero, V.one, Nat.reduceLeDiff, List.all_cons, List.all_nil, ne_eq, not_false_eq_true, Nat.zero_le, hrv, hhv]; rfl) ?_ | refine To.op1 hxE2 (by simp only [go_sem, eqs hxE2, reduceIte, seval, Heap.gets, Heap.sets, Heap.get, bytesA_length, bytesA_one, bytesA_plains, List.take_of_length_le, List.drop_of_length_le, Nat.add_zero, V.one, Nat.reduceLeDiff, List.all_cons, List.all_nil, ne_eq, not_false_eq_true, Nat.zero_le, hrv, hhv]; rfl) ?_ | refine To.nop hxE2 ?_))
    refine To.op hxE2 (by simp only [go_sem, eqs hxE2, reduceIte, seval, q0]; rfl) ?_
    rw [g0]
    (repeat' (first | refine To.seq hxE2 ?_ | refine To.op0 hxE2 (by simp only [go_sem, eqs hxE2, reduceIte, seval, Heap.gets, Heap.sets, Heap.get, bytesA_length, bytesA_one, bytesA_plains, List.take_of_length_le, List.drop_of_length_le, Nat.add_zero, V.one, Nat.reduceLeDiff, List.all_cons, List.all_nil, ne_eq, not_false_eq_true, Nat.zero_le, g0r, bne_self_eq_false]; rfl) ?_ | refine To.nop hxE2 ?_ | (refine To.condF hxE2 ?_ ?_; focus (simp only [go_sem, eqs hxE2, reduceIte, seval, Heap.gets, Heap.sets, Heap.get, bytesA_length, bytesA_one, bytesA_plains, List.take_of_length_le, List.drop_of_length_le, Nat.add_zero, V.one, Nat.reduceLeDiff, List.all_cons, List.all_nil, ne_eq, not_false_eq_true, Nat.zero_le, g0r, bne_self_eq_false]; done)) | refine To.skip hxE2 ?_))
    refine To.op hxE2 (by simp only [go_sem, eqs hxE2, reduceIte, seval, q2]; rfl) ?_
    rw [g2]
    (repeat' (first | refine To.seq hxE2 ?_ | refine To.op0 hxE2 (by simp only [go_sem, eqs hxE2, reduceIte, seval]; rfl) ?_ | refine To.nop hxE2 ?_))
    by_cases hz1 : n1 = 0
    case neg =>
      have hb : (n1 != 0) = true := by simpa using hz1
      (repeat' (first | refine To.seq hxE2 ?_ | refine To.op0 hxE2 (by simp only [go_sem, eqs hxE2, reduceIte, seval, hb]; rfl) ?_ | refine To.nop hxE2 ?_ | (refine To.condT hxE2 ?_ ?_; focus (simp only [go_sem, eqs hxE2, reduceIte, seval, hb]; done)) | refine To.ret hxE2 ?_))
      exact fin_lv3 (i := 4) (j := 5) (n := 0) (m := n1) rfl (by simp only [go_sem, eqs hxE2, reduceIte, seval]) (by simp only [go_sem, eqs hxE2, reduceIte, seval]) D2 M2 (Nat.le_refl _) lD lP lM P2' (by rw [if_pos (by simpa using hz1)])
    subst hz1
    rw [if_neg (by simp)]
    obtain ⟨r3, oh3, q3, rfl, o3', d3, L3, P3⟩ := mark_x (e := o.length) (d := d2) (a := (a : Int)) (s := (s : Int)) (sq := sq + 1) (lv := false) (c := 0) (sm := 0) (P2'.app (.cells .ex 100 0 [.ptr dd 0, .int .i64 (a : Int), .int .i64 (s : Int)] :: .cells .ex 103 0 [.int .i64 sq, .bool lv, .int .i64 (cnt : Int), .int .u32 sm] :: rr0)) (by omega) (by omega)
    obtain ⟨o3, rfl, D3⟩ := L3.dx.split (by omega) (by omega) (by omega)
    have hl3 := D3.len
    have P3' := PD.chop P3 (by omega) (by omega) (by omega)
    have M3 := M2.trans L3.low.chop
    have g3 := L3.eq
    have hw2 : dMark on ⟨st1.down, st1.left, st1.pgs, st1.ca⟩ a (sq + 1) false 0 0 = dMark on st1 a (sq + 1) false 0 0 := rfl
    rw [hw2] at q3 P3'
    have hhv2 : headV (sq + 1) false 0 0 = [.int .i64 (sq + 1), .bool false, .int .i64 0, .int .u32 0] := rfl
    rw [hrv, hhv2] at q3
    have wq : IntKind.i64.wrap (sq + 1) = sq + 1 := wrap_i64 (by omega) (by omega)
    generalize dMark on st1 a (sq + 1) false 0 0 = w2 at *
    obtain ⟨n2, st2⟩ := w2
    simp only at q3 P3' ⊢
    (repeat' (first | refine To.seq hxE2 ?_ | refine To.op0 hxE2 (by simp only [go_sem, eqs hxE2, reduceIte, seval, Heap.gets, Heap.sets, Heap.get, bytesA_length, bytesA_one, bytesA_plains, List.take_of_length_le, List.drop_of_length_le, Nat.add_zero, V.one, Nat.reduceLeDiff, List.all_cons, List.all_nil, ne_eq, not_false_eq_true, Nat.zero_le, hl, g2r, g2h, wq, bne_self_eq_false]; rfl) ?_ | (refine To.condF hxE2 ?_ ?_; focus (simp only [go_sem, eqs hxE2, reduceIte, seval, Heap.gets, Heap.sets, Heap.get, bytesA_length, bytesA_one, bytesA_plains, List.take_of_length_le, List.drop_of_length_le, Nat.add_zero, V.one, Nat.reduceLeDiff, List.all_cons, List.all_nil, ne_eq, not_false_eq_true, Nat.zero_le, hl, g2r, g2h, wq, bne_self_eq_false]; done)) | refine To.skip hxE2 ?_))
    refine To.op hxE2 (by simp only [go_sem, eqs hxE2, reduceIte, seval, q3]; rfl) ?_
    rw [g3]
    (repeat' (first | refine To.op0 hxE2 (by simp only [go_sem, eqs hxE2, reduceIte, seval]; rfl) ?_ | refine To.nop hxE2 ?_ | refine To.ret hxE2 ?_))
    exact fin_lv3 (i := 4) (j := 5) (n := (cs.length : Int)) (m := n2) rfl (by simp only [go_sem, eqs hxE2, reduceIte, seval]) (by simp only [go_sem, eqs hxE2, reduceIte, seval]) (D2.trans D3) M3 (Nat.le_refl _) lD lP lM P3' rfl
end
end Go.Proofs.Ytfbkeieoeagkdaa

/- Journal: Open. -/
namespace Go.Proofs.Ytfbkeieoeagkdaa
open Go AM
set_option linter.unusedSimpArgs false
set_option linter.unusedVariables false
set_option maxRecDepth 100000

def openB (w : Int × Int × DSt) (sq : Int) : Int × Int × Int × DSt := if w.2.1 ≠ 0 then (w.2.1, 0, 0, w.2.2) else (0, sq, w.1, w.2.2)
def openM (w : Int × DSt) (sq : Int) : Int × Int × Int × DSt := if w.1 ≠ 0 then (w.1, 0, 0, w.2) else (0, sq, 0, w.2)
def dOpenP (on : Bool) (st : DSt) (a s : Nat) (p : Pg) : Int × Int × Int × DSt :=
  if (wholeP p && liveP p) = true then openB (dRedo on st a s (getK p 0 4 : Int) (getK p 5 2) (getK p 7 4 : Int)) ((getK p 0 4 : Int) + 2)
  else openM (dMark on st a (nextP p : Int) false 0 0) ((nextP p : Int) + 1)
/-- Open's error, the journal's number, the changes made, the disk's state. -/
def dOpen (on : Bool) (st : DSt) (a s : Nat) : Int × Int × Int × DSt :=
  if st.down = true then (5, 0, 0, st) else dOpenP on st a s (readP false st.pgs st.ca (a : Int))
section
variable {o : List AM.Obj} {e d dd pg lm : Nat} {on down : Bool} {left : Int} {pgs : List Pg} {ca : List (Nat × Pg)}
theorem fin3 {a : AF} {h : Heap} {S : Nat → V} {h' : Heap} {i j k : Nat} (hr : a.res = [.t i, .t j, .t k]) : finish a h (some (.ret, S, h')) = some (.val (.tuple [S i, S j, S k]), leave h h' (.tuple [S i, S j, S k])) := by
  simp only [finish, hr, resAll, resOne, resV]; rfl
/-- What Open leaves. -/
def OpenR (dd pg lm : Nat) (on : Bool) (o : List AM.Obj) (e d : Nat) (a s : Nat) (r : Out) (oh : Option Heap) (w : Int × Int × Int × DSt) : Prop :=
  (w.1 ≠ 0 ∧ r = .val (.tuple [.nilp, .int .i64 0, .int .i64 w.1]) ∧ ∃ o' d', Lv dd pg lm o e d oh o' d' ∧ PDs o' dd pg lm on w.2.2.2) ∨
  (w.1 = 0 ∧ ∃ jl, r = .val (.tuple [.ptr jl 0, .int .i64 w.2.2.1, .int .i64 0]) ∧ o.length ≤ jl ∧ ∃ o' rr e' d', oh.getD ⟨o, e, d⟩ = ⟨o' ++ rr, e', d'⟩ ∧ Dx dd pg lm o o' ∧ Low dd pg lm o o' d d' ∧ min e o.length ≤ e' ∧ e' ≤ e ∧ PJ (o' ++ rr) jl dd pg lm a s w.2.1 false on w.2.2.2)
theorem fin_open_no {S : Nat → V} {n : Int} (h6 : S 6 = .nilp) (h7 : S 7 = .int .i64 0) (h8 : S 8 = .int .i64 n) {o1 r1 : List AM.Obj} {e1 d1 : Nat} (D : Dx dd pg lm o o1) (L : Low dd pg lm o o1 o.length d1) (he : o.length ≤ e1) (h1 : dd < o.length) (h2 : pg < o.length) (h3 : lm < o.length) {st : DSt} (P1 : PDs o1 dd pg lm on st) {a s : Nat} (hn : n ≠ 0) :
    ∃ v oh, finish af31 ⟨o, e, d⟩ (some (.ret, S, ⟨o1 ++ r1, e1, d1⟩)) = some (v, oh) ∧ OpenR dd pg lm on o e d a s v oh (n, 0, 0, st) := by
  refine ⟨_, _, fin3 (i := 6) (j := 7) (k := 8) rfl, .inl ⟨hn, by rw [h6, h7, h8], ?_⟩⟩
  obtain ⟨d2, q1, q2, q3, q4⟩ := leave_app2 (o := o) (o' := o1) (r := r1) (e := e) (d := d) (e' := e1) (d' := d1) (v := .tuple [.nilp, .int .i64 0, .int .i64 n]) rfl D.len he (fun h => by
    rcases L.2 with L | L
    · exact L
    · omega)
  refine ⟨o1, d2, ⟨by rw [h6, h7, h8]; exact q1, D, q4, ?_⟩, P1⟩
  rcases q2 with q2 | q2
  · exact .inl q2
  · rcases L.2 with L | L
    · exact .inl L
    · exact .inr (by omega)
theorem fin_open {S : Nat → V} {n sq : Int} {jl : Nat} (h6 : S 6 = .ptr jl 0) (h7 : S 7 = .int .i64 n) (h8 : S 8 = .int .i64 0) {o1 r1 : List AM.Obj} {e1 d1 : Nat} (D : Dx dd pg lm o o1) (L : Low dd pg lm o o1 o.length d1) (he : o.length ≤ e1) (h1 : dd < o.length) (h2 : pg < o.length) (h3 : lm < o.length) {st : DSt} {a s : Nat} (hj : o.length ≤ jl) (J : PJ (o1 ++ r1) jl dd pg lm a s sq false on st) :
    ∃ v oh, finish af31 ⟨o, e, d⟩ (some (.ret, S, ⟨o1 ++ r1, e1, d1⟩)) = some (v, oh) ∧ OpenR dd pg lm on o e d a s v oh (0, sq, n, st) := by
  refine ⟨_, _, fin3 (i := 6) (j := 7) (k := 8) rfl, .inr ⟨rfl, jl, by rw [h6, h7, h8], hj, o1, r1, min e e1, min d d1, ?_, D, ⟨Nat.min_le_left _ _, ?_⟩, by omega, Nat.min_le_left _ _, J⟩⟩
  · rw [h6, h7, h8]
    unfold leave
    simp only
    rw [if_neg (by simp [V.plain, V.plains])]; rfl
  · rcases L.2 with L | L
    · exact .inl L
    · exact .inr (by omega)
set_option maxHeartbeats 32000000 in
theorem open_x (P : PD o dd pg lm on down left pgs ca) {a s : Nat} (hr : 1 ≤ roomJ s) (hin : a + s ≤ pgs.length) (hs1 : 1 ≤ s) (hpl : pgs.length ≤ 100000) :
    ∃ r oh, Den FF E2 31 [.ptr dd 0, .int .i64 (a : Int), .int .i64 (s : Int)] ⟨o, e, d⟩ = some (r, oh) ∧ OpenR dd pg lm on o e d a s r oh (dOpen on ⟨down, left, pgs, ca⟩ a s) := by
  refine To.denE hxE2 (f := 31) (a := af31) rfl (E2_none rfl) (Nat.le_of_ble_eq_true rfl) ?_
  have lD := P.ld
  have lP := P.lp
  have lM := P.ll
  have qd := fun r e d => down_q (e := e) (d := d) (P.app r)
  have qp := fun r e d => pages_q (e := e) (d := d) (P.app r)
  have qrd := fun r e d => read_q (e := e) (d := d) (P.app r) (a : Int)
  have qr := fun r e d => room_q (o := o ++ r) (e := e) (d := d) (size := (s : Int))
  have qd0 := fun e d => down_q (e := e) (d := d) P
  have qp0 := fun e d => pages_q (e := e) (d := d) P
  have qr0 := fun e d => room_q (o := o) (e := e) (d := d) (size := (s : Int))
  have hrv : regV dd a s = [.ptr dd 0, .int .i64 (a : Int), .int .i64 (s : Int)] := rfl
  unfold dOpen
  cases hdn : down
  case true =>
    subst hdn
    have h0 : hasE true pgs.length (a : Int) = 5 := by unfold hasE; rw [if_pos rfl]
    have hz : readP true pgs ca (a : Int) = List.replicate 64 0 := rfl
    rw [h0] at qrd
    have h64 : (bytesA (readP true pgs ca (a : Int))).length = 64 := by rw [bytesA_length, hz]; rfl
    generalize readP true pgs ca (a : Int) = p at *
    have htk : List.take 64 (bytesA p) = bytesA p := List.take_of_length_le (by omega)
    have hdr : List.drop 64 (bytesA p) = [] := List.drop_eq_nil_of_le (by omega)
    (repeat' (first | refine To.seq hxE2 ?_ | refine To.op0 hxE2 (by simp only [go_sem, eqs hxE2, reduceIte, seval, Heap.gets, Heap.sets, Heap.get, bytesA_length, bytesA_one, bytesA_plains, List.take_of_length_le, List.drop_of_length_le, Nat.add_zero, V.one, Nat.reduceLeDiff, List.all_cons, List.all_nil, ne_eq, not_false_eq_true, Nat.zero_le, qd0, qp0, qr0, qd, qp, qr, qrd, h64, htk, hdr, z64_len, z64_drop, z64_one, z64_plains, List.append_nil]; rfl) ?_ | refine To.op1 hxE2 (by simp only [go_sem, eqs hxE2, reduceIte, seval, Heap.gets, Heap.sets, Heap.get, bytesA_length, bytesA_one, bytesA_plains, List.take_of_length_le, List.drop_of_length_le, Nat.add_zero, V.one, Nat.reduceLeDiff, List.all_cons, List.all_nil, ne_eq, not_false_eq_true, Nat.zero_le, qd0, qp0, qr0, qd, qp, qr, qrd, h64, htk, hdr, z64_len, z64_drop, z64_one, z64_plains, List.append_nil]; rfl) ?_ | refine To.nop hxE2 ?_ | (refine To.condT hxE2 ?_ ?_; focus (simp only [go_sem, eqs hxE2, reduceIte, seval, Heap.gets, Heap.sets, Heap.get, bytesA_length, bytesA_one, bytesA_plains, List.take_of_length_le, List.drop_of_length_le, Nat.add_zero, V.one, Nat.reduceLeDiff, List.all_cons, List.all_nil, ne_eq, not_false_eq_true, Nat.zero_le, qd0, qp0, qr0, qd, qp, qr, qrd, h64, htk, hdr, z64_len, z64_drop, z64_one, z64_plains, List.append_nil]; done)) | (refine To.condF hxE2 ?_ ?_; focus (simp only [go_sem, eqs hxE2, reduceIte, seval, Heap.gets, Heap.sets, Heap.get, bytesA_length, bytesA_one, bytesA_plains, List.take_of_length_le, List.drop_of_length_le, Nat.add_zero, V.one, Nat.reduceLeDiff, List.all_cons, List.all_nil, ne_eq, not_false_eq_true, Nat.zero_le, qd0, qp0, qr0, qd, qp, qr, qrd, h64, htk, hdr, z64_len, z64_drop, z64_one, z64_plains, List.append_nil]; done)) | refine To.ret hxE2 ?_ | refine To.skip hxE2 ?_))
    exact fin_open_no (n := 5) (by simp only [go_sem, eqs hxE2, reduceIte, seval]) (by simp only [go_sem, eqs hxE2, reduceIte, seval]) (by simp only [go_sem, eqs hxE2, reduceIte, seval]) Dx.refl (Low.refl.less (by omega)) (by omega) lD lP lM P (by decide)
  subst hdn
  have h0 : hasE false pgs.length (a : Int) = 0 := by unfold hasE; rw [if_neg (by simp), if_neg (by rintro (h | h) <;> omega)]
  have h64 := readP_64 P a (by omega)
  rw [h0] at qrd
  have hrl := roomJ_le (s : Int)
  have b1 : ((roomJ (s : Int) : Int) == 0) = false := by simp; omega
  have b2 : decide ((a : Int) < 0) = false := decide_eq_false (by omega)
  have b3 : decide ((pgs.length : Int) < (a : Int)) = false := decide_eq_false (by omega)
  have w1 : IntKind.i64.wrap ((pgs.length : Int) - (a : Int)) = (pgs.length : Int) - (a : Int) := wrap_i64 (by omega) (by omega)
  have b4 : decide ((pgs.length : Int) - (a : Int) < (s : Int)) = false := decide_eq_false (by omega)
  simp only [Bool.false_eq_true, if_false]
  generalize readP false pgs ca (a : Int) = p at *
  unfold dOpenP
  have qdec := fun r e d => decode_q (o := o ++ r) (e := e) (d := d) h64
  have hbl : (bytesA p).length = 64 := by rw [bytesA_length]; exact h64
  have htk : List.take 64 (bytesA p) = bytesA p := List.take_of_length_le (by omega)
  have hdr : List.drop 64 (bytesA p) = [] := List.drop_eq_nil_of_le (by omega)
  have gp : ∀ (x y : AM.Obj) r, (o ++ (x :: y :: r))[o.length + 1]? = some y := fun x y r => app_getk _ _ 1
  have gh : ∀ (x y z : AM.Obj) r, (o ++ (x :: y :: z :: r))[o.length + 2]? = some z := fun x y z r => app_getk _ _ 2
  have s0 : getK p 0 4 < 4294967296 := getK_lt p 0 4
  have hm1 : min o.length (o.length + 1) = o.length := by omega
  have hm2 : min o.length (o.length + 2) = o.length := by omega
  have hpc : pgC [p] = bytesA p := by simp [pgC]
  have s3 : getK p 60 4 < 4294967296 := getK_lt p 60 4
  have hnx : nextP p ≤ 4294967296 := by unfold nextP; omega
  cases hw : wholeP p
  · rw [hw] at qdec
    simp only [Bool.false_and, Bool.false_eq_true, if_false] at qdec ⊢
    have hv0 : headV 0 false 0 0 = [.int .i64 0, .bool false, .int .i64 0, .int .u32 0] := rfl
    rw [hv0] at qdec
    have qn := fun e d => next_q (o := o ++ [.cells .ex 100 0 [.ptr dd 0, .int .i64 (a : Int), .int .i64 (s : Int)], .cells .ex 31 0 (bytesA p), .cells .ex 103 0 [.int .i64 0, .bool false, .int .i64 0, .int .u32 0], .cells .ex 31 0 (bytesA p)]) (e := e) (d := d) (v := .slice (o.length + 3) 0 1 64) (p := p) ⟨rfl, fun _ => ⟨o.length + 3, .ex, 31, rfl, by rw [app_getk _ _ 3, hpc]; rfl⟩, fun x hx => by rw [List.mem_singleton.1 hx]; exact h64⟩
    (repeat' (first | refine To.seq hxE2 ?_ | refine To.op0 hxE2 (by simp only [go_sem, eqs hxE2, reduceIte, seval, Heap.gets, Heap.sets, Heap.get, bytesA_length, bytesA_one, bytesA_plains, List.take_of_length_le, List.drop_of_length_le, Nat.add_zero, V.one, Nat.reduceLeDiff, List.all_cons, List.all_nil, ne_eq, not_false_eq_true, Nat.zero_le, qd0, qp0, qr0, qd, qp, qr, qrd, qdec, b1, b2, b3, b4, w1, hbl, h64, htk, hdr, gp, gh, z64_len, z64_drop, z64_one, z64_plains, List.append_nil, bne_self_eq_false, hm1, hm2, qn]; rfl) ?_ | refine To.op1 hxE2 (by simp only [go_sem, eqs hxE2, reduceIte, seval, Heap.gets, Heap.sets, Heap.get, bytesA_length, bytesA_one, bytesA_plains, List.take_of_length_le, List.drop_of_length_le, Nat.add_zero, V.one, Nat.reduceLeDiff, List.all_cons, List.all_nil, ne_eq, not_false_eq_true, Nat.zero_le, qd0, qp0, qr0, qd, qp, qr, qrd, qdec, b1, b2, b3, b4, w1, hbl, h64, htk, hdr, gp, gh, z64_len, z64_drop, z64_one, z64_plains, List.append_nil, bne_self_eq_false, hm1, hm2, qn]; rfl) ?_ | refine To.nop hxE2 ?_ | (refine To.condF hxE2 ?_ ?_; focus (simp only [go_sem, eqs hxE2, reduceIte, seval, Heap.gets, Heap.sets, Heap.get, bytesA_length, bytesA_one, bytesA_plains, List.take_of_length_le, List.drop_of_length_le, Nat.add_zero, V.one, Nat.reduceLeDiff, List.all_cons, List.all_nil, ne_eq, not_false_eq_true, Nat.zero_le, qd0, qp0, qr0, qd, qp, qr, qrd, qdec, b1, b2, b3, b4, w1, hbl, h64, htk, hdr, gp, gh, z64_len, z64_drop, z64_one, z64_plains, List.append_nil, bne_self_eq_false, hm1, hm2, qn]; done)) | refine To.skip hxE2 ?_))
    obtain ⟨r2, oh2, q2, rfl, o2', d2, L2, P2⟩ := mark_x (e := o.length) (d := o.length) (a := (a : Int)) (s := (s : Int)) (sq := (nextP p : Int)) (lv := false) (c := 0) (sm := 0) (P.app [.cells .ex 100 0 [.ptr dd 0, .int .i64 (a : Int), .int .i64 (s : Int)], .cells .ex 31 0 (bytesA p), .cells .ex 103 0 [.int .i64 0, .bool false, .int .i64 0, .int .u32 0], .cells .ex 31 0 (bytesA p)]) (by omega) (by omega)
    obtain ⟨o2, rfl, D2⟩ := L2.dx.split lD lP lM
    have hl2 := D2.len
    have P2' := PD.chop P2 (by omega) (by omega) (by omega)
    have M2 := L2.low.chop
    have g2 := L2.eq
    have hhv2 : headV (nextP p : Int) false 0 0 = [.int .i64 (nextP p : Int), .bool false, .int .i64 0, .int .u32 0] := rfl
    rw [hrv, hhv2] at q2
    have gr2 : ∀ x r, (o2 ++ (x :: r))[o.length]? = some x := fun x r => by rw [← hl2]; exact app_get0 _ _ _
    have wn : IntKind.i64.wrap ((nextP p : Int) + 1) = (nextP p : Int) + 1 := wrap_i64 (by omega) (by omega)
    generalize dMark on ⟨false, left, pgs, ca⟩ (a : Int) (nextP p : Int) false 0 0 = w2 at *
    obtain ⟨n2, st2⟩ := w2
    simp only at q2 P2' ⊢
    refine To.op hxE2 (by simp only [go_sem, eqs hxE2, reduceIte, seval, q2]; rfl) ?_
    rw [g2]
    (repeat' (first | refine To.seq hxE2 ?_ | refine To.op0 hxE2 (by simp only [go_sem, eqs hxE2, reduceIte, seval]; rfl) ?_ | refine To.nop hxE2 ?_))
    unfold openM
    simp only
    by_cases hz : n2 = 0
    case neg =>
      have hb : (n2 != 0) = true := by simpa using hz
      rw [if_pos (by simpa using hz)]
      (repeat' (first | refine To.seq hxE2 ?_ | refine To.op0 hxE2 (by simp only [go_sem, eqs hxE2, reduceIte, seval, hb]; rfl) ?_ | refine To.nop hxE2 ?_ | (refine To.condT hxE2 ?_ ?_; focus (simp only [go_sem, eqs hxE2, reduceIte, seval, hb]; done)) | refine To.ret hxE2 ?_))
      exact fin_open_no (n := n2) (by simp only [go_sem, eqs hxE2, reduceIte, seval]) (by simp only [go_sem, eqs hxE2, reduceIte, seval]) (by simp only [go_sem, eqs hxE2, reduceIte, seval]) D2 M2 (Nat.le_refl _) lD lP lM P2' hz
    subst hz
    rw [if_neg (by simp)]
    have hJ : ∀ r x, (o2 ++ (r ++ [x]))[o2.length + r.length]? = some x := fun r x => by rw [app_getk]; simp
    (repeat' (first | refine To.seq hxE2 ?_ | refine To.op0 hxE2 (by simp only [go_sem, eqs hxE2, reduceIte, seval, Heap.gets, Heap.sets, Heap.get, bytesA_length, bytesA_one, bytesA_plains, List.take_of_length_le, List.drop_of_length_le, Nat.add_zero, V.one, Nat.reduceLeDiff, List.all_cons, List.all_nil, ne_eq, not_false_eq_true, Nat.zero_le, gr2, wn, bne_self_eq_false]; rfl) ?_ | refine To.op1 hxE2 (by simp only [go_sem, eqs hxE2, reduceIte, seval, Heap.gets, Heap.sets, Heap.get, bytesA_length, bytesA_one, bytesA_plains, List.take_of_length_le, List.drop_of_length_le, Nat.add_zero, V.one, Nat.reduceLeDiff, List.all_cons, List.all_nil, ne_eq, not_false_eq_true, Nat.zero_le, gr2, wn, bne_self_eq_false]; rfl) ?_ | refine To.nop hxE2 ?_ | (refine To.condF hxE2 ?_ ?_; focus (simp only [go_sem, eqs hxE2, reduceIte, seval, Heap.gets, Heap.sets, Heap.get, bytesA_length, bytesA_one, bytesA_plains, List.take_of_length_le, List.drop_of_length_le, Nat.add_zero, V.one, Nat.reduceLeDiff, List.all_cons, List.all_nil, ne_eq, not_false_eq_true, Nat.zero_le, gr2, wn, bne_self_eq_false]; done)) | refine To.ret hxE2 ?_ | refine To.skip hxE2 ?_))
    refine fin_open (jl := o2.length + 4) (by simp only [go_sem, eqs hxE2, reduceIte, seval]) (by simp only [go_sem, eqs hxE2, reduceIte, seval]) (by simp only [go_sem, eqs hxE2, reduceIte, seval]) D2 M2 (Nat.le_refl _) lD lP lM (by omega) ⟨?_, PD.app P2' _⟩
    exact hJ [_, _, _, _] _
  · rw [hw] at qdec
    simp only [Bool.true_and, if_true] at qdec ⊢
    have hv1 : headV (getK p 0 4 : Int) (liveP p) (getK p 5 2 : Int) (getK p 7 4 : Int) = [.int .i64 (getK p 0 4 : Int), .bool (liveP p), .int .i64 (getK p 5 2 : Int), .int .u32 (getK p 7 4 : Int)] := rfl
    rw [hv1] at qdec
    cases hlv : liveP p
    · rw [hlv] at qdec
      simp only [Bool.false_eq_true, if_false]
      have qn := fun e d => next_q (o := o ++ [.cells .ex 100 0 [.ptr dd 0, .int .i64 (a : Int), .int .i64 (s : Int)], .cells .ex 31 0 (bytesA p), .cells .ex 103 0 [.int .i64 (getK p 0 4 : Int), .bool false, .int .i64 (getK p 5 2 : Int), .int .u32 (getK p 7 4 : Int)], .cells .ex 31 0 (bytesA p)]) (e := e) (d := d) (v := .slice (o.length + 3) 0 1 64) (p := p) ⟨rfl, fun _ => ⟨o.length + 3, .ex, 31, rfl, by rw [app_getk _ _ 3, hpc]; rfl⟩, fun x hx => by rw [List.mem_singleton.1 hx]; exact h64⟩
      (repeat' (first | refine To.seq hxE2 ?_ | refine To.op0 hxE2 (by simp only [go_sem, eqs hxE2, reduceIte, seval, Heap.gets, Heap.sets, Heap.get, bytesA_length, bytesA_one, bytesA_plains, List.take_of_length_le, List.drop_of_length_le, Nat.add_zero, V.one, Nat.reduceLeDiff, List.all_cons, List.all_nil, ne_eq, not_false_eq_true, Nat.zero_le, qd0, qp0, qr0, qd, qp, qr, qrd, qdec, b1, b2, b3, b4, w1, hbl, h64, htk, hdr, gp, gh, z64_len, z64_drop, z64_one, z64_plains, List.append_nil, bne_self_eq_false, hm1, hm2, qn]; rfl) ?_ | refine To.op1 hxE2 (by simp only [go_sem, eqs hxE2, reduceIte, seval, Heap.gets, Heap.sets, Heap.get, bytesA_length, bytesA_one, bytesA_plains, List.take_of_length_le, List.drop_of_length_le, Nat.add_zero, V.one, Nat.reduceLeDiff, List.all_cons, List.all_nil, ne_eq, not_false_eq_true, Nat.zero_le, qd0, qp0, qr0, qd, qp, qr, qrd, qdec, b1, b2, b3, b4, w1, hbl, h64, htk, hdr, gp, gh, z64_len, z64_drop, z64_one, z64_plains, List.append_nil, bne_self_eq_false, hm1, hm2, qn]; rfl) ?_ | refine To.nop hxE2 ?_ | (refine To.condF hxE2 ?_ ?_; focus (simp only [go_sem, eqs hxE2, reduceIte, seval, Heap.gets, Heap.sets, Heap.get, bytesA_length, bytesA_one, bytesA_plains, List.take_of_length_le, List.drop_of_length_le, Nat.add_zero, V.one, Nat.reduceLeDiff, List.all_cons, List.all_nil, ne_eq, not_false_eq_true, Nat.zero_le, qd0, qp0, qr0, qd, qp, qr, qrd, qdec, b1, b2, b3, b4, w1, hbl, h64, htk, hdr, gp, gh, z64_len, z64_drop, z64_one, z64_plains, List.append_nil, bne_self_eq_false, hm1, hm2, qn]; done)) | refine To.skip hxE2 ?_))
      obtain ⟨r2, oh2, q2, rfl, o2', d2, L2, P2⟩ := mark_x (e := o.length) (d := o.length) (a := (a : Int)) (s := (s : Int)) (sq := (nextP p : Int)) (lv := false) (c := 0) (sm := 0) (P.app [.cells .ex 100 0 [.ptr dd 0, .int .i64 (a : Int), .int .i64 (s : Int)], .cells .ex 31 0 (bytesA p), .cells .ex 103 0 [.int .i64 (getK p 0 4 : Int), .bool false, .int .i64 (getK p 5 2 : Int), .int .u32 (getK p 7 4 : Int)], .cells .ex 31 0 (bytesA p)]) (by omega) (by omega)
      obtain ⟨o2, rfl, D2⟩ := L2.dx.split lD lP lM
      have hl2 := D2.len
      have P2' := PD.chop P2 (by omega) (by omega) (by omega)
      have M2 := L2.low.chop
      have g2 := L2.eq
      have hhv2 : headV (nextP p : Int) false 0 0 = [.int .i64 (nextP p : Int), .bool false, .int .i64 0, .int .u32 0] := rfl
      rw [hrv, hhv2] at q2
      have gr2 : ∀ x r, (o2 ++ (x :: r))[o.length]? = some x := fun x r => by rw [← hl2]; exact app_get0 _ _ _
      have wn : IntKind.i64.wrap ((nextP p : Int) + 1) = (nextP p : Int) + 1 := wrap_i64 (by omega) (by omega)
      generalize dMark on ⟨false, left, pgs, ca⟩ (a : Int) (nextP p : Int) false 0 0 = w2 at *
      obtain ⟨n2, st2⟩ := w2
      simp only at q2 P2' ⊢
      refine To.op hxE2 (by simp only [go_sem, eqs hxE2, reduceIte, seval, q2]; rfl) ?_
      rw [g2]
      (repeat' (first | refine To.seq hxE2 ?_ | refine To.op0 hxE2 (by simp only [go_sem, eqs hxE2, reduceIte, seval]; rfl) ?_ | refine To.nop hxE2 ?_))
      unfold openM
      simp only
      by_cases hz : n2 = 0
      case neg =>
        have hb : (n2 != 0) = true := by simpa using hz
        rw [if_pos (by simpa using hz)]
        (repeat' (first | refine To.seq hxE2 ?_ | refine To.op0 hxE2 (by simp only [go_sem, eqs hxE2, reduceIte, seval, hb]; rfl) ?_ | refine To.nop hxE2 ?_ | (refine To.condT hxE2 ?_ ?_; focus (simp only [go_sem, eqs hxE2, reduceIte, seval, hb]; done)) | refine To.ret hxE2 ?_))
        exact fin_open_no (n := n2) (by simp only [go_sem, eqs hxE2, reduceIte, seval]) (by simp only [go_sem, eqs hxE2, reduceIte, seval]) (by simp only [go_sem, eqs hxE2, reduceIte, seval]) D2 M2 (Nat.le_refl _) lD lP lM P2' hz
      subst hz
      rw [if_neg (by simp)]
      have hJ : ∀ r x, (o2 ++ (r ++ [x]))[o2.length + r.length]? = some x := fun r x => by rw [app_getk]; simp
      (repeat' (first | refine To.seq hxE2 ?_ | refine To.op0 hxE2 (by simp only [go_sem, eqs hxE2, reduceIte, seval, Heap.gets, Heap.sets, Heap.get, bytesA_length, bytesA_one, bytesA_plains, List.take_of_length_le, List.drop_of_length_le, Nat.add_zero, V.one, Nat.reduceLeDiff, List.all_cons, List.all_nil, ne_eq, not_false_eq_true, Nat.zero_le, gr2, wn, bne_self_eq_false]; rfl) ?_ | refine To.op1 hxE2 (by simp only [go_sem, eqs hxE2, reduceIte, seval, Heap.gets, Heap.sets, Heap.get, bytesA_length, bytesA_one, bytesA_plains, List.take_of_length_le, List.drop_of_length_le, Nat.add_zero, V.one, Nat.reduceLeDiff, List.all_cons, List.all_nil, ne_eq, not_false_eq_true, Nat.zero_le, gr2, wn, bne_self_eq_false]; rfl) ?_ | refine To.nop hxE2 ?_ | (refine To.condF hxE2 ?_ ?_; focus (simp only [go_sem, eqs hxE2, reduceIte, seval, Heap.gets, Heap.sets, Heap.get, bytesA_length, bytesA_one, bytesA_plains, List.take_of_length_le, List.drop_of_length_le, Nat.add_zero, V.one, Nat.reduceLeDiff, List.all_cons, List.all_nil, ne_eq, not_false_eq_true, Nat.zero_le, gr2, wn, bne_self_eq_false]; done)) | refine To.ret hxE2 ?_ | refine To.skip hxE2 ?_))
      refine fin_open (jl := o2.length + 4) (by simp only [go_sem, eqs hxE2, reduceIte, seval]) (by simp only [go_sem, eqs hxE2, reduceIte, seval]) (by simp only [go_sem, eqs hxE2, reduceIte, seval]) D2 M2 (Nat.le_refl _) lD lP lM (by omega) ⟨?_, PD.app P2' _⟩
      exact hJ [_, _, _, _] _
    · rw [hlv] at qdec
      simp only [if_true]
      have hri : rightH (getK p 0 4) true (getK p 5 2) (getK p 7 4) = true := by
        unfold wholeP at hw
        rw [hlv] at hw
        exact (Bool.and_eq_true_iff.1 hw).1
      have hcn : 1 ≤ getK p 5 2 ∧ getK p 5 2 ≤ 512 := by
        unfold rightH at hri
        have := of_decide_eq_true ((Bool.and_eq_true_iff.1 hri).2)
        omega
      (repeat' (first | refine To.seq hxE2 ?_ | refine To.op0 hxE2 (by simp only [go_sem, eqs hxE2, reduceIte, seval, Heap.gets, Heap.sets, Heap.get, bytesA_length, bytesA_one, bytesA_plains, List.take_of_length_le, List.drop_of_length_le, Nat.add_zero, V.one, Nat.reduceLeDiff, List.all_cons, List.all_nil, ne_eq, not_false_eq_true, Nat.zero_le, qd0, qp0, qr0, qd, qp, qr, qrd, qdec, b1, b2, b3, b4, w1, hbl, h64, htk, hdr, gp, gh, z64_len, z64_drop, z64_one, z64_plains, List.append_nil, bne_self_eq_false, hm1, hm2]; rfl) ?_ | refine To.op1 hxE2 (by simp only [go_sem, eqs hxE2, reduceIte, seval, Heap.gets, Heap.sets, Heap.get, bytesA_length, bytesA_one, bytesA_plains, List.take_of_length_le, List.drop_of_length_le, Nat.add_zero, V.one, Nat.reduceLeDiff, List.all_cons, List.all_nil, ne_eq, not_false_eq_true, Nat.zero_le, qd0, qp0, qr0, qd, qp, qr, qrd, qdec, b1, b2, b3, b4, w1, hbl, h64, htk, hdr, gp, gh, z64_len, z64_drop, z64_one, z64_plains, List.append_nil, bne_self_eq_false, hm1, hm2]; rfl) ?_ | refine To.nop hxE2 ?_ | (refine To.condT hxE2 ?_ ?_; focus (simp only [go_sem, eqs hxE2, reduceIte, seval, Heap.gets, Heap.sets, Heap.get, bytesA_length, bytesA_one, bytesA_plains, List.take_of_length_le, List.drop_of_length_le, Nat.add_zero, V.one, Nat.reduceLeDiff, List.all_cons, List.all_nil, ne_eq, not_false_eq_true, Nat.zero_le, qd0, qp0, qr0, qd, qp, qr, qrd, qdec, b1, b2, b3, b4, w1, hbl, h64, htk, hdr, gp, gh, z64_len, z64_drop, z64_one, z64_plains, List.append_nil, bne_self_eq_false, hm1, hm2]; done)) | (refine To.condF hxE2 ?_ ?_; focus (simp only [go_sem, eqs hxE2, reduceIte, seval, Heap.gets, Heap.sets, Heap.get, bytesA_length, bytesA_one, bytesA_plains, List.take_of_length_le, List.drop_of_length_le, Nat.add_zero, V.one, Nat.reduceLeDiff, List.all_cons, List.all_nil, ne_eq, not_false_eq_true, Nat.zero_le, qd0, qp0, qr0, qd, qp, qr, qrd, qdec, b1, b2, b3, b4, w1, hbl, h64, htk, hdr, gp, gh, z64_len, z64_drop, z64_one, z64_plains, List.append_nil, bne_self_eq_false, hm1, hm2]; done)) | refine To.skip hxE2 ?_))
      obtain ⟨r2, oh2, q2, rfl, o2', d2, L2, P2⟩ := redo_x (e := o.length) (d := o.length) (sq := (getK p 0 4 : Int)) (lv := true) (sm := (getK p 7 4 : Int)) (P.app [.cells .ex 100 0 [.ptr dd 0, .int .i64 (a : Int), .int .i64 (s : Int)], .cells .ex 31 0 (bytesA p), .cells .ex 103 0 [.int .i64 (getK p 0 4 : Int), .bool true, .int .i64 (getK p 5 2 : Int), .int .u32 (getK p 7 4 : Int)]]) hin hpl hcn.1 hcn.2 (by omega) (by omega)
      obtain ⟨o2, rfl, D2⟩ := L2.dx.split lD lP lM
      have hl2 := D2.len
      have P2' := PD.chop P2 (by omega) (by omega) (by omega)
      have M2 := L2.low.chop
      have g2 := L2.eq
      have hhv2 : headV (getK p 0 4 : Int) true (getK p 5 2 : Int) (getK p 7 4 : Int) = [.int .i64 (getK p 0 4 : Int), .bool true, .int .i64 (getK p 5 2 : Int), .int .u32 (getK p 7 4 : Int)] := rfl
      rw [hrv, hhv2] at q2
      have gr2 : ∀ x r, (o2 ++ (x :: r))[o.length]? = some x := fun x r => by rw [← hl2]; exact app_get0 _ _ _
      have gh2 : ∀ x y z r, (o2 ++ (x :: y :: z :: r))[o.length + 2]? = some z := fun x y z r => by rw [← hl2]; exact app_getk _ _ 2
      have wn : IntKind.i64.wrap ((getK p 0 4 : Int) + 2) = (getK p 0 4 : Int) + 2 := wrap_i64 (by omega) (by omega)
      generalize dRedo on ⟨false, left, pgs, ca⟩ a s (getK p 0 4 : Int) (getK p 5 2) (getK p 7 4 : Int) = w2 at *
      obtain ⟨n1, n2, st2⟩ := w2
      simp only at q2 P2' ⊢
      refine To.op hxE2 (by simp only [go_sem, eqs hxE2, reduceIte, seval, q2]; rfl) ?_
      rw [g2]
      (repeat' (first | refine To.seq hxE2 ?_ | refine To.op0 hxE2 (by simp only [go_sem, eqs hxE2, reduceIte, seval]; rfl) ?_ | refine To.nop hxE2 ?_))
      unfold openB
      simp only
      by_cases hz : n2 = 0
      case neg =>
        have hb : (n2 != 0) = true := by simpa using hz
        rw [if_pos (by simpa using hz)]
        (repeat' (first | refine To.seq hxE2 ?_ | refine To.op0 hxE2 (by simp only [go_sem, eqs hxE2, reduceIte, seval, hb]; rfl) ?_ | refine To.nop hxE2 ?_ | (refine To.condT hxE2 ?_ ?_; focus (simp only [go_sem, eqs hxE2, reduceIte, seval, hb]; done)) | refine To.ret hxE2 ?_))
        exact fin_open_no (n := n2) (by simp only [go_sem, eqs hxE2, reduceIte, seval]) (by simp only [go_sem, eqs hxE2, reduceIte, seval]) (by simp only [go_sem, eqs hxE2, reduceIte, seval]) D2 M2 (Nat.le_refl _) lD lP lM P2' hz
      subst hz
      rw [if_neg (by simp)]
      have hJ : ∀ r x, (o2 ++ (r ++ [x]))[o2.length + r.length]? = some x := fun r x => by rw [app_getk]; simp
      (repeat' (first | refine To.seq hxE2 ?_ | refine To.op0 hxE2 (by simp only [go_sem, eqs hxE2, reduceIte, seval, Heap.gets, Heap.sets, Heap.get, bytesA_length, bytesA_one, bytesA_plains, List.take_of_length_le, List.drop_of_length_le, Nat.add_zero, V.one, Nat.reduceLeDiff, List.all_cons, List.all_nil, ne_eq, not_false_eq_true, Nat.zero_le, gr2, gh2, wn, bne_self_eq_false]; rfl) ?_ | refine To.op1 hxE2 (by simp only [go_sem, eqs hxE2, reduceIte, seval, Heap.gets, Heap.sets, Heap.get, bytesA_length, bytesA_one, bytesA_plains, List.take_of_length_le, List.drop_of_length_le, Nat.add_zero, V.one, Nat.reduceLeDiff, List.all_cons, List.all_nil, ne_eq, not_false_eq_true, Nat.zero_le, gr2, gh2, wn, bne_self_eq_false]; rfl) ?_ | refine To.nop hxE2 ?_ | (refine To.condF hxE2 ?_ ?_; focus (simp only [go_sem, eqs hxE2, reduceIte, seval, Heap.gets, Heap.sets, Heap.get, bytesA_length, bytesA_one, bytesA_plains, List.take_of_length_le, List.drop_of_length_le, Nat.add_zero, V.one, Nat.reduceLeDiff, List.all_cons, List.all_nil, ne_eq, not_false_eq_true, Nat.zero_le, gr2, gh2, wn, bne_self_eq_false]; done)) | refine To.ret hxE2 ?_ | refine To.skip hxE2 ?_))
      refine fin_open (jl := o2.length + 3) (by simp only [go_sem, eqs hxE2, reduceIte, seval]) (by simp only [go_sem, eqs hxE2, reduceIte, seval]) (by simp only [go_sem, eqs hxE2, reduceIte, seval]) D2 M2 (Nat.le_refl _) lD lP lM (by omega) ⟨?_, PD.app P2' _⟩
      exact hJ [_, _, _] _
end
end Go.Proofs.Ytfbkeieoeagkdaa

/- Journal, the plain law: heads, torn and whole. -/
namespace Go.Proofs.Ytfbkeieoeagkdaa
open Go AM
set_option linter.unusedSimpArgs false
set_option linter.unusedVariables false
set_option maxRecDepth 100000

theorem getK4 (p : Pg) (a : Nat) : getK p a 4 = (((0 * 256 + (p.getD a 0).toNat) * 256 + (p.getD (a + 1) 0).toNat) * 256 + (p.getD (a + 2) 0).toNat) * 256 + (p.getD (a + 3) 0).toNat := rfl
theorem getK2 (p : Pg) (a : Nat) : getK p a 2 = (0 * 256 + (p.getD a 0).toNat) * 256 + (p.getD (a + 1) 0).toNat := rfl
theorem byteI_n (n : Nat) (i : Nat) : (byteI (n : Int) i).toNat = n / 2 ^ (8 * i) % 256 := by
  have := byteI_nat (n : Int) i
  have e : ((n / 2 ^ (8 * i) % 256 : Nat) : Int) = (n : Int) / 2 ^ (8 * i) % 256 := by push_cast; rfl
  omega
theorem getK4_0 (p : Pg) : getK p 0 4 = (((0 * 256 + (p.getD 0 0).toNat) * 256 + (p.getD 1 0).toNat) * 256 + (p.getD 2 0).toNat) * 256 + (p.getD 3 0).toNat := rfl
theorem getK4_60 (p : Pg) : getK p 60 4 = (((0 * 256 + (p.getD 60 0).toNat) * 256 + (p.getD 61 0).toNat) * 256 + (p.getD 62 0).toNat) * 256 + (p.getD 63 0).toNat := rfl
section
variable (s : Int) (lv : Bool) (c sm : Int)
theorem headP_0 : (headP s lv c sm).getD 0 0 = byteI s 3 := rfl
theorem headP_1 : (headP s lv c sm).getD 1 0 = byteI s 2 := rfl
theorem headP_2 : (headP s lv c sm).getD 2 0 = byteI s 1 := rfl
theorem headP_3 : (headP s lv c sm).getD 3 0 = byteI s 0 := rfl
theorem headP_4 : (headP s lv c sm).getD 4 0 = byteI (if lv = true then 1 else 0) 0 := rfl
theorem headP_5 : (headP s lv c sm).getD 5 0 = byteI c 1 := rfl
theorem headP_6 : (headP s lv c sm).getD 6 0 = byteI c 0 := rfl
theorem headP_7 : (headP s lv c sm).getD 7 0 = byteI sm 3 := rfl
theorem headP_8 : (headP s lv c sm).getD 8 0 = byteI sm 2 := rfl
theorem headP_9 : (headP s lv c sm).getD 9 0 = byteI sm 1 := rfl
theorem headP_10 : (headP s lv c sm).getD 10 0 = byteI sm 0 := rfl
theorem headP_60 : (headP s lv c sm).getD 60 0 = byteI s 3 := rfl
theorem headP_61 : (headP s lv c sm).getD 61 0 = byteI s 2 := rfl
theorem headP_62 : (headP s lv c sm).getD 62 0 = byteI s 1 := rfl
theorem headP_63 : (headP s lv c sm).getD 63 0 = byteI s 0 := rfl
end
theorem head_seq {s : Nat} (h : s < 256) (lv : Bool) (c sm : Int) : getK (headP s lv c sm) 0 4 = s ∧ getK (headP s lv c sm) 60 4 = s := by
  constructor
  · rw [getK4, headP_0, headP_1, headP_2, headP_3, byteI_n, byteI_n, byteI_n, byteI_n]; omega
  · rw [getK4, headP_60, headP_61, headP_62, headP_63, byteI_n, byteI_n, byteI_n, byteI_n]; omega
theorem head_cnt (s : Int) (lv : Bool) {c : Nat} (h : c < 65536) (sm : Int) : getK (headP s lv c sm) 5 2 = c := by
  rw [getK2, headP_5, headP_6, byteI_n, byteI_n]; omega
theorem head_sum (s : Int) (lv : Bool) (c : Int) {sm : Nat} (h : sm < 2 ^ 32) : getK (headP s lv c sm) 7 4 = sm := by
  rw [getK4, headP_7, headP_8, headP_9, headP_10, byteI_n, byteI_n, byteI_n, byteI_n]; omega
theorem head_live (s : Int) (lv : Bool) (c sm : Int) : liveP (headP s lv c sm) = lv := by
  unfold liveP
  rw [headP_4]
  cases lv <;> rfl
theorem head_whole {s : Nat} (h : s < 256) (lv : Bool) {c : Nat} (hc : c < 65536) {sm : Nat} (hm : sm < 2 ^ 32) : wholeP (headP s lv c sm) = rightH s lv c sm := by
  unfold wholeP
  rw [(head_seq h lv c sm).1, head_live, head_cnt s lv hc, head_sum s lv c hm]
  simp
/-- Low numbers. -/
def seqB (p : Pg) (q : Nat) : Prop := getK p 0 4 ≤ q ∧ getK p 60 4 ≤ q
theorem whole_tail {p : Pg} (h : wholeP p = true) : p.getD 63 0 = p.getD 3 0 ∧ p.getD 60 0 = p.getD 0 0 := by
  unfold wholeP at h
  have h2 := eq_of_beq (Bool.and_eq_true_iff.1 h).2
  constructor
  · rw [← h2, headP_63, headP_3]
  · rw [← h2, headP_60, headP_0]
theorem tear_get {c : Nat} {p q : Pg} (hp : p.length = 64) (hq : q.length = 64) (i : Nat) : (tear c p q).getD i 0 = if i < c then p.getD i 0 else q.getD i 0 := by
  unfold tear
  simp only [List.getD_eq_getElem?_getD]
  by_cases h : i < c
  · rw [if_pos h]
    by_cases h2 : i < 64
    · rw [List.getElem?_append_left (by rw [List.length_take]; omega), List.getElem?_take_of_lt h]
    · rw [List.getElem?_eq_none (by rw [List.length_append, List.length_take, List.length_drop]; omega), List.getElem?_eq_none (by omega)]
  · rw [if_neg h]
    by_cases h3 : c ≤ 64
    · rw [List.getElem?_append_right (by rw [List.length_take]; omega), List.length_take, List.getElem?_drop, show min c p.length = c by omega, show c + (i - c) = i by omega]
    · rw [List.getElem?_eq_none (by rw [List.length_append, List.length_take, List.length_drop]; omega), List.getElem?_eq_none (by omega)]
theorem tear_l64 {c : Nat} {p q : Pg} (hp : p.length = 64) (hq : q.length = 64) (hc : c ≤ 64) : (tear c p q).length = 64 := by
  unfold tear
  rw [List.length_append, List.length_take, List.length_drop]; omega
theorem pg_ext {p q : Pg} (hp : p.length = 64) (hq : q.length = 64) (h : ∀ i, i < 64 → p.getD i 0 = q.getD i 0) : p = q := by
  apply List.ext_getElem?
  intro i
  by_cases hi : i < 64
  · have := h i hi
    simp only [List.getD_eq_getElem?_getD] at this
    rw [List.getElem?_eq_getElem (by omega), List.getElem?_eq_getElem (by omega)] at this ⊢
    simpa using this
  · rw [List.getElem?_eq_none (by omega), List.getElem?_eq_none (by omega)]
/-- A head torn over a page with lower numbers. -/
theorem torn_head {p : Pg} (hp : p.length = 64) {s k : Nat} (h : s < 256) (hk : k < s) (hb : seqB p k) (lv : Bool) (n sm : Int) {c : Nat} (hc : c ≤ 64) :
    tear c (headP s lv n sm) p = headP s lv n sm ∨ (seqB (tear c (headP s lv n sm) p) s ∧ (tear c (headP s lv n sm) p = p ∨ wholeP (tear c (headP s lv n sm) p) = false)) := by
  have hl := headP_len s lv n sm
  obtain ⟨b1, b2⟩ := hb
  have tg := fun i => tear_get (c := c) hl hp i
  have tl := tear_l64 hl hp hc
  rw [getK4_0] at b1
  rw [getK4_60] at b2
  have n0 : (byteI (s : Int) 0).toNat = s := by rw [byteI_n]; omega
  have n1 : (byteI (s : Int) 1).toNat = 0 := by rw [byteI_n]; omega
  have n2 : (byteI (s : Int) 2).toNat = 0 := by rw [byteI_n]; omega
  have n3 : (byteI (s : Int) 3).toNat = 0 := by rw [byteI_n]; omega
  by_cases h64 : c = 64
  · subst h64
    left
    exact pg_ext tl hl fun i hi => by rw [tg, if_pos hi]
  · right
    have g60 : (tear c (headP s lv n sm) p).getD 60 0 = p.getD 60 0 := by
      rw [tg]
      split
      · rw [headP_60]; exact UInt8.toNat_inj.1 (by omega)
      · rfl
    have g61 : (tear c (headP s lv n sm) p).getD 61 0 = p.getD 61 0 := by
      rw [tg]
      split
      · rw [headP_61]; exact UInt8.toNat_inj.1 (by omega)
      · rfl
    have g62 : (tear c (headP s lv n sm) p).getD 62 0 = p.getD 62 0 := by
      rw [tg]
      split
      · rw [headP_62]; exact UInt8.toNat_inj.1 (by omega)
      · rfl
    have g63 : (tear c (headP s lv n sm) p).getD 63 0 = p.getD 63 0 := by
      rw [tg, if_neg (by omega)]
    have g0 : (tear c (headP s lv n sm) p).getD 0 0 = p.getD 0 0 := by
      rw [tg]
      split
      · rw [headP_0]; exact UInt8.toNat_inj.1 (by omega)
      · rfl
    have g1 : (tear c (headP s lv n sm) p).getD 1 0 = p.getD 1 0 := by
      rw [tg]
      split
      · rw [headP_1]; exact UInt8.toNat_inj.1 (by omega)
      · rfl
    have g2 : (tear c (headP s lv n sm) p).getD 2 0 = p.getD 2 0 := by
      rw [tg]
      split
      · rw [headP_2]; exact UInt8.toNat_inj.1 (by omega)
      · rfl
    by_cases h4 : 4 ≤ c
    · have g3 : (tear c (headP s lv n sm) p).getD 3 0 = byteI (s : Int) 0 := by rw [tg, if_pos (by omega), headP_3]
      refine ⟨⟨?_, ?_⟩, .inr ?_⟩
      · rw [getK4_0, g0, g1, g2, g3]; omega
      · rw [getK4_60, g60, g61, g62, g63]; omega
      · cases hw : wholeP (tear c (headP s lv n sm) p)
        · rfl
        · have := (whole_tail hw).1
          rw [g63, g3] at this
          rw [this] at b2
          omega
    · have : tear c (headP s lv n sm) p = p := pg_ext tl hp fun i hi => by
        by_cases hic : i < c
        · rcases (by omega : i = 0 ∨ i = 1 ∨ i = 2) with rfl | rfl | rfl
          · exact g0
          · exact g1
          · exact g2
        · rw [tg, if_neg hic]
      refine ⟨?_, .inl this⟩
      rw [this]
      refine ⟨?_, ?_⟩
      · rw [getK4_0]; omega
      · rw [getK4_60]; omega
end Go.Proofs.Ytfbkeieoeagkdaa

/- Journal, the plain law: crashes and puts. -/
namespace Go.Proofs.Ytfbkeieoeagkdaa
open Go AM
set_option linter.unusedSimpArgs false
set_option linter.unusedVariables false
set_option maxRecDepth 100000

def pgAt (pgs : List Pg) (i : Nat) : Pg := pgs.getD i (zs 64)
theorem pgAt_set {pgs : List Pg} {k i : Nat} {p : Pg} (h : k < pgs.length) : pgAt (pgs.set k p) i = if i = k then p else pgAt pgs i := by
  unfold pgAt
  simp only [List.getD_eq_getElem?_getD]
  by_cases hi : i = k
  · subst hi; rw [List.getElem?_set_self h, if_pos rfl]; rfl
  · rw [List.getElem?_set_ne (Ne.symm hi), if_neg hi]
theorem pgAt_mem {pgs : List Pg} {i : Nat} (h : i < pgs.length) : pgAt pgs i ∈ pgs := by
  unfold pgAt
  rw [List.getD_eq_getElem?_getD, List.getElem?_eq_getElem h]
  exact List.getElem_mem h
theorem pgs_ext {a b : List Pg} (hl : a.length = b.length) (h : ∀ i, i < a.length → pgAt a i = pgAt b i) : a = b := by
  apply List.ext_getElem?
  intro i
  by_cases hi : i < a.length
  · have := h i hi
    unfold pgAt at this
    simp only [List.getD_eq_getElem?_getD] at this
    rw [List.getElem?_eq_getElem hi, List.getElem?_eq_getElem (by omega)] at this ⊢
    simpa using this
  · rw [List.getElem?_eq_none (by omega), List.getElem?_eq_none (by omega)]
def P64 (pgs : List Pg) : Prop := ∀ p ∈ pgs, p.length = 64
theorem P64.at {pgs : List Pg} (h : P64 pgs) (i : Nat) : (pgAt pgs i).length = 64 := by
  by_cases hi : i < pgs.length
  · exact h _ (pgAt_mem hi)
  · unfold pgAt
    rw [List.getD_eq_getElem?_getD, List.getElem?_eq_none (by omega)]; rfl
theorem P64.set {pgs : List Pg} (h : P64 pgs) {k : Nat} {p : Pg} (hp : p.length = 64) : P64 (pgs.set k p) := fun q hq => by
  rcases List.mem_or_eq_of_mem_set hq with hq | rfl
  · exact h q hq
  · exact hp

/-- What a crash may leave of pages. -/
def Torn (pgs : List Pg) (ca : List (Nat × Pg)) (pgs' : List Pg) : Prop :=
  pgs'.length = pgs.length ∧ ∀ i, i < pgs.length → pgAt pgs' i = pgAt pgs i ∨ ∃ p c, findC i ca = some p ∧ c ≤ 64 ∧ pgAt pgs' i = tear c p (pgAt pgs i)
theorem crashN_torn (ca : List (Nat × Pg)) (ch : List UInt8) : ∀ (K : List Nat) (k : Nat) (pgs : List Pg), K.Nodup → (∀ i ∈ K, i < pgs.length ∧ hasK ca i = true) → Torn pgs ca (crashN ca ch k K pgs) ∧ ∀ i, i ∉ K → pgAt (crashN ca ch k K pgs) i = pgAt pgs i
  | [], k, pgs, _, _ => ⟨⟨rfl, fun i _ => .inl rfl⟩, fun _ _ => rfl⟩
  | j :: r, k, pgs, hn, hK => by
    obtain ⟨h1, h2⟩ := List.nodup_cons.1 hn
    obtain ⟨hj, hk⟩ := hK j List.mem_cons_self
    rw [crashN]
    cases hc : ch[k]? with
    | none =>
      obtain ⟨⟨a1, a2⟩, a3⟩ := crashN_torn ca ch r (k + 1) pgs h2 fun i hi => hK i (List.mem_cons_of_mem _ hi)
      exact ⟨⟨a1, a2⟩, fun i hi => a3 i fun h => hi (List.mem_cons_of_mem _ h)⟩
    | some c =>
      simp only
      obtain ⟨⟨a1, a2⟩, a3⟩ := crashN_torn ca ch r (k + 1) (pgs.set j (tear (c.toNat % 65) ((findC j ca).getD (zs 64)) (pgs.getD j (zs 64)))) h2 fun i hi => by
        rw [List.length_set]; exact hK i (List.mem_cons_of_mem _ hi)
      rw [List.length_set] at a1 a2
      refine ⟨⟨a1, fun i hi => ?_⟩, fun i hi => ?_⟩
      · by_cases hij : i = j
        · subst hij
          right
          obtain ⟨p, hp⟩ := Option.isSome_iff_exists.1 hk
          refine ⟨p, c.toNat % 65, hp, by omega, ?_⟩
          rw [a3 i h1, pgAt_set hi, if_pos rfl, hp]; rfl
        · have := a2 i hi
          rw [pgAt_set hj, if_neg hij] at this
          exact this
      · rw [a3 i fun h => hi (List.mem_cons_of_mem _ h), pgAt_set hj, if_neg (by rintro rfl; exact hi List.mem_cons_self)]
theorem crash_torn (ca : List (Nat × Pg)) (ch : List UInt8) (pgs : List Pg) : Torn pgs ca (crashN ca ch 0 (keysN pgs.length ca) pgs) :=
  (crashN_torn ca ch _ 0 pgs (List.Pairwise.filter _ List.nodup_range) fun i hi => by
    obtain ⟨h1, h2⟩ := List.mem_filter.1 hi
    exact ⟨List.mem_range.1 h1, h2⟩).1
theorem Torn.none {pgs pgs' : List Pg} (h : Torn pgs [] pgs') : pgs' = pgs :=
  pgs_ext h.1 fun i hi => by
    rcases h.2 i (by rw [← h.1]; exact hi) with h | ⟨p, c, h, _⟩
    · exact h
    · cases h

/-- Changes laid in. -/
def putAll (pgs : List Pg) (cs : List (Int × Pg)) : List Pg := cs.foldl (fun l c => l.set c.1.toNat c.2) pgs
def caAll (ca : List (Nat × Pg)) (cs : List (Int × Pg)) : List (Nat × Pg) := cs.foldl (fun m c => putC c.1.toNat c.2 m) ca
theorem putAll_len : ∀ (cs : List (Int × Pg)) (pgs : List Pg), (putAll pgs cs).length = pgs.length
  | [], pgs => rfl
  | c :: r, pgs => (putAll_len r _).trans (List.length_set ..)
def inR (n : Nat) (cs : List (Int × Pg)) : Prop := ∀ c ∈ cs, 0 ≤ c.1 ∧ c.1 < (n : Int)
theorem inR.tail {n : Nat} {c : Int × Pg} {r : List (Int × Pg)} (h : inR n (c :: r)) : inR n r := fun x hx => h x (List.mem_cons_of_mem _ hx)
theorem layP_nil (pgs : List Pg) : layP [] pgs = pgs := by
  refine pgs_ext layP_len fun i hi => ?_
  rw [layP_len] at hi
  unfold pgAt
  rw [List.getD_eq_getElem?_getD, layP_get hi]
  simp [findC, List.getD_eq_getElem?_getD, List.getElem?_eq_getElem hi]
theorem layP_put {ca : List (Nat × Pg)} {pgs : List Pg} {k : Nat} {p : Pg} (hk : k < pgs.length) : layP (putC k p ca) pgs = (layP ca pgs).set k p := by
  refine pgs_ext (by rw [layP_len, List.length_set, layP_len]) fun i hi => ?_
  rw [layP_len] at hi
  rw [pgAt_set (by rw [layP_len]; exact hk)]
  unfold pgAt
  simp only [List.getD_eq_getElem?_getD]
  rw [layP_get hi, layP_get hi, findC_putC]
  by_cases h : i = k
  · rw [if_pos h, if_pos h]; rfl
  · rw [if_neg h, if_neg h]
theorem layP_all {pgs : List Pg} : ∀ {cs : List (Int × Pg)} {ca : List (Nat × Pg)}, inR pgs.length cs → layP (caAll ca cs) pgs = putAll (layP ca pgs) cs
  | [], ca, h => rfl
  | c :: r, ca, h => by
    have h1 := h c List.mem_cons_self
    have ih := layP_all (cs := r) (ca := putC c.1.toNat c.2 ca) h.tail
    rw [layP_put (by omega)] at ih
    exact ih
theorem putAll_at : ∀ {cs : List (Int × Pg)} {a b : List Pg}, a.length = b.length → inR a.length cs → (∀ i : Nat, (∀ c ∈ cs, c.1 ≠ (i : Int)) → pgAt a i = pgAt b i) → putAll a cs = putAll b cs
  | [], a, b, hl, _, h => pgs_ext hl fun i _ => h i (fun c hc => by cases hc)
  | c :: r, a, b, hl, hr, h => by
    have h1 := hr c List.mem_cons_self
    refine putAll_at (cs := r) (by simp [hl]) (by rw [List.length_set]; exact hr.tail) fun i hi => ?_
    rw [pgAt_set (by omega), pgAt_set (by omega)]
    by_cases hic : i = c.1.toNat
    · rw [if_pos hic, if_pos hic]
    · rw [if_neg hic, if_neg hic]
      exact h i fun x hx => by
        rcases List.mem_cons.1 hx with rfl | hx
        · omega
        · exact hi x hx
theorem putAll_out : ∀ {cs : List (Int × Pg)} {a : List Pg} {i : Nat}, inR a.length cs → (∀ c ∈ cs, c.1 ≠ (i : Int)) → pgAt (putAll a cs) i = pgAt a i
  | [], a, i, _, _ => rfl
  | c :: r, a, i, hr, h => by
    have h1 := hr c List.mem_cons_self
    have h2 := h c List.mem_cons_self
    have ih := putAll_out (cs := r) (a := a.set c.1.toNat c.2) (i := i) (by rw [List.length_set]; exact hr.tail) fun x hx => h x (List.mem_cons_of_mem _ hx)
    rw [pgAt_set (by omega), if_neg (by omega)] at ih
    exact ih
theorem putAll_twice {cs : List (Int × Pg)} {a : List Pg} (h : inR a.length cs) : putAll (putAll a cs) cs = putAll a cs :=
  putAll_at (putAll_len _ _) (by rw [putAll_len]; exact h) fun i hi => putAll_out h hi
theorem putAll_64 : ∀ {cs : List (Int × Pg)} {a : List Pg}, P64 a → (∀ c ∈ cs, c.2.length = 64) → P64 (putAll a cs)
  | [], a, h, _ => h
  | c :: r, a, h, hc => putAll_64 (cs := r) (h.set (hc c List.mem_cons_self)) fun x hx => hc x (List.mem_cons_of_mem _ hx)
theorem caAll_find : ∀ {cs : List (Int × Pg)} {ca : List (Nat × Pg)} {i : Nat} {p : Pg}, (∀ c ∈ cs, 0 ≤ c.1) → findC i (caAll ca cs) = some p → findC i ca = some p ∨ ((i : Int), p) ∈ cs
  | [], ca, i, p, _, h => .inl h
  | c :: r, ca, i, p, hc, h => by
    rcases caAll_find (cs := r) (fun x hx => hc x (List.mem_cons_of_mem _ hx)) h with h | h
    · rw [findC_putC] at h
      have := hc c List.mem_cons_self
      split at h
      · rename_i hi
        cases h
        right
        have : ((i : Int), c.2) = c := by rw [hi]; exact Prod.ext (by show ((c.1.toNat : Nat) : Int) = c.1; omega) rfl
        rw [this]; exact List.mem_cons_self
      · exact .inl h
    · exact .inr (List.mem_cons_of_mem _ h)
theorem burnB_off {left : Int} : burnB false false left = true ∧ burnD false false left = false := by
  constructor <;> rfl
theorem burnB_on {on : Bool} {left : Int} (h : burnB on false left = false) : on = true := by
  cases on
  · rw [burnB_off.1] at h; cases h
  · rfl
theorem burnD_ok {on : Bool} {left : Int} (h : burnB on false left = true) : burnD on false left = false := by
  cases on
  · exact burnB_off.2
  · unfold burnB at h
    unfold burnD
    simpa using h
/-- What a put does. -/
theorem dPut_sum (on : Bool) : ∀ (cs : List (Int × Pg)) (st : DSt), st.down = false → inR st.pgs.length cs →
    ((dPut on st cs).1 = 0 ∧ (dPut on st cs).2.down = false ∧ (dPut on st cs).2.ca = [] ∧ (dPut on st cs).2.pgs = layP (caAll st.ca cs) st.pgs) ∨
    ((dPut on st cs).1 = 5 ∧ on = true ∧ (dPut on st cs).2.pgs = st.pgs ∧ ∃ k, (dPut on st cs).2.ca = caAll st.ca (cs.take k))
  | [], st, hd, _ => by
    rw [dPut]
    unfold dFlush
    rw [hd]
    cases hB : burnB on false st.left
    · rw [if_pos rfl]; exact .inr ⟨rfl, burnB_on hB, rfl, 0, rfl⟩
    · rw [if_neg (by simp)]; exact .inl ⟨rfl, burnD_ok hB, rfl, rfl⟩
  | c :: r, st, hd, hr => by
    have h1 := hr c List.mem_cons_self
    have h0 : hasE false st.pgs.length c.1 = 0 := by unfold hasE; rw [if_neg (by simp), if_neg (by omega)]
    rw [dPut]
    cases hB : burnB on false st.left
    · have hw : dWrite on st c.1 c.2 = (5, ⟨burnD on false st.left, burnL on false st.left, st.pgs, st.ca⟩) := by
        unfold dWrite; rw [hd, h0, if_neg (by simp), hB, if_pos rfl]
      rw [hw, if_pos (by simp)]
      exact .inr ⟨rfl, burnB_on hB, rfl, 0, rfl⟩
    · have hw : dWrite on st c.1 c.2 = (0, ⟨burnD on false st.left, burnL on false st.left, st.pgs, putC c.1.toNat c.2 st.ca⟩) := by
        unfold dWrite; rw [hd, h0, if_neg (by simp), hB, if_neg (by simp)]
      rw [hw, if_neg (by simp)]
      simp only
      rcases dPut_sum on r ⟨burnD on false st.left, burnL on false st.left, st.pgs, putC c.1.toNat c.2 st.ca⟩ (burnD_ok hB) hr.tail with ⟨a1, a2, a3, a4⟩ | ⟨a1, a2, a3, k, a4⟩
      · exact .inl ⟨a1, a2, a3, a4⟩
      · exact .inr ⟨a1, a2, a3, k + 1, a4⟩
end Go.Proofs.Ytfbkeieoeagkdaa

/- Journal, the plain law: what a crash leaves is mended. -/
namespace Go.Proofs.Ytfbkeieoeagkdaa
open Go AM
set_option linter.unusedSimpArgs false
set_option linter.unusedVariables false
set_option maxRecDepth 100000

theorem P64.of {pgs : List Pg} (h : ∀ i, i < pgs.length → (pgAt pgs i).length = 64) : P64 pgs := fun p hp => by
  obtain ⟨i, hi, rfl⟩ := List.mem_iff_getElem.1 hp
  have := h i hi
  unfold pgAt at this
  rw [List.getD_eq_getElem?_getD, List.getElem?_eq_getElem hi] at this
  exact this
theorem Torn.p64 {pgs pgs' : List Pg} {ca : List (Nat × Pg)} (h : Torn pgs ca pgs') (hp : P64 pgs) (hc : ∀ i p, findC i ca = some p → p.length = 64) : P64 pgs' :=
  P64.of fun i hi => by
    rcases h.2 i (by rw [← h.1]; exact hi) with h | ⟨p, c, h1, h2, h⟩
    · rw [h]; exact hp.at i
    · rw [h]; exact tear_len (hc i p h1) (hp.at i) h2
/-- A put broken off. -/
theorem put_torn {pgs pgs' : List Pg} {cs : List (Int × Pg)} {k : Nat} (hT : Torn pgs (caAll [] (cs.take k)) pgs') (hr : inR pgs.length cs) (hp : P64 pgs) (hc : ∀ c ∈ cs, c.2.length = 64) :
    pgs'.length = pgs.length ∧ P64 pgs' ∧ ∀ i : Nat, (∀ c ∈ cs, c.1 ≠ (i : Int)) → pgAt pgs' i = pgAt pgs i := by
  have hf : ∀ i p, findC i (caAll [] (cs.take k)) = some p → ((i : Int), p) ∈ cs := fun i p h => by
    rcases caAll_find (fun x hx => (hr x (List.mem_of_mem_take hx)).1) h with h | h
    · cases h
    · exact List.mem_of_mem_take h
  refine ⟨hT.1, hT.p64 hp fun i p h => hc _ (hf i p h), fun i hi => ?_⟩
  by_cases hl : i < pgs.length
  · rcases hT.2 i hl with h | ⟨p, c, h1, _⟩
    · exact h
    · exact absurd rfl (hi _ (hf i p h1))
  · have h1 := hT.1
    unfold pgAt
    rw [List.getD_eq_getElem?_getD, List.getD_eq_getElem?_getD, List.getElem?_eq_none (by omega : pgs'.length ≤ i), List.getElem?_eq_none (by omega : pgs.length ≤ i)]
theorem mark_sum {on : Bool} {st : DSt} (hd : st.down = false) (hca : st.ca = []) (hl : st.pgs.length = 60) (h64 : P64 st.pgs) {s k : Nat} (hs : s < 256) (hk : k < s) (hb : seqB (pgAt st.pgs 2) k) {lv : Bool} {c sm : Int} (hr : rightH (s : Int) lv c sm = true) :
    ((dMark on st ((2 : Nat) : Int) (s : Int) lv c sm).1 = 0 ∧ (dMark on st ((2 : Nat) : Int) (s : Int) lv c sm).2.down = false ∧ (dMark on st ((2 : Nat) : Int) (s : Int) lv c sm).2.ca = [] ∧ (dMark on st ((2 : Nat) : Int) (s : Int) lv c sm).2.pgs = st.pgs.set 2 (headP s lv c sm)) ∨
    ((dMark on st ((2 : Nat) : Int) (s : Int) lv c sm).1 = 5 ∧ on = true ∧ ∀ pgs', Torn (dMark on st ((2 : Nat) : Int) (s : Int) lv c sm).2.pgs (dMark on st ((2 : Nat) : Int) (s : Int) lv c sm).2.ca pgs' → pgs' = st.pgs.set 2 (headP s lv c sm) ∨ ∃ p', p'.length = 64 ∧ seqB p' s ∧ (p' = pgAt st.pgs 2 ∨ wholeP p' = false) ∧ pgs' = st.pgs.set 2 p') := by
  unfold dMark
  rw [if_pos hr]
  have hrr : inR st.pgs.length [(((2 : Nat) : Int), headP (s : Int) lv c sm)] := fun x hx => by rw [List.mem_singleton.1 hx, hl]; show (0 : Int) ≤ ((2 : Nat) : Int) ∧ ((2 : Nat) : Int) < ((60 : Nat) : Int); omega
  have hcl : ∀ x ∈ [(((2 : Nat) : Int), headP (s : Int) lv c sm)], x.2.length = 64 := fun x hx => by rw [List.mem_singleton.1 hx]; show (headP (s : Int) lv c sm).length = 64; exact headP_len _ _ _ _
  generalize hH : headP (s : Int) lv c sm = H at *
  rcases dPut_sum on [(((2 : Nat) : Int), H)] st hd hrr with ⟨a1, a2, a3, a4⟩ | ⟨a1, a2, a3, k', a4⟩
  · left
    refine ⟨a1, a2, a3, ?_⟩
    rw [a4, layP_all hrr, hca, layP_nil]; rfl
  · right
    refine ⟨a1, a2, fun pgs' hT => ?_⟩
    rw [a3, a4, hca] at hT
    obtain ⟨b1, b2, b3⟩ := put_torn hT hrr h64 hcl
    have hset : pgs' = st.pgs.set 2 (pgAt pgs' 2) := by
      refine pgs_ext (by rw [b1, List.length_set]) fun i hi => ?_
      rw [pgAt_set (by omega)]
      by_cases h2 : i = 2
      · rw [if_pos h2, h2]
      · rw [if_neg h2]
        exact b3 i fun x hx => by rw [List.mem_singleton.1 hx]; show ((2 : Nat) : Int) ≠ _; omega
    have hold : (pgAt pgs' 2).length = 64 ∧ (pgAt pgs' 2 = pgAt st.pgs 2 ∨ ∃ c', c' ≤ 64 ∧ pgAt pgs' 2 = tear c' H (pgAt st.pgs 2)) := by
      refine ⟨b2.at 2, ?_⟩
      rcases hT.2 2 (by omega) with h | ⟨p, c', h1, h2, h⟩
      · exact .inl h
      · right
        refine ⟨c', h2, ?_⟩
        rcases caAll_find (fun x hx => (hrr x (List.mem_of_mem_take hx)).1) h1 with h1 | h1
        · cases h1
        · have := List.mem_singleton.1 (List.mem_of_mem_take h1)
          rw [h, (Prod.mk.inj this).2]
    obtain ⟨q1, q2⟩ := hold
    rcases q2 with q2 | ⟨c', q2, q3⟩
    · exact .inr ⟨_, q1, by rw [q2]; exact ⟨Nat.le_trans hb.1 (by omega), Nat.le_trans hb.2 (by omega)⟩, .inl q2, hset⟩
    · have hth := torn_head (h64.at 2) hs hk hb lv c sm q2
      rw [hH] at hth
      rcases hth with h | ⟨h1, h2⟩
      · left; rw [hset, q3, h]
      · right
        rw [← q3] at h1 h2
        exact ⟨_, q1, h1, h2, hset⟩

def liveHd (p : Pg) : Bool := wholeP p && liveP p
def fnd (pgs : List Pg) (cnt : Nat) (sm : Int) : Option (List (Int × Pg)) := foundE ⟨false, 0, pgs, []⟩ 2 20 cnt sm
theorem fnd_eq (d : Bool) (left : Int) (pgs : List Pg) (cnt : Nat) (sm : Int) : foundE ⟨d, left, pgs, []⟩ 2 20 cnt sm = fnd pgs cnt sm := rfl
theorem readP_at {pgs : List Pg} {i : Nat} (h : i < pgs.length) : readP false pgs [] (i : Int) = pgAt pgs i := by
  unfold readP
  have h0 : hasE false pgs.length (i : Int) = 0 := by unfold hasE; rw [if_neg (by simp), if_neg (by omega)]
  rw [h0, if_pos rfl]
  rfl
theorem fits20 {cnt : Nat} (h : ¬ roomJ (20 : Nat) < cnt) : listsN cnt + cnt ≤ 19 := by
  by_cases h1 : 1 ≤ cnt
  · have := room_fits (s := 20) (c := cnt) (by omega) h1; omega
  · have : cnt = 0 := by omega
    subst this; decide
theorem allP_at {pgs : List Pg} (hl : pgs.length = 60) {k : Nat} (hk : k ≤ 19) : allP ⟨false, 0, pgs, []⟩ 2 k = (List.range k).map fun i => pgAt pgs (3 + i) := by
  unfold allP
  apply List.map_congr_left
  intro i hi
  have := List.mem_range.1 hi
  show readP false pgs [] ((2 + 1 + i : Nat) : Int) = _
  rw [readP_at (by omega)]
theorem fnd_congr {a b : List Pg} (ha : a.length = 60) (hb : b.length = 60) (h : ∀ i, 3 ≤ i → i < 22 → pgAt a i = pgAt b i) (cnt : Nat) (sm : Int) : fnd a cnt sm = fnd b cnt sm := by
  unfold fnd foundE
  by_cases hc : roomJ (20 : Nat) < cnt
  · rw [if_pos hc, if_pos hc]
  · rw [if_neg hc, if_neg hc]
    have h19 := fits20 hc
    have : allP ⟨false, 0, a, []⟩ 2 (listsN cnt + cnt) = allP ⟨false, 0, b, []⟩ 2 (listsN cnt + cnt) := by
      rw [allP_at ha h19, allP_at hb h19]
      apply List.map_congr_left
      intro i hi
      have := List.mem_range.1 hi
      exact h _ (by omega) (by omega)
    rw [this]
    simp only [ha, hb]
theorem may_in {i : Int} (h : mayB 60 2 20 i = true) : 0 ≤ i ∧ i < 60 ∧ (i < 2 ∨ 22 ≤ i) := by
  unfold mayB at h
  simp only [Bool.and_eq_true, Bool.or_eq_true, decide_eq_true_eq] at h
  omega
/-- Changes of pages that may be changed. -/
def Fine (cs : List (Int × Pg)) : Prop := ∀ c ∈ cs, mayB 60 2 20 c.1 = true ∧ c.2.length = 64
theorem Fine.inR {cs : List (Int × Pg)} (h : Fine cs) {n : Nat} (hn : n = 60) : inR n cs := fun c hc => by
  have := may_in (h c hc).1
  omega
theorem Fine.out {cs : List (Int × Pg)} (h : Fine cs) {i : Nat} (h1 : 2 ≤ i) (h2 : i < 22) : ∀ c ∈ cs, c.1 ≠ (i : Int) := fun c hc => by
  have := may_in (h c hc).1
  omega
theorem fnd_fine {pgs : List Pg} (hl : pgs.length = 60) (h64 : P64 pgs) {cnt : Nat} {sm : Int} {cs : List (Int × Pg)} (h : fnd pgs cnt sm = some cs) : Fine cs := by
  unfold fnd foundE at h
  by_cases hc : roomJ (20 : Nat) < cnt
  · rw [if_pos hc] at h; cases h
  · rw [if_neg hc] at h
    have h19 := fits20 hc
    rw [allP_at hl h19] at h
    split at h
    · rename_i hall
      split at h
      · cases h
        intro c hc2
        refine ⟨by have := List.all_eq_true.1 hall c hc2; simpa [hl] using this, ?_⟩
        obtain ⟨j, hj, rfl⟩ := List.mem_map.1 hc2
        have hj := List.mem_range.1 hj
        show (List.getD _ (listsN cnt + j) []).length = 64
        rw [List.getD_eq_getElem?_getD, List.getElem?_map, List.getElem?_range (by omega)]
        exact h64.at _
      · cases h
    · cases h
/-- A disk from which Open makes what G says. -/
structure OkD (G : List Pg → Prop) (q : Nat) (pgs : List Pg) : Prop where
  len : pgs.length = 60
  p64 : P64 pgs
  seq : seqB (pgAt pgs 2) q
  is : (liveHd (pgAt pgs 2) = true ∧ ∃ cs, fnd pgs (getK (pgAt pgs 2) 5 2) (getK (pgAt pgs 2) 7 4 : Int) = some cs ∧ G (putAll pgs cs)) ∨ (liveHd (pgAt pgs 2) = false ∧ G pgs)
/-- The pages but the region's. -/
def DataEq (a b : List Pg) : Prop := ∀ i, i < 60 → (i < 2 ∨ 22 ≤ i) → pgAt a i = pgAt b i
def Clo (G : List Pg → Prop) : Prop := ∀ a b, DataEq a b → G a → G b
theorem DataEq.set2 {a : List Pg} (h : a.length = 60) (p : Pg) : DataEq a (a.set 2 p) := fun i hi hd => by rw [pgAt_set (by omega), if_neg (by omega)]
theorem live_seq {p : Pg} (h : wholeP p = true) {q : Nat} (hq : getK p 0 4 = q) (hq2 : q < 256) : seqB p q := by
  refine ⟨by omega, ?_⟩
  unfold wholeP at h
  have h2 := eq_of_beq (Bool.and_eq_true_iff.1 h).2
  rw [← h2, hq, (head_seq hq2 _ _ _).2]
  exact Nat.le_refl _
/-- A mark that isn't Live. -/
theorem mark_dead {on : Bool} {st : DSt} (hd : st.down = false) (hca : st.ca = []) (hl : st.pgs.length = 60) (h64 : P64 st.pgs) {s k : Nat} (hs : s < 256) (hk : k < s) (hb : seqB (pgAt st.pgs 2) k) {G : List Pg → Prop} (hG : Clo G) (hg : G st.pgs)
    (hlive : liveHd (pgAt st.pgs 2) = true → ∃ cs, fnd st.pgs (getK (pgAt st.pgs 2) 5 2) (getK (pgAt st.pgs 2) 7 4 : Int) = some cs ∧ putAll st.pgs cs = st.pgs) :
    ((dMark on st ((2 : Nat) : Int) (s : Int) false 0 0).1 = 0 ∧ (dMark on st ((2 : Nat) : Int) (s : Int) false 0 0).2.down = false ∧ (dMark on st ((2 : Nat) : Int) (s : Int) false 0 0).2.ca = [] ∧ (dMark on st ((2 : Nat) : Int) (s : Int) false 0 0).2.pgs = st.pgs.set 2 (headP s false 0 0)) ∨
    ((dMark on st ((2 : Nat) : Int) (s : Int) false 0 0).1 = 5 ∧ on = true ∧ ∀ pgs', Torn (dMark on st ((2 : Nat) : Int) (s : Int) false 0 0).2.pgs (dMark on st ((2 : Nat) : Int) (s : Int) false 0 0).2.ca pgs' → OkD G s pgs') := by
  have hr : rightH (s : Int) false 0 0 = true := by
    unfold rightH
    rw [Bool.and_eq_true_iff]
    exact ⟨decide_eq_true (by omega), rfl⟩
  rcases mark_sum (on := on) hd hca hl h64 hs hk hb hr with h | ⟨a1, a2, a3⟩
  · exact .inl h
  · right
    refine ⟨a1, a2, fun pgs' hT => ?_⟩
    rcases a3 pgs' hT with rfl | ⟨p', b1, b2, b3, rfl⟩
    · have e : pgAt (st.pgs.set 2 (headP s false 0 0)) 2 = headP s false 0 0 := by rw [pgAt_set (by omega), if_pos rfl]
      refine ⟨by rw [List.length_set]; exact hl, h64.set (headP_len _ _ _ _), ?_, .inr ⟨?_, hG _ _ (DataEq.set2 hl _) hg⟩⟩
      · rw [e]; exact ⟨by rw [(head_seq hs _ _ _).1]; exact Nat.le_refl _, by rw [(head_seq hs _ _ _).2]; exact Nat.le_refl _⟩
      · rw [e]; unfold liveHd; rw [head_live, Bool.and_false]
    · have e : pgAt (st.pgs.set 2 p') 2 = p' := by rw [pgAt_set (by omega), if_pos rfl]
      refine ⟨by rw [List.length_set]; exact hl, h64.set b1, by rw [e]; exact b2, ?_⟩
      rw [e]
      cases hlv : liveHd p'
      · exact .inr ⟨rfl, hG _ _ (DataEq.set2 hl _) hg⟩
      · left
        refine ⟨rfl, ?_⟩
        rcases b3 with rfl | b3
        · obtain ⟨cs, c1, c2⟩ := hlive hlv
          have hs2 : st.pgs.set 2 (pgAt st.pgs 2) = st.pgs := pgs_ext (by simp) fun i hi => by
            rw [pgAt_set (by omega)]
            split
            · rename_i h; rw [h]
            · rfl
          rw [hs2]
          exact ⟨cs, c1, by rw [c2]; exact hg⟩
        · unfold liveHd at hlv; rw [b3] at hlv; cases hlv
end Go.Proofs.Ytfbkeieoeagkdaa

/- Journal, the plain law: changes laid are found. -/
namespace Go.Proofs.Ytfbkeieoeagkdaa
open Go AM
set_option linter.unusedSimpArgs false
set_option linter.unusedVariables false
set_option maxRecDepth 100000

theorem OkD.mono {G : List Pg → Prop} {q q' : Nat} {pgs : List Pg} (h : OkD G q pgs) (hq : q ≤ q') : OkD G q' pgs :=
  ⟨h.len, h.p64, ⟨Nat.le_trans h.seq.1 hq, Nat.le_trans h.seq.2 hq⟩, h.is⟩
theorem fromL_cons (a : Int) (p : Pg) (r : List Pg) : fromL a (p :: r) = (a, p) :: fromL (a + 1) r := by
  unfold fromL
  rw [List.mapIdx_cons]
  congr 1
  · unfold fromF; simp
  · congr 1
    funext i p
    unfold fromF
    rw [Prod.mk.injEq]
    exact ⟨by omega, rfl⟩
theorem fromL_in : ∀ {ps : List Pg} {a : Nat} {c : Int × Pg}, c ∈ fromL (a : Int) ps → (a : Int) ≤ c.1 ∧ c.1 < (a : Int) + ps.length ∧ c.2 ∈ ps
  | [], a, c, h => by cases h
  | p :: r, a, c, h => by
    rw [fromL_cons] at h
    rcases List.mem_cons.1 h with rfl | h
    · refine ⟨Int.le_refl _, ?_, List.mem_cons_self⟩
      show (a : Int) < _
      rw [List.length_cons]; omega
    · have := fromL_in (a := a + 1) h
      rw [List.length_cons]
      exact ⟨by omega, by omega, List.mem_cons_of_mem _ this.2.2⟩
theorem putAll_fromL : ∀ {ps : List Pg} {a : Nat} {pgs : List Pg} {i : Nat}, a + ps.length ≤ pgs.length → i < ps.length → pgAt (putAll pgs (fromL (a : Int) ps)) (a + i) = ps.getD i []
  | [], a, pgs, i, _, h => by cases h
  | p :: r, a, pgs, i, hl, hi => by
    rw [List.length_cons] at hl hi
    rw [fromL_cons]
    show pgAt (putAll (pgs.set (a : Int).toNat p) (fromL (a + 1 : Int) r)) (a + i) = _
    rw [Int.toNat_natCast]
    cases i with
    | zero =>
      have h1 := putAll_out (cs := fromL ((a + 1 : Nat) : Int) r) (a := pgs.set a p) (i := a) (fun c hc => by
        have := fromL_in hc
        rw [List.length_set]; omega) (fun c hc => by have := fromL_in hc; omega)
      rw [pgAt_set (by omega), if_pos rfl] at h1
      exact h1
    | succ j =>
      have ih := putAll_fromL (ps := r) (a := a + 1) (pgs := pgs.set a p) (i := j) (by rw [List.length_set]; omega) (by omega)
      rw [show a + (j + 1) = a + 1 + j by omega]
      exact ih
theorem setK2 (p : Pg) (a : Nat) (n : Int) : setK p a 2 n 2 = (p.set (a + 1) (byteI n 0)).set a (byteI n 1) := rfl
theorem getD_set {p : Pg} {k i : Nat} {x : UInt8} (h : k < p.length) : (p.set k x).getD i 0 = if i = k then x else p.getD i 0 := by
  simp only [List.getD_eq_getElem?_getD]
  by_cases hi : i = k
  · subst hi; rw [List.getElem?_set_self h, if_pos rfl]; rfl
  · rw [List.getElem?_set_ne (Ne.symm hi), if_neg hi]
theorem set_get2 {p : Pg} {a i : Nat} {n : Nat} (ha : a + 1 < p.length) (hn : n < 65536) (hd : i = a ∨ i + 1 < a ∨ a + 1 < i) : getK (setK p a 2 (n : Int) 2) i 2 = if i = a then n else getK p i 2 := by
  rw [getK2, getK2, setK2, getD_set (by rw [List.length_set]; omega), getD_set (by omega), getD_set (by rw [List.length_set]; omega), getD_set (by omega)]
  by_cases h : i = a
  · subst h
    rw [if_pos rfl, if_pos rfl, if_neg (by omega), if_pos rfl, byteI_n, byteI_n]; omega
  · rw [if_neg h, if_neg h, if_neg (by omega), if_neg (by omega), if_neg (by omega)]
theorem numsI_get {cs : List (Int × Pg)} (hc : ∀ c ∈ cs, 0 ≤ c.1 ∧ c.1 < 65536) : ∀ (j : Nat), j ≤ cs.length → ∀ i, i < j → ((getK ((numsI cs j).getD (i / 32) []) (i % 32 * 2) 2 : Nat) : Int) = (cs.getD i (0, [])).1
  | 0, _, i, h => by cases h
  | j + 1, hj, i, hi => by
    have hl := numsI_len cs j
    have h64 := numsI_64 cs j (by omega)
    have ih := numsI_get hc j (by omega)
    have hk : j / 32 < (numsI cs j).length := by rw [hl]; unfold listsN; omega
    have hp : ((numsI cs j).getD (j / 32) []).length = 64 := by
      rw [List.getD_eq_getElem?_getD, List.getElem?_eq_getElem hk]
      exact h64 _ (List.getElem_mem hk)
    have hjm : cs.getD j (0, []) ∈ cs := by
      rw [List.getD_eq_getElem?_getD, List.getElem?_eq_getElem (by omega)]
      exact List.getElem_mem _
    have hjr := hc _ hjm
    obtain ⟨n, hn⟩ : ∃ n : Nat, (cs.getD j (0, [])).1 = (n : Int) := ⟨(cs.getD j (0, [])).1.toNat, by omega⟩
    rw [numsI, hn]
    rw [hn] at hjr
    have hget : ∀ k, ((numsI cs j).set (j / 32) (setK ((numsI cs j).getD (j / 32) []) (j % 32 * 2) 2 (n : Int) 2)).getD k [] = if k = j / 32 then setK ((numsI cs j).getD (j / 32) []) (j % 32 * 2) 2 (n : Int) 2 else (numsI cs j).getD k [] := fun k => by
      simp only [List.getD_eq_getElem?_getD]
      by_cases hkk : k = j / 32
      · rw [hkk, List.getElem?_set_self hk, if_pos rfl]; rfl
      · rw [List.getElem?_set_ne (Ne.symm hkk), if_neg hkk]
    rw [hget]
    by_cases hik : i / 32 = j / 32
    · rw [if_pos hik, set_get2 (by omega) (by omega) (by omega)]
      by_cases hij : i = j
      · subst hij; rw [if_pos rfl, hn]
      · rw [if_neg (by omega), ← hik]
        exact ih i (by omega)
    · rw [if_neg hik]
      exact ih i (by omega)
theorem fnd_laid {pgs : List Pg} (hl : pgs.length = 60) {cs : List (Int × Pg)} (hf : Fine cs) (hr : cs.length ≤ roomJ (20 : Nat)) (hp : ∀ i, i < (laidL cs).length → pgAt pgs (3 + i) = (laidL cs).getD i []) : fnd pgs cs.length (sumP (laidL cs) : Int) = some cs := by
  have h19 := fits20 (cnt := cs.length) (by omega)
  have hll := laidL_len cs
  have hall : allP ⟨false, 0, pgs, []⟩ 2 (listsN cs.length + cs.length) = laidL cs := by
    rw [allP_at hl h19]
    apply List.ext_getElem?
    intro i
    by_cases hi : i < listsN cs.length + cs.length
    · have := hp i (by omega)
      rw [List.getElem?_map, List.getElem?_range hi, Option.map_some, this, List.getD_eq_getElem?_getD, List.getElem?_eq_getElem (by omega)]; rfl
    · rw [List.getElem?_eq_none (by simp; omega), List.getElem?_eq_none (by omega)]
  have hfl : foundL (laidL cs) (listsN cs.length) cs.length = cs := by
    apply List.ext_getElem?
    intro i
    by_cases hi : i < cs.length
    · unfold foundL
      rw [List.getElem?_map, List.getElem?_range hi, Option.map_some, List.getElem?_eq_getElem hi]
      have hn := numsI_get (cs := cs) (fun c hc => by have := may_in (hf c hc).1; omega) cs.length (Nat.le_refl _) i hi
      have hnl := numsI_len cs cs.length
      have e1 : (laidL cs).getD (i / 32) [] = (numsI cs cs.length).getD (i / 32) [] := by
        unfold laidL numsL
        rw [List.getD_eq_getElem?_getD, List.getD_eq_getElem?_getD, List.getElem?_append_left (by rw [hnl]; unfold listsN; omega)]
      have e2 : (laidL cs).getD (listsN cs.length + i) [] = (cs[i]'hi).2 := by
        unfold laidL numsL
        rw [List.getD_eq_getElem?_getD, List.getElem?_append_right (by omega), hnl, Nat.add_sub_cancel_left, List.getElem?_map, List.getElem?_eq_getElem hi]; rfl
      rw [e1, e2, hn, List.getD_eq_getElem?_getD, List.getElem?_eq_getElem hi]; rfl
    · rw [List.getElem?_eq_none (by rw [foundL_len]; omega), List.getElem?_eq_none (by omega)]
  unfold fnd foundE
  rw [if_neg (by omega), hall, hfl, if_pos, if_pos rfl]
  refine List.all_eq_true.2 fun c hc => ?_
  simp only [hl]
  exact (hf c hc).1
/-- Changes brought home, and a mark that isn't Live. -/
theorem home {on : Bool} {st : DSt} (hd : st.down = false) (hca : st.ca = []) (hl : st.pgs.length = 60) (h64 : P64 st.pgs) {q : Nat} (hq : q + 1 < 256) (hlv : liveHd (pgAt st.pgs 2) = true) (hs : getK (pgAt st.pgs 2) 0 4 = q) {cs : List (Int × Pg)}
    (hf : fnd st.pgs (getK (pgAt st.pgs 2) 5 2) (getK (pgAt st.pgs 2) 7 4 : Int) = some cs) {G : List Pg → Prop} (hG : Clo G) (hg : G (putAll st.pgs cs)) :
    ((dPut on st cs).1 = 5 ∧ on = true ∧ ∀ pgs', Torn (dPut on st cs).2.pgs (dPut on st cs).2.ca pgs' → OkD G (q + 1) pgs') ∨
    ((dPut on st cs).1 = 0 ∧ (((dMark on (dPut on st cs).2 ((2 : Nat) : Int) ((q + 1 : Nat) : Int) false 0 0).1 = 5 ∧ on = true ∧ ∀ pgs', Torn (dMark on (dPut on st cs).2 ((2 : Nat) : Int) ((q + 1 : Nat) : Int) false 0 0).2.pgs (dMark on (dPut on st cs).2 ((2 : Nat) : Int) ((q + 1 : Nat) : Int) false 0 0).2.ca pgs' → OkD G (q + 1) pgs') ∨
      ((dMark on (dPut on st cs).2 ((2 : Nat) : Int) ((q + 1 : Nat) : Int) false 0 0).1 = 0 ∧ (dMark on (dPut on st cs).2 ((2 : Nat) : Int) ((q + 1 : Nat) : Int) false 0 0).2.down = false ∧ (dMark on (dPut on st cs).2 ((2 : Nat) : Int) ((q + 1 : Nat) : Int) false 0 0).2.ca = [] ∧ (dMark on (dPut on st cs).2 ((2 : Nat) : Int) ((q + 1 : Nat) : Int) false 0 0).2.pgs = (putAll st.pgs cs).set 2 (headP ((q + 1 : Nat) : Int) false 0 0)))) := by
  have hfine := fnd_fine hl h64 hf
  have hin := hfine.inR hl
  have hc64 : ∀ c ∈ cs, c.2.length = 64 := fun c hc => (hfine c hc).2
  have hsq : seqB (pgAt st.pgs 2) q := live_seq (Bool.and_eq_true_iff.1 hlv).1 hs (by omega)
  rcases dPut_sum on cs st hd hin with ⟨a1, a2, a3, a4⟩ | ⟨a1, a2, a3, k, a4⟩
  · right
    refine ⟨a1, ?_⟩
    rw [layP_all hin, hca, layP_nil] at a4
    generalize dPut on st cs = w at *
    obtain ⟨n, st1⟩ := w
    simp only at a1 a2 a3 a4 ⊢
    have l1 : st1.pgs.length = 60 := by rw [a4, putAll_len]; exact hl
    have p1 : P64 st1.pgs := by rw [a4]; exact putAll_64 h64 hc64
    have e2 : pgAt st1.pgs 2 = pgAt st.pgs 2 := by rw [a4]; exact putAll_out hin (hfine.out (Nat.le_refl _) (by decide))
    have hc1 : fnd st1.pgs (getK (pgAt st1.pgs 2) 5 2) (getK (pgAt st1.pgs 2) 7 4 : Int) = some cs := by
      rw [e2, ← hf]
      refine fnd_congr l1 hl (fun i h1 h2 => ?_) _ _
      rw [a4]; exact putAll_out hin (hfine.out (by omega) h2)
    rcases mark_dead (on := on) a2 a3 l1 p1 hq (Nat.lt_succ_self q) (by rw [e2]; exact hsq) hG (by rw [a4]; exact hg) (fun _ => ⟨cs, hc1, by rw [a4]; exact putAll_twice hin⟩) with h | ⟨b1, b2, b3⟩
    · right; rw [a4] at h; exact h
    · exact .inl ⟨b1, b2, b3⟩
  · left
    refine ⟨a1, a2, fun pgs' hT => ?_⟩
    rw [a3, a4, hca] at hT
    obtain ⟨b1, b2, b3⟩ := put_torn hT hin h64 hc64
    have e2 : pgAt pgs' 2 = pgAt st.pgs 2 := b3 2 (hfine.out (Nat.le_refl _) (by decide))
    refine ⟨b1.trans hl, b2, by rw [e2]; exact ⟨Nat.le_trans hsq.1 (Nat.le_succ _), Nat.le_trans hsq.2 (Nat.le_succ _)⟩, .inl ⟨by rw [e2]; exact hlv, cs, ?_, ?_⟩⟩
    · rw [e2, ← hf]
      exact fnd_congr (b1.trans hl) hl (fun i h1 h2 => b3 i (hfine.out (by omega) h2)) _ _
    · rw [putAll_at b1 (by rw [b1]; exact hin) b3]; exact hg
end Go.Proofs.Ytfbkeieoeagkdaa

/- Journal, the plain law: Open mends, Commit breaks nothing. -/
namespace Go.Proofs.Ytfbkeieoeagkdaa
open Go AM
set_option linter.unusedSimpArgs false
set_option linter.unusedVariables false
set_option maxRecDepth 100000

theorem putAll_pt : ∀ {cs : List (Int × Pg)} {a b : List Pg} {i : Nat}, a.length = b.length → inR a.length cs → pgAt a i = pgAt b i → pgAt (putAll a cs) i = pgAt (putAll b cs) i
  | [], a, b, i, _, _, h => h
  | c :: r, a, b, i, hl, hr, h => by
    have h1 := hr c List.mem_cons_self
    refine putAll_pt (cs := r) (by simp [hl]) (by rw [List.length_set]; exact hr.tail) ?_
    rw [pgAt_set (by omega), pgAt_set (by omega), h]
/-- A disk at rest behind a mark. -/
structure Rest (s : Nat) (st : DSt) : Prop where
  down : st.down = false
  ca : st.ca = []
  len : st.pgs.length = 60
  p64 : P64 st.pgs
  hd : pgAt st.pgs 2 = headP (s : Int) false 0 0
theorem rest_set {s : Nat} {st : DSt} {pgs : List Pg} (h1 : st.down = false) (h2 : st.ca = []) (h3 : st.pgs = pgs.set 2 (headP (s : Int) false 0 0)) (hl : pgs.length = 60) (h64 : P64 pgs) : Rest s st :=
  ⟨h1, h2, by rw [h3, List.length_set]; exact hl, by rw [h3]; exact h64.set (headP_len _ _ _ _), by rw [h3, pgAt_set (by omega), if_pos rfl]⟩
theorem openB_err {n e : Int} {st : DSt} {sq : Int} (h : e ≠ 0) : openB (n, e, st) sq = (e, 0, 0, st) := if_pos h
theorem openB_ok {n : Int} {st : DSt} {sq : Int} : openB (n, 0, st) sq = (0, sq, n, st) := if_neg (by simp)
theorem open_ok {on : Bool} {left : Int} {pgs : List Pg} {G : List Pg → Prop} {q : Nat} (h : OkD G q pgs) (hq : q + 1 < 256) (hG : Clo G) :
    ((dOpen on ⟨false, left, pgs, []⟩ 2 20).1 = 5 ∧ on = true ∧ ∀ pgs', Torn (dOpen on ⟨false, left, pgs, []⟩ 2 20).2.2.2.pgs (dOpen on ⟨false, left, pgs, []⟩ 2 20).2.2.2.ca pgs' → OkD G (q + 1) pgs') ∨
    ((dOpen on ⟨false, left, pgs, []⟩ 2 20).1 = 0 ∧ ∃ s : Nat, s ≤ q + 1 ∧ (dOpen on ⟨false, left, pgs, []⟩ 2 20).2.1 = (s : Int) + 1 ∧ Rest s (dOpen on ⟨false, left, pgs, []⟩ 2 20).2.2.2 ∧ G (dOpen on ⟨false, left, pgs, []⟩ 2 20).2.2.2.pgs) := by
  have hl := h.len
  have h64 := h.p64
  have e1 : dOpen on ⟨false, left, pgs, []⟩ 2 20 = dOpenP on ⟨false, left, pgs, []⟩ 2 20 (pgAt pgs 2) := by
    unfold dOpen
    rw [if_neg (by simp), readP_at (by show 2 < pgs.length; omega)]
  rw [e1]
  unfold dOpenP
  rcases h.is with ⟨hlv, cs, hf, hg⟩ | ⟨hlv, hg⟩
  · rw [if_pos (show (wholeP (pgAt pgs 2) && liveP (pgAt pgs 2)) = true from hlv)]
    have hsq := h.seq.1
    obtain ⟨k, hk⟩ : ∃ k, getK (pgAt pgs 2) 0 4 = k := ⟨_, rfl⟩
    rw [hk] at hsq ⊢
    have hm := home (on := on) (st := ⟨false, left, pgs, []⟩) rfl rfl hl h64 (q := k) (by omega) hlv hk hf hG hg
    have hr : dRedo on ⟨false, left, pgs, []⟩ 2 20 (k : Int) (getK (pgAt pgs 2) 5 2) (getK (pgAt pgs 2) 7 4 : Int) = if (dPut on ⟨false, left, pgs, []⟩ cs).1 ≠ 0 then (0, (dPut on ⟨false, left, pgs, []⟩ cs).1, (dPut on ⟨false, left, pgs, []⟩ cs).2) else ((cs.length : Int), (dMark on (dPut on ⟨false, left, pgs, []⟩ cs).2 ((2 : Nat) : Int) ((k + 1 : Nat) : Int) false 0 0).1, (dMark on (dPut on ⟨false, left, pgs, []⟩ cs).2 ((2 : Nat) : Int) ((k + 1 : Nat) : Int) false 0 0).2) := by
      unfold dRedo
      have : foundE ⟨false, left, pgs, []⟩ 2 20 (getK (pgAt pgs 2) 5 2) (getK (pgAt pgs 2) 7 4 : Int) = some cs := (fnd_eq false left pgs _ _).trans hf
      rw [this]
      have e5 : (k : Int) + 1 = ((k + 1 : Nat) : Int) := rfl
      rw [e5]
    rw [hr]
    have hfine := fnd_fine hl h64 hf
    have p1 := putAll_64 h64 fun c hc => (hfine c hc).2
    have l1 : (putAll pgs cs).length = 60 := (putAll_len _ _).trans hl
    clear hr e1
    generalize dPut on ⟨false, left, pgs, []⟩ cs = w1 at *
    generalize dMark on w1.2 ((2 : Nat) : Int) ((k + 1 : Nat) : Int) false 0 0 = w2 at *
    obtain ⟨n1, st1⟩ := w1
    obtain ⟨n2, st2⟩ := w2
    simp only at hm ⊢
    rcases hm with ⟨a1, a2, a3⟩ | ⟨a1, ⟨b1, b2, b3⟩ | ⟨b1, b2, b3, b4⟩⟩
    · left
      subst a1
      rw [if_pos (by decide), openB_err (by decide)]
      exact ⟨rfl, a2, fun pgs' hT => (a3 pgs' hT).mono (by omega)⟩
    · left
      subst a1 b1
      rw [if_neg (by decide), openB_err (by decide)]
      exact ⟨rfl, b2, fun pgs' hT => (b3 pgs' hT).mono (by omega)⟩
    · right
      subst a1 b1
      rw [if_neg (by decide), openB_ok]
      refine ⟨rfl, k + 1, by omega, ?_, rest_set b2 b3 b4 l1 p1, ?_⟩
      · show (k : Int) + 2 = ((k + 1 : Nat) : Int) + 1
        omega
      · show G st2.pgs
        rw [b4]
        exact hG _ _ (DataEq.set2 l1 _) hg
  · rw [if_neg (by unfold liveHd at hlv; simp [hlv])]
    have hs1 := h.seq.1
    have hs2 := h.seq.2
    have hn : nextP (pgAt pgs 2) = max (getK (pgAt pgs 2) 0 4 + 1) (getK (pgAt pgs 2) 60 4 + 1) := rfl
    have hm := mark_dead (on := on) (st := ⟨false, left, pgs, []⟩) rfl rfl hl h64 (s := nextP (pgAt pgs 2)) (k := nextP (pgAt pgs 2) - 1) (by omega) (by omega) ⟨by simp only; omega, by simp only; omega⟩ hG hg (fun hc => by rw [hlv] at hc; cases hc)
    have hns : nextP (pgAt pgs 2) ≤ q + 1 := by omega
    generalize nextP (pgAt pgs 2) = s at *
    generalize dMark on ⟨false, left, pgs, []⟩ ((2 : Nat) : Int) (s : Int) false 0 0 = w2 at *
    unfold openM
    rcases hm with ⟨b1, b2, b3, b4⟩ | ⟨b1, b2, b3⟩
    · right
      rw [b1]
      simp only [ne_eq, not_true_eq_false, if_false]
      refine ⟨trivial, s, hns, rfl, rest_set b2 b3 b4 hl h64, ?_⟩
      rw [b4]
      exact hG _ _ (DataEq.set2 hl _) hg
    · left
      rw [b1]
      simp only [ne_eq, Int.reduceEq, not_false_eq_true, if_true]
      exact ⟨trivial, b2, fun pgs' hT => (b3 pgs' hT).mono hns⟩
/-- A Commit at rest. -/
theorem commit_ok {on : Bool} {st : DSt} {s : Nat} (hR : Rest s st) (hs : s + 4 < 256) {cs : List (Int × Pg)} (hc64 : ∀ c ∈ cs, c.2.length = 64) {G : List Pg → Prop} (hG : Clo G) (hg0 : G st.pgs) (hg1 : G (putAll st.pgs cs)) :
    (((dCommit on st 2 20 ((s : Int) + 1) false cs).1 = 22 ∨ (dCommit on st 2 20 ((s : Int) + 1) false cs).1 = 28) ∧ (dCommit on st 2 20 ((s : Int) + 1) false cs).2.2.2 = st) ∨
    ((dCommit on st 2 20 ((s : Int) + 1) false cs).1 = 0 ∧ Fine cs ∧ (cs.map (·.1)).Nodup ∧ (dCommit on st 2 20 ((s : Int) + 1) false cs).2.2.1 = false ∧ ∃ s' : Nat, s' ≤ s + 3 ∧ (dCommit on st 2 20 ((s : Int) + 1) false cs).2.1 = (s' : Int) + 1 ∧ Rest s' (dCommit on st 2 20 ((s : Int) + 1) false cs).2.2.2 ∧ DataEq (putAll st.pgs cs) (dCommit on st 2 20 ((s : Int) + 1) false cs).2.2.2.pgs) ∨
    ((dCommit on st 2 20 ((s : Int) + 1) false cs).1 = 5 ∧ on = true ∧ Fine cs ∧ (cs.map (·.1)).Nodup ∧ ∀ pgs', Torn (dCommit on st 2 20 ((s : Int) + 1) false cs).2.2.2.pgs (dCommit on st 2 20 ((s : Int) + 1) false cs).2.2.2.ca pgs' → OkD G (s + 3) pgs') := by
  have hl := hR.len
  have h64 := hR.p64
  unfold dCommit
  rw [if_neg (by simp)]
  by_cases hw : wrongE st.pgs.length 2 20 cs = 0
  case neg =>
    left
    rw [if_pos (.inl hw)]
    refine ⟨?_, rfl⟩
    simp only
    unfold wrongE at hw ⊢
    split at hw
    · rename_i h1
      rw [if_pos h1]
      split at hw
      · rename_i h2; rw [if_pos h2]; exact .inr rfl
      · exact absurd rfl hw
    · rename_i h1; rw [if_neg h1]; exact .inl rfl
  right
  have hgood : goodC st.pgs.length 2 20 cs = true ∧ ¬ roomJ (20 : Nat) < cs.length := by
    unfold wrongE at hw
    split at hw
    · rename_i h1
      split at hw
      · cases hw
      · rename_i h2; exact ⟨h1, h2⟩
    · cases hw
  obtain ⟨hgd, hrm⟩ := hgood
  unfold goodC at hgd
  obtain ⟨hmay, hnd⟩ := Bool.and_eq_true_iff.1 hgd
  have hnd := of_decide_eq_true hnd
  have hfine : Fine cs := fun c hc => ⟨by have := List.all_eq_true.1 hmay c hc; simpa [hl] using this, hc64 c hc⟩
  by_cases hnil : cs = []
  · left
    rw [if_pos (.inr hnil), hw]
    subst hnil
    exact ⟨rfl, hfine, hnd, rfl, s, by omega, rfl, hR, fun _ _ _ => rfl⟩
  rw [if_neg (by rintro (h | h); exact h hw; exact hnil h)]
  simp only
  have h19 := fits20 hrm
  have hll := laidL_len cs
  have hcl : 1 ≤ cs.length := by cases cs with
    | nil => exact absurd rfl hnil
    | cons c r => simp
  have hin := hfine.inR hl
  have hseqB : seqB (pgAt st.pgs 2) s := by
    rw [hR.hd]
    have := head_seq (s := s) (by omega) false 0 0
    exact ⟨by omega, by omega⟩
  have hdead : liveHd (pgAt st.pgs 2) = false := by rw [hR.hd]; unfold liveHd; rw [head_live, Bool.and_false]
  have hLin : inR st.pgs.length (fromL ((3 : Nat) : Int) (laidL cs)) := fun c hc => by
    have := fromL_in hc
    rw [hl]; omega
  have hL64 : ∀ c ∈ fromL ((3 : Nat) : Int) (laidL cs), c.2.length = 64 := fun c hc => laidL_64 hc64 _ (fromL_in hc).2.2
  have hLout : ∀ i : Nat, (i < 3 ∨ 22 ≤ i) → ∀ c ∈ fromL ((3 : Nat) : Int) (laidL cs), c.1 ≠ (i : Int) := fun i hi c hc => by
    have := fromL_in hc
    omega
  have e3 : (((2 : Nat) : Int) + 1) = ((3 : Nat) : Int) := rfl
  unfold dMake
  rw [e3]
  have hp1 := dPut_sum on (fromL ((3 : Nat) : Int) (laidL cs)) st hR.down hLin
  obtain ⟨w1, hw1⟩ : ∃ w1, dPut on st (fromL ((3 : Nat) : Int) (laidL cs)) = w1 := ⟨_, rfl⟩
  rw [hw1] at hp1 ⊢
  obtain ⟨n1, st1⟩ := w1
  simp only at hp1 ⊢
  rcases hp1 with ⟨a1, a2, a3, a4⟩ | ⟨a1, a2, a3, k, a4⟩
  case inr =>
    right
    subst a1
    simp only [ne_eq, Int.reduceEq, not_false_eq_true, if_true]
    refine ⟨trivial, a2, hfine, hnd, fun pgs' hT => ?_⟩
    rw [a3, a4, hR.ca] at hT
    obtain ⟨b1, b2, b3⟩ := put_torn hT hLin h64 hL64
    have e2 : pgAt pgs' 2 = pgAt st.pgs 2 := b3 2 (hLout 2 (by omega))
    refine ⟨b1.trans hl, b2, by rw [e2]; exact ⟨Nat.le_trans hseqB.1 (by omega), Nat.le_trans hseqB.2 (by omega)⟩, .inr ⟨by rw [e2]; exact hdead, hG _ _ (fun i hi hd => ?_) hg0⟩⟩
    exact (b3 i (hLout i (by omega))).symm
  subst a1
  rw [layP_all hLin, hR.ca, layP_nil] at a4
  simp only [ne_eq, not_true_eq_false, if_false]
  have l1 : st1.pgs.length = 60 := by rw [a4, putAll_len]; exact hl
  have p1 : P64 st1.pgs := by rw [a4]; exact putAll_64 h64 hL64
  have o1 : ∀ i : Nat, (i < 3 ∨ 22 ≤ i) → pgAt st1.pgs i = pgAt st.pgs i := fun i hi => by rw [a4]; exact putAll_out hLin (hLout i hi)
  have d1 : DataEq st.pgs st1.pgs := fun i _ hd => (o1 i (by omega)).symm
  have i1 : ∀ i, i < (laidL cs).length → pgAt st1.pgs (3 + i) = (laidL cs).getD i [] := fun i hi => by rw [a4]; exact putAll_fromL (by omega) hi
  have hsm := sumP_lt (laidL cs)
  have hsq1 : (s : Int) + 1 = ((s + 1 : Nat) : Int) := rfl
  have hr1 : rightH ((s + 1 : Nat) : Int) true (cs.length : Int) (sumP (laidL cs) : Int) = true := by
    unfold rightH
    rw [Bool.and_eq_true_iff]
    exact ⟨decide_eq_true (by omega), by rw [if_pos rfl]; exact decide_eq_true (by omega)⟩
  have hm1 := mark_sum (on := on) a2 a3 l1 p1 (s := s + 1) (k := s) (by omega) (by omega) (by rw [o1 2 (by omega)]; exact hseqB) hr1
  rw [hsq1]
  obtain ⟨w2, hw2⟩ : ∃ w2, dMark on st1 ((2 : Nat) : Int) ((s + 1 : Nat) : Int) true (cs.length : Int) (sumP (laidL cs) : Int) = w2 := ⟨_, rfl⟩
  rw [hw2] at hm1 ⊢
  obtain ⟨n2, st2⟩ := w2
  simp only at hm1 ⊢
  /- A disk with the Live head. -/
  have hliv : ∀ pgs2 : List Pg, pgs2 = st1.pgs.set 2 (headP ((s + 1 : Nat) : Int) true (cs.length : Int) (sumP (laidL cs) : Int)) →
      pgs2.length = 60 ∧ P64 pgs2 ∧ liveHd (pgAt pgs2 2) = true ∧ getK (pgAt pgs2 2) 0 4 = s + 1 ∧ seqB (pgAt pgs2 2) (s + 1) ∧ fnd pgs2 (getK (pgAt pgs2 2) 5 2) (getK (pgAt pgs2 2) 7 4 : Int) = some cs ∧ DataEq (putAll st.pgs cs) (putAll pgs2 cs) ∧ G (putAll pgs2 cs) := fun pgs2 hp => by
    have e : pgAt pgs2 2 = headP ((s + 1 : Nat) : Int) true (cs.length : Int) (sumP (laidL cs) : Int) := by rw [hp, pgAt_set (by omega), if_pos rfl]
    have l2 : pgs2.length = 60 := by rw [hp, List.length_set]; exact l1
    have hsq := head_seq (s := s + 1) (by omega) true (cs.length : Int) (sumP (laidL cs) : Int)
    have hD : DataEq (putAll st.pgs cs) (putAll pgs2 cs) := fun i hi hd => by
      refine putAll_pt (by rw [hl, l2]) hin ?_
      rw [hp, pgAt_set (by omega), if_neg (by omega), o1 i (by omega)]
    refine ⟨l2, by rw [hp]; exact p1.set (headP_len _ _ _ _), ?_, ?_, ?_, ?_, hD, hG _ _ hD hg1⟩
    · rw [e]; unfold liveHd; rw [head_live, Bool.and_true, head_whole (by omega) true (by omega) hsm]; exact hr1
    · rw [e]; exact hsq.1
    · rw [e]; exact ⟨by omega, by omega⟩
    · rw [e, head_cnt _ _ (by omega), head_sum _ _ _ hsm]
      exact fnd_laid l2 hfine (by omega) fun i hi => by rw [hp, pgAt_set (by omega), if_neg (by omega)]; exact i1 i hi
  rcases hm1 with ⟨a5, a6, a7, a8⟩ | ⟨a5, a6, a7⟩
  case inr =>
    right
    subst a5
    simp only [ne_eq, Int.reduceEq, not_false_eq_true, if_true]
    refine ⟨trivial, a6, hfine, hnd, fun pgs' hT => ?_⟩
    rcases a7 pgs' hT with hp | ⟨p', b1, b2, b3, hp⟩
    · obtain ⟨c1, c2, c3, c4, c5, c6, c7, c8⟩ := hliv pgs' hp
      exact ⟨c1, c2, ⟨Nat.le_trans c5.1 (by omega), Nat.le_trans c5.2 (by omega)⟩, .inl ⟨c3, cs, c6, c8⟩⟩
    · have e : pgAt pgs' 2 = p' := by rw [hp, pgAt_set (by omega), if_pos rfl]
      refine ⟨by rw [hp, List.length_set]; exact l1, by rw [hp]; exact p1.set b1, by rw [e]; exact ⟨Nat.le_trans b2.1 (by omega), Nat.le_trans b2.2 (by omega)⟩, .inr ⟨?_, ?_⟩⟩
      · rw [e]
        rcases b3 with rfl | b3
        · rw [o1 2 (by omega)]; exact hdead
        · unfold liveHd; rw [b3, Bool.false_and]
      · rw [hp]; exact hG _ _ (DataEq.set2 l1 _) (hG _ _ d1 hg0)
  subst a5
  simp only [ne_eq, not_true_eq_false, if_false]
  obtain ⟨c1, c2, c3, c4, c5, c6, c7, c8⟩ := hliv st2.pgs a8
  have hm := home (on := on) a6 a7 c1 c2 (q := s + 1) (by omega) c3 c4 c6 hG c8
  have hsq2 : ((s + 1 : Nat) : Int) + 1 = ((s + 1 + 1 : Nat) : Int) := rfl
  rw [hsq2]
  obtain ⟨w3, hw3⟩ : ∃ w3, dPut on st2 cs = w3 := ⟨_, rfl⟩
  rw [hw3] at hm ⊢
  obtain ⟨w4, hw4⟩ : ∃ w4, dMark on w3.2 ((2 : Nat) : Int) ((s + 1 + 1 : Nat) : Int) false 0 0 = w4 := ⟨_, rfl⟩
  rw [hw4] at hm ⊢
  rcases hm with ⟨b1, b2, b3⟩ | ⟨b1, ⟨b2, b3, b4⟩ | ⟨b2, b3, b4, b5⟩⟩
  · right
    rw [b1]
    simp only [ne_eq, Int.reduceEq, not_false_eq_true, if_true]
    exact ⟨trivial, b2, hfine, hnd, fun pgs' hT => (b3 pgs' hT).mono (by omega)⟩
  · right
    rw [b1, b2]
    simp only [ne_eq, Int.reduceEq, not_false_eq_true, not_true_eq_false, if_true, if_false]
    exact ⟨trivial, b3, hfine, hnd, fun pgs' hT => (b4 pgs' hT).mono (by omega)⟩
  · left
    rw [b1, b2]
    simp only [ne_eq, Int.reduceEq, not_false_eq_true, not_true_eq_false, if_true, if_false]
    have l4 : (putAll st2.pgs cs).length = 60 := (putAll_len _ _).trans c1
    refine ⟨trivial, hfine, hnd, rfl, s + 2, by omega, by omega, rest_set b3 b4 b5 l4 (putAll_64 c2 hc64), ?_⟩
    rw [b5]
    exact fun i hi hd => (c7 i hi hd).trans (DataEq.set2 l4 _ i hi hd)
end Go.Proofs.Ytfbkeieoeagkdaa

/- Journal, the law: pages of a disk. -/
namespace Go.Proofs.Ytfbkeieoeagkdaa
open Go AM
set_option linter.unusedSimpArgs false
set_option linter.unusedVariables false
set_option maxRecDepth 100000

/-- The pages that the law looks at. -/
def dataI (rd : Nat → Pg) (k : Nat) : List Pg := (List.range 60).map fun j => if j < k ∧ (j < 2 ∨ 22 ≤ j) then rd j else zs 64
theorem dataI_len (rd : Nat → Pg) (k : Nat) : (dataI rd k).length = 60 := by simp [dataI]
theorem dataI_at {rd : Nat → Pg} {k j : Nat} (h : j < 60) : pgAt (dataI rd k) j = if j < k ∧ (j < 2 ∨ 22 ≤ j) then rd j else zs 64 := by
  unfold pgAt dataI
  rw [List.getD_eq_getElem?_getD, List.getElem?_map, List.getElem?_range h]; rfl
theorem dataI_64 {rd : Nat → Pg} (h : ∀ j, (rd j).length = 64) (k : Nat) : P64 (dataI rd k) := fun p hp => by
  obtain ⟨j, hj, rfl⟩ := List.mem_map.1 hp
  show List.length (if j < k ∧ (j < 2 ∨ 22 ≤ j) then rd j else zs 64) = 64
  split
  · exact h j
  · rfl
theorem dataI_zero (rd : Nat → Pg) : pgC (dataI rd 0) = z3840 := by
  have : dataI rd 0 = List.replicate 60 (zs 64) := by
    unfold dataI
    simp only [Nat.not_lt_zero, false_and, if_false]
    rfl
  rw [this]
  rfl
theorem dataI_succ {rd : Nat → Pg} {k : Nat} (h : k < 60) (hd : k < 2 ∨ 22 ≤ k) : dataI rd (k + 1) = (dataI rd k).set k (rd k) := by
  refine pgs_ext (by rw [List.length_set, dataI_len, dataI_len]) fun j hj => ?_
  rw [dataI_len] at hj
  rw [pgAt_set (by rw [dataI_len]; exact h), dataI_at hj, dataI_at hj]
  by_cases hjk : j = k
  · subst hjk; rw [if_pos rfl, if_pos ⟨by omega, hd⟩]
  · rw [if_neg hjk]
    by_cases hc : j < k ∧ (j < 2 ∨ 22 ≤ j)
    · rw [if_pos hc, if_pos ⟨by omega, hc.2⟩]
    · rw [if_neg hc, if_neg (by omega)]
theorem dataI_skip {rd : Nat → Pg} {k : Nat} (hd : ¬ (k < 2 ∨ 22 ≤ k)) : dataI rd (k + 1) = dataI rd k := by
  unfold dataI
  apply List.map_congr_left
  intro j _
  by_cases hc : j < k ∧ (j < 2 ∨ 22 ≤ j)
  · rw [if_pos hc, if_pos ⟨by omega, hc.2⟩]
  · rw [if_neg hc, if_neg (by intro h; have : j = k ∨ j < k := by omega
                              rcases this with rfl | h2
                              · exact hd h.2
                              · exact hc ⟨h2, h.2⟩)]
theorem gets3840 {o : List AM.Obj} {e d t : Nat} {cs : List V} {r : List AM.Obj} (h : cs.length = 3840) : (⟨o ++ (.cells .ex t 0 cs :: r), e, d⟩ : Heap).gets o.length 0 3840 = some cs := by
  have hg : (o ++ (AM.Obj.cells .ex t 0 cs :: r))[o.length]? = some (.cells .ex t 0 cs) := app_get0 _ _ _
  simp only [Heap.gets, hg, Nat.zero_add, h, Nat.le_refl, if_true, List.drop_zero]
  rw [if_neg (by decide), List.take_of_length_le (by omega)]
theorem plains_app : ∀ (a b : List V), V.plains (a ++ b) = (V.plains a && V.plains b)
  | [], b => by simp [V.plains]
  | x :: r, b => by simp [V.plains, plains_app r b, Bool.and_assoc]
theorem pgC_plains : ∀ pgs : List Pg, V.plains (pgC pgs) = true
  | [] => rfl
  | p :: r => by
    have e1 : pgC (p :: r) = bytesA p ++ pgC r := rfl
    rw [e1, plains_app, pgC_plains r, bytesA_plains]; rfl
theorem pgC_one : ∀ pgs : List Pg, (pgC pgs).all V.one = true
  | [] => rfl
  | p :: r => by
    have e1 : pgC (p :: r) = bytesA p ++ pgC r := rfl
    rw [e1, List.all_append, pgC_one r, bytesA_one]; rfl
theorem z3840_drop : List.drop 3840 z3840 = [] := rfl
theorem z3840_len : z3840.length = 3840 := rfl
section
variable {o : List AM.Obj} {e d dd pg lm : Nat} {on down : Bool} {left : Int} {pgs : List Pg} {ca : List (Nat × Pg)}
set_option maxHeartbeats 8000000 in
theorem lpages_q (P : PD o dd pg lm on false left pgs ca) (hl : pgs.length = 60) : Den FF E2 33 [.ptr dd 0] ⟨o, e, d⟩ = some (.val (.agg (pgC (dataI (fun j => readP false pgs ca (j : Int)) 60))), none) := by
  refine To.den hxE2 (f := 33) (a := af33) rfl (E2_none rfl) (Nat.le_of_ble_eq_true rfl) ?_
  have h64 : ∀ j : Nat, (readP false pgs ca (j : Int)).length = 64 := fun j => by
    by_cases hj : j < pgs.length
    · exact readP_64 P j hj
    · unfold readP
      have h0 : hasE false pgs.length (j : Int) = 22 := by unfold hasE; rw [if_neg (by simp), if_pos (by omega)]
      rw [h0, if_neg (by decide)]; rfl
  generalize hrd : (fun j : Nat => readP false pgs ca (j : Int)) = rd
  have h64' : ∀ j, (rd j).length = 64 := fun j => by rw [← hrd]; exact h64 j
  have hz : z3840 = pgC (dataI rd 0) := (dataI_zero rd).symm
  (repeat' (first | refine To.seq hxE2 ?_ | refine To.op0 hxE2 (by simp only [go_sem, eqs hxE2, reduceIte, seval, Heap.gets, Heap.sets, Heap.get, bytesA_length, bytesA_one, bytesA_plains, List.take_of_length_le, List.drop_of_length_le, Nat.add_zero, V.one, Nat.reduceLeDiff, List.all_cons, List.all_nil, ne_eq, not_false_eq_true, Nat.zero_le]; rfl) ?_ | refine To.op1 hxE2 (by simp only [go_sem, eqs hxE2, reduceIte, seval, Heap.gets, Heap.sets, Heap.get, bytesA_length, bytesA_one, bytesA_plains, List.take_of_length_le, List.drop_of_length_le, Nat.add_zero, V.one, Nat.reduceLeDiff, List.all_cons, List.all_nil, ne_eq, not_false_eq_true, Nat.zero_le]; rfl) ?_ | refine To.nop hxE2 ?_ | refine To.block hxE2 ?_))
  refine To.loop hxE2 (fun m S h' => ∃ (i d1 : Nat) (r : List AM.Obj), i + m = 60 ∧ h' = ⟨o ++ (.cells .ex 70 0 z3840 :: .cells .ex 70 0 (pgC (dataI rd i)) :: r), o.length, d1⟩ ∧ o.length ≤ d1 ∧ S 0 = .ptr dd 0 ∧ S 2 = .ptr o.length 0 ∧ S 3 = .ptr (o.length + 1) 0 ∧ S 5 = .int .i64 (i : Int)) ?_ 60 _ _ ?_
  · rintro m S _ ⟨i, d1, r, hm, rfl, hd, s0, s2, s3, s5⟩
    have g1 : ∀ (x y : AM.Obj) r', (o ++ (x :: y :: r'))[o.length + 1]? = some y := fun x y r' => app_getk _ _ 1
    have g0 : ∀ (x : AM.Obj) r', (o ++ (x :: r'))[o.length]? = some x := fun x r' => app_get0 _ _ _
    have hst1 : ∀ (x y z : AM.Obj) r', (o ++ (x :: y :: r')).set (o.length + 1) z = o ++ (x :: z :: r') := fun x y z r' => app_setk _ _ 1 _
    have hD64 := dataI_64 h64' i
    have hDl := dataI_len rd i
    have hpl : (pgC (dataI rd i)).length = 3840 := by rw [pgC_len hD64, hDl]
    by_cases hi : i < 60
    · have hlt : decide ((i : Int) < 60) = true := decide_eq_true (by omega)
      have wi : IntKind.i64.wrap ((i : Int) + 1) = ((i + 1 : Nat) : Int) := by rw [wrap_i64 (by omega) (by omega)]; omega
      have ix : idxOf 60 (.int .i64 (i : Int)) = some i := idxOf_nat hi
      have q := fun r e d => read_q (e := e) (d := d) (P.app r) (i : Int)
      have h0 : hasE false pgs.length (i : Int) = 0 := by unfold hasE; rw [if_neg (by simp), if_neg (by omega)]
      rw [h0] at q
      have hri : readP false pgs ca (i : Int) = rd i := by rw [← hrd]
      rw [hri] at q
      have hp64 := h64' i
      by_cases hdd : i < 2 ∨ 22 ≤ i
      · have hsu := dataI_succ (rd := rd) hi hdd
        have hg : (dataI rd i)[i]? = some ((dataI rd i)[i]'(by omega)) := List.getElem?_eq_getElem (by omega)
        have e2 := pgC_set hD64 hg hp64
        rw [← hsu, List.append_assoc] at e2
        have hle : i * 64 + 64 ≤ 3840 := by omega
        generalize rd i = p at *
        have htk : List.take 64 (bytesA p) = bytesA p := List.take_of_length_le (by rw [bytesA_length]; omega)
        by_cases h2 : i < 2
        · have c1 : decide ((i : Int) < 2) = true := decide_eq_true (by omega)
          (repeat' (first | refine To.seq hxE2 ?_ | refine To.op0 hxE2 (by simp only [go_sem, eqs hxE2, reduceIte, seval, Heap.gets, Heap.sets, Heap.get, bytesA_length, bytesA_one, bytesA_plains, List.take_of_length_le, List.drop_of_length_le, Nat.add_zero, V.one, Nat.reduceLeDiff, List.all_cons, List.all_nil, ne_eq, not_false_eq_true, Nat.zero_le, s0, s2, s3, s5, hlt, wi, c1, ix, q, g1, hst1, hpl, hle, hp64, htk, ← e2]; rfl) ?_ | refine To.op1 hxE2 (by simp only [go_sem, eqs hxE2, reduceIte, seval, Heap.gets, Heap.sets, Heap.get, bytesA_length, bytesA_one, bytesA_plains, List.take_of_length_le, List.drop_of_length_le, Nat.add_zero, V.one, Nat.reduceLeDiff, List.all_cons, List.all_nil, ne_eq, not_false_eq_true, Nat.zero_le, s0, s2, s3, s5, hlt, wi, c1, ix, q, g1, hst1, hpl, hle, hp64, htk, ← e2]; rfl) ?_ | refine To.nop hxE2 ?_ | (refine To.condT hxE2 ?_ ?_; focus (simp only [go_sem, eqs hxE2, reduceIte, seval, Heap.gets, Heap.sets, Heap.get, bytesA_length, bytesA_one, bytesA_plains, List.take_of_length_le, List.drop_of_length_le, Nat.add_zero, V.one, Nat.reduceLeDiff, List.all_cons, List.all_nil, ne_eq, not_false_eq_true, Nat.zero_le, s0, s2, s3, s5, hlt, wi, c1, ix, q, g1, hst1, hpl, hle, hp64, htk, ← e2]; done)) | refine To.block hxE2 ?_ | refine To.skip hxE2 ?_))
          try simp only [andThen, outOf]
          refine ⟨m - 1, by omega, i + 1, _, r, by omega, rfl, by omega, ?_⟩
          simp only [go_sem, eqs hxE2, reduceIte, seval, s0, s2, s3]
        · have c1 : decide ((i : Int) < 2) = false := decide_eq_false (by omega)
          have c2 : decide (22 ≤ (i : Int)) = true := decide_eq_true (by omega)
          (repeat' (first | refine To.seq hxE2 ?_ | refine To.op0 hxE2 (by simp only [go_sem, eqs hxE2, reduceIte, seval, Heap.gets, Heap.sets, Heap.get, bytesA_length, bytesA_one, bytesA_plains, List.take_of_length_le, List.drop_of_length_le, Nat.add_zero, V.one, Nat.reduceLeDiff, List.all_cons, List.all_nil, ne_eq, not_false_eq_true, Nat.zero_le, s0, s2, s3, s5, hlt, wi, c1, c2, ix, q, g1, hst1, hpl, hle, hp64, htk, ← e2]; rfl) ?_ | refine To.op1 hxE2 (by simp only [go_sem, eqs hxE2, reduceIte, seval, Heap.gets, Heap.sets, Heap.get, bytesA_length, bytesA_one, bytesA_plains, List.take_of_length_le, List.drop_of_length_le, Nat.add_zero, V.one, Nat.reduceLeDiff, List.all_cons, List.all_nil, ne_eq, not_false_eq_true, Nat.zero_le, s0, s2, s3, s5, hlt, wi, c1, c2, ix, q, g1, hst1, hpl, hle, hp64, htk, ← e2]; rfl) ?_ | refine To.nop hxE2 ?_ | (refine To.condT hxE2 ?_ ?_; focus (simp only [go_sem, eqs hxE2, reduceIte, seval, Heap.gets, Heap.sets, Heap.get, bytesA_length, bytesA_one, bytesA_plains, List.take_of_length_le, List.drop_of_length_le, Nat.add_zero, V.one, Nat.reduceLeDiff, List.all_cons, List.all_nil, ne_eq, not_false_eq_true, Nat.zero_le, s0, s2, s3, s5, hlt, wi, c1, c2, ix, q, g1, hst1, hpl, hle, hp64, htk, ← e2]; done)) | refine To.block hxE2 ?_ | refine To.skip hxE2 ?_))
          try simp only [andThen, outOf]
          refine ⟨m - 1, by omega, i + 1, _, r, by omega, rfl, by omega, ?_⟩
          simp only [go_sem, eqs hxE2, reduceIte, seval, s0, s2, s3]
      · have hsu := dataI_skip (rd := rd) hdd
        have c1 : decide ((i : Int) < 2) = false := decide_eq_false (by omega)
        have c2 : decide (22 ≤ (i : Int)) = false := decide_eq_false (by omega)
        (repeat' (first | refine To.seq hxE2 ?_ | refine To.op0 hxE2 (by simp only [go_sem, eqs hxE2, reduceIte, seval, Heap.gets, Heap.sets, Heap.get, bytesA_length, bytesA_one, bytesA_plains, List.take_of_length_le, List.drop_of_length_le, Nat.add_zero, V.one, Nat.reduceLeDiff, List.all_cons, List.all_nil, ne_eq, not_false_eq_true, Nat.zero_le, s0, s2, s3, s5, hlt, wi, c1, c2]; rfl) ?_ | refine To.nop hxE2 ?_ | (refine To.condT hxE2 ?_ ?_; focus (simp only [go_sem, eqs hxE2, reduceIte, seval, Heap.gets, Heap.sets, Heap.get, bytesA_length, bytesA_one, bytesA_plains, List.take_of_length_le, List.drop_of_length_le, Nat.add_zero, V.one, Nat.reduceLeDiff, List.all_cons, List.all_nil, ne_eq, not_false_eq_true, Nat.zero_le, s0, s2, s3, s5, hlt, wi, c1, c2]; done)) | (refine To.condF hxE2 ?_ ?_; focus (simp only [go_sem, eqs hxE2, reduceIte, seval, Heap.gets, Heap.sets, Heap.get, bytesA_length, bytesA_one, bytesA_plains, List.take_of_length_le, List.drop_of_length_le, Nat.add_zero, V.one, Nat.reduceLeDiff, List.all_cons, List.all_nil, ne_eq, not_false_eq_true, Nat.zero_le, s0, s2, s3, s5, hlt, wi, c1, c2]; done)) | refine To.block hxE2 ?_ | refine To.skip hxE2 ?_))
        try simp only [andThen, outOf]
        refine ⟨m - 1, by omega, i + 1, d1, r, by omega, by rw [hsu], hd, ?_⟩
        simp only [go_sem, eqs hxE2, reduceIte, seval, s0, s2, s3]
    · have hlt : decide ((i : Int) < 60) = false := decide_eq_false (by omega)
      obtain rfl : i = 60 := by omega
      have htk : List.take 3840 (pgC (dataI rd 60)) = pgC (dataI rd 60) := List.take_of_length_le (by omega)
      (repeat' (first | refine To.seq hxE2 ?_ | refine To.op0 hxE2 (by simp only [go_sem, eqs hxE2, reduceIte, seval, Heap.gets, Heap.sets, Heap.get, bytesA_length, bytesA_one, bytesA_plains, List.take_of_length_le, List.drop_of_length_le, Nat.add_zero, V.one, Nat.reduceLeDiff, List.all_cons, List.all_nil, ne_eq, not_false_eq_true, Nat.zero_le, s0, s2, s3, s5, hlt]; rfl) ?_ | refine To.nop hxE2 ?_ | (refine To.condF hxE2 ?_ ?_; focus (simp only [go_sem, eqs hxE2, reduceIte, seval, Heap.gets, Heap.sets, Heap.get, bytesA_length, bytesA_one, bytesA_plains, List.take_of_length_le, List.drop_of_length_le, Nat.add_zero, V.one, Nat.reduceLeDiff, List.all_cons, List.all_nil, ne_eq, not_false_eq_true, Nat.zero_le, s0, s2, s3, s5, hlt]; done)) | refine To.exit hxE2 ?_))
      try simp only [andThen, outOf, if_true]
      have hst0 : ∀ (x y : AM.Obj) r', (o ++ (x :: r')).set o.length y = o ++ (y :: r') := fun x y r' => app_set0 _ _ _ _
      have hone := pgC_one (dataI rd 60)
      (repeat' (first | refine To.op0 hxE2 (by simp only [go_sem, eqs hxE2, reduceIte, seval, Heap.gets, Heap.sets, Heap.get, bytesA_length, bytesA_one, bytesA_plains, List.take_of_length_le, List.drop_of_length_le, Nat.add_zero, V.one, Nat.reduceLeDiff, List.all_cons, List.all_nil, ne_eq, not_false_eq_true, Nat.zero_le, s0, s2, s3, g0, g1, hst0, hone, hpl, htk, z3840_len, z3840_drop, List.append_nil]; rfl) ?_ | refine To.op1 hxE2 (by simp only [go_sem, eqs hxE2, reduceIte, seval, Heap.gets, Heap.sets, Heap.get, bytesA_length, bytesA_one, bytesA_plains, List.take_of_length_le, List.drop_of_length_le, Nat.add_zero, V.one, Nat.reduceLeDiff, List.all_cons, List.all_nil, ne_eq, not_false_eq_true, Nat.zero_le, s0, s2, s3, g0, g1, hst0, hone, hpl, htk, z3840_len, z3840_drop, List.append_nil]; rfl) ?_ | refine To.nop hxE2 ?_ | refine To.ret hxE2 ?_))
      try simp only [andThen, outOf]
      exact fin_kc (j := 2) (l := o.length) (n := 3840) (cs := pgC (dataI rd 60)) rfl (by first | (simp only [go_sem, eqs hxE2, reduceIte, seval, s2]; done) | exact s2) (gets3840 hpl) (pgC_plains _) (kp_app (by split <;> omega) (by omega))
  · refine ⟨0, o.length, [], by omega, by rw [hz], Nat.le_refl _, ?_⟩
    simp only [go_sem, eqs hxE2, reduceIte, seval, initS]
end
end Go.Proofs.Ytfbkeieoeagkdaa

