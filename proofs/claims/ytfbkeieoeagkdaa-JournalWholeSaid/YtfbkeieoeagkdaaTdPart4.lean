/- Own texts, joined: TdJnt, TdJnu, TdJnua, TdJnv. -/
import Derived.Test.YtfbkeieoeagkdaaTdPart3
/- Journal, the law: whether more than is played. -/
namespace Go.Proofs.Ytfbkeieoeagkdaa
open Go AM
set_option linter.unusedSimpArgs false
set_option linter.unusedVariables false
set_option maxRecDepth 100000

def op5c (v : V) : List V := .int .i64 0 :: .int .i64 0 :: v :: .nils :: z64
theorem op5c_len (v : V) : (op5c v).length = 68 := rfl
theorem len_one {v : V} {x : V × Option Heap} (h : lenLV v = some x) : v.one = true := by
  cases v <;> first | rfl | (simp [lenLV, zslOf] at h)
section
variable {o : List AM.Obj} {e d : Nat}
set_option maxHeartbeats 8000000 in
theorem great5_q {v1 v2 : V} {n1 n2 : Nat} (h1 : lenLV v1 = some (.int .i64 (n1 : Int), none)) (h2 : lenLV v2 = some (.int .i64 (n2 : Int), none)) {l : Nat} {ck : CK} {t : Nat} (hl : o[l]? = some (.cells ck t 0 (op5c v1 ++ op5c v2))) :
    Den FF E2 30 [.slice l 0 2 68, .int .i64 2] ⟨o, e, d⟩ = some (.val (.bool (decide (60 < n1) || decide (60 < n2))), none) := by
  refine To.den hxE2 (f := 30) (a := af30) rfl (E2_none rfl) (Nat.le_of_ble_eq_true rfl) ?_
  have o1 := len_one h1
  have o2 := len_one h2
  have l0 : lenLV .nils = some (.int .i64 0, none) := rfl
  (repeat' (first | refine To.seq hxE2 ?_ | refine To.op0 hxE2 (by simp only [go_sem, eqs hxE2, reduceIte, seval, Heap.gets, Heap.sets, Heap.get, bytesA_length, bytesA_one, bytesA_plains, List.take_of_length_le, List.drop_of_length_le, Nat.add_zero, V.one, Nat.reduceLeDiff, List.all_cons, List.all_nil, ne_eq, not_false_eq_true, Nat.zero_le]; rfl) ?_ | refine To.nop hxE2 ?_ | (refine To.condF hxE2 ?_ ?_; focus (simp only [go_sem, eqs hxE2, reduceIte, seval, Heap.gets, Heap.sets, Heap.get, bytesA_length, bytesA_one, bytesA_plains, List.take_of_length_le, List.drop_of_length_le, Nat.add_zero, V.one, Nat.reduceLeDiff, List.all_cons, List.all_nil, ne_eq, not_false_eq_true, Nat.zero_le]; done)) | refine To.block hxE2 ?_ | refine To.skip hxE2 ?_))
  refine To.loop hxE2 (fun m S h' => ∃ (i e1 d1 : Nat) (r : List AM.Obj), i + m = 2 ∧ h' = ⟨o ++ r, e1, d1⟩ ∧ o.length ≤ e1 ∧ o.length ≤ d1 ∧ (0 < i → n1 ≤ 60) ∧ (1 < i → n2 ≤ 60) ∧ S 11 = .slice l 0 2 68 ∧ S 12 = .int .i64 2 ∧ S 13 = .int .i64 (i : Int)) ?_ 2 _ _ ?_
  · rintro m S _ ⟨i, e1, d1, r, hm, rfl, he, hd, k1, k2, s11, s12, s13⟩
    have gl : ∀ r, (o ++ r)[l]? = some (.cells ck t 0 (op5c v1 ++ op5c v2)) := fun r => app_old hl r
    have gb : ∀ y : AM.Obj, (o ++ (r ++ [y]))[o.length + r.length]? = some y := fun y => by
      rw [app_getk]; simp
    by_cases hi : i < 2
    · have hlt : decide ((i : Int) < 2) = true := decide_eq_true (by omega)
      have wi : IntKind.i64.wrap ((i : Int) + 1) = ((i + 1 : Nat) : Int) := by rw [wrap_i64 (by omega) (by omega)]; omega
      have ix : idxOf 2 (.int .i64 (i : Int)) = some i := idxOf_nat hi
      obtain ⟨v, n, hv, hn, ho, hat, hle, hk1, hk2, hres⟩ : ∃ (v : V) (n : Nat), (v = if i = 0 then v1 else v2) ∧ lenLV v = some (.int .i64 (n : Int), none) ∧ v.one = true ∧ List.take 68 (List.drop (i * 68) (op5c v1 ++ op5c v2)) = op5c v ∧ i * 68 + 68 ≤ (op5c v1 ++ op5c v2).length ∧ (n ≤ 60 → (0 < i + 1 → n1 ≤ 60)) ∧ (n ≤ 60 → (1 < i + 1 → n2 ≤ 60)) ∧ (60 < n → (decide (60 < n1) || decide (60 < n2)) = true) := by
        rcases (by omega : i = 0 ∨ i = 1) with rfl | rfl
        · exact ⟨v1, n1, rfl, h1, o1, rfl, by rw [List.length_append]; exact (by decide : 0 * 68 + 68 ≤ 68 + 68), fun h _ => h, fun _ h => absurd h (by omega), fun h => by rw [decide_eq_true h]; rfl⟩
        · exact ⟨v2, n2, rfl, h2, o2, rfl, by rw [List.length_append]; exact (by decide : 1 * 68 + 68 ≤ 68 + 68), fun _ _ => k1 (by omega), fun h _ => h, fun h => by rw [decide_eq_true h, Bool.or_true]⟩
      have hcl := op5c_len v
      have hco : (op5c v).all V.one = true := by
        show (V.one _ && (V.one _ && (v.one && (V.one _ && z64.all V.one)))) = true
        rw [ho]; rfl
      have hc2 : (op5c v)[2]? = some v := rfl
      have hc3 : (op5c v)[3]? = some .nils := rfl
      have hd68 : List.drop 68 (op5c v) = [] := rfl
      have hz68 : op5z.length = 68 := rfl
      have hzd : List.drop 68 op5z = [] := rfl
      have htk : List.take 68 (op5c v) = op5c v := List.take_of_length_le (by rw [hcl]; exact Nat.le_refl _)
      generalize op5c v = c at *
      generalize op5c v1 ++ op5c v2 = cc at *
      by_cases h60 : 60 < n
      · have d60 : decide ((60 : Int) < (n : Int)) = true := decide_eq_true (by omega)
        rw [hres h60]
        (repeat' (first | refine To.seq hxE2 ?_ | refine To.op0 hxE2 (by simp only [go_sem, eqs hxE2, reduceIte, seval, Heap.gets, Heap.sets, Heap.get, bytesA_length, bytesA_one, bytesA_plains, List.take_of_length_le, List.drop_of_length_le, Nat.add_zero, V.one, Nat.reduceLeDiff, List.all_cons, List.all_nil, ne_eq, not_false_eq_true, Nat.zero_le, s11, s12, s13, hlt, wi, ix, gl, hat, hle, hcl, hco, hc2, hc3, hz68, hzd, htk, gb, hn, d60, l0, List.append_nil]; rfl) ?_ | refine To.op1 hxE2 (by simp only [go_sem, eqs hxE2, reduceIte, seval, Heap.gets, Heap.sets, Heap.get, bytesA_length, bytesA_one, bytesA_plains, List.take_of_length_le, List.drop_of_length_le, Nat.add_zero, V.one, Nat.reduceLeDiff, List.all_cons, List.all_nil, ne_eq, not_false_eq_true, Nat.zero_le, s11, s12, s13, hlt, wi, ix, gl, hat, hle, hcl, hco, hc2, hc3, hz68, hzd, htk, gb, hn, d60, l0, List.append_nil]; rfl) ?_ | refine To.nop hxE2 ?_ | (refine To.condT hxE2 ?_ ?_; focus (simp only [go_sem, eqs hxE2, reduceIte, seval, Heap.gets, Heap.sets, Heap.get, bytesA_length, bytesA_one, bytesA_plains, List.take_of_length_le, List.drop_of_length_le, Nat.add_zero, V.one, Nat.reduceLeDiff, List.all_cons, List.all_nil, ne_eq, not_false_eq_true, Nat.zero_le, s11, s12, s13, hlt, wi, ix, gl, hat, hle, hcl, hco, hc2, hc3, hz68, hzd, htk, gb, hn, d60, l0, List.append_nil]; done)) | refine To.block hxE2 ?_ | refine To.ret hxE2 ?_ | refine To.skip hxE2 ?_))
        exact fin_k1 (i := 4) (v := .bool true) rfl (by simp only [go_sem, eqs hxE2, reduceIte, seval]) rfl (kp_app (by split <;> omega) (by omega))
      · have d60 : decide ((60 : Int) < (n : Int)) = false := decide_eq_false (by omega)
        (repeat' (first | refine To.seq hxE2 ?_ | refine To.op0 hxE2 (by simp only [go_sem, eqs hxE2, reduceIte, seval, Heap.gets, Heap.sets, Heap.get, bytesA_length, bytesA_one, bytesA_plains, List.take_of_length_le, List.drop_of_length_le, Nat.add_zero, V.one, Nat.reduceLeDiff, List.all_cons, List.all_nil, ne_eq, not_false_eq_true, Nat.zero_le, s11, s12, s13, hlt, wi, ix, gl, hat, hle, hcl, hco, hc2, hc3, hz68, hzd, htk, gb, hn, d60, l0, List.append_nil]; rfl) ?_ | refine To.op1 hxE2 (by simp only [go_sem, eqs hxE2, reduceIte, seval, Heap.gets, Heap.sets, Heap.get, bytesA_length, bytesA_one, bytesA_plains, List.take_of_length_le, List.drop_of_length_le, Nat.add_zero, V.one, Nat.reduceLeDiff, List.all_cons, List.all_nil, ne_eq, not_false_eq_true, Nat.zero_le, s11, s12, s13, hlt, wi, ix, gl, hat, hle, hcl, hco, hc2, hc3, hz68, hzd, htk, gb, hn, d60, l0, List.append_nil]; rfl) ?_ | refine To.nop hxE2 ?_ | (refine To.condT hxE2 ?_ ?_; focus (simp only [go_sem, eqs hxE2, reduceIte, seval, Heap.gets, Heap.sets, Heap.get, bytesA_length, bytesA_one, bytesA_plains, List.take_of_length_le, List.drop_of_length_le, Nat.add_zero, V.one, Nat.reduceLeDiff, List.all_cons, List.all_nil, ne_eq, not_false_eq_true, Nat.zero_le, s11, s12, s13, hlt, wi, ix, gl, hat, hle, hcl, hco, hc2, hc3, hz68, hzd, htk, gb, hn, d60, l0, List.append_nil]; done)) | (refine To.condF hxE2 ?_ ?_; focus (simp only [go_sem, eqs hxE2, reduceIte, seval, Heap.gets, Heap.sets, Heap.get, bytesA_length, bytesA_one, bytesA_plains, List.take_of_length_le, List.drop_of_length_le, Nat.add_zero, V.one, Nat.reduceLeDiff, List.all_cons, List.all_nil, ne_eq, not_false_eq_true, Nat.zero_le, s11, s12, s13, hlt, wi, ix, gl, hat, hle, hcl, hco, hc2, hc3, hz68, hzd, htk, gb, hn, d60, l0, List.append_nil]; done)) | refine To.block hxE2 ?_ | refine To.skip hxE2 ?_))
        try simp only [andThen, outOf]
        refine ⟨m - 1, by omega, i + 1, _, _, _, by omega, rfl, by split <;> omega, by omega, hk1 (by omega), hk2 (by omega), ?_⟩
        simp only [go_sem, eqs hxE2, reduceIte, seval, s11, s12, s13]
    · have hlt : decide ((i : Int) < 2) = false := decide_eq_false (by omega)
      have r1 := k1 (by omega)
      have r2 := k2 (by omega)
      rw [decide_eq_false (by omega : ¬ 60 < n1), decide_eq_false (by omega : ¬ 60 < n2)]
      (repeat' (first | refine To.seq hxE2 ?_ | refine To.op0 hxE2 (by simp only [go_sem, eqs hxE2, reduceIte, seval, Heap.gets, Heap.sets, Heap.get, bytesA_length, bytesA_one, bytesA_plains, List.take_of_length_le, List.drop_of_length_le, Nat.add_zero, V.one, Nat.reduceLeDiff, List.all_cons, List.all_nil, ne_eq, not_false_eq_true, Nat.zero_le, s11, s12, s13, hlt]; rfl) ?_ | refine To.nop hxE2 ?_ | (refine To.condF hxE2 ?_ ?_; focus (simp only [go_sem, eqs hxE2, reduceIte, seval, Heap.gets, Heap.sets, Heap.get, bytesA_length, bytesA_one, bytesA_plains, List.take_of_length_le, List.drop_of_length_le, Nat.add_zero, V.one, Nat.reduceLeDiff, List.all_cons, List.all_nil, ne_eq, not_false_eq_true, Nat.zero_le, s11, s12, s13, hlt]; done)) | refine To.ret hxE2 ?_ | refine To.exit hxE2 ?_))
      try simp only [andThen, outOf, if_true]
      skip
      exact fin_k1 (i := 4) (v := .bool false) rfl (by simp only [go_sem, eqs hxE2, reduceIte, seval]) rfl (kp_app (by first | omega | (split <;> omega)) (by omega))
  · refine ⟨0, o.length, o.length, [], by omega, by rw [List.append_nil]; rfl, Nat.le_refl _, Nat.le_refl _, fun h => absurd h (by omega), fun h => absurd h (by omega), ?_⟩
    simp only [go_sem, eqs hxE2, reduceIte, seval, initS]
end
end Go.Proofs.Ytfbkeieoeagkdaa

/- Journal, the law: what comes in. -/
namespace Go.Proofs.Ytfbkeieoeagkdaa
open Go AM
set_option linter.unusedSimpArgs false
set_option linter.unusedVariables false
set_option maxRecDepth 100000

abbrev ChTy : Ty := .struct [.int .i64, .arr 64 (.int .u8)]
abbrev OffTy : Ty := .struct [.int .i64, .slice (.int .i64), .slice (.slice (.int .u8))]
theorem ch_of {o : List AM.Obj} {x : List V} (h : Ty.has o ChTy x) : ∃ c : Int × Pg, x = chC c ∧ c.2.length = 64 := by
  obtain ⟨c0, x0, rfl, ⟨K, rfl, _⟩, c1, x1, rfl, hp, rfl⟩ := h
  obtain ⟨p, rfl, hp64⟩ := has_bytes hp
  exact ⟨(K, p), by simp [chC], hp64⟩
theorem chs_of {o : List AM.Obj} : ∀ {xs : List (List V)}, (∀ x ∈ xs, Ty.has o ChTy x) → ∃ l : List (Int × Pg), xs = l.map chC ∧ ∀ c ∈ l, c.2.length = 64
  | [], _ => ⟨[], rfl, by simp⟩
  | a :: r, h => by
    obtain ⟨l, hl, hf⟩ := chs_of (xs := r) fun x hx => h x (List.mem_cons_of_mem _ hx)
    obtain ⟨y, rfl, hy⟩ := ch_of (h a List.mem_cons_self)
    refine ⟨y :: l, by rw [hl]; rfl, fun z hz => ?_⟩
    rcases List.mem_cons.1 hz with rfl | hz
    · exact hy
    · exact hf z hz
/-- Changes that came in: as ChRow, and never written. -/
structure CArg (o : List AM.Obj) (v : V) (cs : List (Int × Pg)) : Prop where
  len : lenLV v = some (.int .i64 (cs.length : Int), none)
  at_ : cs ≠ [] → ∃ l t, v = .slice l 0 cs.length 65 ∧ o[l]? = some (.cells .ro t 0 (cs.map chC).flatten)
  p64 : ∀ c ∈ cs, c.2.length = 64
  max : cs.length ≤ maxLen
theorem CArg.row {o : List AM.Obj} {v : V} {cs : List (Int × Pg)} (h : CArg o v cs) {o' : List AM.Obj} (hk : ∀ (l t : Nat) (c : List V), o[l]? = some (AM.Obj.cells .ro t 0 c) → o'[l]? = some (AM.Obj.cells .ro t 0 c)) : ChRow o' v cs :=
  ⟨h.len, fun hc => by obtain ⟨l, t, h1, h2⟩ := h.at_ hc; exact ⟨l, .ro, t, h1, hk _ _ _ h2, .inl rfl⟩, h.p64⟩
theorem carg_of {o : List AM.Obj} {v : V} (h : Ty.arg o (.slice ChTy) v) : ∃ cs, CArg o v cs := by
  rcases arg_slice h with rfl | ⟨a, rfl⟩ | ⟨l, n, rfl, hn, u, xs, q1, q2, q3⟩
  · exact ⟨[], rfl, fun h => absurd rfl h, by simp, Nat.zero_le _⟩
  · exact ⟨[], rfl, fun h => absurd rfl h, by simp, Nat.zero_le _⟩
  · obtain ⟨k, rfl, k1⟩ := chs_of q3
    rw [List.length_map] at q2
    subst q2
    exact ⟨k, rfl, fun _ => ⟨l, u, rfl, q1⟩, k1, hn⟩
/-- Numbers that came in. -/
structure IArg (o : List AM.Obj) (v : V) (ns : List Int) : Prop where
  len : lenLV v = some (.int .i64 (ns.length : Int), none)
  at_ : ns ≠ [] → ∃ l t, v = .slice l 0 ns.length 1 ∧ o[l]? = some (.cells .ro t 0 (ns.map fun n => V.int .i64 n))
  max : ns.length ≤ maxLen
  fit : ∀ n ∈ ns, n < 2 ^ 63
theorem ints_of {o : List AM.Obj} : ∀ {xs : List (List V)}, (∀ x ∈ xs, Ty.has o (.int .i64) x) → ∃ l : List Int, List.flatten xs = l.map (fun n => V.int .i64 n) ∧ l.length = xs.length ∧ ∀ n ∈ l, n < 2 ^ 63
  | [], _ => ⟨[], rfl, rfl, by simp⟩
  | a :: r, h => by
    obtain ⟨l, hl, hn, hf⟩ := ints_of (xs := r) fun x hx => h x (List.mem_cons_of_mem _ hx)
    obtain ⟨n, rfl, _, h2⟩ := h a List.mem_cons_self
    refine ⟨n :: l, by rw [List.flatten_cons, hl]; rfl, by rw [List.length_cons, List.length_cons, hn], fun z hz => ?_⟩
    rcases List.mem_cons.1 hz with rfl | hz
    · have e : IntKind.i64.max = 9223372036854775807 := rfl
      omega
    · exact hf z hz
theorem iarg_of {o : List AM.Obj} {v : V} (h : Ty.has o (.slice (.int .i64)) [v]) : ∃ ns, IArg o v ns := by
  rcases h with h | ⟨a, h⟩ | ⟨l, n, h, hn, u, xs, q1, q2, q3⟩
  · cases h; exact ⟨[], rfl, fun h => absurd rfl h, Nat.zero_le _, by simp⟩
  · cases h; exact ⟨[], rfl, fun h => absurd rfl h, Nat.zero_le _, by simp⟩
  · cases h
    obtain ⟨k, hk, k1, k2⟩ := ints_of q3
    rw [hk] at q1
    subst q2
    rw [← k1] at hn ⊢
    exact ⟨k, rfl, fun _ => ⟨l, u, rfl, q1⟩, hn, k2⟩
/-- Rows of bytes that came in. -/
structure BsArg (o : List AM.Obj) (v : V) (ks : List (V × List UInt8)) : Prop where
  len : lenLV v = some (.int .i64 (ks.length : Int), none)
  at_ : ks ≠ [] → ∃ l t, v = .slice l 0 ks.length 1 ∧ o[l]? = some (.cells .ro t 0 (ks.map (·.1)))
  max : ks.length ≤ maxLen
  fit : ∀ k ∈ ks, BArg o k.1 k.2 ∧ k.2.length ≤ maxLen ∧ k.1.one = true
theorem bs_of {o : List AM.Obj} : ∀ {xs : List (List V)}, (∀ x ∈ xs, Ty.has o (.slice (.int .u8)) x) → ∃ l : List (V × List UInt8), List.flatten xs = l.map (·.1) ∧ l.length = xs.length ∧ ∀ k ∈ l, BArg o k.1 k.2 ∧ k.2.length ≤ maxLen ∧ k.1.one = true
  | [], _ => ⟨[], rfl, rfl, by simp⟩
  | a :: r, h => by
    obtain ⟨l, hl, hn, hf⟩ := bs_of (xs := r) fun x hx => h x (List.mem_cons_of_mem _ hx)
    have ha := h a List.mem_cons_self
    obtain ⟨v, b, rfl, h1, h2, h3⟩ : ∃ v b, a = [v] ∧ BArg o v b ∧ b.length ≤ maxLen ∧ v.one = true := by
      rcases ha with rfl | ⟨a, rfl⟩ | ⟨l, n, rfl, hn, u, xs, q1, q2, q3⟩
      · exact ⟨.nils, [], rfl, ⟨rfl, fun h => absurd rfl h⟩, Nat.zero_le _, rfl⟩
      · exact ⟨.zsl a, [], rfl, ⟨rfl, fun h => absurd rfl h⟩, Nat.zero_le _, rfl⟩
      · obtain ⟨b, hb, hbl⟩ := has_u8 q3
        rw [hb] at q1
        subst q2
        rw [← hbl] at hn ⊢
        exact ⟨_, b, rfl, ⟨rfl, fun _ => ⟨l, u, rfl, q1⟩⟩, hn, rfl⟩
    refine ⟨(v, b) :: l, by rw [List.flatten_cons, hl]; rfl, by rw [List.length_cons, List.length_cons, hn], fun z hz => ?_⟩
    rcases List.mem_cons.1 hz with rfl | hz
    · exact ⟨h1, h2, h3⟩
    · exact hf z hz
theorem bsarg_of {o : List AM.Obj} {v : V} (h : Ty.has o (.slice (.slice (.int .u8))) [v]) : ∃ ks, BsArg o v ks := by
  rcases h with h | ⟨a, h⟩ | ⟨l, n, h, hn, u, xs, q1, q2, q3⟩
  · cases h; exact ⟨[], rfl, fun h => absurd rfl h, Nat.zero_le _, by simp⟩
  · cases h; exact ⟨[], rfl, fun h => absurd rfl h, Nat.zero_le _, by simp⟩
  · cases h
    obtain ⟨k, hk, k1, k2⟩ := bs_of q3
    rw [hk] at q1
    subst q2
    rw [← k1] at hn ⊢
    exact ⟨k, rfl, fun _ => ⟨l, u, rfl, q1⟩, hn, k2⟩
/-- How things break off, as it came in. -/
structure OffArg (o : List AM.Obj) (v : V) (f : Int) (ns : List Int) (ks : List (V × List UInt8)) : Prop where
  is : ∃ vf vk, v = .agg [.int .i64 f, vf, vk] ∧ IArg o vf ns ∧ BsArg o vk ks
  fit : f < 2 ^ 63
theorem off_of {o : List AM.Obj} {v : V} (h : Ty.arg o OffTy v) : ∃ f ns ks, OffArg o v f ns ks := by
  obtain ⟨cs, rfl, h'⟩ := arg_struct h
  obtain ⟨c0, x0, rfl, ⟨f, rfl, _, hf⟩, c1, x1, rfl, h1, c2, x2, rfl, h2, rfl⟩ := h'
  have e : IntKind.i64.max = 9223372036854775807 := rfl
  obtain ⟨vf, rfl⟩ : ∃ vf, c1 = [vf] := by rcases h1 with rfl | ⟨a, rfl⟩ | ⟨l, n, rfl, _⟩ <;> exact ⟨_, rfl⟩
  obtain ⟨vk, rfl⟩ : ∃ vk, c2 = [vk] := by rcases h2 with rfl | ⟨a, rfl⟩ | ⟨l, n, rfl, _⟩ <;> exact ⟨_, rfl⟩
  obtain ⟨ns, hn⟩ := iarg_of h1
  obtain ⟨ks, hk⟩ := bsarg_of h2
  exact ⟨f, ns, ks, ⟨vf, vk, rfl, hn, hk⟩, by omega⟩
end Go.Proofs.Ytfbkeieoeagkdaa

/- Journal, the law: what is seenP of the pages. -/
namespace Go.Proofs.Ytfbkeieoeagkdaa
open Go AM
set_option linter.unusedSimpArgs false
set_option linter.unusedVariables false
set_option maxRecDepth 100000

theorem cells_one {v : V} (h : v.one = true) : v.cells = [v] := by
  cases v <;> first | rfl | (simp [V.one] at h)
def allF (l : List Pg) (c : Int × Pg) : List Pg := if 0 ≤ c.1 ∧ c.1 < 60 then l.set c.1.toNat c.2 else l
def allL (W : List Pg) (cs : List (Int × Pg)) : List Pg := cs.foldl allF W
theorem allL_ok : ∀ {cs : List (Int × Pg)} {W : List Pg}, W.length = 60 → P64 W → (∀ c ∈ cs, c.2.length = 64) → (allL W cs).length = 60 ∧ P64 (allL W cs)
  | [], W, h, k, _ => ⟨h, k⟩
  | c :: r, W, h, k, hc => by
    have h2 : (allF W c).length = 60 := by unfold allF; split <;> simp [h]
    have k2 : P64 (allF W c) := by
      unfold allF
      split
      · exact k.set (hc c List.mem_cons_self)
      · exact k
    exact allL_ok (cs := r) h2 k2 fun x hx => hc x (List.mem_cons_of_mem _ hx)
theorem okD_zero : OkD (fun _ => True) 0 (List.replicate 60 (zs 64)) := by
  have e : pgAt (List.replicate 60 (zs 64)) 2 = zs 64 := rfl
  refine ⟨List.length_replicate, fun p hp => by rw [List.eq_of_mem_replicate hp]; rfl, by rw [e]; exact ⟨Nat.le_refl _, Nat.le_refl _⟩, .inr ⟨?_, trivial⟩⟩
  rw [e]
  unfold liveHd
  have : liveP (zs 64) = false := rfl
  rw [this, Bool.and_false]
theorem room20 : 1 ≤ roomJ (20 : Nat) := by decide +kernel
theorem pgC_flat : ∀ pgs : List Pg, pgC pgs = bytesA pgs.flatten
  | [] => rfl
  | p :: r => by
    have e1 : pgC (p :: r) = bytesA p ++ pgC r := rfl
    rw [e1, pgC_flat r, List.flatten_cons, bytesA_append]
theorem pflat_len : ∀ {pgs : List Pg}, P64 pgs → pgs.flatten.length = pgs.length * 64
  | [], _ => rfl
  | p :: r, h => by
    rw [List.flatten_cons, List.length_append, pflat_len (pgs := r) fun q hq => h q (List.mem_cons_of_mem _ hq), h p List.mem_cons_self, List.length_cons]
    omega
/-- Are two disks' pages the same? -/
theorem pgC_eq {a b : List Pg} (ha : a.length = 60) (hb : b.length = 60) (pa : P64 a) (pb : P64 b) : eqKs (kdsOf [(3840, .i)]) (pgC a) (pgC b) = some (a.flatten == b.flatten) := by
  rw [pgC_flat, pgC_flat]
  exact eqKs_page (by rw [pflat_len pa, ha]) (by rw [pflat_len pb, hb])
/-- What the law sees of a disk. -/
def seenP (pgs : List Pg) : List Pg := dataI (fun j => readP false pgs [] (j : Int)) 60
theorem seenP_len (pgs : List Pg) : (seenP pgs).length = 60 := dataI_len _ _
theorem readP_64' {pgs : List Pg} (h : P64 pgs) (j : Nat) : (readP false pgs [] (j : Int)).length = 64 := by
  by_cases hj : j < pgs.length
  · rw [readP_at hj]; exact h.at j
  · unfold readP
    have h0 : hasE false pgs.length (j : Int) = 22 := by unfold hasE; rw [if_neg (by simp), if_pos (by omega)]
    rw [h0, if_neg (by decide)]; rfl
theorem seenP_64 {pgs : List Pg} (h : P64 pgs) : P64 (seenP pgs) := dataI_64 (readP_64' h) 60
theorem seenP_at {pgs : List Pg} (hl : pgs.length = 60) {j : Nat} (h : j < 60) : pgAt (seenP pgs) j = if j < 2 ∨ 22 ≤ j then pgAt pgs j else zs 64 := by
  unfold seenP
  rw [dataI_at h]
  by_cases hd : j < 2 ∨ 22 ≤ j
  · rw [if_pos ⟨h, hd⟩, if_pos hd, readP_at (by omega)]
  · rw [if_neg (fun h => hd h.2), if_neg hd]
theorem seenP_eq {a b : List Pg} (ha : a.length = 60) (hb : b.length = 60) (h : DataEq a b) : seenP a = seenP b :=
  pgs_ext (by rw [seenP_len, seenP_len]) fun i hi => by
    rw [seenP_len] at hi
    rw [seenP_at ha hi, seenP_at hb hi]
    split
    · rename_i hd; exact h i hi hd
    · rfl
theorem seenP_put : ∀ {cs : List (Int × Pg)} {pgs : List Pg}, pgs.length = 60 → Fine cs → allL (seenP pgs) cs = seenP (putAll pgs cs)
  | [], pgs, _, _ => rfl
  | c :: r, pgs, hl, hf => by
    have h1 := may_in (hf c List.mem_cons_self).1
    have e : allF (seenP pgs) c = seenP (pgs.set c.1.toNat c.2) := by
      unfold allF
      rw [if_pos ⟨h1.1, h1.2.1⟩]
      refine pgs_ext (by rw [List.length_set, seenP_len, seenP_len]) fun i hi => ?_
      rw [List.length_set, seenP_len] at hi
      rw [pgAt_set (by rw [seenP_len]; omega), seenP_at hl hi, seenP_at (by rw [List.length_set]; exact hl) hi, pgAt_set (by omega)]
      by_cases hic : i = c.1.toNat
      · rw [if_pos hic, if_pos (by omega), if_pos hic]
      · rw [if_neg hic, if_neg hic]
    show (r.foldl allF (allF (seenP pgs) c)) = _
    rw [e]
    exact seenP_put (cs := r) (by rw [List.length_set]; exact hl) fun x hx => hf x (List.mem_cons_of_mem _ hx)
theorem rest_okD {s : Nat} {st : DSt} (h : Rest s st) (hs : s < 256) {G : List Pg → Prop} (hg : G st.pgs) {pgs' : List Pg} (hT : Torn st.pgs st.ca pgs') : OkD G s pgs' := by
  rw [h.ca] at hT
  rw [hT.none]
  refine ⟨h.len, h.p64, ?_, .inr ⟨?_, hg⟩⟩
  · rw [h.hd]
    have := head_seq hs false 0 0
    exact ⟨by omega, by omega⟩
  · rw [h.hd]; unfold liveHd; rw [head_live, Bool.and_false]
theorem clo_eq (X : List Pg) : Clo (DataEq X) := fun a b h k i hi hd => (k i hi hd).trans (h i hi hd)
/-- What a Commit leaves, as the law asks. -/
theorem commit_law {on : Bool} {st : DSt} {s : Nat} (hR : Rest s st) (hs : s + 4 < 256) {cs : List (Int × Pg)} (hc64 : ∀ c ∈ cs, c.2.length = 64) :
    (((dCommit on st 2 20 ((s : Int) + 1) false cs).1 = 22 ∨ (dCommit on st 2 20 ((s : Int) + 1) false cs).1 = 28) ∧ (dCommit on st 2 20 ((s : Int) + 1) false cs).2.2.2 = st) ∨
    (((dCommit on st 2 20 ((s : Int) + 1) false cs).1 = 0 ∨ (dCommit on st 2 20 ((s : Int) + 1) false cs).1 = 5) ∧ ∃ G, Clo G ∧ (∀ pgs', Torn (dCommit on st 2 20 ((s : Int) + 1) false cs).2.2.2.pgs (dCommit on st 2 20 ((s : Int) + 1) false cs).2.2.2.ca pgs' → OkD G (s + 3) pgs') ∧
      ∀ X, X.length = 60 → G X → (seenP X = seenP st.pgs ∨ seenP X = allL (seenP st.pgs) cs) ∧ ((dCommit on st 2 20 ((s : Int) + 1) false cs).1 = 0 → seenP X = allL (seenP st.pgs) cs)) := by
  have hl := hR.len
  have hG : Clo fun X => DataEq st.pgs X ∨ DataEq (putAll st.pgs cs) X := fun a b h k => k.imp (fun k => clo_eq _ _ _ h k) (fun k => clo_eq _ _ _ h k)
  have hpl : (putAll st.pgs cs).length = 60 := (putAll_len _ _).trans hl
  rcases commit_ok (on := on) hR hs hc64 hG (.inl fun _ _ _ => rfl) (.inr fun _ _ _ => rfl) with h | ⟨h1, h2, _, _, s', h4, _, h6, h7⟩ | ⟨h1, _, h2, _, h3⟩
  · exact .inl h
  · refine .inr ⟨.inl h1, DataEq (putAll st.pgs cs), clo_eq _, fun pgs' hT => (rest_okD h6 (by omega) h7 hT).mono h4, fun X hX hx => ?_⟩
    have e : seenP X = allL (seenP st.pgs) cs := by rw [seenP_put hl h2, seenP_eq hpl hX hx]
    exact ⟨.inr e, fun _ => e⟩
  · refine .inr ⟨.inr h1, _, hG, h3, fun X hX hx => ⟨?_, fun h => absurd (h1.symm.trans h) (by decide)⟩⟩
    rcases hx with hx | hx
    · exact .inl (seenP_eq hl hX hx).symm
    · exact .inr (by rw [seenP_put hl h2, seenP_eq hpl hX hx])
end Go.Proofs.Ytfbkeieoeagkdaa

/- Journal, the law JournalWhole: the walk. -/
namespace Go.Proofs.Ytfbkeieoeagkdaa
open Go AM
set_option linter.unusedSimpArgs false
set_option linter.unusedVariables false
set_option maxRecDepth 100000

set_option maxHeartbeats 64000000 in
theorem lawWholeJ {o : List AM.Obj} {va vb vx : V} {first then_ : List (Int × Pg)} {f : Int} {ns : List Int} {ks : List (V × List UInt8)} (h1 : CArg o va first) (h2 : CArg o vb then_) (hx : OffArg o vx f ns ks) :
    ∃ r oh, Den FF E2 7 [va, vb, vx] ⟨o, 0, 0⟩ = some (r, oh) ∧ r = .val (.bool true) := by
  refine To.denE hxE2 (f := 7) (a := af7) rfl (E2_none rfl) (Nat.le_of_ble_eq_true rfl) ?_
  obtain ⟨vf, vk, rfl, hf, hk⟩ := hx.is
  have hf63 := hx.fit
  have l1 := h1.len
  have l2 := h2.len
  have lf := hf.len
  have lk := hk.len
  have o1 := len_one l1
  have o2 := len_one l2
  have of := len_one lf
  have ok := len_one lk
  have ca := cells_one o1
  have cb := cells_one o2
  unfold V.cells at ca cb
  have hcc : op5c va ++ op5c vb = .int .i64 0 :: .int .i64 0 :: va :: .nils :: (z64 ++ .int .i64 0 :: .int .i64 0 :: vb :: .nils :: z64) := rfl
  have qg := fun e d => great5_q (o := o ++ [.cells .ex 61 0 [.int .i64 f, vf, vk], .cells .ex 64 0 (op5c va ++ op5c vb)]) (e := e) (d := d) l1 l2 (l := o.length + 1) (app_getk _ _ 1)
  rw [hcc] at qg
  have hd64 : ∀ x, List.drop 64 (z64 ++ x) = x := fun x => List.drop_left' z64_len
  have ht64 : ∀ x, List.take 64 (z64 ++ x) = z64 := fun x => List.take_left' z64_len
  have ho5 : op5z = .int .i64 0 :: .int .i64 0 :: .nils :: .nils :: z64 := rfl
  have ho55 : op5zz = .int .i64 0 :: .int .i64 0 :: .nils :: .nils :: (z64 ++ .int .i64 0 :: .int .i64 0 :: .nils :: .nils :: z64) := rfl
  have fin : ∀ (S : Nat → V) (h' : Heap), S 6 = .bool true → ∃ v oh, finish af7 ⟨o, 0, 0⟩ (some (.ret, S, h')) = some (v, oh) ∧ v = .val (.bool true) := fun S h' h => ⟨_, _, fin1 (i := 6) rfl, by rw [h]⟩
  by_cases hg : (decide (60 < first.length) || decide (60 < then_.length)) = true
  · rw [hg] at qg
    (repeat' (first | refine To.seq hxE2 ?_ | refine To.op0 hxE2 (by simp only [go_sem, eqs hxE2, reduceIte, seval, Heap.gets, Heap.sets, Heap.get, bytesA_length, bytesA_one, bytesA_plains, List.take_of_length_le, List.drop_of_length_le, Nat.add_zero, V.one, Nat.reduceLeDiff, List.all_cons, List.all_nil, ne_eq, not_false_eq_true, Nat.zero_le, eAwake05_2 (), o1, o2, of, ok, ho5, ho55, hd64, ht64, z64_len, z64_drop, z64_take, z64_one, z64_plains, List.length_append, qg, lf, lk, ca, cb]; rfl) ?_ | refine To.op1 hxE2 (by simp only [go_sem, eqs hxE2, reduceIte, seval, Heap.gets, Heap.sets, Heap.get, bytesA_length, bytesA_one, bytesA_plains, List.take_of_length_le, List.drop_of_length_le, Nat.add_zero, V.one, Nat.reduceLeDiff, List.all_cons, List.all_nil, ne_eq, not_false_eq_true, Nat.zero_le, eAwake05_2 (), o1, o2, of, ok, ho5, ho55, hd64, ht64, z64_len, z64_drop, z64_take, z64_one, z64_plains, List.length_append, qg, lf, lk, ca, cb]; rfl) ?_ | refine To.nop hxE2 ?_ | (refine To.condT hxE2 ?_ ?_; focus (simp only [go_sem, eqs hxE2, reduceIte, seval, Heap.gets, Heap.sets, Heap.get, bytesA_length, bytesA_one, bytesA_plains, List.take_of_length_le, List.drop_of_length_le, Nat.add_zero, V.one, Nat.reduceLeDiff, List.all_cons, List.all_nil, ne_eq, not_false_eq_true, Nat.zero_le, eAwake05_2 (), o1, o2, of, ok, ho5, ho55, hd64, ht64, z64_len, z64_drop, z64_take, z64_one, z64_plains, List.length_append, qg, lf, lk, ca, cb]; done)) | (refine To.condF hxE2 ?_ ?_; focus (simp only [go_sem, eqs hxE2, reduceIte, seval, Heap.gets, Heap.sets, Heap.get, bytesA_length, bytesA_one, bytesA_plains, List.take_of_length_le, List.drop_of_length_le, Nat.add_zero, V.one, Nat.reduceLeDiff, List.all_cons, List.all_nil, ne_eq, not_false_eq_true, Nat.zero_le, eAwake05_2 (), o1, o2, of, ok, ho5, ho55, hd64, ht64, z64_len, z64_drop, z64_take, z64_one, z64_plains, List.length_append, qg, lf, lk, ca, cb]; done)) | refine To.ret hxE2 ?_ | refine To.skip hxE2 ?_))
    exact fin _ _ (by simp only [go_sem, eqs hxE2, reduceIte, seval])
  have hg := Bool.eq_false_iff.2 hg
  rw [hg] at qg
  rw [Bool.or_eq_false_iff] at hg
  have hn1 : first.length ≤ 60 := by have := of_decide_eq_false hg.1; omega
  have hn2 : then_.length ≤ 60 := by have := of_decide_eq_false hg.2; omega
  by_cases hns : 10 < ns.length
  · have d1 : decide ((10 : Int) < (ns.length : Int)) = true := decide_eq_true (by omega)
    (repeat' (first | refine To.seq hxE2 ?_ | refine To.op0 hxE2 (by simp only [go_sem, eqs hxE2, reduceIte, seval, Heap.gets, Heap.sets, Heap.get, bytesA_length, bytesA_one, bytesA_plains, List.take_of_length_le, List.drop_of_length_le, Nat.add_zero, V.one, Nat.reduceLeDiff, List.all_cons, List.all_nil, ne_eq, not_false_eq_true, Nat.zero_le, eAwake05_2 (), o1, o2, of, ok, ho5, ho55, hd64, ht64, z64_len, z64_drop, z64_take, z64_one, z64_plains, List.length_append, qg, lf, lk, ca, cb, d1]; rfl) ?_ | refine To.op1 hxE2 (by simp only [go_sem, eqs hxE2, reduceIte, seval, Heap.gets, Heap.sets, Heap.get, bytesA_length, bytesA_one, bytesA_plains, List.take_of_length_le, List.drop_of_length_le, Nat.add_zero, V.one, Nat.reduceLeDiff, List.all_cons, List.all_nil, ne_eq, not_false_eq_true, Nat.zero_le, eAwake05_2 (), o1, o2, of, ok, ho5, ho55, hd64, ht64, z64_len, z64_drop, z64_take, z64_one, z64_plains, List.length_append, qg, lf, lk, ca, cb, d1]; rfl) ?_ | refine To.nop hxE2 ?_ | (refine To.condT hxE2 ?_ ?_; focus (simp only [go_sem, eqs hxE2, reduceIte, seval, Heap.gets, Heap.sets, Heap.get, bytesA_length, bytesA_one, bytesA_plains, List.take_of_length_le, List.drop_of_length_le, Nat.add_zero, V.one, Nat.reduceLeDiff, List.all_cons, List.all_nil, ne_eq, not_false_eq_true, Nat.zero_le, eAwake05_2 (), o1, o2, of, ok, ho5, ho55, hd64, ht64, z64_len, z64_drop, z64_take, z64_one, z64_plains, List.length_append, qg, lf, lk, ca, cb, d1]; done)) | (refine To.condF hxE2 ?_ ?_; focus (simp only [go_sem, eqs hxE2, reduceIte, seval, Heap.gets, Heap.sets, Heap.get, bytesA_length, bytesA_one, bytesA_plains, List.take_of_length_le, List.drop_of_length_le, Nat.add_zero, V.one, Nat.reduceLeDiff, List.all_cons, List.all_nil, ne_eq, not_false_eq_true, Nat.zero_le, eAwake05_2 (), o1, o2, of, ok, ho5, ho55, hd64, ht64, z64_len, z64_drop, z64_take, z64_one, z64_plains, List.length_append, qg, lf, lk, ca, cb, d1]; done)) | refine To.ret hxE2 ?_ | refine To.skip hxE2 ?_))
    exact fin _ _ (by simp only [go_sem, eqs hxE2, reduceIte, seval])
  have d1 : decide ((10 : Int) < (ns.length : Int)) = false := decide_eq_false (by omega)
  by_cases hks : 10 < ks.length
  · have d2 : decide ((10 : Int) < (ks.length : Int)) = true := decide_eq_true (by omega)
    (repeat' (first | refine To.seq hxE2 ?_ | refine To.op0 hxE2 (by simp only [go_sem, eqs hxE2, reduceIte, seval, Heap.gets, Heap.sets, Heap.get, bytesA_length, bytesA_one, bytesA_plains, List.take_of_length_le, List.drop_of_length_le, Nat.add_zero, V.one, Nat.reduceLeDiff, List.all_cons, List.all_nil, ne_eq, not_false_eq_true, Nat.zero_le, eAwake05_2 (), o1, o2, of, ok, ho5, ho55, hd64, ht64, z64_len, z64_drop, z64_take, z64_one, z64_plains, List.length_append, qg, lf, lk, ca, cb, d1, d2]; rfl) ?_ | refine To.op1 hxE2 (by simp only [go_sem, eqs hxE2, reduceIte, seval, Heap.gets, Heap.sets, Heap.get, bytesA_length, bytesA_one, bytesA_plains, List.take_of_length_le, List.drop_of_length_le, Nat.add_zero, V.one, Nat.reduceLeDiff, List.all_cons, List.all_nil, ne_eq, not_false_eq_true, Nat.zero_le, eAwake05_2 (), o1, o2, of, ok, ho5, ho55, hd64, ht64, z64_len, z64_drop, z64_take, z64_one, z64_plains, List.length_append, qg, lf, lk, ca, cb, d1, d2]; rfl) ?_ | refine To.nop hxE2 ?_ | (refine To.condT hxE2 ?_ ?_; focus (simp only [go_sem, eqs hxE2, reduceIte, seval, Heap.gets, Heap.sets, Heap.get, bytesA_length, bytesA_one, bytesA_plains, List.take_of_length_le, List.drop_of_length_le, Nat.add_zero, V.one, Nat.reduceLeDiff, List.all_cons, List.all_nil, ne_eq, not_false_eq_true, Nat.zero_le, eAwake05_2 (), o1, o2, of, ok, ho5, ho55, hd64, ht64, z64_len, z64_drop, z64_take, z64_one, z64_plains, List.length_append, qg, lf, lk, ca, cb, d1, d2]; done)) | (refine To.condF hxE2 ?_ ?_; focus (simp only [go_sem, eqs hxE2, reduceIte, seval, Heap.gets, Heap.sets, Heap.get, bytesA_length, bytesA_one, bytesA_plains, List.take_of_length_le, List.drop_of_length_le, Nat.add_zero, V.one, Nat.reduceLeDiff, List.all_cons, List.all_nil, ne_eq, not_false_eq_true, Nat.zero_le, eAwake05_2 (), o1, o2, of, ok, ho5, ho55, hd64, ht64, z64_len, z64_drop, z64_take, z64_one, z64_plains, List.length_append, qg, lf, lk, ca, cb, d1, d2]; done)) | refine To.ret hxE2 ?_ | refine To.skip hxE2 ?_))
    exact fin _ _ (by simp only [go_sem, eqs hxE2, reduceIte, seval])
  have d2 : decide ((10 : Int) < (ks.length : Int)) = false := decide_eq_false (by omega)
  (repeat' (first | refine To.seq hxE2 ?_ | refine To.op0 hxE2 (by simp only [go_sem, eqs hxE2, reduceIte, seval, Heap.gets, Heap.sets, Heap.get, bytesA_length, bytesA_one, bytesA_plains, List.take_of_length_le, List.drop_of_length_le, Nat.add_zero, V.one, Nat.reduceLeDiff, List.all_cons, List.all_nil, ne_eq, not_false_eq_true, Nat.zero_le, eAwake05_2 (), o1, o2, of, ok, ho5, ho55, hd64, ht64, z64_len, z64_drop, z64_take, z64_one, z64_plains, List.length_append, qg, lf, lk, ca, cb, d1, d2]; rfl) ?_ | refine To.op1 hxE2 (by simp only [go_sem, eqs hxE2, reduceIte, seval, Heap.gets, Heap.sets, Heap.get, bytesA_length, bytesA_one, bytesA_plains, List.take_of_length_le, List.drop_of_length_le, Nat.add_zero, V.one, Nat.reduceLeDiff, List.all_cons, List.all_nil, ne_eq, not_false_eq_true, Nat.zero_le, eAwake05_2 (), o1, o2, of, ok, ho5, ho55, hd64, ht64, z64_len, z64_drop, z64_take, z64_one, z64_plains, List.length_append, qg, lf, lk, ca, cb, d1, d2]; rfl) ?_ | refine To.nop hxE2 ?_ | (refine To.condF hxE2 ?_ ?_; focus (simp only [go_sem, eqs hxE2, reduceIte, seval, Heap.gets, Heap.sets, Heap.get, bytesA_length, bytesA_one, bytesA_plains, List.take_of_length_le, List.drop_of_length_le, Nat.add_zero, V.one, Nat.reduceLeDiff, List.all_cons, List.all_nil, ne_eq, not_false_eq_true, Nat.zero_le, eAwake05_2 (), o1, o2, of, ok, ho5, ho55, hd64, ht64, z64_len, z64_drop, z64_take, z64_one, z64_plains, List.length_append, qg, lf, lk, ca, cb, d1, d2]; done)) | refine To.block hxE2 ?_ | refine To.skip hxE2 ?_))
  have gbx : ∀ r, (o ++ (AM.Obj.cells .ex 61 0 [.int .i64 f, vf, vk] :: r))[o.length]? = some (.cells .ex 61 0 [.int .i64 f, vf, vk]) := fun r => app_get0 _ _ _
  generalize hO : [AM.Obj.cells .ex 61 0 [.int .i64 f, vf, vk], .cells .ex 64 0 (V.int .i64 0 :: V.int .i64 0 :: va :: V.nils :: (z64 ++ V.int .i64 0 :: V.int .i64 0 :: vb :: V.nils :: z64))] = R0 at *
  have gR : (o ++ R0)[o.length]? = some (.cells .ex 61 0 [.int .i64 f, vf, vk]) := by rw [← hO]; exact gbx _
  have hold0 : ∀ (l t : Nat) (c : List V), o[l]? = some (AM.Obj.cells .ro t 0 c) → (o ++ R0)[l]? = some (AM.Obj.cells .ro t 0 c) := fun l t c h => app_old h _
  have hRl : R0.length = 2 := by rw [← hO]; rfl
  refine To.loop hxE2 (fun m S h' => ∃ (i : Nat), i + m = ks.length ∧ h' = ⟨o ++ R0, o.length, o.length⟩ ∧ (∀ j, j < i → (ks.getD j (.nils, [])).2.length ≤ 600) ∧ S 0 = va ∧ S 1 = vb ∧ S 5 = .ptr o.length 0 ∧ S 46 = vk ∧ S 47 = .int .i64 (ks.length : Int) ∧ S 48 = .int .i64 (i : Int)) ?_ ks.length _ _ ?_
  rotate_left
  · refine ⟨0, by omega, rfl, fun j h => absurd h (by omega), ?_⟩
    simp only [go_sem, eqs hxE2, reduceIte, seval, initS]
  rintro m S _ ⟨i, hm, rfl, h600, s0, s1, s5, s46, s47, s48⟩
  by_cases hi : i < ks.length
  · have hlt : decide ((i : Int) < (ks.length : Int)) = true := decide_eq_true (by omega)
    have wi : IntKind.i64.wrap ((i : Int) + 1) = ((i + 1 : Nat) : Int) := by rw [wrap_i64 (by omega) (by omega)]; omega
    have ix : idxOf ks.length (.int .i64 (i : Int)) = some i := idxOf_nat hi
    obtain ⟨lk0, tk0, rfl, hlk⟩ := hk.at_ (by rintro rfl; simp at hi)
    have hkg : ks[i]? = some (ks[i]'hi) := List.getElem?_eq_getElem hi
    have hkd : ks.getD i (.nils, []) = ks[i]'hi := by rw [List.getD_eq_getElem?_getD, hkg]; rfl
    obtain ⟨hb, hbm, hb1⟩ := hk.fit _ (List.getElem_mem hi)
    generalize ks[i]'hi = x at *
    have hxg : (ks.map (·.1))[i]? = some x.1 := by rw [List.getElem?_map, hkg]; rfl
    have glk := hold0 _ _ _ hlk
    have hbl := hb.len
    by_cases h6 : 600 < x.2.length
    · have d6 : decide ((600 : Int) < (x.2.length : Int)) = true := decide_eq_true (by omega)
      (repeat' (first | refine To.seq hxE2 ?_ | refine To.op0 hxE2 (by simp only [go_sem, eqs hxE2, reduceIte, seval, Heap.gets, Heap.sets, Heap.get, bytesA_length, bytesA_one, bytesA_plains, List.take_of_length_le, List.drop_of_length_le, Nat.add_zero, V.one, Nat.reduceLeDiff, List.all_cons, List.all_nil, ne_eq, not_false_eq_true, Nat.zero_le, s46, s47, s48, hlt, ix, glk, hxg, hbl, d6]; rfl) ?_ | refine To.nop hxE2 ?_ | (refine To.condT hxE2 ?_ ?_; focus (simp only [go_sem, eqs hxE2, reduceIte, seval, Heap.gets, Heap.sets, Heap.get, bytesA_length, bytesA_one, bytesA_plains, List.take_of_length_le, List.drop_of_length_le, Nat.add_zero, V.one, Nat.reduceLeDiff, List.all_cons, List.all_nil, ne_eq, not_false_eq_true, Nat.zero_le, s46, s47, s48, hlt, ix, glk, hxg, hbl, d6]; done)) | refine To.block hxE2 ?_ | refine To.ret hxE2 ?_ | refine To.skip hxE2 ?_))
      exact fin _ _ (by simp only [go_sem, eqs hxE2, reduceIte, seval])
    · have d6 : decide ((600 : Int) < (x.2.length : Int)) = false := decide_eq_false (by omega)
      (repeat' (first | refine To.seq hxE2 ?_ | refine To.op0 hxE2 (by simp only [go_sem, eqs hxE2, reduceIte, seval, Heap.gets, Heap.sets, Heap.get, bytesA_length, bytesA_one, bytesA_plains, List.take_of_length_le, List.drop_of_length_le, Nat.add_zero, V.one, Nat.reduceLeDiff, List.all_cons, List.all_nil, ne_eq, not_false_eq_true, Nat.zero_le, s46, s47, s48, hlt, wi, ix, glk, hxg, hbl, d6]; rfl) ?_ | refine To.nop hxE2 ?_ | (refine To.condT hxE2 ?_ ?_; focus (simp only [go_sem, eqs hxE2, reduceIte, seval, Heap.gets, Heap.sets, Heap.get, bytesA_length, bytesA_one, bytesA_plains, List.take_of_length_le, List.drop_of_length_le, Nat.add_zero, V.one, Nat.reduceLeDiff, List.all_cons, List.all_nil, ne_eq, not_false_eq_true, Nat.zero_le, s46, s47, s48, hlt, wi, ix, glk, hxg, hbl, d6]; done)) | (refine To.condF hxE2 ?_ ?_; focus (simp only [go_sem, eqs hxE2, reduceIte, seval, Heap.gets, Heap.sets, Heap.get, bytesA_length, bytesA_one, bytesA_plains, List.take_of_length_le, List.drop_of_length_le, Nat.add_zero, V.one, Nat.reduceLeDiff, List.all_cons, List.all_nil, ne_eq, not_false_eq_true, Nat.zero_le, s46, s47, s48, hlt, wi, ix, glk, hxg, hbl, d6]; done)) | refine To.block hxE2 ?_ | refine To.skip hxE2 ?_))
      try simp only [andThen, outOf]
      refine ⟨m - 1, by omega, i + 1, by omega, trivial, fun j hj => ?_, ?_⟩
      · by_cases hji : j = i
        · rw [hji, hkd]; omega
        · exact h600 j (by omega)
      · simp only [go_sem, eqs hxE2, reduceIte, seval, s0, s1, s5, s46, s47]
  have hlt : decide ((i : Int) < (ks.length : Int)) = false := decide_eq_false (by omega)
  obtain rfl : i = ks.length := by omega
  (repeat' (first | refine To.seq hxE2 ?_ | refine To.op0 hxE2 (by simp only [go_sem, eqs hxE2, reduceIte, seval, Heap.gets, Heap.sets, Heap.get, bytesA_length, bytesA_one, bytesA_plains, List.take_of_length_le, List.drop_of_length_le, Nat.add_zero, V.one, Nat.reduceLeDiff, List.all_cons, List.all_nil, ne_eq, not_false_eq_true, Nat.zero_le, s46, s47, s48, hlt]; rfl) ?_ | refine To.nop hxE2 ?_ | (refine To.condF hxE2 ?_ ?_; focus (simp only [go_sem, eqs hxE2, reduceIte, seval, Heap.gets, Heap.sets, Heap.get, bytesA_length, bytesA_one, bytesA_plains, List.take_of_length_le, List.drop_of_length_le, Nat.add_zero, V.one, Nat.reduceLeDiff, List.all_cons, List.all_nil, ne_eq, not_false_eq_true, Nat.zero_le, s46, s47, s48, hlt]; done)) | refine To.exit hxE2 ?_))
  try simp only [andThen, outOf, if_true]
  obtain ⟨r0, oh0, q0, rfl, rr, e0, d0, hr3, hg0, P0⟩ := newD_q (o := o ++ R0) (e := o.length) (d := o.length) (N := 60) (by omega) (by omega)
  have hdd : (o ++ R0).length + 2 = o.length + 4 := by rw [List.length_append, hRl]
  have q0' : Den FF E2 12 [.int .i64 60] ⟨o ++ R0, o.length, o.length⟩ = some (.val (.tuple [.ptr (o.length + 4) 0, .int .i64 0]), oh0) := by rw [← hdd]; exact q0
  refine To.op hxE2 (by simp only [go_sem, eqs hxE2, reduceIte, seval, q0']; rfl) ?_
  rw [hg0]
  have gR1 : (o ++ R0 ++ rr)[o.length]? = some (.cells .ex 61 0 [.int .i64 f, vf, vk]) := app_old gR _
  have hold1 : ∀ (l t : Nat) (c : List V), o[l]? = some (AM.Obj.cells .ro t 0 c) → (o ++ R0 ++ rr)[l]? = some (AM.Obj.cells .ro t 0 c) := fun l t c h => app_old (hold0 l t c h) _
  have hpg : (o ++ R0).length = o.length + 2 := by rw [List.length_append, hRl]
  rw [hdd, show (o ++ R0).length + 1 = o.length + 3 by omega, hpg] at P0
  have hl1 : (o ++ R0 ++ rr).length = o.length + 5 := by rw [List.length_append, hpg, hr3]
  generalize o ++ R0 ++ rr = oA at *
  (repeat' (first | refine To.seq hxE2 ?_ | refine To.op0 hxE2 (by simp only [go_sem, eqs hxE2, reduceIte, seval]; rfl) ?_ | refine To.nop hxE2 ?_))
  obtain ⟨r1, oh1, q1, hR⟩ := open_x (e := e0) (d := d0) P0 (a := 2) (s := 20) room20 (by rw [List.length_replicate]; omega) (by omega) (by rw [List.length_replicate]; omega)
  have hOk := open_ok (on := false) (left := 0) okD_zero (by omega) (fun _ _ _ _ => trivial)
  generalize dOpen false ⟨false, 0, List.replicate 60 (zs 64), []⟩ 2 20 = w1 at *
  obtain ⟨er, sq, n1, st1⟩ := w1
  simp only at hOk
  rcases hOk with ⟨_, h, _⟩ | ⟨rfl, sA, hsA, hsq, hRest1, _⟩
  · cases h
  rcases hR with ⟨h, _⟩ | ⟨_, jl, rfl, hjl, o1, rr1, e1, d1', hg1, D1, _, _, _, J1⟩
  · exact absurd rfl h
  have q1' : Den FF E2 31 [.ptr (o.length + 4) 0, .int .i64 2, .int .i64 20] ⟨oA, e0, d0⟩ = some (.val (.tuple [.ptr jl 0, .int .i64 n1, .int .i64 0]), oh1) := q1
  refine To.op hxE2 (by simp only [go_sem, eqs hxE2, reduceIte, seval, q1']; rfl) ?_
  rw [hg1]
  have goB : ∀ r, o1 ++ rr1 ++ r = o1 ++ (rr1 ++ r) := fun r => List.append_assoc _ _ _
  have J1 : PJ (o1 ++ rr1) jl (o.length + 4) (o.length + 2) (o.length + 3) 2 20 sq false false st1 := J1
  have b4 := P0.ld
  have b3 := P0.ll
  have b2 := P0.lp
  have hold2 : ∀ (l t : Nat) (c : List V), o[l]? = some (AM.Obj.cells .ro t 0 c) → (o1 ++ rr1)[l]? = some (AM.Obj.cells .ro t 0 c) := fun l t c h => by
    have := get_lt h
    exact app_old (by rw [D1.get l (by omega) (by omega) (by omega)]; exact hold1 l t c h) _
  have gR2 : (o1 ++ rr1)[o.length]? = some (.cells .ex 61 0 [.int .i64 f, vf, vk]) := app_old (by rw [D1.get _ (by omega) (by omega) (by omega)]; exact gR1) _
  have hlen1 : oA.length ≤ (o1 ++ rr1).length := by rw [List.length_append, D1.len]; omega
  generalize o1 ++ rr1 = oB at *
  subst hsq
  obtain ⟨r2, oh2, q2, n2, oC, d2, rfl, L2, rfl, J2⟩ := commit_x (e := e1) (d := d1') J1 (h1.row hold2) (by omega) (by omega) (by omega) (by omega) (by omega)
  have hC := commit_ok (on := false) hRest1 (by omega) h1.p64 (G := fun _ => True) (fun _ _ _ _ => trivial) trivial trivial
  (repeat' (first | refine To.seq hxE2 ?_ | refine To.op0 hxE2 (by simp only [go_sem, eqs hxE2, reduceIte, seval, s0, s1, s5, bne_self_eq_false]; rfl) ?_ | refine To.nop hxE2 ?_))
  refine To.op hxE2 (by simp only [go_sem, eqs hxE2, reduceIte, seval, s0, q2]; rfl) ?_
  rw [L2.eq]
  generalize dCommit false st1 2 20 ((sA : Int) + 1) false first = w2 at *
  obtain ⟨n2, sq2, ov2, st2⟩ := w2
  simp only at hC J2
  by_cases hz : n2 = 0
  case neg =>
    have hb : (n2 != 0) = true := by simpa using hz
    (repeat' (first | refine To.seq hxE2 ?_ | refine To.op0 hxE2 (by simp only [go_sem, eqs hxE2, reduceIte, seval, hb]; rfl) ?_ | refine To.nop hxE2 ?_ | (refine To.condT hxE2 ?_ ?_; focus (simp only [go_sem, eqs hxE2, reduceIte, seval, hb]; done)) | refine To.ret hxE2 ?_))
    exact fin _ _ (by simp only [go_sem, eqs hxE2, reduceIte, seval])
  subst hz
  rcases hC with ⟨h | h, _⟩ | ⟨_, _, _, rfl, sB, hsB, hsq2, hRest2, _⟩ | ⟨h, _⟩
  · cases h
  · cases h
  rotate_left
  · cases h
  subst hsq2
  have hld := J1.lj
  have hP1 := J1.P.ld
  obtain ⟨dn, lf, pgs2, ca2⟩ := st2
  obtain ⟨hd2, hc2, hl2, h642, hh2⟩ := hRest2
  simp only at hd2 hc2 hl2 h642 hh2
  subst hd2 hc2
  have P2 : PD oC (o.length + 4) (o.length + 2) (o.length + 3) false false lf pgs2 [] := J2.P
  have hold3 : ∀ (l t : Nat) (c : List V), o[l]? = some (AM.Obj.cells .ro t 0 c) → oC[l]? = some (AM.Obj.cells .ro t 0 c) := fun l t c h => by
    have := get_lt h
    rw [L2.dx.get l (by omega) (by omega) (by omega) (by omega)]; exact hold2 l t c h
  have gR3 : oC[o.length]? = some (.cells .ex 61 0 [.int .i64 f, vf, vk]) := by
    rw [L2.dx.get _ (by omega) (by omega) (by omega) (by omega)]; exact gR2
  have qpg := fun e d => lpages_q (e := e) (d := d) P2 hl2
  have hW64 : ∀ j : Nat, (readP false pgs2 [] (j : Int)).length = 64 := fun j => by
    by_cases hj : j < pgs2.length
    · rw [readP_at hj]; exact h642.at j
    · unfold readP
      have h0 : hasE false pgs2.length (j : Int) = 22 := by unfold hasE; rw [if_neg (by simp), if_pos (by omega)]
      rw [h0, if_neg (by decide)]; rfl
  have hWl := pgC_len (dataI_64 hW64 60)
  rw [dataI_len] at hWl
  have hW64' := dataI_64 hW64 60
  have hWL := dataI_len (fun j => readP false pgs2 [] (j : Int)) 60
  generalize hW : dataI (fun j => readP false pgs2 [] (j : Int)) 60 = W at *
  have hWl : (pgC W).length = 3840 := hWl
  have hone := pgC_one W
  have htkW : List.take 3840 (pgC W) = pgC W := List.take_of_length_le (by omega)
  have gC0 : ∀ (x : AM.Obj) r, (oC ++ (x :: r))[oC.length]? = some x := fun x r => app_get0 _ _ _
  (repeat' (first | refine To.seq hxE2 ?_ | refine To.op0 hxE2 (by simp only [go_sem, eqs hxE2, reduceIte, seval, Heap.gets, Heap.sets, Heap.get, bytesA_length, bytesA_one, bytesA_plains, List.take_of_length_le, List.drop_of_length_le, Nat.add_zero, V.one, Nat.reduceLeDiff, List.all_cons, List.all_nil, ne_eq, not_false_eq_true, Nat.zero_le, bne_self_eq_false, qpg, hone, hWl, htkW, gC0, z3840_len, z3840_drop, List.append_nil]; rfl) ?_ | refine To.op1 hxE2 (by simp only [go_sem, eqs hxE2, reduceIte, seval, Heap.gets, Heap.sets, Heap.get, bytesA_length, bytesA_one, bytesA_plains, List.take_of_length_le, List.drop_of_length_le, Nat.add_zero, V.one, Nat.reduceLeDiff, List.all_cons, List.all_nil, ne_eq, not_false_eq_true, Nat.zero_le, bne_self_eq_false, qpg, hone, hWl, htkW, gC0, z3840_len, z3840_drop, List.append_nil]; rfl) ?_ | refine To.nop hxE2 ?_ | (refine To.condF hxE2 ?_ ?_; focus (simp only [go_sem, eqs hxE2, reduceIte, seval, Heap.gets, Heap.sets, Heap.get, bytesA_length, bytesA_one, bytesA_plains, List.take_of_length_le, List.drop_of_length_le, Nat.add_zero, V.one, Nat.reduceLeDiff, List.all_cons, List.all_nil, ne_eq, not_false_eq_true, Nat.zero_le, bne_self_eq_false, qpg, hone, hWl, htkW, gC0, z3840_len, z3840_drop, List.append_nil]; done)) | refine To.skip hxE2 ?_))
  have hlB := l2
  have h2r := h2.row hold3
  refine To.op0 hxE2 (by simp only [go_sem, eqs hxE2, reduceIte, seval, s1, hlB]; rfl) ?_
  (repeat' (first | refine To.op0 hxE2 (by simp only [go_sem, eqs hxE2, reduceIte, seval, s1, hlB]; rfl) ?_ | refine To.nop hxE2 ?_ | refine To.block hxE2 ?_))
  refine To.loop hxE2 (fun m S h' => ∃ (i e' d' : Nat) (r : List AM.Obj), i + m = then_.length ∧ h' = ⟨oC ++ (.cells .ex 70 0 (pgC W) :: .cells .ex 70 0 (pgC (allL W (then_.take i))) :: r), e', d'⟩ ∧ S 1 = vb ∧ S 5 = .ptr o.length 0 ∧ S 9 = .ptr (o.length + 4) 0 ∧ S 11 = .ptr jl 0 ∧ S 14 = .ptr oC.length 0 ∧ S 15 = .ptr (oC.length + 1) 0 ∧ S 87 = vb ∧ S 88 = .int .i64 (then_.length : Int) ∧ S 89 = .int .i64 (i : Int)) ?_ then_.length _ _ ?_
  rotate_left
  · refine ⟨0, _, _, [], by omega, rfl, ?_⟩
    simp only [go_sem, eqs hxE2, reduceIte, seval, s1, s5]
  rintro m S _ ⟨i, e', d', r, hm, rfl, t1, t5, t9, t11, t14, t15, t87, t88, t89⟩
  obtain ⟨hAl, hA64⟩ := allL_ok (cs := then_.take i) hWL hW64' fun c hc => h2.p64 c (List.mem_of_mem_take hc)
  by_cases hi : i < then_.length
  · have hlt : decide ((i : Int) < (then_.length : Int)) = true := decide_eq_true (by omega)
    have ix : idxOf then_.length (.int .i64 (i : Int)) = some i := idxOf_nat hi
    have wi : IntKind.i64.wrap ((i : Int) + 1) = ((i + 1 : Nat) : Int) := by rw [wrap_i64 (by omega) (by omega)]; omega
    obtain ⟨c, hx⟩ : ∃ c, then_[i]? = some c := ⟨then_[i], List.getElem?_eq_getElem hi⟩
    obtain ⟨l, ck, t, hvb, hlb, hkd⟩ := h2r.at_ (by rintro rfl; simp at hi)
    have h65 : ∀ r ∈ then_.map chC, r.length = 65 := by
      intro r hr
      obtain ⟨y, hy, rfl⟩ := List.mem_map.1 hr
      exact chC_len (h2.p64 y hy)
    obtain ⟨a1, a2⟩ := flat_drop h65 (by rw [List.getElem?_map, hx]; rfl : (then_.map chC)[i]? = some (chC c))
    have hc64 := h2.p64 c (List.mem_of_getElem? hx)
    have hcl := chC_len hc64
    have hco := chC_one c
    have hcp := chC_plains c
    have hc0 : (chC c)[0]? = some (.int .i64 c.1) := rfl
    have hst : allL W (then_.take (i + 1)) = allF (allL W (then_.take i)) c := by
      unfold allL
      rw [List.take_add_one, hx, Option.toList_some, List.foldl_append]; rfl
    rw [hvb] at t87
    generalize allL W (then_.take i) = A at *
    have gl : ∀ r, (oC ++ r)[l]? = some (.cells ck t 0 (then_.map chC).flatten) := fun r => app_old hlb r
    have gb : ∀ x y z : AM.Obj, (oC ++ (x :: y :: (r ++ [z])))[oC.length + (r.length + 2)]? = some z := fun x y z => by
      rw [app_getk, List.getElem?_cons_succ, List.getElem?_cons_succ]; simp
    have gb1 : ∀ (x y : AM.Obj) r', (oC ++ (x :: y :: r'))[oC.length + 1]? = some y := fun x y r' => app_getk _ _ 1
    have hs1 : ∀ (x y z : AM.Obj) r', (oC ++ (x :: y :: r')).set (oC.length + 1) z = oC ++ (x :: z :: r') := fun x y z r' => app_setk _ _ 1 _
    have hc1 : List.take 64 (List.drop 1 (chC c)) = bytesA c.2 := by
      show List.take 64 (bytesA c.2) = _
      exact List.take_of_length_le (by rw [bytesA_length]; omega)
    by_cases hneg : 0 ≤ c.1 ∧ c.1 < 60
    · have c1 : decide (0 ≤ c.1) = true := decide_eq_true hneg.1
      have c2 : decide (c.1 < 60) = true := decide_eq_true hneg.2
      have hk60 : c.1.toNat < 60 := by omega
      have hidx : idxOf 60 (.int .i64 c.1) = some c.1.toNat := by
        have : idxOf 60 (.int .i64 ((c.1.toNat : Nat) : Int)) = some c.1.toNat := idxOf_nat hk60
        rwa [Int.toNat_of_nonneg hneg.1] at this
      have sA := splice_pg hA64 (by omega : c.1.toNat < A.length) hc64
      have hpl : (pgC A).length = 3840 := by rw [pgC_len hA64]; omega
      have hle : c.1.toNat * 64 + 64 ≤ 3840 := by omega
      have e3 : allF A c = A.set c.1.toNat c.2 := if_pos hneg
      (repeat' (first | refine To.seq hxE2 ?_ | refine To.op0 hxE2 (by simp only [go_sem, eqs hxE2, reduceIte, seval, Heap.gets, Heap.sets, Heap.get, bytesA_length, bytesA_one, bytesA_plains, List.take_of_length_le, List.drop_of_length_le, Nat.add_zero, V.one, Nat.reduceLeDiff, List.all_cons, List.all_nil, ne_eq, not_false_eq_true, Nat.zero_le, t15, t87, t88, t89, hlt, ix, wi, gl, gb, a1, a2, hcl, hco, hcp, hc0, hc1, hc64, c1, c2, hidx, gb1, hs1, hpl, hle, sA, z65_len, z65_drop, z65_one, z65_plains]; rfl) ?_ | refine To.op1 hxE2 (by simp only [go_sem, eqs hxE2, reduceIte, seval, Heap.gets, Heap.sets, Heap.get, bytesA_length, bytesA_one, bytesA_plains, List.take_of_length_le, List.drop_of_length_le, Nat.add_zero, V.one, Nat.reduceLeDiff, List.all_cons, List.all_nil, ne_eq, not_false_eq_true, Nat.zero_le, t15, t87, t88, t89, hlt, ix, wi, gl, gb, a1, a2, hcl, hco, hcp, hc0, hc1, hc64, c1, c2, hidx, gb1, hs1, hpl, hle, sA, z65_len, z65_drop, z65_one, z65_plains]; rfl) ?_ | refine To.nop hxE2 ?_ | (refine To.condT hxE2 ?_ ?_; focus (simp only [go_sem, eqs hxE2, reduceIte, seval, Heap.gets, Heap.sets, Heap.get, bytesA_length, bytesA_one, bytesA_plains, List.take_of_length_le, List.drop_of_length_le, Nat.add_zero, V.one, Nat.reduceLeDiff, List.all_cons, List.all_nil, ne_eq, not_false_eq_true, Nat.zero_le, t15, t87, t88, t89, hlt, ix, wi, gl, gb, a1, a2, hcl, hco, hcp, hc0, hc1, hc64, c1, c2, hidx, gb1, hs1, hpl, hle, sA, z65_len, z65_drop, z65_one, z65_plains]; done)) | refine To.block hxE2 ?_ | refine To.skip hxE2 ?_))
      try simp only [andThen, outOf]
      refine ⟨m - 1, by omega, i + 1, _, _, r ++ [.cells .ex 73 0 (chC c)], by omega, by rw [hst, e3], ?_⟩
      simp only [go_sem, eqs hxE2, reduceIte, seval, t1, t5, t9, t11, t14, t15, t87, t88, hvb]
    · by_cases hn0 : 0 ≤ c.1
      · have c1 : decide (0 ≤ c.1) = true := decide_eq_true hn0
        have c2 : decide (c.1 < 60) = false := decide_eq_false (fun h => hneg ⟨hn0, h⟩)
        (repeat' (first | refine To.seq hxE2 ?_ | refine To.op0 hxE2 (by simp only [go_sem, eqs hxE2, reduceIte, seval, Heap.gets, Heap.sets, Heap.get, bytesA_length, bytesA_one, bytesA_plains, List.take_of_length_le, List.drop_of_length_le, Nat.add_zero, V.one, Nat.reduceLeDiff, List.all_cons, List.all_nil, ne_eq, not_false_eq_true, Nat.zero_le, t87, t88, t89, hlt, ix, wi, gl, gb, a1, a2, hcl, hco, hcp, hc0, c1, c2, z65_len, z65_drop, z65_one, z65_plains]; rfl) ?_ | refine To.op1 hxE2 (by simp only [go_sem, eqs hxE2, reduceIte, seval, Heap.gets, Heap.sets, Heap.get, bytesA_length, bytesA_one, bytesA_plains, List.take_of_length_le, List.drop_of_length_le, Nat.add_zero, V.one, Nat.reduceLeDiff, List.all_cons, List.all_nil, ne_eq, not_false_eq_true, Nat.zero_le, t87, t88, t89, hlt, ix, wi, gl, gb, a1, a2, hcl, hco, hcp, hc0, c1, c2, z65_len, z65_drop, z65_one, z65_plains]; rfl) ?_ | refine To.nop hxE2 ?_ | (refine To.condT hxE2 ?_ ?_; focus (simp only [go_sem, eqs hxE2, reduceIte, seval, Heap.gets, Heap.sets, Heap.get, bytesA_length, bytesA_one, bytesA_plains, List.take_of_length_le, List.drop_of_length_le, Nat.add_zero, V.one, Nat.reduceLeDiff, List.all_cons, List.all_nil, ne_eq, not_false_eq_true, Nat.zero_le, t87, t88, t89, hlt, ix, wi, gl, gb, a1, a2, hcl, hco, hcp, hc0, c1, c2, z65_len, z65_drop, z65_one, z65_plains]; done)) | (refine To.condF hxE2 ?_ ?_; focus (simp only [go_sem, eqs hxE2, reduceIte, seval, Heap.gets, Heap.sets, Heap.get, bytesA_length, bytesA_one, bytesA_plains, List.take_of_length_le, List.drop_of_length_le, Nat.add_zero, V.one, Nat.reduceLeDiff, List.all_cons, List.all_nil, ne_eq, not_false_eq_true, Nat.zero_le, t87, t88, t89, hlt, ix, wi, gl, gb, a1, a2, hcl, hco, hcp, hc0, c1, c2, z65_len, z65_drop, z65_one, z65_plains]; done)) | refine To.block hxE2 ?_ | refine To.skip hxE2 ?_))
        try simp only [andThen, outOf]
        refine ⟨m - 1, by omega, i + 1, _, _, r ++ [.cells .ex 73 0 (chC c)], by omega, by rw [hst]; unfold allF; rw [if_neg hneg], ?_⟩
        simp only [go_sem, eqs hxE2, reduceIte, seval, t1, t5, t9, t11, t14, t15, t87, t88, hvb]
      · have c1 : decide (0 ≤ c.1) = false := decide_eq_false hn0
        (repeat' (first | refine To.seq hxE2 ?_ | refine To.op0 hxE2 (by simp only [go_sem, eqs hxE2, reduceIte, seval, Heap.gets, Heap.sets, Heap.get, bytesA_length, bytesA_one, bytesA_plains, List.take_of_length_le, List.drop_of_length_le, Nat.add_zero, V.one, Nat.reduceLeDiff, List.all_cons, List.all_nil, ne_eq, not_false_eq_true, Nat.zero_le, t87, t88, t89, hlt, ix, wi, gl, gb, a1, a2, hcl, hco, hcp, hc0, c1, z65_len, z65_drop, z65_one, z65_plains]; rfl) ?_ | refine To.op1 hxE2 (by simp only [go_sem, eqs hxE2, reduceIte, seval, Heap.gets, Heap.sets, Heap.get, bytesA_length, bytesA_one, bytesA_plains, List.take_of_length_le, List.drop_of_length_le, Nat.add_zero, V.one, Nat.reduceLeDiff, List.all_cons, List.all_nil, ne_eq, not_false_eq_true, Nat.zero_le, t87, t88, t89, hlt, ix, wi, gl, gb, a1, a2, hcl, hco, hcp, hc0, c1, z65_len, z65_drop, z65_one, z65_plains]; rfl) ?_ | refine To.nop hxE2 ?_ | (refine To.condT hxE2 ?_ ?_; focus (simp only [go_sem, eqs hxE2, reduceIte, seval, Heap.gets, Heap.sets, Heap.get, bytesA_length, bytesA_one, bytesA_plains, List.take_of_length_le, List.drop_of_length_le, Nat.add_zero, V.one, Nat.reduceLeDiff, List.all_cons, List.all_nil, ne_eq, not_false_eq_true, Nat.zero_le, t87, t88, t89, hlt, ix, wi, gl, gb, a1, a2, hcl, hco, hcp, hc0, c1, z65_len, z65_drop, z65_one, z65_plains]; done)) | (refine To.condF hxE2 ?_ ?_; focus (simp only [go_sem, eqs hxE2, reduceIte, seval, Heap.gets, Heap.sets, Heap.get, bytesA_length, bytesA_one, bytesA_plains, List.take_of_length_le, List.drop_of_length_le, Nat.add_zero, V.one, Nat.reduceLeDiff, List.all_cons, List.all_nil, ne_eq, not_false_eq_true, Nat.zero_le, t87, t88, t89, hlt, ix, wi, gl, gb, a1, a2, hcl, hco, hcp, hc0, c1, z65_len, z65_drop, z65_one, z65_plains]; done)) | refine To.block hxE2 ?_ | refine To.skip hxE2 ?_))
        try simp only [andThen, outOf]
        refine ⟨m - 1, by omega, i + 1, _, _, r ++ [.cells .ex 73 0 (chC c)], by omega, by rw [hst]; unfold allF; rw [if_neg hneg], ?_⟩
        simp only [go_sem, eqs hxE2, reduceIte, seval, t1, t5, t9, t11, t14, t15, t87, t88, hvb]
  have hlt : decide ((i : Int) < (then_.length : Int)) = false := decide_eq_false (by omega)
  obtain rfl : i = then_.length := by omega
  rw [List.take_length] at *
  have lDl := J2.P.ld
  have lJl := J2.lj
  have hWs : W = seenP pgs2 := hW.symm
  have hjl2 : oA.length ≤ jl := hjl
  have g5 : ∀ r, (oC ++ r)[o.length]? = some (.cells .ex 61 0 [.int .i64 f, vf, vk]) := fun r => app_old gR3 _
  have gW : ∀ (x : AM.Obj) r, (oC ++ (x :: r))[oC.length]? = some x := fun x r => app_get0 _ _ _
  have gA : ∀ (x y : AM.Obj) r', (oC ++ (x :: y :: r'))[oC.length + 1]? = some y := fun x y r' => app_getk _ _ 1
  have J3 := J2.app (.cells .ex 70 0 (pgC W) :: .cells .ex 70 0 (pgC (allL W then_)) :: r)
  have g5 := g5 (.cells .ex 70 0 (pgC W) :: .cells .ex 70 0 (pgC (allL W then_)) :: r)
  have gW := gW (.cells .ex 70 0 (pgC W)) (.cells .ex 70 0 (pgC (allL W then_)) :: r)
  have gA := gA (.cells .ex 70 0 (pgC W)) (.cells .ex 70 0 (pgC (allL W then_))) r
  have hold4 : ∀ (l t : Nat) (c : List V), o[l]? = some (AM.Obj.cells .ro t 0 c) → (oC ++ (AM.Obj.cells .ex 70 0 (pgC W) :: .cells .ex 70 0 (pgC (allL W then_)) :: r))[l]? = some (AM.Obj.cells .ro t 0 c) := fun l t c h => app_old (hold3 l t c h) _
  have hlD : oC.length + 2 ≤ (oC ++ (AM.Obj.cells .ex 70 0 (pgC W) :: .cells .ex 70 0 (pgC (allL W then_)) :: r)).length := by simp
  have hjo : o.length ≤ jl := by omega
  have hjd : jl ≠ o.length := by omega
  generalize oC ++ (AM.Obj.cells .ex 70 0 (pgC W) :: .cells .ex 70 0 (pgC (allL W then_)) :: r) = oD at *
  obtain ⟨hAl, hA64⟩ := allL_ok (cs := then_) hWL hW64' h2.p64
  (repeat' (first | refine To.seq hxE2 ?_ | refine To.op0 hxE2 (by simp only [go_sem, eqs hxE2, reduceIte, seval, t87, t88, t89, hlt]; rfl) ?_ | refine To.nop hxE2 ?_ | (refine To.condF hxE2 ?_ ?_; focus (simp only [go_sem, eqs hxE2, reduceIte, seval, t87, t88, t89, hlt]; done)) | refine To.exit hxE2 ?_))
  try simp only [andThen, outOf, if_true]
  have P3 : PD oD (o.length + 4) (o.length + 2) (o.length + 3) false false lf pgs2 [] := J3.P
  obtain ⟨r3, oh3, q3, rfl, oE, d3, hg3, P4, D4⟩ := fuse_q (e := e') (d := d') P3 f
  (repeat' (first | refine To.op0 hxE2 (by simp only [go_sem, eqs hxE2, reduceIte, seval, Heap.gets, Heap.sets, Heap.get, bytesA_length, bytesA_one, bytesA_plains, List.take_of_length_le, List.drop_of_length_le, Nat.add_zero, V.one, Nat.reduceLeDiff, List.all_cons, List.all_nil, ne_eq, not_false_eq_true, Nat.zero_le, t1, t5, t9, t11, g5]; rfl) ?_ | fail))
  refine To.op hxE2 (by simp only [go_sem, eqs hxE2, reduceIte, seval, q3]; rfl) ?_
  rw [hg3]
  have J4 : PJ oE jl (o.length + 4) (o.length + 2) (o.length + 3) 2 20 ((sB : Int) + 1) false (decide (0 ≤ f)) ⟨false, if 0 > f then 0 else f, pgs2, []⟩ := ⟨by rw [D4.get _ J3.n1 J3.n2 J3.n3]; exact J3.hj, P4⟩
  have hold5 : ∀ (l t : Nat) (c : List V), o[l]? = some (AM.Obj.cells .ro t 0 c) → oE[l]? = some (AM.Obj.cells .ro t 0 c) := fun l t c h => by
    have := get_lt h
    rw [D4.get l (by omega) (by omega) (by omega)]; exact hold4 l t c h
  have g5' : oE[o.length]? = some (.cells .ex 61 0 [.int .i64 f, vf, vk]) := by rw [D4.get _ (by omega) (by omega) (by omega)]; exact g5
  have gW' : oE[oC.length]? = some (.cells .ex 70 0 (pgC W)) := by rw [D4.get _ (by omega) (by omega) (by omega)]; exact gW
  have gA' : oE[oC.length + 1]? = some (.cells .ex 70 0 (pgC (allL W then_))) := by rw [D4.get _ (by omega) (by omega) (by omega)]; exact gA
  have hlE : oC.length + 2 ≤ oE.length := by rw [D4.len]; exact hlD
  have hRest3 : Rest sB ⟨false, if 0 > f then 0 else f, pgs2, []⟩ := ⟨rfl, rfl, hl2, h642, hh2⟩
  clear hg3 q3 P4 P3 J3 J2 P2
  obtain ⟨r4, oh4, q4, n4, oF, d4, rfl, L4, rfl, J5⟩ := commit_x (e := e') (d := d3) J4 (h2.row hold5) (by omega) (by omega) (by omega) (by omega) (by omega)
  have hC := commit_law (on := decide (0 ≤ f)) hRest3 (by omega) h2.p64
  simp only at hC
  rw [← hWs] at hC
  (repeat' (first | refine To.seq hxE2 ?_ | refine To.op0 hxE2 (by simp only [go_sem, eqs hxE2, reduceIte, seval, t1, t5, t9, t11]; rfl) ?_ | refine To.nop hxE2 ?_))
  refine To.op hxE2 (by simp only [go_sem, eqs hxE2, reduceIte, seval, t1, t11, q4]; rfl) ?_
  rw [L4.eq]
  have hold6 : ∀ (l t : Nat) (c : List V), o[l]? = some (AM.Obj.cells .ro t 0 c) → oF[l]? = some (AM.Obj.cells .ro t 0 c) := fun l t c h => by
    have := get_lt h
    rw [L4.dx.get l (by omega) (by omega) (by omega) (by omega)]; exact hold5 l t c h
  have g6 : oF[o.length]? = some (.cells .ex 61 0 [.int .i64 f, vf, vk]) := by rw [L4.dx.get _ (by omega) (by omega) (by omega) (by omega)]; exact g5'
  have gW6 : oF[oC.length]? = some (.cells .ex 70 0 (pgC W)) := by rw [L4.dx.get _ (by omega) (by omega) (by omega) (by omega)]; exact gW'
  have gA6 : oF[oC.length + 1]? = some (.cells .ex 70 0 (pgC (allL W then_))) := by rw [L4.dx.get _ (by omega) (by omega) (by omega) (by omega)]; exact gA'
  have hlF : oC.length + 2 ≤ oF.length := by rw [L4.dx.len]; exact hlE
  generalize dCommit (decide (0 ≤ f)) ⟨false, if 0 > f then 0 else f, pgs2, []⟩ 2 20 ((sB : Int) + 1) false then_ = w4 at *
  obtain ⟨n4, sq4, ov4, st4⟩ := w4
  simp only at hC J5
  have hWW : eqKs (kdsOf [(3840, .i)]) (pgC W) (pgC W) = some true := by rw [pgC_eq hWL hWL hW64' hW64', beq_self_eq_true]
  rcases hC with ⟨hn, hst⟩ | ⟨hn, G, hG, hT, hX⟩
  · subst hst
    have qp5 : ∀ e d, Den FF E2 33 [.ptr (o.length + 4) 0] ⟨oF, e, d⟩ = some (.val (.agg (pgC W)), none) := fun e d => by rw [hWs]; exact lpages_q J5.P hl2
    rcases hn with rfl | rfl
    · (repeat' (first | refine To.seq hxE2 ?_ | refine To.op0 hxE2 (by simp only [go_sem, eqs hxE2, reduceIte, seval, Heap.gets, Heap.sets, Heap.get, bytesA_length, bytesA_one, bytesA_plains, List.take_of_length_le, List.drop_of_length_le, Nat.add_zero, V.one, Nat.reduceLeDiff, List.all_cons, List.all_nil, ne_eq, not_false_eq_true, Nat.zero_le, t9, t14, qp5, gW6, hWl, htkW, hWW]; rfl) ?_ | refine To.nop hxE2 ?_ | (refine To.condT hxE2 ?_ ?_; focus (simp only [go_sem, eqs hxE2, reduceIte, seval, Heap.gets, Heap.sets, Heap.get, bytesA_length, bytesA_one, bytesA_plains, List.take_of_length_le, List.drop_of_length_le, Nat.add_zero, V.one, Nat.reduceLeDiff, List.all_cons, List.all_nil, ne_eq, not_false_eq_true, Nat.zero_le, t9, t14, qp5, gW6, hWl, htkW, hWW]; done)) | refine To.ret hxE2 ?_ | refine To.draw0 hxE2 ?_ | refine ToD.op0 (by simp only [go_sem, eqs hxE2, reduceIte, seval, Heap.gets, Heap.sets, Heap.get, bytesA_length, bytesA_one, bytesA_plains, List.take_of_length_le, List.drop_of_length_le, Nat.add_zero, V.one, Nat.reduceLeDiff, List.all_cons, List.all_nil, ne_eq, not_false_eq_true, Nat.zero_le, t9, t14, qp5, gW6, hWl, htkW, hWW]; rfl) (by simp only [put_some, put_none]; rfl) ?_ | refine ToD.nop ?_))
      exact fin _ _ (by simp only [go_sem, eqs hxE2, reduceIte, seval])
    · (repeat' (first | refine To.seq hxE2 ?_ | refine To.op0 hxE2 (by simp only [go_sem, eqs hxE2, reduceIte, seval, Heap.gets, Heap.sets, Heap.get, bytesA_length, bytesA_one, bytesA_plains, List.take_of_length_le, List.drop_of_length_le, Nat.add_zero, V.one, Nat.reduceLeDiff, List.all_cons, List.all_nil, ne_eq, not_false_eq_true, Nat.zero_le, t9, t14, qp5, gW6, hWl, htkW, hWW]; rfl) ?_ | refine To.nop hxE2 ?_ | (refine To.condT hxE2 ?_ ?_; focus (simp only [go_sem, eqs hxE2, reduceIte, seval, Heap.gets, Heap.sets, Heap.get, bytesA_length, bytesA_one, bytesA_plains, List.take_of_length_le, List.drop_of_length_le, Nat.add_zero, V.one, Nat.reduceLeDiff, List.all_cons, List.all_nil, ne_eq, not_false_eq_true, Nat.zero_le, t9, t14, qp5, gW6, hWl, htkW, hWW]; done)) | refine To.ret hxE2 ?_ | refine To.draw0 hxE2 ?_ | refine ToD.op0 (by simp only [go_sem, eqs hxE2, reduceIte, seval, Heap.gets, Heap.sets, Heap.get, bytesA_length, bytesA_one, bytesA_plains, List.take_of_length_le, List.drop_of_length_le, Nat.add_zero, V.one, Nat.reduceLeDiff, List.all_cons, List.all_nil, ne_eq, not_false_eq_true, Nat.zero_le, t9, t14, qp5, gW6, hWl, htkW, hWW]; rfl) (by simp only [put_some, put_none]; rfl) ?_ | refine ToD.nop ?_))
      exact fin _ _ (by simp only [go_sem, eqs hxE2, reduceIte, seval])
  have hn22 : (n4 == 22) = false := by rcases hn with rfl | rfl <;> rfl
  have hn28 : (n4 == 28) = false := by rcases hn with rfl | rfl <;> rfl
  (repeat' (first | refine To.seq hxE2 ?_ | refine To.op0 hxE2 (by simp only [go_sem, eqs hxE2, reduceIte, seval, hn22, hn28, t5, t9, t14, t15]; rfl) ?_ | refine To.nop hxE2 ?_ | (refine To.condF hxE2 ?_ ?_; focus (simp only [go_sem, eqs hxE2, reduceIte, seval, hn22, hn28, t5, t9, t14, t15]; done)) | refine To.block hxE2 ?_ | refine To.skip hxE2 ?_))
  obtain ⟨dn4, lf4, pgs4, ca4⟩ := st4
  have P5 : PD oF (o.length + 4) (o.length + 2) (o.length + 3) (decide (0 ≤ f)) dn4 lf4 pgs4 ca4 := J5.P
  simp only at hT
  refine To.loop hxE2 (fun m S h' => ∃ (i : Nat) (oo : List AM.Obj) (ee dd : Nat) (on dn : Bool) (lf : Int) (pgs : List Pg) (ca : List (Nat × Pg)), i + m = ns.length ∧ h' = ⟨oo, ee, dd⟩ ∧ PD oo (o.length + 4) (o.length + 2) (o.length + 3) on dn lf pgs ca ∧ (∀ pgs', Torn pgs ca pgs' → OkD G (sB + 3 + i) pgs') ∧
    (∀ (l t : Nat) (c : List V), o[l]? = some (AM.Obj.cells .ro t 0 c) → oo[l]? = some (AM.Obj.cells .ro t 0 c)) ∧ oo[o.length]? = some (.cells .ex 61 0 [.int .i64 f, vf, vk]) ∧ oo[oC.length]? = some (.cells .ex 70 0 (pgC W)) ∧ oo[oC.length + 1]? = some (.cells .ex 70 0 (pgC (allL W then_))) ∧
    S 5 = .ptr o.length 0 ∧ S 9 = .ptr (o.length + 4) 0 ∧ S 14 = .ptr oC.length 0 ∧ S 15 = .ptr (oC.length + 1) 0 ∧ S 18 = .int .i64 n4 ∧ S 19 = .int .i64 (i : Int)) ?_ ns.length _ _ ?_
  rotate_left
  · refine ⟨0, oF, _, _, _, _, _, _, _, by omega, rfl, P5, hT, hold6, g6, gW6, gA6, ?_⟩
    simp only [go_sem, eqs hxE2, reduceIte, seval, t5, t9, t14, t15]
  clear hold6 g6 gW6 gA6 hlF hT P5 J5 L4 J4 D4 hold5 gW' gA' g5' q4
  rintro m S _ ⟨i, oo, ee, dq, on, dn, lf, pgs, ca, hm, rfl, P, hT, hold, g5, gW, gA, s5, s9, s14, s15, s18, s19⟩
  have hpl : pgs.length = 60 := by
    have h1 := crash_torn ca [] pgs
    rw [← h1.1]; exact (hT _ h1).len
  have lkn := hk.len
  have lfn := hf.len
  (repeat' (first | refine To.seq hxE2 ?_ | refine To.op0 hxE2 (by simp only [go_sem, eqs hxE2, reduceIte, seval, Heap.gets, Heap.sets, Heap.get, bytesA_length, bytesA_one, bytesA_plains, List.take_of_length_le, List.drop_of_length_le, Nat.add_zero, V.one, Nat.reduceLeDiff, List.all_cons, List.all_nil, ne_eq, not_false_eq_true, Nat.zero_le, s5, s9, s14, s15, s18, s19, g5, lkn]; rfl) ?_ | refine To.nop hxE2 ?_ | refine To.block hxE2 ?_))
  refine To.mono (Q := fun ex S' h' => ex = .norm ∧ h' = ⟨oo, ee, dq⟩ ∧ (∃ v b, S' 20 = v ∧ BArg oo v b ∧ b.length ≤ 600) ∧ S' 5 = .ptr o.length 0 ∧ S' 9 = .ptr (o.length + 4) 0 ∧ S' 14 = .ptr oC.length 0 ∧ S' 15 = .ptr (oC.length + 1) 0 ∧ S' 18 = .int .i64 n4 ∧ S' 19 = .int .i64 (i : Int)) ?_ ?_
  · by_cases hik : i < ks.length
    · have d1 : decide ((i : Int) < (ks.length : Int)) = true := decide_eq_true (by omega)
      have ix : idxOf ks.length (.int .i64 (i : Int)) = some i := idxOf_nat hik
      obtain ⟨lk0, tk0, rfl, hlk⟩ := hk.at_ (by rintro rfl; simp at hik)
      have hkg : ks[i]? = some (ks[i]'hik) := List.getElem?_eq_getElem hik
      have hkd : ks.getD i (.nils, []) = ks[i]'hik := by rw [List.getD_eq_getElem?_getD, hkg]; rfl
      obtain ⟨hb, hbm, hb1⟩ := hk.fit _ (List.getElem_mem hik)
      have h6 := h600 i hik
      rw [hkd] at h6
      generalize ks[i]'hik = x at *
      have hxg : (ks.map (·.1))[i]? = some x.1 := by rw [List.getElem?_map, hkg]; rfl
      have glk := hold _ _ _ hlk
      (repeat' (first | refine To.op0 hxE2 (by simp only [go_sem, eqs hxE2, reduceIte, seval, Heap.gets, Heap.sets, Heap.get, bytesA_length, bytesA_one, bytesA_plains, List.take_of_length_le, List.drop_of_length_le, Nat.add_zero, V.one, Nat.reduceLeDiff, List.all_cons, List.all_nil, ne_eq, not_false_eq_true, Nat.zero_le, s5, s9, s14, s15, s18, s19, g5, d1, ix, glk, hxg]; rfl) ?_ | refine To.nop hxE2 ?_ | (refine To.condT hxE2 ?_ ?_; focus (simp only [go_sem, eqs hxE2, reduceIte, seval, Heap.gets, Heap.sets, Heap.get, bytesA_length, bytesA_one, bytesA_plains, List.take_of_length_le, List.drop_of_length_le, Nat.add_zero, V.one, Nat.reduceLeDiff, List.all_cons, List.all_nil, ne_eq, not_false_eq_true, Nat.zero_le, s5, s9, s14, s15, s18, s19, g5, d1, ix, glk, hxg]; done))))
      refine ⟨rfl, rfl, ⟨x.1, x.2, ?_, hb.keep hold, h6⟩, ?_⟩
      · simp only [go_sem, eqs hxE2, reduceIte, seval]
      · simp only [go_sem, eqs hxE2, reduceIte, seval, s5, s9, s14, s15, s18, s19]
    · have d1 : decide ((i : Int) < (ks.length : Int)) = false := decide_eq_false (by omega)
      (repeat' (first | (refine To.condF hxE2 ?_ ?_; focus (simp only [go_sem, eqs hxE2, reduceIte, seval, d1]; done)) | refine To.skip hxE2 ?_))
      refine ⟨rfl, rfl, ⟨.nils, [], ?_, ⟨rfl, fun h => absurd rfl h⟩, Nat.zero_le _⟩, ?_⟩
      · simp only [go_sem, eqs hxE2, reduceIte, seval]
      · simp only [go_sem, eqs hxE2, reduceIte, seval, s5, s9, s14, s15, s18, s19]
  rintro ex S2 _ ⟨rfl, rfl, ⟨v, b, s20, hB, hb6⟩, s5, s9, s14, s15, s18, s19⟩
  simp only [outOf, andThen]
  obtain ⟨r6, oh6, q6, rfl, oG, d6, hg6, P6, D6⟩ := crash_q (e := ee) (d := dq) P (by omega) hB (by omega)
  (repeat' (first | refine To.seq hxE2 ?_ | refine To.op0 hxE2 (by simp only [go_sem, eqs hxE2, reduceIte, seval, s9, s20]; rfl) ?_ | fail))
  refine To.op hxE2 (by simp only [go_sem, eqs hxE2, reduceIte, seval, s20, q6]; rfl) ?_
  rw [hg6]
  have hOK := hT _ (crash_torn ca b pgs)
  have hpl6 := hOK.len
  have bD := P.ld
  have bO := get_lt gA
  have hold6 : ∀ (l t : Nat) (c : List V), o[l]? = some (AM.Obj.cells .ro t 0 c) → oG[l]? = some (AM.Obj.cells .ro t 0 c) := fun l t c h => by
    have := get_lt h
    rw [D6.get l (by omega) (by omega) (by omega)]; exact hold l t c h
  have g6 : oG[o.length]? = some (.cells .ex 61 0 [.int .i64 f, vf, vk]) := by rw [D6.get _ (by omega) (by omega) (by omega)]; exact g5
  have gW6 : oG[oC.length]? = some (.cells .ex 70 0 (pgC W)) := by rw [D6.get _ (by omega) (by omega) (by omega)]; exact gW
  have gA6 : oG[oC.length + 1]? = some (.cells .ex 70 0 (pgC (allL W then_))) := by rw [D6.get _ (by omega) (by omega) (by omega)]; exact gA
  generalize crashN ca b 0 (keysN pgs.length ca) pgs = pgs6 at *
  (repeat' (first | refine To.seq hxE2 ?_ | refine To.op0 hxE2 (by simp only [go_sem, eqs hxE2, reduceIte, seval, Heap.gets, Heap.sets, Heap.get, bytesA_length, bytesA_one, bytesA_plains, List.take_of_length_le, List.drop_of_length_le, Nat.add_zero, V.one, Nat.reduceLeDiff, List.all_cons, List.all_nil, ne_eq, not_false_eq_true, Nat.zero_le, s5, s9, s14, s15, s18, s19, g6, lfn]; rfl) ?_ | refine To.nop hxE2 ?_))
  refine To.mono (Q := fun ex S' h' => ex = .norm ∧ (∃ oH d7 on7 lf7, h' = ⟨oH, ee, d7⟩ ∧ PD oH (o.length + 4) (o.length + 2) (o.length + 3) on7 false lf7 pgs6 [] ∧ Dx (o.length + 4) (o.length + 2) (o.length + 3) oG oH ∧ (on7 = true → i < ns.length)) ∧ S' 5 = .ptr o.length 0 ∧ S' 9 = .ptr (o.length + 4) 0 ∧ S' 14 = .ptr oC.length 0 ∧ S' 15 = .ptr (oC.length + 1) 0 ∧ S' 18 = .int .i64 n4 ∧ S' 19 = .int .i64 (i : Int)) ?_ ?_
  · by_cases hin : i < ns.length
    · have d1 : decide ((i : Int) < (ns.length : Int)) = true := decide_eq_true (by omega)
      have ix : idxOf ns.length (.int .i64 (i : Int)) = some i := idxOf_nat hin
      obtain ⟨lk0, tk0, rfl, hlk⟩ := hf.at_ (by rintro rfl; simp at hin)
      have hxg : (ns.map fun n => V.int .i64 n)[i]? = some (.int .i64 (ns[i]'hin)) := by rw [List.getElem?_map, List.getElem?_eq_getElem hin]; rfl
      generalize ns[i]'hin = nx at *
      have glk := hold6 _ _ _ hlk
      obtain ⟨r7, oh7, q7, rfl, oH, d7, hg7, P7, D7⟩ := fuse_q (e := ee) (d := d6) P6 nx
      (repeat' (first | refine To.op0 hxE2 (by simp only [go_sem, eqs hxE2, reduceIte, seval, Heap.gets, Heap.sets, Heap.get, bytesA_length, bytesA_one, bytesA_plains, List.take_of_length_le, List.drop_of_length_le, Nat.add_zero, V.one, Nat.reduceLeDiff, List.all_cons, List.all_nil, ne_eq, not_false_eq_true, Nat.zero_le, s5, s9, s14, s15, s18, s19, g6, d1, ix, glk, hxg]; rfl) ?_ | (refine To.condT hxE2 ?_ ?_; focus (simp only [go_sem, eqs hxE2, reduceIte, seval, Heap.gets, Heap.sets, Heap.get, bytesA_length, bytesA_one, bytesA_plains, List.take_of_length_le, List.drop_of_length_le, Nat.add_zero, V.one, Nat.reduceLeDiff, List.all_cons, List.all_nil, ne_eq, not_false_eq_true, Nat.zero_le, s5, s9, s14, s15, s18, s19, g6, d1, ix, glk, hxg]; done))))
      refine To.op hxE2 (by simp only [go_sem, eqs hxE2, reduceIte, seval, q7]; rfl) ?_
      rw [hg7]
      (repeat' (first | refine To.nop hxE2 ?_))
      refine ⟨rfl, ⟨oH, _, _, _, rfl, P7, D7, fun _ => hin⟩, ?_⟩
      simp only [go_sem, eqs hxE2, reduceIte, seval, s5, s9, s14, s15, s18, s19]
    · have d1 : decide ((i : Int) < (ns.length : Int)) = false := decide_eq_false (by omega)
      (repeat' (first | (refine To.condF hxE2 ?_ ?_; focus (simp only [go_sem, eqs hxE2, reduceIte, seval, d1]; done)) | refine To.skip hxE2 ?_))
      refine ⟨rfl, ⟨oG, _, _, _, rfl, P6, Dx.refl, fun h => by cases h⟩, ?_⟩
      simp only [go_sem, eqs hxE2, reduceIte, seval, s5, s9, s14, s15, s18, s19]
  rintro ex S3 _ ⟨rfl, ⟨oH, d7, on7, lf7, rfl, P7, D7, hon7⟩, s5, s9, s14, s15, s18, s19⟩
  simp only [outOf, andThen]
  have hold7 : ∀ (l t : Nat) (c : List V), o[l]? = some (AM.Obj.cells .ro t 0 c) → oH[l]? = some (AM.Obj.cells .ro t 0 c) := fun l t c h => by
    have := get_lt h
    rw [D7.get l (by omega) (by omega) (by omega)]; exact hold6 l t c h
  have g7 : oH[o.length]? = some (.cells .ex 61 0 [.int .i64 f, vf, vk]) := by rw [D7.get _ (by omega) (by omega) (by omega)]; exact g6
  have gW7 : oH[oC.length]? = some (.cells .ex 70 0 (pgC W)) := by rw [D7.get _ (by omega) (by omega) (by omega)]; exact gW6
  have gA7 : oH[oC.length + 1]? = some (.cells .ex 70 0 (pgC (allL W then_))) := by rw [D7.get _ (by omega) (by omega) (by omega)]; exact gA6
  have bO7 := get_lt gA7
  obtain ⟨r8, oh8, q8, hR8⟩ := open_x (e := ee) (d := d7) P7 (a := 2) (s := 20) room20 (by omega) (by omega) (by omega)
  have hOk := open_ok (on := on7) (left := lf7) hOK (by omega) hG
  generalize dOpen on7 ⟨false, lf7, pgs6, []⟩ 2 20 = w8 at *
  obtain ⟨er8, sq8, n8, st8⟩ := w8
  obtain ⟨dn8, lf8, pgs8, ca8⟩ := st8
  simp only at hOk
  have q8' : Den FF E2 31 [.ptr (o.length + 4) 0, .int .i64 2, .int .i64 20] ⟨oH, ee, d7⟩ = some (r8, oh8) := q8
  (repeat' (first | refine To.seq hxE2 ?_ | refine To.op0 hxE2 (by simp only [go_sem, eqs hxE2, reduceIte, seval, s9]; rfl) ?_ | fail))
  rcases hOk with ⟨rfl, hon, hT8⟩ | ⟨rfl, sG, hsG, hsq8, hRest8, hg8⟩
  · rcases hR8 with ⟨_, rfl, oI, d8, L8, P8⟩ | ⟨h, _⟩
    rotate_left
    · cases h
    have hin := hon7 hon
    refine To.op hxE2 (by simp only [go_sem, eqs hxE2, reduceIte, seval, s9, q8']; rfl) ?_
    rw [L8.eq]
    have d1 : decide ((ns.length : Int) ≤ (i : Int)) = false := decide_eq_false (by omega)
    have wi : IntKind.i64.wrap ((i : Int) + 1) = ((i + 1 : Nat) : Int) := by rw [wrap_i64 (by omega) (by omega)]; omega
    have g8 : oI[o.length]? = some (.cells .ex 61 0 [.int .i64 f, vf, vk]) := by rw [L8.dx.get _ (by omega) (by omega) (by omega)]; exact g7
    have gW8 : oI[oC.length]? = some (.cells .ex 70 0 (pgC W)) := by rw [L8.dx.get _ (by omega) (by omega) (by omega)]; exact gW7
    have gA8 : oI[oC.length + 1]? = some (.cells .ex 70 0 (pgC (allL W then_))) := by rw [L8.dx.get _ (by omega) (by omega) (by omega)]; exact gA7
    (repeat' (first | refine To.seq hxE2 ?_ | refine To.op0 hxE2 (by simp only [go_sem, eqs hxE2, reduceIte, seval, Heap.gets, Heap.sets, Heap.get, bytesA_length, bytesA_one, bytesA_plains, List.take_of_length_le, List.drop_of_length_le, Nat.add_zero, V.one, Nat.reduceLeDiff, List.all_cons, List.all_nil, ne_eq, not_false_eq_true, Nat.zero_le, s5, s9, s14, s15, s18, s19, g8, lfn, d1, wi, bne_self_eq_false]; rfl) ?_ | refine To.nop hxE2 ?_ | (refine To.condF hxE2 ?_ ?_; focus (simp only [go_sem, eqs hxE2, reduceIte, seval, Heap.gets, Heap.sets, Heap.get, bytesA_length, bytesA_one, bytesA_plains, List.take_of_length_le, List.drop_of_length_le, Nat.add_zero, V.one, Nat.reduceLeDiff, List.all_cons, List.all_nil, ne_eq, not_false_eq_true, Nat.zero_le, s5, s9, s14, s15, s18, s19, g8, lfn, d1, wi, bne_self_eq_false]; done)) | refine To.skip hxE2 ?_))
    try simp only [andThen, outOf]
    refine ⟨m - 1, by omega, i + 1, oI, _, _, on7, dn8, lf8, pgs8, ca8, by omega, rfl, P8, fun pgs' h => (hT8 pgs' h).mono (by omega), fun l t c h => ?_, g8, gW8, gA8, ?_⟩
    · have := get_lt h
      rw [L8.dx.get l (by omega) (by omega) (by omega)]; exact hold7 l t c h
    · simp only [go_sem, eqs hxE2, reduceIte, seval, s5, s9, s14, s15, s18]
  · rcases hR8 with ⟨h, _⟩ | ⟨_, jl8, rfl, hjl8, oI, rr8, e8, d8, hg8', D8, _, _, _, J8⟩
    · exact absurd rfl h
    refine To.op hxE2 (by simp only [go_sem, eqs hxE2, reduceIte, seval, s9, q8']; rfl) ?_
    rw [hg8']
    have P9 : PD (oI ++ rr8) (o.length + 4) (o.length + 2) (o.length + 3) on7 dn8 lf8 pgs8 ca8 := J8.P
    obtain ⟨hd8, hc8, hl8, h648, _⟩ := hRest8
    simp only at hd8 hc8 hl8 h648 hg8
    subst hd8 hc8
    have gW8 : ∀ r, (oI ++ rr8 ++ r)[oC.length]? = some (.cells .ex 70 0 (pgC W)) := fun r => app_old (app_old (by rw [D8.get _ (by omega) (by omega) (by omega)]; exact gW7) _) _
    have gA8 : ∀ r, (oI ++ rr8 ++ r)[oC.length + 1]? = some (.cells .ex 70 0 (pgC (allL W then_))) := fun r => app_old (app_old (by rw [D8.get _ (by omega) (by omega) (by omega)]; exact gA7) _) _
    have qp9 : ∀ e d, Den FF E2 33 [.ptr (o.length + 4) 0] ⟨oI ++ rr8, e, d⟩ = some (.val (.agg (pgC (seenP pgs8))), none) := fun e d => lpages_q P9 hl8
    obtain ⟨hx1, hx2⟩ := hX pgs8 hl8 hg8
    have hZl := seenP_len pgs8
    have hZ64 := seenP_64 h648
    generalize seenP pgs8 = Z at *
    generalize oI ++ rr8 = oJ at *
    have hZL : (pgC Z).length = 3840 := by rw [pgC_len hZ64]; omega
    have hAL : (pgC (allL W then_)).length = 3840 := by rw [pgC_len hA64]; omega
    have honeZ := pgC_one Z
    have htkZ : List.take 3840 (pgC Z) = pgC Z := List.take_of_length_le (by omega)
    have htkA : List.take 3840 (pgC (allL W then_)) = pgC (allL W then_) := List.take_of_length_le (by omega)
    have gZ : ∀ (x : AM.Obj) r, (oJ ++ (x :: r))[oJ.length]? = some x := fun x r => app_get0 _ _ _
    have hsZ : ∀ (x y : AM.Obj) r', (oJ ++ (x :: r')).set oJ.length y = oJ ++ (y :: r') := fun x y r' => app_set0 _ _ _ _
    have eW := pgC_eq hZl hWL hZ64 hW64'
    have eA := pgC_eq hZl hAl hZ64 hA64
    (repeat' (first | refine To.seq hxE2 ?_ | refine To.op0 hxE2 (by simp only [go_sem, eqs hxE2, reduceIte, seval, Heap.gets, Heap.sets, Heap.get, bytesA_length, bytesA_one, bytesA_plains, List.take_of_length_le, List.drop_of_length_le, Nat.add_zero, V.one, Nat.reduceLeDiff, List.all_cons, List.all_nil, ne_eq, not_false_eq_true, Nat.zero_le, s5, s9, s14, s15, s18, s19, qp9, honeZ, hZL, htkZ, gZ, hsZ, z3840_len, z3840_drop, List.append_nil]; rfl) ?_ | refine To.op1 hxE2 (by simp only [go_sem, eqs hxE2, reduceIte, seval, Heap.gets, Heap.sets, Heap.get, bytesA_length, bytesA_one, bytesA_plains, List.take_of_length_le, List.drop_of_length_le, Nat.add_zero, V.one, Nat.reduceLeDiff, List.all_cons, List.all_nil, ne_eq, not_false_eq_true, Nat.zero_le, s5, s9, s14, s15, s18, s19, qp9, honeZ, hZL, htkZ, gZ, hsZ, z3840_len, z3840_drop, List.append_nil]; rfl) ?_ | refine To.nop hxE2 ?_ | (refine To.condT hxE2 ?_ ?_; focus (simp only [go_sem, eqs hxE2, reduceIte, seval, Heap.gets, Heap.sets, Heap.get, bytesA_length, bytesA_one, bytesA_plains, List.take_of_length_le, List.drop_of_length_le, Nat.add_zero, V.one, Nat.reduceLeDiff, List.all_cons, List.all_nil, ne_eq, not_false_eq_true, Nat.zero_le, s5, s9, s14, s15, s18, s19, qp9, honeZ, hZL, htkZ, gZ, hsZ, z3840_len, z3840_drop, List.append_nil]; done)) | refine To.exit hxE2 ?_))
    have gW9 : ∀ r, (oJ ++ r)[oC.length]? = some (.cells .ex 70 0 (pgC W)) := gW8
    have gA9 : ∀ r, (oJ ++ r)[oC.length + 1]? = some (.cells .ex 70 0 (pgC (allL W then_))) := gA8
    rcases hn with rfl | rfl
    · have eq2 := hx2 rfl
      have eA : eqKs (kdsOf [(3840, .i)]) (pgC Z) (pgC (allL W then_)) = some true := by rw [eA, eq2, beq_self_eq_true]
      (repeat' (first | refine To.op0 hxE2 (by simp only [go_sem, eqs hxE2, reduceIte, seval, Heap.gets, Heap.sets, Heap.get, bytesA_length, bytesA_one, bytesA_plains, List.take_of_length_le, List.drop_of_length_le, Nat.add_zero, V.one, Nat.reduceLeDiff, List.all_cons, List.all_nil, ne_eq, not_false_eq_true, Nat.zero_le, s14, s15, s18, gZ, gW9, gA9, hZL, hAL, hWl, htkZ, htkA, htkW, eA, bne_self_eq_false, beq_self_eq_true]; rfl) ?_ | refine To.nop hxE2 ?_ | refine To.ret hxE2 ?_))
      exact fin _ _ (by simp only [go_sem, eqs hxE2, reduceIte, seval])
    · rcases hx1 with eq1 | eq2
      · have eW : eqKs (kdsOf [(3840, .i)]) (pgC Z) (pgC W) = some true := by rw [eW, eq1, beq_self_eq_true]
        (repeat' (first | refine To.op0 hxE2 (by simp only [go_sem, eqs hxE2, reduceIte, seval, Heap.gets, Heap.sets, Heap.get, bytesA_length, bytesA_one, bytesA_plains, List.take_of_length_le, List.drop_of_length_le, Nat.add_zero, V.one, Nat.reduceLeDiff, List.all_cons, List.all_nil, ne_eq, not_false_eq_true, Nat.zero_le, s14, s15, s18, gZ, gW9, gA9, hZL, hAL, hWl, htkZ, htkA, htkW, eW, bne_self_eq_false, beq_self_eq_true]; rfl) ?_ | refine To.nop hxE2 ?_ | refine To.ret hxE2 ?_))
        exact fin _ _ (by simp only [go_sem, eqs hxE2, reduceIte, seval])
      · have eA : eqKs (kdsOf [(3840, .i)]) (pgC Z) (pgC (allL W then_)) = some true := by rw [eA, eq2, beq_self_eq_true]
        generalize (Z.flatten == W.flatten) = bz at eW
        cases bz
        · (repeat' (first | refine To.op0 hxE2 (by simp only [go_sem, eqs hxE2, reduceIte, seval, Heap.gets, Heap.sets, Heap.get, bytesA_length, bytesA_one, bytesA_plains, List.take_of_length_le, List.drop_of_length_le, Nat.add_zero, V.one, Nat.reduceLeDiff, List.all_cons, List.all_nil, ne_eq, not_false_eq_true, Nat.zero_le, s14, s15, s18, gZ, gW9, gA9, hZL, hAL, hWl, htkZ, htkA, htkW, eW, eA, bne_self_eq_false, beq_self_eq_true]; rfl) ?_ | refine To.nop hxE2 ?_ | refine To.ret hxE2 ?_))
          exact fin _ _ (by simp only [go_sem, eqs hxE2, reduceIte, seval])
        · (repeat' (first | refine To.op0 hxE2 (by simp only [go_sem, eqs hxE2, reduceIte, seval, Heap.gets, Heap.sets, Heap.get, bytesA_length, bytesA_one, bytesA_plains, List.take_of_length_le, List.drop_of_length_le, Nat.add_zero, V.one, Nat.reduceLeDiff, List.all_cons, List.all_nil, ne_eq, not_false_eq_true, Nat.zero_le, s14, s15, s18, gZ, gW9, gA9, hZL, hAL, hWl, htkZ, htkA, htkW, eW, eA, bne_self_eq_false, beq_self_eq_true]; rfl) ?_ | refine To.nop hxE2 ?_ | refine To.ret hxE2 ?_))
          exact fin _ _ (by simp only [go_sem, eqs hxE2, reduceIte, seval])
end Go.Proofs.Ytfbkeieoeagkdaa

