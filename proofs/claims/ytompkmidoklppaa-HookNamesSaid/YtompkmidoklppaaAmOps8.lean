/- AM, part 13: appends. -/
import Derived.Test.YtompkmidoklppaaAmOps7
namespace AM
open Go
set_option linter.unusedVariables false
set_option linter.unusedSimpArgs false
set_option linter.unusedSectionVars false

section
variable {P : Program} {ι : Map} {h : Heap} {w : World}

/-- An object is known no more under its number. -/
theorem Nx.kill (hr : HR ι h.o w) (l : Nat) : Nx ι h w ι ⟨h.o.set l .dead, h.e, min h.d l⟩ w := by
  have look : ∀ (k : Nat) (x : Obj), (h.o.set l .dead)[k]? = some x → x = .dead ∨ (k ≠ l ∧ h.o[k]? = some x) := by
    intro k x hx
    rw [List.getElem?_set] at hx
    split at hx
    · split at hx
      · simp only [Option.some.injEq] at hx; exact .inl hx.symm
      · simp at hx
    · rename_i hk
      exact .inr ⟨fun e => hk e.symm, hx⟩
  refine ⟨⟨fun k x hx => ?_, fun k k' x x' hkk hx hx' hxo hxl => ?_, fun k x hx => ?_⟩, Agree.refl _ _, by simp, ⟨rfl, rfl, rfl, Nat.le_refl _, fun b _ _ => rfl, fun b hb hb' hc => ?_⟩, fun k m hkn hke hc x hx => ?_, ⟨Nat.le_refl _, Nat.min_le_left _ _⟩, fun k hk hkd => ?_⟩
  · rcases look k x hx with rfl | ⟨_, hx'⟩
    · trivial
    · exact hr.obj k x hx'
  · rcases look k x hx with rfl | ⟨_, hxx⟩
    · simp [Obj.own] at hxo
    · rcases look k' x' hx' with rfl | ⟨_, hxx'⟩
      · simp [Obj.live] at hxl
      · exact hr.apart k k' x x' hkk hxx hxx' hxo hxl
  · simp only [List.length_set]
    rcases look k x hx with rfl | ⟨_, hx'⟩
    · trivial
    · exact hr.sc k x hx'
  · obtain ⟨k, x, hx, hxo, hb2⟩ := hc
    rcases look k x hx with rfl | ⟨_, hx'⟩
    · simp [Obj.own] at hxo
    · exact hb' ⟨k, x, hx', hxo, hb2⟩
  · rcases look k x hx with rfl | ⟨_, hx'⟩
    · trivial
    · exact hc x hx'
  · simp only at hkd ⊢
    rw [List.getElem?_set_ne (by omega)]

/-- An object goes on under a new number, and has turned. -/
theorem Nx.move {w' : World} (hr : HR ι h.o w) {l : Nat} {o o' : Obj} (hl : h.o[l]? = some o) (ho : o.own = true) (ho' : o'.own = true)
    (hos : w'.os = w.os) (htape : w'.tape = w.tape) (hout : w'.output = w.output) (hsize : w'.heap.size = w.heap.size) (hkeep : ∀ b, b ≠ (ι l).blk → w'.heap[b]? = w.heap[b]?)
    (hor : OR (ι.upd h.o.length (ι l)) w' (ι l) o') (hsc : o'.sc (h.o.length + 1)) : Nx ι h w (ι.upd h.o.length (ι l)) ⟨h.o.set l .dead ++ [o'], h.e, min h.d l⟩ w' := by
  have hll : l < h.o.length := (List.getElem?_eq_some_iff.1 hl).1
  have ag := Map.agree_upd ι h.o.length (ι l)
  have look : ∀ (k : Nat) (x : Obj), (h.o.set l .dead ++ [o'])[k]? = some x → (k = h.o.length ∧ x = o') ∨ (k < h.o.length ∧ (x = .dead ∨ (k ≠ l ∧ h.o[k]? = some x))) := by
    intro k x hx
    rw [List.getElem?_append] at hx
    simp only [List.length_set] at hx
    split at hx
    · rename_i hk
      refine .inr ⟨hk, ?_⟩
      rw [List.getElem?_set] at hx
      by_cases hlk : l = k
      · simp only [hlk, if_true, hk, Option.some.injEq] at hx
        exact .inl hx.symm
      · rw [if_neg hlk] at hx
        exact .inr ⟨fun e => hlk e.symm, hx⟩
    · have hk : k - h.o.length = 0 := by
        rcases Nat.eq_zero_or_pos (k - h.o.length) with h0 | h0
        · exact h0
        · rw [List.getElem?_eq_none (by simp; omega)] at hx; simp at hx
      rw [hk] at hx
      simp at hx
      exact .inl ⟨by omega, hx.symm⟩
  refine ⟨⟨fun k x hx => ?_, fun k k' x x' hkk hx hx' hxo hxl => ?_, fun k x hx => ?_⟩, ag, by simp, ⟨hos, htape, hout, by omega, fun b hb hb' => ?_, fun b hb hb' hc => ?_⟩, fun k m hkn hke hc x hx => ?_, ⟨Nat.le_refl _, Nat.min_le_left _ _⟩, fun k hk hkd => ?_⟩
  · rcases look k x hx with ⟨rfl, rfl⟩ | ⟨hk, rfl | ⟨hkl, hx'⟩⟩
    · rw [Map.upd_same]; exact hor
    · trivial
    · rw [ag k hk]
      cases hlive : x.live with
      | false => cases x <;> simp_all [Obj.live, OR]
      | true => exact ((hr.obj k x hx').of_block (hkeep _ (Ne.symm (hr.apart l k o x (Ne.symm hkl) hl hx' ho hlive)))).agree ag (hr.sc k x hx')
  · rcases look k x hx with ⟨rfl, rfl⟩ | ⟨hk, rfl | ⟨hkl, hxx⟩⟩ <;> rcases look k' x' hx' with ⟨rfl, rfl⟩ | ⟨hk', rfl | ⟨hkl', hxx'⟩⟩
    · exact absurd rfl hkk
    · simp [Obj.live] at hxl
    · rw [Map.upd_same, ag k' hk']; exact hr.apart l k' o x' (Ne.symm hkl') hl hxx' ho hxl
    · simp [Obj.own] at hxo
    · simp [Obj.own] at hxo
    · simp [Obj.own] at hxo
    · rw [Map.upd_same, ag k hk]; exact hr.apart k l x o hkl hxx hl hxo (Obj.live_of_own ho)
    · simp [Obj.live] at hxl
    · rw [ag k hk, ag k' hk']; exact hr.apart k k' x x' hkk hxx hxx' hxo hxl
  · simp only [List.length_append, List.length_set, List.length_cons, List.length_nil]
    rcases look k x hx with ⟨rfl, rfl⟩ | ⟨hk, rfl | ⟨hkl, hx'⟩⟩
    · exact hsc
    · trivial
    · exact Obj.sc_mono (by omega) (hr.sc k x hx')
  · exact hkeep b (fun e => hb' ⟨l, o, hl, ho, e.symm⟩)
  · obtain ⟨k, x, hx, hxo, hb2⟩ := hc
    rcases look k x hx with ⟨rfl, rfl⟩ | ⟨hk, rfl | ⟨hkl, hx'⟩⟩
    · rw [Map.upd_same] at hb2; exact hb' ⟨l, o, hl, ho, hb2⟩
    · simp [Obj.own] at hxo
    · rw [ag k hk] at hb2; exact hb' ⟨k, x, hx', hxo, hb2⟩
  · rcases look k x hx with ⟨rfl, rfl⟩ | ⟨hk', rfl | ⟨hkl, hx'⟩⟩
    · omega
    · trivial
    · exact hc x hx'
  · simp only at hkd ⊢
    rw [List.getElem?_append_left (by simp; exact hk), List.getElem?_set_ne (by omega)]

theorem fits_run {ats : Array Nat} {t u e s ty : Nat} (ha : ats[0]? = some t) (hu : P.underlying t = some (.slice e)) (hsz : szOf P e = some s) (ha1 : ats[1]? = some u) (hnz : P.underlying u = some .string ∨ ∃ e', P.underlying u = some (.slice e'))
    {args : Array Value} {base : Option Addr} {sl sc k : Nat} {y : Value} (h0 : args[0]? = some (.slice base sl sc)) (h1 : args[1]? = some y) (hlen : (Builtin.lenOf y).run P w = .ok k w) {new : Array Value} (hnew : (Builtin.firstCells s k y).run P w = .ok new w)
    (hcap : sl + k ≤ sc) (bs : Array Bool) {w' : World} (hst : ∀ a, base = some a → (storeCells (a.add (sl * s)) new.toList).run P w = .ok () w') (hbn : base = none → w' = w) :
    (builtin .append ats ty bs args).run P w = .ok (.value (.slice base (sl + k) sc)) w' := by
  rcases hnz with hd | ⟨e', hd⟩ <;>
  · simp only [builtin, Builtin.append_, ha, h0, h1, ha1, Sem.run_bind, run_underlying hu, run_underlying hd, Result.andThen_ok, sizeOf_run hsz, Sem.run_pure, Bool.false_eq_true, if_false, hlen, if_pos hcap, Bool.not_false, if_true, hnew]
    cases base with
    | none => simp [hbn rfl]
    | some a => simp [hst a rfl]

theorem append_ok (hr : HR ι h.o w) {ats : Array Nat} {t u e s b ty : Nat} (ha : ats[0]? = some t) (hu : P.underlying t = some (.slice e)) (hsz : szOf P e = some s) (hb : bytesOf P e = some b) {z : V} (hz : zeroOf P e = some z) (hzl : z.cells.length = s) (hs0 : 0 < s)
    (ha1 : ats[1]? = some u) (hnz : P.underlying u = some .string ∨ ∃ e', P.underlying u = some (.slice e')) {args : Array Value} {x : V} {k : Nat} {y : Value} (h0 : args[0]? = some (x.real ι)) (h1 : args[1]? = some y)
    (hlen : ∀ w, (Builtin.lenOf y).run P w = .ok k w) {new : List V} (hnew : ∀ w', w'.heap = w.heap → (Builtin.firstCells s k y).run P w' = .ok (V.reals ι new).toArray w') (hnl : new.length = k * s) (hns : V.scs h.o.length new) (hno : new.all V.one = true)
    (hxs : x.sc h.o.length) (bs : Array Bool) {v : V} {oh : Option Heap} (hv : appendA h e s b x k new = some (v, oh)) :
    ∃ κ w', (builtin .append ats ty bs args).run P w = .ok (.value (v.real κ)) w' ∧ Nx ι h w κ (oh.getD h) w' ∧ v.sc (oh.getD h).o.length ∧ (oh = none → κ = ι ∧ w' = w) := by
  unfold appendA at hv
  split at hv
  · -- nil
    split at hv
    · rename_i hk
      subst hk
      simp only [Option.some.injEq, Prod.mk.injEq] at hv
      obtain ⟨rfl, rfl⟩ := hv
      exact ⟨ι, w, fits_run ha hu hsz ha1 hnz h0 h1 (hlen w) (hnew w rfl) (Nat.le_refl _) bs (by simp) (fun _ => rfl), Nx.refl hr, trivial, fun _ => ⟨rfl, rfl⟩⟩
    · split at hv
      · rename_i hk hroom
        simp only [Option.some.injEq, Prod.mk.injEq] at hv
        obtain ⟨rfl, rfl⟩ := hv
        obtain ⟨κ, w', c, g1, g2, g3, g4, g5, g6⟩ := run_append_grow ha hu hsz hb hz ha1 hnz h0 h1 hlen (old := []) (fun w' _ => rfl) hnew (by omega) (by rw [Nat.zero_add]; exact hroom) (by simp) hnl hr trivial hns bs
        refine ⟨κ, w', ?_, by simpa using g2, by simp [Heap.new, V.sc], fun h => by simp at h⟩
        rw [g1]
        simp only [V.real, g3, g4, List.nil_append, hnl, hzl, Nat.zero_add, Nat.sub_zero]
        rw [← Nat.add_mul, show k + (c - k) = c by omega, Nat.mul_div_cancel _ hs0]
      · simp at hv
  · rename_i l o n e'
    split at hv
    · rename_i he
      subst he
      split at hv
      · rename_i ck t' fz cs hc
        obtain ⟨arr, t2, lo, hi, hblk, q1, q2, q3, q4, q5⟩ := hr.obj l _ hc
        split at hv
        · rename_i hle
          have hcapn : n ≤ ((ι l).size - o) / e' := by rw [Nat.le_div_iff_mul_le hs0]; omega
          split at hv
          · rename_i hk
            subst hk
            simp only [Option.some.injEq, Prod.mk.injEq] at hv
            obtain ⟨rfl, rfl⟩ := hv
            have hn0 : new = [] := List.eq_nil_of_length_eq_zero (by omega)
            subst hn0
            exact ⟨ι, w, fits_run ha hu hsz ha1 hnz h0 h1 (hlen w) (hnew w rfl) hcapn bs (w' := w) (fun a _ => rfl) (fun _ => rfl), Nx.refl hr, hxs, fun _ => ⟨rfl, rfl⟩⟩
          · split at hv
            · rename_i hfit
              cases hse : h.sets l (o + n * e') new with
              | none => simp [hse] at hv
              | some h' =>
                simp only [hse, Option.map_some, Option.some.injEq, Prod.mk.injEq] at hv
                obtain ⟨rfl, rfl⟩ := hv
                obtain ⟨w', g1, g2⟩ := sets_sound hr hse hns
                have hcap2 : n + k ≤ ((ι l).size - o) / e' := by rw [Nat.le_div_iff_mul_le hs0]; omega
                refine ⟨ι, w', fits_run ha hu hsz ha1 hnz h0 h1 (hlen w) (hnew w rfl) hcap2 bs (fun a he => ?_) (fun he => by simp at he), g2, ?_, fun h => by simp at h⟩
                · simp only [Option.some.injEq] at he
                  subst he
                  rw [Addr_add, Nat.add_assoc]
                  exact g1 P
                · exact V.sc_mono g2.len _ hxs
            · split at hv
              · rename_i hend
                obtain ⟨hend, hroom⟩ := hend
                have hgo : ∀ w', w'.heap = w.heap → (Builtin.firstCells e' n ((V.slice l o n e').real ι)).run P w' = .ok (V.reals ι (cs.drop o)).toArray w' := by
                  intro w' hw'
                  have hr' : HR ι h.o w' := ⟨fun l o hl => (hr.obj l o hl).of_block (by rw [hw']), hr.apart, hr.sc⟩
                  have hg : h.gets l o (n * e') = some (cs.drop o) := by
                    simp only [Heap.gets, hc, if_pos hle]
                    rw [List.take_of_length_le (by simp; omega)]
                  simp only [V.real, Builtin.firstCells]
                  exact run_loadCells_gets hr' hg
                have hds : V.scs h.o.length (cs.drop o) := scs_drop (hr.sc l _ hc)
                have hdl : (cs.drop o).length = n * e' := by simp; omega
                split at hv
                · simp at hv
                · -- all its cells are known
                  simp only [Option.some.injEq, Prod.mk.injEq] at hv
                  obtain ⟨rfl, rfl⟩ := hv
                  have hsize := q4 rfl
                  have hcap3 : ((ι l).size - o) / e' = n := by
                    rw [hsize, show cs.length - o = n * e' by omega, Nat.mul_div_cancel _ hs0]
                  have h0' : args[0]? = some (.slice (some ⟨(ι l).blk, (ι l).base + o, none⟩) n n) := by rw [h0]; simp only [V.real, hcap3]
                  obtain ⟨κ, w', c, g1, g2, g3, g4, g5, g6⟩ := run_append_grow ha hu hsz hb hz ha1 hnz h0' h1 hlen (old := cs.drop o) (fun w' hw' => by have := hgo w' hw'; simp only [V.real, hcap3] at this; exact this) hnew (by omega) hroom hdl hnl hr hds hns bs
                  refine ⟨κ, w', ?_, g2, by simp [Heap.new, V.sc], fun h => by simp at h⟩
                  rw [g1]
                  simp only [V.real, g3, g4, List.length_append, hdl, hnl, hzl, Nat.zero_add, Nat.sub_zero]
                  rw [← Nat.add_mul, ← Nat.add_mul, show n + k + (c - (n + k)) = c by omega, Nat.mul_div_cancel _ hs0]
                · -- there may be more room
                  split at hv
                  · rename_i hgr
                    obtain ⟨rfl, hfz, rfl⟩ := hgr
                    simp only [Option.some.injEq, Prod.mk.injEq] at hv
                    obtain ⟨rfl, rfl⟩ := hv
                    obtain ⟨p1, p2, p3, p4⟩ := q5 (by simp)
                    subst p2
                    simp only [Nat.zero_add, List.drop_zero] at hend hdl hds hgo
                    by_cases hroom2 : n + k ≤ ((ι l).size - 0) / e'
                    · -- in place
                      have hsz2 : (n + k) * e' ≤ (ι l).size := by rw [Nat.le_div_iff_mul_le hs0] at hroom2; omega
                      have hrl : (V.reals ι new).length = new.length := by rw [V.reals_eq, List.length_map]
                      have hnk : (n + k) * e' = n * e' + k * e' := Nat.add_mul n k e'
                      obtain ⟨f1, f2, f3, f4, f5⟩ := setCells_frame (ι l).blk (V.reals ι new) (n * e') w
                      have hbk := setCells_block (ι l).blk t2 (lo, hi) (V.reals ι new) (n * e') w arr hblk (by omega)
                      have hagr := V.reals_agree (Map.agree_upd ι h.o.length (ι l)) new hns
                      refine ⟨ι.upd h.o.length (ι l), w.setCells (ι l).blk (n * e') (V.reals ι new), ?_, ?_, ?_, fun h => by simp at h⟩
                      · rw [fits_run ha hu hsz ha1 hnz h0 h1 (hlen w) (hnew w rfl) hroom2 bs (w' := w.setCells (ι l).blk (n * e') (V.reals ι new)) (fun a he => ?_) (fun he => by simp at he)]
                        · simp only [V.real, Map.upd_same, p1, Nat.zero_add, Nat.add_zero, Nat.sub_zero]
                        · simp only [Option.some.injEq] at he
                          subst he
                          rw [Addr_add, p1]
                          have := run_storeCells_cells (P := P) (ι l).blk (0 + 0 + n * e') (V.reals ι new) 0 w (fun j hj => by
                              simp only [World.cell?, hblk]
                              simp
                              omega) (fun j hj => by
                              simp only [World.frozen?, hblk]
                              have := p4 (n * e' + j) (by omega) (by omega)
                              simpa using this) (fun v hv => by
                              rw [V.reals_eq] at hv
                              obtain ⟨x, hx, rfl⟩ := List.mem_map.1 hv
                              exact V.one_real ι x ((List.all_eq_true.1 hno) x hx))
                          simpa using this
                      · refine Nx.move hr hc (by simp [Obj.own]) (o' := .cells .gr t2 fz (cs ++ new)) (by simp [Obj.own]) f1 f2 f3 f4 f5 ?_ (V.scs_mono (Nat.le_succ _) _ (scs_append.2 ⟨hds, hns⟩))
                        refine ⟨_, _, _, _, hbk, ?_, by simp; omega, ?_, by simp, fun _ => ⟨p1, rfl, p3, p4⟩⟩
                        · have : (wr arr (n * e') (V.reals ι new)).size = arr.size := by simp [wr]; omega
                          omega
                        · intro i c hi
                          rw [p1, Nat.zero_add]
                          simp only [wr, List.getElem?_toArray]
                          have l2 : (List.take (n * e') arr.toList).length = n * e' := by simp; omega
                          rw [List.append_assoc, List.getElem?_append, l2]
                          rw [List.getElem?_append] at hi
                          by_cases hlt : i < cs.length
                          · rw [if_pos hlt] at hi
                            rw [if_pos (by omega), List.getElem?_take, if_pos (by omega)]
                            have := q3 i c hi
                            rw [p1, Nat.zero_add] at this
                            rw [V.real_agree (Map.agree_upd ι h.o.length (ι l)) c ((V.scs_iff _ _).1 hds c (List.mem_of_getElem? hi))]
                            simpa using this
                          · rw [if_neg hlt] at hi
                            have hin := (List.getElem?_eq_some_iff.1 hi).1
                            rw [if_neg (by omega), List.getElem?_append_left (by omega), ← hagr, V.reals_eq, List.getElem?_map, show i - n * e' = i - cs.length by omega, hi]
                            rfl
                      · show h.o.length < _
                        simp
                    · obtain ⟨κ, w', c, g1, g2, g3, g4, g5, g6⟩ := run_append_grow ha hu hsz hb hz ha1 hnz h0 h1 hlen (old := cs) hgo hnew (by omega) hroom hdl hnl hr hds hns bs
                      have hkl := Nx.kill g2.hr l
                      have hset : (h.new (.cells .gr t2 0 (cs ++ new))).o.set l .dead = h.o.set l .dead ++ [.cells .gr t2 0 (cs ++ new)] := by
                        simp only [Heap.new]
                        rw [List.set_append_left _ _ (List.getElem?_eq_some_iff.1 hc).1]
                      have hnx := g2.trans hkl
                      rw [hset] at hnx
                      -- what was frozen before may be said to be frozen still
                      have hfz2 : Nx ι h w κ ⟨h.o.set l .dead ++ [.cells .gr t2 fz (cs ++ new)], h.e, min h.d l⟩ w' := by
                        have hlk : ∀ (k : Nat) (x : Obj), (h.o.set l .dead ++ [Obj.cells .gr t2 fz (cs ++ new)])[k]? = some x → ∃ y, (h.o.set l .dead ++ [Obj.cells .gr t2 0 (cs ++ new)])[k]? = some y ∧ x.own = y.own ∧ x.live = y.live ∧ (∀ m, y.sc m → x.sc m) ∧ (∀ p, OR κ w' p y → (k = h.o.length → fz ≤ p.size) → OR κ w' p x) := by
                          intro k x hx
                          rw [List.getElem?_append] at hx ⊢
                          by_cases hk : k < (h.o.set l Obj.dead).length
                          · rw [if_pos hk] at hx ⊢
                            exact ⟨x, hx, rfl, rfl, fun _ h => h, fun p h _ => h⟩
                          · rw [if_neg hk] at hx ⊢
                            rw [List.getElem?_singleton] at hx ⊢
                            by_cases hk0 : k - (h.o.set l Obj.dead).length = 0
                            · rw [if_pos hk0] at hx ⊢
                              simp only [Option.some.injEq] at hx
                              subst hx
                              refine ⟨_, rfl, rfl, rfl, fun _ h => h, fun p ⟨a, b, c, d, r1, r2, r3, r4, r5, r6⟩ hsz => ⟨a, b, c, d, r1, r2, r3, r4, r5, fun hne => ?_⟩⟩
                              obtain ⟨u1, u2, u3, u4⟩ := r6 hne
                              exact ⟨u1, u2, hsz (by simp at hk hk0; omega), fun i hi hip => u4 i (Nat.zero_le _) hip⟩
                            · rw [if_neg hk0] at hx
                              simp at hx
                        refine ⟨⟨fun k x hx => ?_, fun k k' x x' hkk hx hx' hxo hxl => ?_, fun k x hx => ?_⟩, hnx.ag, by simp, ⟨hnx.fr.os, hnx.fr.tape, hnx.fr.output, hnx.fr.size, hnx.fr.keep, fun b hb hb' hcx => ?_⟩, fun k m hkn hke hc x hx => ?_, hnx.ed, fun k hk hkd => ?_⟩
                        · obtain ⟨y, hy, _, _, _, hor⟩ := hlk k x hx
                          refine hor _ (hnx.hr.obj k y hy) (fun he => ?_)
                          subst he
                          rw [g4, List.length_append]
                          omega
                        · obtain ⟨y, hy, o1, _, _, _⟩ := hlk k x hx
                          obtain ⟨y', hy', _, o2, _, _⟩ := hlk k' x' hx'
                          exact hnx.hr.apart k k' y y' hkk hy hy' (o1 ▸ hxo) (o2 ▸ hxl)
                        · obtain ⟨y, hy, _, _, o3, _⟩ := hlk k x hx
                          have := hnx.hr.sc k y hy
                          simp only [List.length_append, List.length_set, List.length_cons, List.length_nil] at this ⊢
                          exact o3 _ this
                        · obtain ⟨k, x, hx, hxo, hb2⟩ := hcx
                          obtain ⟨y, hy, o1, _, _, _⟩ := hlk k x hx
                          exact hnx.fr.own b hb hb' ⟨k, y, hy, o1 ▸ hxo, hb2⟩
                        · obtain ⟨y, hy, _, _, o3, _⟩ := hlk k x hx
                          exact o3 _ (hnx.cl k m hkn hke hc y hy)
                        · have := hnx.un k hk hkd
                          simp only at this ⊢
                          rw [List.getElem?_append_left (by simpa using hk)] at this ⊢
                          exact this
                      refine ⟨κ, w', ?_, hfz2, ?_, fun h => by simp at h⟩
                      · rw [g1]
                        simp only [V.real, g3, g4, List.length_append, hdl, hnl, hzl, Nat.zero_add, Nat.sub_zero]
                        rw [← Nat.add_mul, ← Nat.add_mul, show n + k + (c - (n + k)) = c by omega, Nat.mul_div_cancel _ hs0]
                      · show h.o.length < _
                        simp
                  · simp at hv
              · simp at hv
        · simp at hv
      · simp at hv
    · simp at hv
  · simp at hv

end
end AM
