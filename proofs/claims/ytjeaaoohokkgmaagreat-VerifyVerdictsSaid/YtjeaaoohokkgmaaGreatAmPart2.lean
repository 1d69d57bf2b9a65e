/- Own texts, joined: AmOps8, AmOps9, AmOps8z, AmStep, AmStep2, AmSound, AmDraw, AmDraw2, AmDraw3, AmDraw4, AmDraw5, AmDraw6. -/
import Derived.Lib.UnsafeStr
import Derived.Lib.Builder
import Derived.Laws.Externs
import Derived.KernelRfl
import Derived.Deep.LoopGhost
import Derived.Orders
import Derived.Test.YtjeaaoohokkgmaaGreatAmPart1
/- AM, part 13: appends. -/
namespace AM
open Go
set_option linter.unusedVariables false
set_option linter.unusedSimpArgs false
set_option linter.unusedSectionVars false

section
variable {P : Program} {ι : Map} {h : Heap} {w : World}

/-- An object is known no more under its number. -/
theorem Nx.kill (hr : HR ι h.o w) (l : Nat) : Nx ι h w ι ⟨h.o.set l .dead, h.e, min h.d l⟩ w := by
  have look : ∀ (k : Nat) (x : Obj), (h.o.set l .dead)[k]? = some x → x = .dead ∨ (k ≠ l ∧ h.o[k]? = some x) := by
    intro k x hx
    rw [List.getElem?_set] at hx
    split at hx
    · split at hx
      · simp only [Option.some.injEq] at hx; exact .inl hx.symm
      · simp at hx
    · rename_i hk
      exact .inr ⟨fun e => hk e.symm, hx⟩
  refine ⟨⟨fun k x hx => ?_, fun k k' x x' hkk hx hx' hxo hxl => ?_, fun k x hx => ?_⟩, Agree.refl _ _, by simp, ⟨rfl, rfl, rfl, Nat.le_refl _, fun b _ _ => rfl, fun b hb hb' hc => ?_⟩, fun k m hkn hke hc x hx => ?_, ⟨Nat.le_refl _, Nat.min_le_left _ _⟩, fun k hk hkd => ?_, fun k x hx hxl hxo => ?_⟩
  · rcases look k x hx with rfl | ⟨_, hx'⟩
    · trivial
    · exact hr.obj k x hx'
  · rcases look k x hx with rfl | ⟨_, hxx⟩
    · simp [Obj.own] at hxo
    · rcases look k' x' hx' with rfl | ⟨_, hxx'⟩
      · simp [Obj.live] at hxl
      · exact hr.apart k k' x x' hkk hxx hxx' hxo hxl
  · simp only [List.length_set]
    rcases look k x hx with rfl | ⟨_, hx'⟩
    · trivial
    · exact hr.sc k x hx'
  · obtain ⟨k, x, hx, hxo, hb2⟩ := hc
    rcases look k x hx with rfl | ⟨_, hx'⟩
    · simp [Obj.own] at hxo
    · exact hb' ⟨k, x, hx', hxo, hb2⟩
  · rcases look k x hx with rfl | ⟨_, hx'⟩
    · trivial
    · exact hc x hx'
  · simp only at hkd ⊢
    rw [List.getElem?_set_ne (by omega)]
  · rcases look k x hx with rfl | ⟨_, hx'⟩
    · simp [Obj.live] at hxl
    · exact hx'

/-- An object goes on under a new number, and has turned. -/
theorem Nx.move {w' : World} (hr : HR ι h.o w) {l : Nat} {o o' : Obj} (hl : h.o[l]? = some o) (ho : o.own = true) (ho' : o'.own = true)
    (hos : w'.os = w.os) (htape : w'.tape = w.tape) (hout : w'.output = w.output) (hsize : w'.heap.size = w.heap.size) (hkeep : ∀ b, b ≠ (ι l).blk → w'.heap[b]? = w.heap[b]?)
    (hor : OR (ι.upd h.o.length (ι l)) w' (ι l) o') (hsc : o'.sc (h.o.length + 1)) : Nx ι h w (ι.upd h.o.length (ι l)) ⟨h.o.set l .dead ++ [o'], h.e, min h.d l⟩ w' := by
  have hll : l < h.o.length := (List.getElem?_eq_some_iff.1 hl).1
  have ag := Map.agree_upd ι h.o.length (ι l)
  have look : ∀ (k : Nat) (x : Obj), (h.o.set l .dead ++ [o'])[k]? = some x → (k = h.o.length ∧ x = o') ∨ (k < h.o.length ∧ (x = .dead ∨ (k ≠ l ∧ h.o[k]? = some x))) := by
    intro k x hx
    rw [List.getElem?_append] at hx
    simp only [List.length_set] at hx
    split at hx
    · rename_i hk
      refine .inr ⟨hk, ?_⟩
      rw [List.getElem?_set] at hx
      by_cases hlk : l = k
      · simp only [hlk, if_true, hk, Option.some.injEq] at hx
        exact .inl hx.symm
      · rw [if_neg hlk] at hx
        exact .inr ⟨fun e => hlk e.symm, hx⟩
    · have hk : k - h.o.length = 0 := by
        rcases Nat.eq_zero_or_pos (k - h.o.length) with h0 | h0
        · exact h0
        · rw [List.getElem?_eq_none (by simp; omega)] at hx; simp at hx
      rw [hk] at hx
      simp at hx
      exact .inl ⟨by omega, hx.symm⟩
  refine ⟨⟨fun k x hx => ?_, fun k k' x x' hkk hx hx' hxo hxl => ?_, fun k x hx => ?_⟩, ag, by simp, ⟨hos, htape, hout, by omega, fun b hb hb' => ?_, fun b hb hb' hc => ?_⟩, fun k m hkn hke hc x hx => ?_, ⟨Nat.le_refl _, Nat.min_le_left _ _⟩, fun k hk hkd => ?_, fun k x hx hxl hxo => ?_⟩
  · rcases look k x hx with ⟨rfl, rfl⟩ | ⟨hk, rfl | ⟨hkl, hx'⟩⟩
    · rw [Map.upd_same]; exact hor
    · trivial
    · rw [ag k hk]
      cases hlive : x.live with
      | false => cases x <;> simp_all [Obj.live, OR]
      | true => exact ((hr.obj k x hx').of_block (hkeep _ (Ne.symm (hr.apart l k o x (Ne.symm hkl) hl hx' ho hlive)))).agree ag (hr.sc k x hx')
  · rcases look k x hx with ⟨rfl, rfl⟩ | ⟨hk, rfl | ⟨hkl, hxx⟩⟩ <;> rcases look k' x' hx' with ⟨rfl, rfl⟩ | ⟨hk', rfl | ⟨hkl', hxx'⟩⟩
    · exact absurd rfl hkk
    · simp [Obj.live] at hxl
    · rw [Map.upd_same, ag k' hk']; exact hr.apart l k' o x' (Ne.symm hkl') hl hxx' ho hxl
    · simp [Obj.own] at hxo
    · simp [Obj.own] at hxo
    · simp [Obj.own] at hxo
    · rw [Map.upd_same, ag k hk]; exact hr.apart k l x o hkl hxx hl hxo (Obj.live_of_own ho)
    · simp [Obj.live] at hxl
    · rw [ag k hk, ag k' hk']; exact hr.apart k k' x x' hkk hxx hxx' hxo hxl
  · simp only [List.length_append, List.length_set, List.length_cons, List.length_nil]
    rcases look k x hx with ⟨rfl, rfl⟩ | ⟨hk, rfl | ⟨hkl, hx'⟩⟩
    · exact hsc
    · trivial
    · exact Obj.sc_mono (by omega) (hr.sc k x hx')
  · exact hkeep b (fun e => hb' ⟨l, o, hl, ho, e.symm⟩)
  · obtain ⟨k, x, hx, hxo, hb2⟩ := hc
    rcases look k x hx with ⟨rfl, rfl⟩ | ⟨hk, rfl | ⟨hkl, hx'⟩⟩
    · rw [Map.upd_same] at hb2; exact hb' ⟨l, o, hl, ho, hb2⟩
    · simp [Obj.own] at hxo
    · rw [ag k hk] at hb2; exact hb' ⟨k, x, hx', hxo, hb2⟩
  · rcases look k x hx with ⟨rfl, rfl⟩ | ⟨hk', rfl | ⟨hkl, hx'⟩⟩
    · omega
    · trivial
    · exact hc x hx'
  · simp only at hkd ⊢
    rw [List.getElem?_append_left (by simp; exact hk), List.getElem?_set_ne (by omega)]
  · rcases look k x hx with ⟨rfl, rfl⟩ | ⟨hk', rfl | ⟨hkl, hx'⟩⟩
    · rw [ho'] at hxo; cases hxo
    · simp [Obj.live] at hxl
    · exact hx'

theorem fits_run {ats : Array Nat} {t u e s ty : Nat} (ha : ats[0]? = some t) (hu : P.underlying t = some (.slice e)) (hsz : szOf P e = some s) (ha1 : ats[1]? = some u) (hnz : P.underlying u = some .string ∨ ∃ e', P.underlying u = some (.slice e'))
    {args : Array Value} {base : Option Addr} {sl sc k : Nat} {y : Value} (h0 : args[0]? = some (.slice base sl sc)) (h1 : args[1]? = some y) (hlen : (Builtin.lenOf y).run P w = .ok k w) {new : Array Value} (hnew : (Builtin.firstCells s k y).run P w = .ok new w)
    (hcap : sl + k ≤ sc) (bs : Array Bool) {w' : World} (hst : ∀ a, base = some a → (storeCells (a.add (sl * s)) new.toList).run P w = .ok () w') (hbn : base = none → w' = w) :
    (builtin .append ats ty bs args).run P w = .ok (.value (.slice base (sl + k) sc)) w' := by
  rcases hnz with hd | ⟨e', hd⟩ <;>
  · simp only [builtin, Builtin.append_, ha, h0, h1, ha1, Sem.run_bind, run_underlying hu, run_underlying hd, Result.andThen_ok, sizeOf_run hsz, Sem.run_pure, Bool.false_eq_true, if_false, hlen, if_pos hcap, Bool.not_false, if_true, hnew]
    cases base with
    | none => simp [hbn rfl]
    | some a => simp [hst a rfl]

theorem append_ok (hr : HR ι h.o w) {ats : Array Nat} {t u e s b ty : Nat} (ha : ats[0]? = some t) (hu : P.underlying t = some (.slice e)) (hsz : szOf P e = some s) (hb : bytesOf P e = some b) {z : V} (hz : zeroOf P e = some z) (hzl : z.cells.length = s) (hs0 : 0 < s)
    (ha1 : ats[1]? = some u) (hnz : P.underlying u = some .string ∨ ∃ e', P.underlying u = some (.slice e')) {args : Array Value} {x : V} {k : Nat} {y : Value} (h0 : args[0]? = some (x.real ι)) (h1 : args[1]? = some y)
    (hlen : ∀ w, (Builtin.lenOf y).run P w = .ok k w) {new : List V} (hnew : ∀ w', w'.heap = w.heap → (Builtin.firstCells s k y).run P w' = .ok (V.reals ι new).toArray w') (hnl : new.length = k * s) (hns : V.scs h.o.length new) (hno : new.all V.one = true)
    (hxs : x.sc h.o.length) (bs : Array Bool) {v : V} {oh : Option Heap} (hv : appendA h e s b x k new = some (v, oh)) :
    ∃ κ w', (builtin .append ats ty bs args).run P w = .ok (.value (v.real κ)) w' ∧ Nx ι h w κ (oh.getD h) w' ∧ v.sc (oh.getD h).o.length ∧ (oh = none → κ = ι ∧ w' = w) := by
  unfold appendA at hv
  split at hv
  · -- nil
    split at hv
    · rename_i hk
      subst hk
      simp only [Option.some.injEq, Prod.mk.injEq] at hv
      obtain ⟨rfl, rfl⟩ := hv
      exact ⟨ι, w, fits_run ha hu hsz ha1 hnz h0 h1 (hlen w) (hnew w rfl) (Nat.le_refl _) bs (by simp) (fun _ => rfl), Nx.refl hr, trivial, fun _ => ⟨rfl, rfl⟩⟩
    · split at hv
      · rename_i hk hroom
        simp only [Option.some.injEq, Prod.mk.injEq] at hv
        obtain ⟨rfl, rfl⟩ := hv
        obtain ⟨κ, w', c, g1, g2, g3, g4, g5, g6⟩ := run_append_grow ha hu hsz hb hz ha1 hnz h0 h1 hlen (old := []) (fun w' _ => rfl) hnew (by omega) (by rw [Nat.zero_add]; exact hroom) (by simp) hnl hr trivial hns bs
        refine ⟨κ, w', ?_, by simpa using g2, by simp [Heap.new, V.sc], fun h => by simp at h⟩
        rw [g1]
        simp only [V.real, g3, g4, List.nil_append, hnl, hzl, Nat.zero_add, Nat.sub_zero]
        rw [← Nat.add_mul, show k + (c - k) = c by omega, Nat.mul_div_cancel _ hs0]
      · simp at hv
  · rename_i l o n e'
    split at hv
    · rename_i he
      subst he
      split at hv
      · rename_i ck t' fz cs hc
        obtain ⟨arr, t2, lo, hi, hblk, q1, q2, q3, q4, q5⟩ := hr.obj l _ hc
        split at hv
        · rename_i hle
          have hcapn : n ≤ ((ι l).size - o) / e' := by rw [Nat.le_div_iff_mul_le hs0]; omega
          split at hv
          · rename_i hk
            subst hk
            simp only [Option.some.injEq, Prod.mk.injEq] at hv
            obtain ⟨rfl, rfl⟩ := hv
            have hn0 : new = [] := List.eq_nil_of_length_eq_zero (by omega)
            subst hn0
            exact ⟨ι, w, fits_run ha hu hsz ha1 hnz h0 h1 (hlen w) (hnew w rfl) hcapn bs (w' := w) (fun a _ => rfl) (fun _ => rfl), Nx.refl hr, hxs, fun _ => ⟨rfl, rfl⟩⟩
          · split at hv
            · rename_i hfit
              cases hse : h.sets l (o + n * e') new with
              | none => simp [hse] at hv
              | some h' =>
                simp only [hse, Option.map_some, Option.some.injEq, Prod.mk.injEq] at hv
                obtain ⟨rfl, rfl⟩ := hv
                obtain ⟨w', g1, g2⟩ := sets_sound hr hse hns
                have hcap2 : n + k ≤ ((ι l).size - o) / e' := by rw [Nat.le_div_iff_mul_le hs0]; omega
                refine ⟨ι, w', fits_run ha hu hsz ha1 hnz h0 h1 (hlen w) (hnew w rfl) hcap2 bs (fun a he => ?_) (fun he => by simp at he), g2, ?_, fun h => by simp at h⟩
                · simp only [Option.some.injEq] at he
                  subst he
                  rw [Addr_add, Nat.add_assoc]
                  exact g1 P
                · exact V.sc_mono g2.len _ hxs
            · split at hv
              · rename_i hend
                obtain ⟨hend, hroom⟩ := hend
                have hgo : ∀ w', w'.heap = w.heap → (Builtin.firstCells e' n ((V.slice l o n e').real ι)).run P w' = .ok (V.reals ι (cs.drop o)).toArray w' := by
                  intro w' hw'
                  have hr' : HR ι h.o w' := ⟨fun l o hl => (hr.obj l o hl).of_block (by rw [hw']), hr.apart, hr.sc⟩
                  have hg : h.gets l o (n * e') = some (cs.drop o) := by
                    simp only [Heap.gets, hc, if_pos hle]
                    rw [List.take_of_length_le (by simp; omega)]
                    split
                    · rename_i h0
                      have : (cs.drop o).length = 0 := by simp; omega
                      rw [List.length_eq_zero_iff.1 this]
                    · rfl
                  simp only [V.real, Builtin.firstCells]
                  exact run_loadCells_gets hr' hg
                have hds : V.scs h.o.length (cs.drop o) := scs_drop (hr.sc l _ hc)
                have hdl : (cs.drop o).length = n * e' := by simp; omega
                split at hv
                · simp at hv
                · -- all its cells are known
                  simp only [Option.some.injEq, Prod.mk.injEq] at hv
                  obtain ⟨rfl, rfl⟩ := hv
                  have hsize := q4 rfl
                  have hcap3 : ((ι l).size - o) / e' = n := by
                    rw [hsize, show cs.length - o = n * e' by omega, Nat.mul_div_cancel _ hs0]
                  have h0' : args[0]? = some (.slice (some ⟨(ι l).blk, (ι l).base + o, none⟩) n n) := by rw [h0]; simp only [V.real, hcap3]
                  obtain ⟨κ, w', c, g1, g2, g3, g4, g5, g6⟩ := run_append_grow ha hu hsz hb hz ha1 hnz h0' h1 hlen (old := cs.drop o) (fun w' hw' => by have := hgo w' hw'; simp only [V.real, hcap3] at this; exact this) hnew (by omega) hroom hdl hnl hr hds hns bs
                  refine ⟨κ, w', ?_, g2, by simp [Heap.new, V.sc], fun h => by simp at h⟩
                  rw [g1]
                  simp only [V.real, g3, g4, List.length_append, hdl, hnl, hzl, Nat.zero_add, Nat.sub_zero]
                  rw [← Nat.add_mul, ← Nat.add_mul, show n + k + (c - (n + k)) = c by omega, Nat.mul_div_cancel _ hs0]
                · -- there may be more room
                  split at hv
                  · rename_i hgr
                    obtain ⟨rfl, hfz, rfl⟩ := hgr
                    simp only [Option.some.injEq, Prod.mk.injEq] at hv
                    obtain ⟨rfl, rfl⟩ := hv
                    obtain ⟨p1, p2, p3, p4⟩ := q5 (by simp)
                    subst p2
                    simp only [Nat.zero_add, List.drop_zero] at hend hdl hds hgo
                    by_cases hroom2 : n + k ≤ ((ι l).size - 0) / e'
                    · -- in place
                      have hsz2 : (n + k) * e' ≤ (ι l).size := by rw [Nat.le_div_iff_mul_le hs0] at hroom2; omega
                      have hrl : (V.reals ι new).length = new.length := by rw [V.reals_eq, List.length_map]
                      have hnk : (n + k) * e' = n * e' + k * e' := Nat.add_mul n k e'
                      obtain ⟨f1, f2, f3, f4, f5⟩ := setCells_frame (ι l).blk (V.reals ι new) (n * e') w
                      have hbk := setCells_block (ι l).blk t2 (lo, hi) (V.reals ι new) (n * e') w arr hblk (by omega)
                      have hagr := V.reals_agree (Map.agree_upd ι h.o.length (ι l)) new hns
                      refine ⟨ι.upd h.o.length (ι l), w.setCells (ι l).blk (n * e') (V.reals ι new), ?_, ?_, ?_, fun h => by simp at h⟩
                      · rw [fits_run ha hu hsz ha1 hnz h0 h1 (hlen w) (hnew w rfl) hroom2 bs (w' := w.setCells (ι l).blk (n * e') (V.reals ι new)) (fun a he => ?_) (fun he => by simp at he)]
                        · simp only [V.real, Map.upd_same, p1, Nat.add_zero, Nat.sub_zero]
                        · simp only [Option.some.injEq] at he
                          subst he
                          rw [Addr_add, p1]
                          have := run_storeCells_cells (P := P) (ι l).blk (0 + 0 + n * e') (V.reals ι new) 0 w (fun j hj => by
                              simp only [World.cell?, hblk]
                              simp
                              omega) (fun j hj => by
                              simp only [World.frozen?, hblk]
                              have := p4 (n * e' + j) (by omega) (by omega)
                              simpa using this) (fun v hv => by
                              rw [V.reals_eq] at hv
                              obtain ⟨x, hx, rfl⟩ := List.mem_map.1 hv
                              exact V.one_real ι x ((List.all_eq_true.1 hno) x hx))
                          simpa using this
                      · refine Nx.move hr hc (by simp [Obj.own]) (o' := .cells .gr t2 fz (cs ++ new)) (by simp [Obj.own]) f1 f2 f3 f4 f5 ?_ (V.scs_mono (Nat.le_succ _) _ (scs_append.2 ⟨hds, hns⟩))
                        refine ⟨_, _, _, _, hbk, ?_, by simp; omega, ?_, by simp, fun _ => ⟨p1, rfl, p3, p4⟩⟩
                        · have : (wr arr (n * e') (V.reals ι new)).size = arr.size := by simp [wr]; omega
                          omega
                        · intro i c hi
                          rw [p1, Nat.zero_add]
                          simp only [wr, List.getElem?_toArray]
                          have l2 : (List.take (n * e') arr.toList).length = n * e' := by simp; omega
                          rw [List.append_assoc, List.getElem?_append, l2]
                          rw [List.getElem?_append] at hi
                          by_cases hlt : i < cs.length
                          · rw [if_pos hlt] at hi
                            rw [if_pos (by omega), List.getElem?_take, if_pos (by omega)]
                            have := q3 i c hi
                            rw [p1, Nat.zero_add] at this
                            rw [V.real_agree (Map.agree_upd ι h.o.length (ι l)) c ((V.scs_iff _ _).1 hds c (List.mem_of_getElem? hi))]
                            simpa using this
                          · rw [if_neg hlt] at hi
                            have hin := (List.getElem?_eq_some_iff.1 hi).1
                            rw [if_neg (by omega), List.getElem?_append_left (by omega), ← hagr, V.reals_eq, List.getElem?_map, show i - n * e' = i - cs.length by omega, hi]
                            rfl
                      · show h.o.length < _
                        simp
                    · obtain ⟨κ, w', c, g1, g2, g3, g4, g5, g6⟩ := run_append_grow ha hu hsz hb hz ha1 hnz h0 h1 hlen (old := cs) hgo hnew (by omega) hroom hdl hnl hr hds hns bs
                      have hkl := Nx.kill g2.hr l
                      have hset : (h.new (.cells .gr t2 0 (cs ++ new))).o.set l .dead = h.o.set l .dead ++ [.cells .gr t2 0 (cs ++ new)] := by
                        simp only [Heap.new]
                        rw [List.set_append_left _ _ (List.getElem?_eq_some_iff.1 hc).1]
                      have hnx := g2.trans hkl
                      rw [hset] at hnx
                      -- what was frozen before may be said to be frozen still
                      have hfz2 : Nx ι h w κ ⟨h.o.set l .dead ++ [.cells .gr t2 fz (cs ++ new)], h.e, min h.d l⟩ w' := by
                        have hlk : ∀ (k : Nat) (x : Obj), (h.o.set l .dead ++ [Obj.cells .gr t2 fz (cs ++ new)])[k]? = some x → ∃ y, (h.o.set l .dead ++ [Obj.cells .gr t2 0 (cs ++ new)])[k]? = some y ∧ x.own = y.own ∧ x.live = y.live ∧ (∀ m, y.sc m → x.sc m) ∧ (∀ p, OR κ w' p y → (k = h.o.length → fz ≤ p.size) → OR κ w' p x) := by
                          intro k x hx
                          rw [List.getElem?_append] at hx ⊢
                          by_cases hk : k < (h.o.set l Obj.dead).length
                          · rw [if_pos hk] at hx ⊢
                            exact ⟨x, hx, rfl, rfl, fun _ h => h, fun p h _ => h⟩
                          · rw [if_neg hk] at hx ⊢
                            rw [List.getElem?_singleton] at hx ⊢
                            by_cases hk0 : k - (h.o.set l Obj.dead).length = 0
                            · rw [if_pos hk0] at hx ⊢
                              simp only [Option.some.injEq] at hx
                              subst hx
                              refine ⟨_, rfl, rfl, rfl, fun _ h => h, fun p ⟨a, b, c, d, r1, r2, r3, r4, r5, r6⟩ hsz => ⟨a, b, c, d, r1, r2, r3, r4, r5, fun hne => ?_⟩⟩
                              obtain ⟨u1, u2, u3, u4⟩ := r6 hne
                              exact ⟨u1, u2, hsz (by simp at hk hk0; omega), fun i hi hip => u4 i (Nat.zero_le _) hip⟩
                            · rw [if_neg hk0] at hx
                              simp at hx
                        refine ⟨⟨fun k x hx => ?_, fun k k' x x' hkk hx hx' hxo hxl => ?_, fun k x hx => ?_⟩, hnx.ag, by simp, ⟨hnx.fr.os, hnx.fr.tape, hnx.fr.output, hnx.fr.size, hnx.fr.keep, fun b hb hb' hcx => ?_⟩, fun k m hkn hke hc x hx => ?_, hnx.ed, fun k hk hkd => ?_, fun k x hx hxl hxo => ?_⟩
                        · obtain ⟨y, hy, _, _, _, hor⟩ := hlk k x hx
                          refine hor _ (hnx.hr.obj k y hy) (fun he => ?_)
                          subst he
                          rw [g4, List.length_append]
                          omega
                        · obtain ⟨y, hy, o1, _, _, _⟩ := hlk k x hx
                          obtain ⟨y', hy', _, o2, _, _⟩ := hlk k' x' hx'
                          exact hnx.hr.apart k k' y y' hkk hy hy' (o1 ▸ hxo) (o2 ▸ hxl)
                        · obtain ⟨y, hy, _, _, o3, _⟩ := hlk k x hx
                          have := hnx.hr.sc k y hy
                          simp only [List.length_append, List.length_set, List.length_cons, List.length_nil] at this ⊢
                          exact o3 _ this
                        · obtain ⟨k, x, hx, hxo, hb2⟩ := hcx
                          obtain ⟨y, hy, o1, _, _, _⟩ := hlk k x hx
                          exact hnx.fr.own b hb hb' ⟨k, y, hy, o1 ▸ hxo, hb2⟩
                        · obtain ⟨y, hy, _, _, o3, _⟩ := hlk k x hx
                          exact o3 _ (hnx.cl k m hkn hke hc y hy)
                        · have := hnx.un k hk hkd
                          simp only at this ⊢
                          rw [List.getElem?_append_left (by simpa using hk)] at this ⊢
                          exact this
                        · rw [List.getElem?_append] at hx
                          by_cases hk : k < (h.o.set l Obj.dead).length
                          · rw [if_pos hk] at hx
                            refine hnx.ro k x ?_ hxl hxo
                            rw [List.getElem?_append_left hk]
                            exact hx
                          · rw [if_neg hk, List.getElem?_singleton] at hx
                            split at hx
                            · simp only [Option.some.injEq] at hx; subst hx; simp [Obj.own] at hxo
                            · simp at hx
                      refine ⟨κ, w', ?_, hfz2, ?_, fun h => by simp at h⟩
                      · rw [g1]
                        simp only [V.real, g3, g4, List.length_append, hdl, hnl, hzl, Nat.zero_add, Nat.sub_zero]
                        rw [← Nat.add_mul, ← Nat.add_mul, show n + k + (c - (n + k)) = c by omega, Nat.mul_div_cancel _ hs0]
                      · show h.o.length < _
                        simp
                  · simp at hv
              · simp at hv
        · simp at hv
      · simp at hv
    · simp at hv
  · -- a slice without room
    obtain ⟨za, hza, hv2⟩ := Option.bind_eq_some_iff.1 hv
    clear hv
    have hv := hv2
    clear hv2
    obtain rfl := zslOf_some hza
    split at hv
    · rename_i hk
      subst hk
      simp only [Option.some.injEq, Prod.mk.injEq] at hv
      obtain ⟨rfl, rfl⟩ := hv
      exact ⟨ι, w, fits_run ha hu hsz ha1 hnz h0 h1 (hlen w) (hnew w rfl) (Nat.le_refl _) bs (fun a _ => by obtain rfl : new = [] := List.length_eq_zero_iff.1 (by simpa using hnl); rfl) (fun h => by cases h), Nx.refl hr, trivial, fun _ => ⟨rfl, rfl⟩⟩
    · split at hv
      · rename_i hk hroom
        simp only [Option.some.injEq, Prod.mk.injEq] at hv
        obtain ⟨rfl, rfl⟩ := hv
        obtain ⟨κ, w', c, g1, g2, g3, g4, g5, g6⟩ := run_append_grow ha hu hsz hb hz ha1 hnz h0 h1 hlen (old := []) (fun w' _ => by simp [Builtin.firstCells, loadCells, loadCellsFrom, V.reals]) hnew (by omega) (by rw [Nat.zero_add]; exact hroom) (by simp) hnl hr trivial hns bs
        refine ⟨κ, w', ?_, by simpa using g2, by simp [Heap.new, V.sc], fun h => by simp at h⟩
        rw [g1]
        simp only [V.real, g3, g4, List.nil_append, hnl, hzl, Nat.zero_add, Nat.sub_zero]
        rw [← Nat.add_mul, show k + (c - k) = c by omega, Nat.mul_div_cancel _ hs0]
      · simp at hv

end
end AM

/- AM, part 13b: channels; strings that are made of one's own bytes; pointers that are turned. -/
namespace AM
open Go
set_option linter.unusedVariables false
set_option linter.unusedSimpArgs false
set_option linter.unusedSectionVars false

section
variable {P : Program} {ι : Map} {σ : Type} [Slots σ] {h : Heap} {w : World} {S : σ} {n : Nat} {a : Act}

/-- One of one's own objects is let go; its block may turn. -/
theorem Nx.killW (hr : HR ι h.o w) {l : Nat} {o : Obj} (hl : h.o[l]? = some o) (ho : o.own = true) {w' : World}
    (hos : w'.os = w.os) (htape : w'.tape = w.tape) (hout : w'.output = w.output) (hsize : w'.heap.size = w.heap.size) (hkeep : ∀ b, b ≠ (ι l).blk → w'.heap[b]? = w.heap[b]?) : Nx ι h w ι ⟨h.o.set l .dead, h.e, min h.d l⟩ w' := by
  have hll : l < h.o.length := (List.getElem?_eq_some_iff.1 hl).1
  have look : ∀ (k : Nat) (x : Obj), (h.o.set l .dead)[k]? = some x → (k = l ∧ x = .dead) ∨ (k ≠ l ∧ h.o[k]? = some x) := by
    intro k x hx
    rw [List.getElem?_set] at hx
    split at hx
    · rename_i hk
      subst hk
      simp only [Option.some.injEq] at hx
      exact .inl ⟨rfl, hx.symm⟩
    · rename_i hk
      exact .inr ⟨fun e => hk e.symm, hx⟩
  refine ⟨⟨fun k x hx => ?_, fun k k' x x' hkk hx hx' hxo hxl => ?_, fun k x hx => ?_⟩, Agree.refl _ _, by simp, ⟨hos, htape, hout, by omega, fun b hb hb' => ?_, fun b hb hb' hc => ?_⟩, fun k n hkn hke hc x hx => ?_, ⟨Nat.le_refl _, Nat.min_le_left _ _⟩, fun k hk hkd => ?_, fun k x hx hxl hxo => ?_⟩
  · rcases look k x hx with ⟨rfl, rfl⟩ | ⟨hk, hx'⟩
    · trivial
    · cases hlive : x.live with
      | false => cases x <;> simp_all [Obj.live, OR]
      | true => exact (hr.obj k x hx').of_block (hkeep _ (Ne.symm (hr.apart l k o x (Ne.symm hk) hl hx' ho hlive)))
  · rcases look k x hx with ⟨rfl, rfl⟩ | ⟨hk, hxx⟩
    · cases hxo
    · rcases look k' x' hx' with ⟨rfl, rfl⟩ | ⟨hk', hxx'⟩
      · cases hxl
      · exact hr.apart k k' x x' hkk hxx hxx' hxo hxl
  · simp only [List.length_set]
    rcases look k x hx with ⟨rfl, rfl⟩ | ⟨hk, hx'⟩
    · trivial
    · exact hr.sc k x hx'
  · exact hkeep b (fun e => hb' ⟨l, o, hl, ho, e.symm⟩)
  · obtain ⟨k, x, hx, hxo, hb2⟩ := hc
    rcases look k x hx with ⟨rfl, rfl⟩ | ⟨hk, hx'⟩
    · cases hxo
    · exact hb' ⟨k, x, hx', hxo, hb2⟩
  · rcases look k x hx with ⟨rfl, rfl⟩ | ⟨hk, hx'⟩
    · trivial
    · exact hc x hx'
  · simp only at hkd ⊢
    rw [List.getElem?_set_ne (by omega)]
  · rcases look k x hx with ⟨rfl, rfl⟩ | ⟨hk, hx'⟩
    · cases hxl
    · exact hx'

theorem run_getChan {b cap : Nat} {buf : Array Value} {cl : Bool} {s r : Nat} {tm : Bool} (hb : w.heap[b]? = some (.chan cap buf cl s r tm)) : (getObj b).run P w = .ok (.chan cap buf cl s r tm) w := by
  simp [getObj, Sem.run, hb]

theorem run_lenC (hr : HR ι h.o w) {ats : Array Nat} {t e ty : Nat} {dr : ChanDir} (ha : ats[0]? = some t) (hu : P.underlying t = some (.chan dr e)) {args : Array Value} {x : V} {r : Nat} (h0 : args[0]? = some (x.real ι))
    (hx : (x = .nilc ∧ r = 0) ∨ ∃ l cap buf, x = .chan l ∧ h.o[l]? = some (.chan cap buf) ∧ r = buf.length) (bs : Array Bool) :
    (builtin .len ats ty bs args).run P w = .ok (.value ((V.int .i64 (r : Int)).real ι)) w := by
  rcases hx with ⟨rfl, rfl⟩ | ⟨l, cap, buf, rfl, hl, rfl⟩
  · simp only [builtin, Builtin.len_, ha, h0, Sem.run_bind, run_underlying hu, Result.andThen_ok, V.real, Sem.run_pure]
    rfl
  · obtain ⟨s, r, hb⟩ := hr.obj l _ hl
    simp only [builtin, Builtin.len_, ha, h0, Sem.run_bind, run_underlying hu, Result.andThen_ok, V.real, run_getChan hb, Sem.run_pure]
    simp [V.reals_eq, goInt]

theorem good_mkChan (hr : HR ι h.o w) {d : Option Nat} {t e b ty : Nat} {dr : ChanDir} {k : Int} {pos : String} {af : Array Edge} {g : Option (Nat × Bool)} (hu : P.underlying t = some (.chan dr e)) (hb : bytesOf P e = some b)
    (h0 : 0 ≤ k) (h1 : k ≤ 1000000) (h2 : (b : Int) * k ≤ 281474976710544) :
    Good P a ⟨d, .makeChan t (.const (.int .i64 k)), ty, pos, af, g⟩ ι h w (.chan h.o.length) (some (h.new (.chan k.toNat []))) := by
  obtain ⟨i, hi, rfl⟩ := info_bytes hb
  have hti : (typeInfo e).run P w = .ok i w := by simp [typeInfo, hi]
  have hn := Nx.new hr (.chan k.toNat #[] false 0 0 false) (.chan k.toNat []) ⟨w.heap.size, 0, 0⟩ rfl ⟨0, 0, by show (w.heap.push _)[w.heap.size]? = _; simp [V.reals]⟩ trivial rfl
  refine ⟨_, _, _, ?_, .inl rfl, hn, by simp [Heap.new, V.sc], fun h => by simp at h⟩
  have hw : IntKind.i64.wrap k = k := wrap_i64_in h0 (by have : (ok1 : Int) = 281474976710656 := rfl; omega)
  have hmx : IntKind.i64.max = 9223372036854775807 := by decide
  have hc : ¬ (k < 0 ∨ k > IntKind.i64.max ∨ (i.bytes : Int) * k > 2 ^ 48 - 112) := by rw [hmx]; omega
  simp only [execOp, Instr.makeChan, Act.eval, asInt, asIntOf, Sem.run_bind, Sem.run_pure, Result.andThen_ok, run_underlying hu, hti, if_neg hc, run_newObj, V.real, Map.upd_same]
  simp []

theorem run_sdata (hr : HR ι h.o w) {ats : Array Nat} {ty : Nat} {args : Array Value} {x v : V} (hargs : args = #[x.real ι]) (hx : (x = .nils ∧ v = .nilp) ∨ ∃ l o m e, x = .slice l o m e ∧ m ≠ 0 ∧ 0 < e ∧ h.holds l (o + m * e) = true ∧ v = .ptr l o) (bs : Array Bool) :
    (builtin .unsafeSliceData ats ty bs args).run P w = .ok (.value (v.real ι)) w := by
  subst hargs
  rcases hx with ⟨rfl, rfl⟩ | ⟨l, o, m, e, rfl, h1, h2, h3, rfl⟩
  · simp only [builtin, V.real, Sem.run_bind, Lib.run_unsafeSliceData_nil, Result.andThen_ok, Sem.run_pure]
  · have hs := holds_ok hr h3
    have hc : ((ι l).size - o) / e ≠ 0 := by
      have : m ≤ ((ι l).size - o) / e := by rw [Nat.le_div_iff_mul_le h2]; omega
      omega
    simp only [builtin, V.real, Sem.run_bind, Lib.run_unsafeSliceData_row _ _ _ _ _ _ hc, Result.andThen_ok, Sem.run_pure]

theorem strIn_of : ∀ {cs : List V} {s : List UInt8}, strIn cs = some s → cs = bytesA s
  | [], s, h => by simp only [strIn, Option.some.injEq] at h; subst h; rfl
  | v :: r, s, h => by
    unfold strIn at h
    split at h
    · rename_i heq; cases heq
    · rename_i n r' heq
      cases heq
      split at h
      · rename_i s' hs'
        split at h
        · rename_i hn
          simp only [Option.some.injEq] at h
          subst h
          rw [strIn_of hs']
          simp only [bytesA, List.map_cons, List.cons.injEq, and_true, V.int.injEq, true_and]
          simp
          omega
        · cases h
      · cases h
    · cases h

theorem freeze_frame (w : World) (ad : Addr) (k : Nat) : (w.freeze ad k).os = w.os ∧ (w.freeze ad k).tape = w.tape ∧ (w.freeze ad k).output = w.output ∧ (w.freeze ad k).heap.size = w.heap.size ∧ ∀ b, b ≠ ad.block → (w.freeze ad k).heap[b]? = w.heap[b]? := by
  unfold World.freeze
  split
  · exact ⟨rfl, rfl, rfl, rfl, fun _ _ => rfl⟩
  · refine ⟨rfl, rfl, rfl, by simp, fun b hb => ?_⟩
    simp only [Array.getElem?_modify]
    rw [if_neg (fun e => hb e.symm)]

theorem run_ustr (hr : HR ι h.o w) {t it ty e : Nat} (hp : P.underlying t = some (.pointer e)) (hc : P.cellsOf e = 1) {args : Array Value} {l : Nat} {k : Int} {cs : List V} {s : List UInt8} (hk : 0 < k)
    (hargs : args = #[(V.ptr l 0).real ι, (V.int .i64 k).real ι]) (hown : h.ownT l e = true) (hg : h.gets l 0 k.toNat = some cs) (hs : strIn cs = some s) (h63 : k ≤ 9223372036854775807) (bs : Array Bool) :
    ∃ w', (builtin .unsafeString #[t, it] ty bs args).run P w = .ok (.value ((V.str s).real ι)) w' ∧ Nx ι h w ι ⟨h.o.set l .dead, h.e, min h.d l⟩ w' := by
  subst hargs
  unfold Heap.ownT at hown
  split at hown
  · rename_i ck u fz cs0 hl
    simp only [Bool.and_eq_true, Bool.not_eq_true', decide_eq_false_iff_not, decide_eq_true_eq] at hown
    obtain ⟨hck, rfl⟩ := hown
    obtain ⟨arr, t', lo, hi, hb, hsz, hcs, hx, hex, hro⟩ := hr.obj l _ hl
    obtain ⟨hbase, rfl, _, _⟩ := hro hck
    obtain rfl := strIn_of hs
    have hgl := (gets_get hg).1
    have hgg := (gets_get hg).2
    rw [bytesA_len] at hgl
    have hkk : k = (s.length : Int) := by omega
    have hne : s ≠ [] := fun e => by rw [e] at hgl; simp at hgl; omega
    have hle : s.length ≤ arr.size := by
      have : (h.gets l 0 k.toNat).isSome = true := by rw [hg]; rfl
      unfold Heap.gets at this
      rw [if_neg (by omega), hl] at this
      simp only at this
      split at this
      · omega
      · cases this
    have hrun := Lib.run_unsafeString_row (P := P) w t it ty t' hp hc (ι l).blk arr.size (by simp [World.shape?, hb]) s hne hle (by omega) (fun j x hj => by
      have h1 := cell_get hr (hgg j (.int .u8 (x.toNat : Int)) (by simp [bytesA, hj]))
      rw [Nat.zero_add, hbase, Nat.zero_add] at h1
      rw [Addr_add, Nat.zero_add]
      exact h1)
    obtain ⟨f1, f2, f3, f4, f5⟩ := freeze_frame w ⟨(ι l).blk, 0, none⟩ s.length
    refine ⟨_, ?_, Nx.killW hr hl (by simp [Obj.own, hck]) f1 f2 f3 f4 f5⟩
    simp only [builtin, V.real, hbase, Nat.add_zero, Sem.run_bind, hkk, hrun, Result.andThen_ok, Sem.run_pure]
  · cases hown

theorem run_ustrNil {t it ty : Nat} {args : Array Value} (hargs : args = #[V.nilp.real ι, (V.int .i64 0).real ι]) (bs : Array Bool) :
    (builtin .unsafeString #[t, it] ty bs args).run P w = .ok (.value ((V.str []).real ι)) w := by
  subst hargs
  simp only [builtin, V.real, Sem.run_bind, Lib.run_unsafeString_none, Result.andThen_ok, Sem.run_pure]
  rfl

theorem good_cvU (hr : HR ι h.o w) (hs : SR ι S n a.tmps h.o.length) {d : Option Nat} {t u e ty : Nat} {pos : String} {af : Array Edge} {g : Option (Nat × Bool)} {x : Operand} {x' : Opd} (hx : trOpd x = some x')
    (h1 : P.underlying t = some (.pointer e)) (h2 : P.underlying u = some .unsafePointer) (h3 : szOf P e ≠ some 0) (h4 : (szOf P e).isSome = true) {l o : Nat} (he : x'.ev S = .ptr l o) (hg : (h.get l o).isSome = true) :
    Good P a ⟨d, .convert t u x, ty, pos, af, g⟩ ι h w (.ptr l o) none := by
  have hsc := ev_sc hs hx
  rw [he] at hsc
  refine Good.same hr hsc ?_
  obtain ⟨v, hv⟩ := Option.isSome_iff_exists.1 hg
  have hi : ∃ j, P.info? e = some j ∧ j.size ≠ 0 := by
    unfold szOf at h3 h4
    cases hi : P.info? e with
    | none => simp [hi] at h4
    | some j => exact ⟨j, rfl, fun hz => h3 (by simp [hi, hz])⟩
  obtain ⟨j, hj, hj0⟩ := hi
  unfold Heap.get at hv
  split at hv
  · rename_i ck u' fz cs hl
    obtain ⟨arr, t', lo, hi, hb, hsz, hcs, _⟩ := hr.obj l _ hl
    have hol := (List.getElem?_eq_some_iff.1 hv).1
    have := Lib.run_to_unsafe (P := P) w (⟨(ι l).blk, (ι l).base + o, none⟩ : Addr) h1 h2 hj hj0 (e := t') (cells := arr.size) (by simp [World.shape?, hb]) (by show (ι l).base + o < arr.size; omega)
    simp only [execOp, Sem.run_bind, ev_ok hs hx, he, V.real, this, Result.andThen_ok, Sem.run_pure]
  · cases hv

theorem rowAt_mono {p : Program} {f : TypeId → Bool} : ∀ (d : Nat) (e c c' off n : Nat), rowAt p f d e c off n = true → c ≤ c' → rowAt p f d e c' off n = true
  | 0, _, _, _, _, _, h, _ => by simp [rowAt] at h
  | d + 1, e, c, c', off, n, h, hc => by
    unfold rowAt at h ⊢
    simp only at h ⊢
    split at h
    · cases h
    · rename_i hs
      rw [if_neg hs]
      simp only [Bool.or_eq_true, Bool.and_eq_true, decide_eq_true_eq] at h ⊢
      rcases h with ⟨⟨h1, h2⟩, h3⟩ | ⟨h1, h2⟩
      · exact .inl ⟨⟨h1, by omega⟩, h3⟩
      · exact .inr ⟨by omega, h2⟩

theorem liesAt_mono {p : Program} : ∀ (d : Nat) (e c c' off u n : Nat), liesAt p d e c off u n = true → c ≤ c' → liesAt p d e c' off u n = true
  | 0, _, _, _, _, _, _, h, _ => by simp [liesAt] at h
  | d + 1, e, c, c', off, u, n, h, hc => by
    unfold liesAt at h ⊢
    simp only [Bool.or_eq_true] at h ⊢
    rcases h with h | h
    · exact .inl (rowAt_mono _ _ _ _ _ _ h hc)
    · refine .inr ?_
      split at h
      · exact liesAt_mono d _ _ _ _ _ _ h hc
      · cases h

theorem good_cvP (hr : HR ι h.o w) (hs : SR ι S n a.tmps h.o.length) {d : Option Nat} {t u e ty : Nat} {pos : String} {af : Array Edge} {g : Option (Nat × Bool)} {x : Operand} {x' : Opd} (hx : trOpd x = some x')
    (h1 : P.underlying t = some .unsafePointer) (h2 : P.underlying u = some (.pointer e)) (h3 : (P.info? e).isSome = true) {l : Nat} (he : x'.ev S = .ptr l 0) (hg : h.tyIn l (tabOf P e) = true) :
    Good P a ⟨d, .convert t u x, ty, pos, af, g⟩ ι h w (.ptr l 0) none := by
  have hsc := ev_sc hs hx
  rw [he] at hsc
  refine Good.same hr hsc ?_
  obtain ⟨j, hj⟩ := Option.isSome_iff_exists.1 h3
  unfold Heap.tyIn at hg
  split at hg
  · rename_i ck u' fz cs hl
    simp only [Bool.and_eq_true, Bool.not_eq_true', decide_eq_false_iff_not, List.any_eq_true, decide_eq_true_eq] at hg
    obtain ⟨hck, ⟨q1, q2⟩, hq, hq1, hq2⟩ := hg
    simp only at hq1 hq2
    subst hq1
    obtain ⟨arr, t', lo, hi, hb, hsz, hcs, _, _, hro⟩ := hr.obj l _ hl
    obtain ⟨hbase, rfl, _, _⟩ := hro hck
    unfold tabOf at hq
    obtain ⟨tt, _, htt⟩ := List.mem_filterMap.1 hq
    split at htt
    · split at htt
      · rename_i hcond
        simp only [Option.some.injEq, Prod.mk.injEq] at htt
        obtain ⟨rfl, rfl⟩ := htt
        have hone : 1 ≤ arr.size / P.cellsOf tt := by
          rw [Nat.le_div_iff_mul_le hcond.1]
          omega
        have := Lib.run_from_unsafe (P := P) w (⟨(ι l).blk, (ι l).base + 0, none⟩ : Addr) h1 h2 hj (e := tt) (cells := arr.size) (by simp [World.shape?, hb]) (by
          rw [hbase]
          exact liesAt_mono _ _ _ _ _ _ _ hcond.2 hone)
        simp only [execOp, Sem.run_bind, ev_ok hs hx, he, V.real, this, Result.andThen_ok, Sem.run_pure]
      · cases htt
    · cases htt
  · cases hg

theorem noEsc1 : (Extern.allNextRows.lookup "internal/abi.NoEscape").isNone = true := by kernel_rfl
theorem noEsc2 : (Extern.allNextRows.lookup "").isNone = true := by kernel_rfl
theorem noEsc3 : (Extern.allGenericRows.lookup "internal/abi.NoEscape").isNone = true := by kernel_rfl
theorem noEsc4 : (Extern.allTypedRows.lookup "internal/abi.NoEscape").isNone = true := by kernel_rfl
theorem noEsc5 : Extern.allRows.lookup "internal/abi.NoEscape" = some Extern.AbiNoEscape.same := by kernel_rfl
theorem find_noEsc {fn : Func} (hn : fn.name = "internal/abi.NoEscape") (ho : fn.origin = "") : Extern.findNext fn = none ∧ Extern.find fn = some Extern.AbiNoEscape.same := by
  have h1 := Option.isNone_iff_eq_none.1 noEsc1
  have h2 := Option.isNone_iff_eq_none.1 noEsc2
  have h3 := Option.isNone_iff_eq_none.1 noEsc3
  have h4 := Option.isNone_iff_eq_none.1 noEsc4
  constructor
  · unfold Extern.findNext
    simp only [hn, ho, h1, h2, Option.map_none]
    rfl
  · unfold Extern.find
    simp only [hn, h3, h4, noEsc5, Option.map_none]
    rfl

theorem run_noEsc {f : Nat} (hf : isNoEsc P f = true) (v : Value) (w : World) : (callFunc f #[v]).run P w = .ok (.value v) w := by
  unfold isNoEsc at hf
  split at hf
  · rename_i fn hfn
    simp only [Bool.and_eq_true, beq_iff_eq] at hf
    obtain ⟨⟨h1, h2⟩, h3⟩ := hf
    obtain ⟨k1, k2⟩ := find_noEsc h1 h2
    rw [run_callFunc_extern hfn (by rw [h1]; rfl) h3 k1 k2, Lib.run_noEscape]
    rfl
  · cases hf
end
end AM

/- AM, part 13b: appends of so many zeros. -/
namespace AM
open Go
set_option linter.unusedVariables false
set_option linter.unusedSimpArgs false
set_option linter.unusedSectionVars false

section
variable {P : Program} {ι : Map} {h : Heap} {w : World}
theorem zerosZ (z : V) {s k : Nat} (hzl : z.cells.length = s) (hs0 : 0 < s) {new : List V} (hnz : new = reps z.cells k) : Builtin.zeroCells (V.reals ι z.cells).toArray k = (V.reals ι new).toArray := by
  rw [hnz]
  exact zeroCells_eq z.cells _ (by omega)
theorem fits_runZ {ats : Array Nat} {t u e s ty : Nat} (ha : ats[0]? = some t) (hu : P.underlying t = some (.slice e)) (hsz : szOf P e = some s) {b : Nat} (hb : bytesOf P e = some b) {z : V} (hz : zeroOf P e = some z) (hzl : z.cells.length = s) (hs0 : 0 < s) (ha1 : ats[1]? = some u) {kk : IntKind} (hd : P.underlying u = some (.int kk))
    {args : Array Value} {base : Option Addr} {sl sc k : Nat} {y : Value} (h0 : args[0]? = some (.slice base sl sc)) {ky : IntKind} {m : Int} (hy : y = .int ky m) (hm : IntKind.i64.wrap m = (k : Int)) (hkb : k * b ≤ 2 ^ 48) (h1 : args[1]? = some y) {new : List V} (hnz : new = reps z.cells k)
    (hcap : sl + k ≤ sc) (bs : Array Bool) {w' : World} (hst : ∀ a, base = some a → (storeCells (a.add (sl * s)) (V.reals ι new)).run P w = .ok () w') (hbn : base = none → w' = w) :
    (builtin .append ats ty bs args).run P w = .ok (.value (.slice base (sl + k) sc)) w' := by
  obtain ⟨i, hi, rfl⟩ := info_bytes hb
  have hti : ∀ w, (typeInfo e).run P w = .ok i w := fun w => by simp [typeInfo, hi]
  subst hy
  have hneg : ¬ ((k : Int) < 0) := by omega
  have hbig : ¬ ((k : Int) * (i.bytes : Int) > 2 ^ 48) := by
    have : ((k * i.bytes : Nat) : Int) ≤ ((2 ^ 48 : Nat) : Int) := Int.ofNat_le.2 hkb
    have e2 : ((k * i.bytes : Nat) : Int) = (k : Int) * (i.bytes : Int) := Int.natCast_mul k i.bytes
    omega
  have hai : ∀ w, (asInt (.int ky m)).run P w = .ok m w := fun w => rfl
  have hzr := fun w => (zero_run (ι := ι) hz w).1
  have hzc := zerosZ (ι := ι) z hzl hs0 hnz
  simp only [builtin, Builtin.append_, ha, h0, h1, ha1, Sem.run_bind, run_underlying hu, run_underlying hd, Result.andThen_ok, sizeOf_run hsz, Sem.run_pure, hai, hm, if_neg hneg, hti, if_neg hbig, Int.toNat_natCast, if_true, if_pos hcap]
  have happ : Sem.run P (if (!true) = true then Builtin.firstCells s k (Value.int ky m) else if k * s = 0 then pure #[] else do
      let a ← zeroValue e
      pure (Builtin.zeroCells a.cells k)) w = .ok (V.reals ι new).toArray w := by
    rw [if_neg (by simp)]
    by_cases hk : k * s = 0
    · have hk0 : k = 0 := by
        rcases Nat.mul_eq_zero.1 hk with h | h
        · exact h
        · omega
      rw [if_pos hk, hnz, hk0]
      rfl
    · rw [if_neg hk]
      simp only [Sem.run_bind, hzr, Result.andThen_ok, V.cells_real, Sem.run_pure, hzc]
  rw [happ]
  simp only [Result.andThen_ok]
  cases base with
  | none => simp [hbn rfl]
  | some a => simp [hst a rfl]

/-- The growing road of append, as it runs. -/
theorem run_append_growZ {e s b ty : Nat} {t u : Nat} {ats : Array Nat} (ha : ats[0]? = some t) (hu : P.underlying t = some (.slice e)) (hsz : szOf P e = some s) (hb : bytesOf P e = some b) {z : V} (hz : zeroOf P e = some z)
    (hzl : z.cells.length = s) (hs0 : 0 < s) (ha1 : ats[1]? = some u) {kk : IntKind} (hd : P.underlying u = some (.int kk)) {args : Array Value} {base : Option Addr} {sl sc k : Nat} {y : Value} (h0 : args[0]? = some (.slice base sl sc)) {ky : IntKind} {m : Int} (hy : y = .int ky m) (hm : IntKind.i64.wrap m = (k : Int)) (hkb : k * b ≤ 2 ^ 48) (h1 : args[1]? = some y)
    {old new : List V} (hnz : new = reps z.cells k) (hold : ∀ w', w'.heap = w.heap → (Builtin.firstCells s sl (.slice base sl sc)).run P w' = .ok (V.reals ι old).toArray w')
    (hcap : sc < sl + k) (hroom : roomOk (sl + k) b = true) (hol : old.length = sl * s) (hnl : new.length = k * s) (hr : HR ι h.o w) (hos : V.scs h.o.length old) (hns : V.scs h.o.length new) (bs : Array Bool) :
    ∃ κ w' c, (builtin .append ats ty bs args).run P w = .ok (.value (.slice (some ⟨(κ h.o.length).blk, 0, none⟩) (sl + k) c)) w' ∧ Nx ι h w κ (h.new (.cells .gr e 0 (old ++ new))) w' ∧ (κ h.o.length).base = 0 ∧
      (κ h.o.length).size = (old ++ new).length + (c - (sl + k)) * z.cells.length ∧ sl + k ≤ c ∧ (κ h.o.length).blk = w.heap.size := by
  obtain ⟨i, hi, rfl⟩ := info_bytes hb
  have hti : ∀ w, (typeInfo e).run P w = .ok i w := fun w => by simp [typeInfo, hi]
  let q := Question.appendCap (sl + k) sc e
  let c := q.cut (w.tape w.drawn q)
  let w1 : World := { w with drawn := w.drawn + 1 }
  have hc : sl + k ≤ c := by show sl + k ≤ sl + k + _; omega
  have hn1 : Nx ι h w ι h w1 := Nx.drew hr rfl rfl rfl rfl
  obtain ⟨z1, z2⟩ := zero_run (ι := ι) hz w1
  let rest : List Value := V.reals ι (reps z.cells (c - (sl + k)))
  have hsc2 : V.scs (h.o.length + 1) (old ++ new) := V.scs_mono (Nat.le_succ _) _ (scs_append.2 ⟨hos, hns⟩)
  have hn2 := newCells_sound hn1.hr .gr (by simp) e (old ++ new) rest hsc2 (0, 0) (by simp) (by simp)
  simp only at hn2
  rw [V.reals_agree (Map.agree_upd ι h.o.length _) (old ++ new) (scs_append.2 ⟨hos, hns⟩)] at hn2
  have hbound : ¬ (Builtin.nextslicecap (sl + k) sc * i.bytes > 2 ^ 48) := by
    have h1 := nextcap_le (sl + k) sc hcap
    have h2 : (2 * (sl + k) + 1024) * i.bytes ≤ ok1 := (of_decide_eq_true hroom).1
    have h3 := Nat.mul_le_mul_right i.bytes h1
    have : ok1 = 2 ^ 48 := rfl
    omega
  refine ⟨_, _, c, ?_, hn1.trans hn2, by rw [Map.upd_same], ?_, hc, by rw [Map.upd_same]⟩
  · have hnb : ¬ (sl + k ≤ sc) := by omega
    have hi64 : ¬ (((sl + k : Nat) : Int) > IntKind.i64.max) := by
      have h2 : sl + k ≤ ok1 := (of_decide_eq_true hroom).2
      have h3 : IntKind.i64.max = 9223372036854775807 := by decide
      have h4 : ok1 = 281474976710656 := rfl
      omega
    have hz3 : Builtin.zeroCells (V.reals ι z.cells).toArray (c - (sl + k)) = rest.toArray := by
      by_cases hzl : 0 < z.cells.length
      · exact zeroCells_eq z.cells _ hzl
      · have hz0 : z.cells = [] := List.eq_nil_of_length_eq_zero (by omega)
        have : ∀ k, reps ([] : List V) k = [] := by intro k; induction k with | zero => rfl | succ k ih => simp [reps, ih]
        simp only [rest, hz0, this, V.reals, Builtin.zeroCells]
        simp
    have hsum : ¬ (((sl + k : Nat) : Int) > IntKind.i64.max ∧ (False ∨ i.bytes = 0)) := fun hx => hi64 hx.1
    have hw1 : w1.heap = w.heap := rfl
    have hfin : (V.reals ι old).toArray ++ (V.reals ι new).toArray ++ rest.toArray = (V.reals ι (old ++ new) ++ rest).toArray := by
      simp only [V.reals_eq, List.map_append]
      apply Array.ext'
      simp
    subst hy
    have hneg : ¬ ((k : Int) < 0) := by omega
    have hbig : ¬ ((k : Int) * (i.bytes : Int) > 2 ^ 48) := by
      have : ((k * i.bytes : Nat) : Int) ≤ ((2 ^ 48 : Nat) : Int) := Int.ofNat_le.2 hkb
      have e2 : ((k * i.bytes : Nat) : Int) = (k : Int) * (i.bytes : Int) := Int.natCast_mul k i.bytes
      omega
    have hai : ∀ w, (asInt (.int ky m)).run P w = .ok m w := fun w => rfl
    have hzr := fun w => (zero_run (ι := ι) hz w).1
    have hzc := zerosZ (ι := ι) z hzl hs0 hnz
    have happ : Sem.run P (if (!true) = true then Builtin.firstCells s k (Value.int ky m) else if k * s = 0 then pure #[] else do
        let a ← zeroValue e
        pure (Builtin.zeroCells a.cells k)) w1 = .ok (V.reals ι new).toArray w1 := by
      rw [if_neg (by simp)]
      by_cases hk : k * s = 0
      · have hk0 : k = 0 := by
          rcases Nat.mul_eq_zero.1 hk with h | h
          · exact h
          · omega
        rw [if_pos hk, hnz, hk0]
        rfl
      · rw [if_neg hk]
        simp only [Sem.run_bind, hzr, Result.andThen_ok, V.cells_real, Sem.run_pure, hzc]
    have hsum2 : ¬ (((sl + k : Nat) : Int) > IntKind.i64.max ∧ (True ∨ i.bytes = 0)) := fun hx => hi64 hx.1
    simp only [builtin, Builtin.append_, ha, h0, h1, ha1, Sem.run_bind, run_underlying hu, run_underlying hd, Result.andThen_ok, sizeOf_run hsz, Sem.run_pure, hai, hm, if_neg hneg, hti, if_neg hbig, Int.toNat_natCast, if_true, if_neg hnb, if_neg hsum2, if_neg hbound, run_choose]
    rw [if_neg (by simp [Question.forced])]
    simp only [Result.andThen_ok, run_askRoom]
    rw [hold w1 hw1]
    simp only [Result.andThen_ok]
    rw [happ]
    simp only [Result.andThen_ok]
    rw [z1]
    simp only [Result.andThen_ok, V.cells_real, newRow, Sem.run_bind, run_newObj, Sem.run_pure]
    rw [hz3, hfin, Map.upd_same]
    rfl
  · rw [Map.upd_same]
    simp only [rest, V.reals_eq, List.length_map, reps_length]

theorem append_okZ (hr : HR ι h.o w) {ats : Array Nat} {t u e s b ty : Nat} (ha : ats[0]? = some t) (hu : P.underlying t = some (.slice e)) (hsz : szOf P e = some s) (hb : bytesOf P e = some b) {z : V} (hz : zeroOf P e = some z) (hzl : z.cells.length = s) (hs0 : 0 < s)
    (ha1 : ats[1]? = some u) {kk : IntKind} (hd : P.underlying u = some (.int kk)) {args : Array Value} {x : V} {k : Nat} {y : Value} (h0 : args[0]? = some (x.real ι)) {ky : IntKind} {m : Int} (hy : y = .int ky m) (hm : IntKind.i64.wrap m = (k : Int)) (hkb : k * b ≤ 2 ^ 48) (h1 : args[1]? = some y)
    {new : List V} (hnz : new = reps z.cells k) (hnl : new.length = k * s) (hns : V.scs h.o.length new) (hno : new.all V.one = true)
    (hxs : x.sc h.o.length) (bs : Array Bool) {v : V} {oh : Option Heap} (hv : appendA h e s b x k new = some (v, oh)) :
    ∃ κ w', (builtin .append ats ty bs args).run P w = .ok (.value (v.real κ)) w' ∧ Nx ι h w κ (oh.getD h) w' ∧ v.sc (oh.getD h).o.length ∧ (oh = none → κ = ι ∧ w' = w) := by
  unfold appendA at hv
  split at hv
  · -- nil
    split at hv
    · rename_i hk
      subst hk
      simp only [Option.some.injEq, Prod.mk.injEq] at hv
      obtain ⟨rfl, rfl⟩ := hv
      exact ⟨ι, w, fits_runZ (ι := ι) ha hu hsz hb hz hzl hs0 ha1 hd h0 hy hm hkb h1 hnz (Nat.le_refl _) bs (by simp) (fun _ => rfl), Nx.refl hr, trivial, fun _ => ⟨rfl, rfl⟩⟩
    · split at hv
      · rename_i hk hroom
        simp only [Option.some.injEq, Prod.mk.injEq] at hv
        obtain ⟨rfl, rfl⟩ := hv
        obtain ⟨κ, w', c, g1, g2, g3, g4, g5, g6⟩ := run_append_growZ ha hu hsz hb hz hzl hs0 ha1 hd h0 hy hm hkb h1 hnz (old := []) (fun w' _ => rfl) (by omega) (by rw [Nat.zero_add]; exact hroom) (by simp) hnl hr trivial hns bs
        refine ⟨κ, w', ?_, by simpa using g2, by simp [Heap.new, V.sc], fun h => by simp at h⟩
        rw [g1]
        simp only [V.real, g3, g4, List.nil_append, hnl, hzl, Nat.zero_add, Nat.sub_zero]
        rw [← Nat.add_mul, show k + (c - k) = c by omega, Nat.mul_div_cancel _ hs0]
      · simp at hv
  · rename_i l o n e'
    split at hv
    · rename_i he
      subst he
      split at hv
      · rename_i ck t' fz cs hc
        obtain ⟨arr, t2, lo, hi, hblk, q1, q2, q3, q4, q5⟩ := hr.obj l _ hc
        split at hv
        · rename_i hle
          have hcapn : n ≤ ((ι l).size - o) / e' := by rw [Nat.le_div_iff_mul_le hs0]; omega
          split at hv
          · rename_i hk
            subst hk
            simp only [Option.some.injEq, Prod.mk.injEq] at hv
            obtain ⟨rfl, rfl⟩ := hv
            have hn0 : new = [] := List.eq_nil_of_length_eq_zero (by omega)
            subst hn0
            exact ⟨ι, w, fits_runZ (ι := ι) ha hu hsz hb hz hzl hs0 ha1 hd h0 hy hm hkb h1 hnz hcapn bs (w' := w) (fun a _ => rfl) (fun _ => rfl), Nx.refl hr, hxs, fun _ => ⟨rfl, rfl⟩⟩
          · split at hv
            · rename_i hfit
              cases hse : h.sets l (o + n * e') new with
              | none => simp [hse] at hv
              | some h' =>
                simp only [hse, Option.map_some, Option.some.injEq, Prod.mk.injEq] at hv
                obtain ⟨rfl, rfl⟩ := hv
                obtain ⟨w', g1, g2⟩ := sets_sound hr hse hns
                have hcap2 : n + k ≤ ((ι l).size - o) / e' := by rw [Nat.le_div_iff_mul_le hs0]; omega
                refine ⟨ι, w', fits_runZ (ι := ι) ha hu hsz hb hz hzl hs0 ha1 hd h0 hy hm hkb h1 hnz hcap2 bs (fun a he => ?_) (fun he => by simp at he), g2, ?_, fun h => by simp at h⟩
                · simp only [Option.some.injEq] at he
                  subst he
                  rw [Addr_add, Nat.add_assoc]
                  exact g1 P
                · exact V.sc_mono g2.len _ hxs
            · split at hv
              · rename_i hend
                obtain ⟨hend, hroom⟩ := hend
                have hgo : ∀ w', w'.heap = w.heap → (Builtin.firstCells e' n ((V.slice l o n e').real ι)).run P w' = .ok (V.reals ι (cs.drop o)).toArray w' := by
                  intro w' hw'
                  have hr' : HR ι h.o w' := ⟨fun l o hl => (hr.obj l o hl).of_block (by rw [hw']), hr.apart, hr.sc⟩
                  have hg : h.gets l o (n * e') = some (cs.drop o) := by
                    simp only [Heap.gets, hc, if_pos hle]
                    rw [List.take_of_length_le (by simp; omega)]
                    split
                    · rename_i h0
                      have : (cs.drop o).length = 0 := by simp; omega
                      rw [List.length_eq_zero_iff.1 this]
                    · rfl
                  simp only [V.real, Builtin.firstCells]
                  exact run_loadCells_gets hr' hg
                have hds : V.scs h.o.length (cs.drop o) := scs_drop (hr.sc l _ hc)
                have hdl : (cs.drop o).length = n * e' := by simp; omega
                split at hv
                · simp at hv
                · -- all its cells are known
                  simp only [Option.some.injEq, Prod.mk.injEq] at hv
                  obtain ⟨rfl, rfl⟩ := hv
                  have hsize := q4 rfl
                  have hcap3 : ((ι l).size - o) / e' = n := by
                    rw [hsize, show cs.length - o = n * e' by omega, Nat.mul_div_cancel _ hs0]
                  have h0' : args[0]? = some (.slice (some ⟨(ι l).blk, (ι l).base + o, none⟩) n n) := by rw [h0]; simp only [V.real, hcap3]
                  obtain ⟨κ, w', c, g1, g2, g3, g4, g5, g6⟩ := run_append_growZ ha hu hsz hb hz hzl hs0 ha1 hd h0' hy hm hkb h1 hnz (old := cs.drop o) (fun w' hw' => by have := hgo w' hw'; simp only [V.real, hcap3] at this; exact this) (by omega) hroom hdl hnl hr hds hns bs
                  refine ⟨κ, w', ?_, g2, by simp [Heap.new, V.sc], fun h => by simp at h⟩
                  rw [g1]
                  simp only [V.real, g3, g4, List.length_append, hdl, hnl, hzl, Nat.zero_add, Nat.sub_zero]
                  rw [← Nat.add_mul, ← Nat.add_mul, show n + k + (c - (n + k)) = c by omega, Nat.mul_div_cancel _ hs0]
                · -- there may be more room
                  split at hv
                  · rename_i hgr
                    obtain ⟨rfl, hfz, rfl⟩ := hgr
                    simp only [Option.some.injEq, Prod.mk.injEq] at hv
                    obtain ⟨rfl, rfl⟩ := hv
                    obtain ⟨p1, p2, p3, p4⟩ := q5 (by simp)
                    subst p2
                    simp only [Nat.zero_add, List.drop_zero] at hend hdl hds hgo
                    by_cases hroom2 : n + k ≤ ((ι l).size - 0) / e'
                    · -- in place
                      have hsz2 : (n + k) * e' ≤ (ι l).size := by rw [Nat.le_div_iff_mul_le hs0] at hroom2; omega
                      have hrl : (V.reals ι new).length = new.length := by rw [V.reals_eq, List.length_map]
                      have hnk : (n + k) * e' = n * e' + k * e' := Nat.add_mul n k e'
                      obtain ⟨f1, f2, f3, f4, f5⟩ := setCells_frame (ι l).blk (V.reals ι new) (n * e') w
                      have hbk := setCells_block (ι l).blk t2 (lo, hi) (V.reals ι new) (n * e') w arr hblk (by omega)
                      have hagr := V.reals_agree (Map.agree_upd ι h.o.length (ι l)) new hns
                      refine ⟨ι.upd h.o.length (ι l), w.setCells (ι l).blk (n * e') (V.reals ι new), ?_, ?_, ?_, fun h => by simp at h⟩
                      · rw [fits_runZ (ι := ι) ha hu hsz hb hz hzl hs0 ha1 hd h0 hy hm hkb h1 hnz hroom2 bs (w' := w.setCells (ι l).blk (n * e') (V.reals ι new)) (fun a he => ?_) (fun he => by simp at he)]
                        · simp only [V.real, Map.upd_same, p1, Nat.zero_add, Nat.add_zero, Nat.sub_zero]
                        · simp only [Option.some.injEq] at he
                          subst he
                          rw [Addr_add, p1]
                          have := run_storeCells_cells (P := P) (ι l).blk (0 + 0 + n * e') (V.reals ι new) 0 w (fun j hj => by
                              simp only [World.cell?, hblk]
                              simp
                              omega) (fun j hj => by
                              simp only [World.frozen?, hblk]
                              have := p4 (n * e' + j) (by omega) (by omega)
                              simpa using this) (fun v hv => by
                              rw [V.reals_eq] at hv
                              obtain ⟨x, hx, rfl⟩ := List.mem_map.1 hv
                              exact V.one_real ι x ((List.all_eq_true.1 hno) x hx))
                          simpa using this
                      · refine Nx.move hr hc (by simp [Obj.own]) (o' := .cells .gr t2 fz (cs ++ new)) (by simp [Obj.own]) f1 f2 f3 f4 f5 ?_ (V.scs_mono (Nat.le_succ _) _ (scs_append.2 ⟨hds, hns⟩))
                        refine ⟨_, _, _, _, hbk, ?_, by simp; omega, ?_, by simp, fun _ => ⟨p1, rfl, p3, p4⟩⟩
                        · have : (wr arr (n * e') (V.reals ι new)).size = arr.size := by simp [wr]; omega
                          omega
                        · intro i c hi
                          rw [p1, Nat.zero_add]
                          simp only [wr, List.getElem?_toArray]
                          have l2 : (List.take (n * e') arr.toList).length = n * e' := by simp; omega
                          rw [List.append_assoc, List.getElem?_append, l2]
                          rw [List.getElem?_append] at hi
                          by_cases hlt : i < cs.length
                          · rw [if_pos hlt] at hi
                            rw [if_pos (by omega), List.getElem?_take, if_pos (by omega)]
                            have := q3 i c hi
                            rw [p1, Nat.zero_add] at this
                            rw [V.real_agree (Map.agree_upd ι h.o.length (ι l)) c ((V.scs_iff _ _).1 hds c (List.mem_of_getElem? hi))]
                            simpa using this
                          · rw [if_neg hlt] at hi
                            have hin := (List.getElem?_eq_some_iff.1 hi).1
                            rw [if_neg (by omega), List.getElem?_append_left (by omega), ← hagr, V.reals_eq, List.getElem?_map, show i - n * e' = i - cs.length by omega, hi]
                            rfl
                      · show h.o.length < _
                        simp
                    · obtain ⟨κ, w', c, g1, g2, g3, g4, g5, g6⟩ := run_append_growZ ha hu hsz hb hz hzl hs0 ha1 hd h0 hy hm hkb h1 hnz (old := cs) hgo (by omega) hroom hdl hnl hr hds hns bs
                      have hkl := Nx.kill g2.hr l
                      have hset : (h.new (.cells .gr t2 0 (cs ++ new))).o.set l .dead = h.o.set l .dead ++ [.cells .gr t2 0 (cs ++ new)] := by
                        simp only [Heap.new]
                        rw [List.set_append_left _ _ (List.getElem?_eq_some_iff.1 hc).1]
                      have hnx := g2.trans hkl
                      rw [hset] at hnx
                      -- what was frozen before may be said to be frozen still
                      have hfz2 : Nx ι h w κ ⟨h.o.set l .dead ++ [.cells .gr t2 fz (cs ++ new)], h.e, min h.d l⟩ w' := by
                        have hlk : ∀ (k : Nat) (x : Obj), (h.o.set l .dead ++ [Obj.cells .gr t2 fz (cs ++ new)])[k]? = some x → ∃ y, (h.o.set l .dead ++ [Obj.cells .gr t2 0 (cs ++ new)])[k]? = some y ∧ x.own = y.own ∧ x.live = y.live ∧ (∀ m, y.sc m → x.sc m) ∧ (∀ p, OR κ w' p y → (k = h.o.length → fz ≤ p.size) → OR κ w' p x) := by
                          intro k x hx
                          rw [List.getElem?_append] at hx ⊢
                          by_cases hk : k < (h.o.set l Obj.dead).length
                          · rw [if_pos hk] at hx ⊢
                            exact ⟨x, hx, rfl, rfl, fun _ h => h, fun p h _ => h⟩
                          · rw [if_neg hk] at hx ⊢
                            rw [List.getElem?_singleton] at hx ⊢
                            by_cases hk0 : k - (h.o.set l Obj.dead).length = 0
                            · rw [if_pos hk0] at hx ⊢
                              simp only [Option.some.injEq] at hx
                              subst hx
                              refine ⟨_, rfl, rfl, rfl, fun _ h => h, fun p ⟨a, b, c, d, r1, r2, r3, r4, r5, r6⟩ hsz => ⟨a, b, c, d, r1, r2, r3, r4, r5, fun hne => ?_⟩⟩
                              obtain ⟨u1, u2, u3, u4⟩ := r6 hne
                              exact ⟨u1, u2, hsz (by simp at hk hk0; omega), fun i hi hip => u4 i (Nat.zero_le _) hip⟩
                            · rw [if_neg hk0] at hx
                              simp at hx
                        refine ⟨⟨fun k x hx => ?_, fun k k' x x' hkk hx hx' hxo hxl => ?_, fun k x hx => ?_⟩, hnx.ag, by simp, ⟨hnx.fr.os, hnx.fr.tape, hnx.fr.output, hnx.fr.size, hnx.fr.keep, fun b hb hb' hcx => ?_⟩, fun k m hkn hke hc x hx => ?_, hnx.ed, fun k hk hkd => ?_, fun k x hx hxl hxo => ?_⟩
                        · obtain ⟨y, hy, _, _, _, hor⟩ := hlk k x hx
                          refine hor _ (hnx.hr.obj k y hy) (fun he => ?_)
                          subst he
                          rw [g4, List.length_append]
                          omega
                        · obtain ⟨y, hy, o1, _, _, _⟩ := hlk k x hx
                          obtain ⟨y', hy', _, o2, _, _⟩ := hlk k' x' hx'
                          exact hnx.hr.apart k k' y y' hkk hy hy' (o1 ▸ hxo) (o2 ▸ hxl)
                        · obtain ⟨y, hy, _, _, o3, _⟩ := hlk k x hx
                          have := hnx.hr.sc k y hy
                          simp only [List.length_append, List.length_set, List.length_cons, List.length_nil] at this ⊢
                          exact o3 _ this
                        · obtain ⟨k, x, hx, hxo, hb2⟩ := hcx
                          obtain ⟨y, hy, o1, _, _, _⟩ := hlk k x hx
                          exact hnx.fr.own b hb hb' ⟨k, y, hy, o1 ▸ hxo, hb2⟩
                        · obtain ⟨y, hy, _, _, o3, _⟩ := hlk k x hx
                          exact o3 _ (hnx.cl k m hkn hke hc y hy)
                        · have := hnx.un k hk hkd
                          simp only at this ⊢
                          rw [List.getElem?_append_left (by simpa using hk)] at this ⊢
                          exact this
                        · rw [List.getElem?_append] at hx
                          by_cases hk : k < (h.o.set l Obj.dead).length
                          · rw [if_pos hk] at hx
                            refine hnx.ro k x ?_ hxl hxo
                            rw [List.getElem?_append_left hk]
                            exact hx
                          · rw [if_neg hk, List.getElem?_singleton] at hx
                            split at hx
                            · simp only [Option.some.injEq] at hx; subst hx; simp [Obj.own] at hxo
                            · simp at hx
                      refine ⟨κ, w', ?_, hfz2, ?_, fun h => by simp at h⟩
                      · rw [g1]
                        simp only [V.real, g3, g4, List.length_append, hdl, hnl, hzl, Nat.zero_add, Nat.sub_zero]
                        rw [← Nat.add_mul, ← Nat.add_mul, show n + k + (c - (n + k)) = c by omega, Nat.mul_div_cancel _ hs0]
                      · show h.o.length < _
                        simp
                  · simp at hv
              · simp at hv
        · simp at hv
      · simp at hv
    · simp at hv
  · -- a slice without room
    obtain ⟨za, hza, hv2⟩ := Option.bind_eq_some_iff.1 hv
    clear hv
    have hv := hv2
    clear hv2
    obtain rfl := zslOf_some hza
    split at hv
    · rename_i hk
      subst hk
      simp only [Option.some.injEq, Prod.mk.injEq] at hv
      obtain ⟨rfl, rfl⟩ := hv
      exact ⟨ι, w, fits_runZ (ι := ι) ha hu hsz hb hz hzl hs0 ha1 hd h0 hy hm hkb h1 hnz (Nat.le_refl _) bs (fun a _ => by obtain rfl : new = [] := List.length_eq_zero_iff.1 (by simpa using hnl); rfl) (fun h => by cases h), Nx.refl hr, trivial, fun _ => ⟨rfl, rfl⟩⟩
    · split at hv
      · rename_i hk hroom
        simp only [Option.some.injEq, Prod.mk.injEq] at hv
        obtain ⟨rfl, rfl⟩ := hv
        obtain ⟨κ, w', c, g1, g2, g3, g4, g5, g6⟩ := run_append_growZ ha hu hsz hb hz hzl hs0 ha1 hd h0 hy hm hkb h1 hnz (old := []) (fun w' _ => by simp [Builtin.firstCells, V.real, loadCells, loadCellsFrom, V.reals]) (by omega) (by rw [Nat.zero_add]; exact hroom) (by simp) hnl hr trivial hns bs
        refine ⟨κ, w', ?_, by simpa using g2, by simp [Heap.new, V.sc], fun h => by simp at h⟩
        rw [g1]
        simp only [V.real, g3, g4, List.nil_append, hnl, hzl, Nat.zero_add, Nat.sub_zero]
        rw [← Nat.add_mul, show k + (c - k) = c by omega, Nat.mul_div_cancel _ hs0]
      · simp at hv

end
end AM

/- AM, part 14: every operation that enters no function. -/
namespace AM
open Go
set_option linter.unusedVariables false
set_option linter.unusedSimpArgs false
set_option linter.unusedSectionVars false

section
variable {P : Program} {ι : Map} {σ : Type} [Slots σ] {h : Heap} {w : World} {S : σ} {n : Nat} {a : Act}

theorem ok_inj {x v : V} {oh : Option Heap} (h : ok x = some (v, oh)) : v = x ∧ oh = none := by
  simp only [ok, Option.some.injEq, Prod.mk.injEq] at h
  exact ⟨h.1.symm, h.2.symm⟩
theorem okh_inj {x v : V} {h' : Heap} {oh : Option Heap} (h : okh x h' = some (v, oh)) : v = x ∧ oh = some h' := by
  simp only [okh, Option.some.injEq, Prod.mk.injEq] at h
  exact ⟨h.1.symm, h.2.symm⟩

theorem one_arg {ys : List Opd} {x : Opd} {l : Array Operand} (hl : trOpds l.toList = some ys) (hy : ys = [x]) (hs : SR ι S n a.tmps h.o.length) : (l.map a.eval)[0]? = some ((x.ev S).real ι) ∧ (x.ev S).sc h.o.length := by
  subst hy
  have h1 := evs_ok_arr hs hl
  have h2 := (evs_ok hs hl).2
  rw [h1]
  exact ⟨rfl, h2.1⟩

theorem two_args {ys : List Opd} {x y : Opd} {l : Array Operand} (hl : trOpds l.toList = some ys) (hy : ys = [x, y]) (hs : SR ι S n a.tmps h.o.length) :
    (l.map a.eval)[0]? = some ((x.ev S).real ι) ∧ (l.map a.eval)[1]? = some ((y.ev S).real ι) ∧ (x.ev S).sc h.o.length ∧ (y.ev S).sc h.o.length := by
  subst hy
  have h1 := evs_ok_arr hs hl
  have h2 := (evs_ok hs hl).2
  rw [h1]
  exact ⟨rfl, rfl, h2.1, h2.2.1⟩

theorem arr0 {α : Type} {l : Array α} {x : α} {r : List α} (h : l.toList = x :: r) : l[0]? = some x := by rw [← Array.getElem?_toList, h]; rfl
theorem arr1 {α : Type} {l : Array α} {x y : α} {r : List α} (h : l.toList = x :: y :: r) : l[1]? = some y := by rw [← Array.getElem?_toList, h]; rfl

theorem builtin_good (hr : HR ι h.o w) (hs : SR ι S n a.tmps h.o.length) {b : Builtin} {ats : Array Nat} {args : Array Operand} {ys : List Opd} (hys : trOpds args.toList = some ys) {op : AOp} (htr : trBuiltin P b ats.toList ys = some op)
    {v : V} {oh : Option Heap} (hst : stepV op S h = some (v, oh)) {d : Option Nat} {ty : Nat} {pos : String} {af : Array Edge} {g : Option (Nat × Bool)} :
    Good P a ⟨d, .call ⟨.builtin b, args, ats⟩, ty, pos, af, g⟩ ι h w v oh := by
  unfold trBuiltin at htr
  split at htr
  · -- len
    rename_i t x hat
    obtain ⟨q1, q2⟩ := one_arg hys rfl hs
    have ha := arr0 hat
    split at htr
    · rename_i hu
      simp only [Option.some.injEq] at htr; subst htr
      simp only [stepV] at hst
      split at hst
      · rename_i s he
        obtain ⟨rfl, rfl⟩ := ok_inj hst
        rw [he] at q1
        exact good_builtin (Nx.refl hr) trivial (fun _ => ⟨rfl, rfl⟩) (run_len ha q1 _ (by simp only [hu, V.real, size_mk]; rfl) w)
      · simp at hst
    · rename_i e hu
      simp only [Option.some.injEq] at htr; subst htr
      simp only [stepV, lenLV] at hst
      split at hst
      · rename_i l o m e' he
        obtain ⟨rfl, rfl⟩ := ok_inj hst
        rw [he] at q1
        exact good_builtin (Nx.refl hr) trivial (fun _ => ⟨rfl, rfl⟩) (run_len ha q1 _ (by simp only [hu, V.real]; rfl) w)
      · rename_i he
        obtain ⟨rfl, rfl⟩ := ok_inj hst
        rw [he] at q1
        exact good_builtin (Nx.refl hr) trivial (fun _ => ⟨rfl, rfl⟩) (run_len ha q1 _ (by simp only [hu, V.real]; rfl) w)
      · rename_i l o k e' he
        obtain ⟨rfl, rfl⟩ := ok_inj hst
        rw [he] at q1
        exact good_builtin (Nx.refl hr) trivial (fun _ => ⟨rfl, rfl⟩) (run_len ha q1 _ (by simp only [hu, V.real]; rfl) w)
      · obtain ⟨za, hz, hst⟩ := Option.bind_eq_some_iff.1 hst
        have he := zslOf_some hz
        obtain ⟨rfl, rfl⟩ := ok_inj hst
        rw [he] at q1
        exact good_builtin (Nx.refl hr) trivial (fun _ => ⟨rfl, rfl⟩) (run_len ha q1 _ (by simp only [hu, V.real]; rfl) w)
    · rename_i m e hu
      simp only [Option.some.injEq] at htr; subst htr
      simp only [stepV] at hst
      obtain ⟨rfl, rfl⟩ := ok_inj hst
      exact good_builtin (Nx.refl hr) trivial (fun _ => ⟨rfl, rfl⟩) (run_len ha q1 _ (by simp only [hu, V.real]; rfl) w)
    · rename_i kt e hu
      simp only [Option.some.injEq] at htr; subst htr
      simp only [stepV] at hst
      split at hst
      · rename_i he
        obtain ⟨rfl, rfl⟩ := ok_inj hst
        exact good_builtin (Nx.refl hr) trivial (fun _ => ⟨rfl, rfl⟩) (run_lenM hr ha hu q1 (.inl ⟨he, rfl⟩) _)
      · rename_i l he
        split at hst
        · rename_i es hl
          obtain ⟨rfl, rfl⟩ := ok_inj hst
          exact good_builtin (Nx.refl hr) trivial (fun _ => ⟨rfl, rfl⟩) (run_lenM hr ha hu q1 (.inr ⟨l, es, he, hl, rfl⟩) _)
        · simp at hst
      · simp at hst
    · rename_i dr e hu
      simp only [Option.some.injEq] at htr; subst htr
      simp only [stepV] at hst
      split at hst
      · rename_i he
        obtain ⟨rfl, rfl⟩ := ok_inj hst
        rw [he] at q1
        exact good_builtin (Nx.refl hr) trivial (fun _ => ⟨rfl, rfl⟩) (run_lenC (r := 0) hr ha hu q1 (.inl ⟨rfl, rfl⟩) _)
      · rename_i l he
        split at hst
        · rename_i cap buf hl
          obtain ⟨rfl, rfl⟩ := ok_inj hst
          rw [he] at q1
          exact good_builtin (Nx.refl hr) trivial (fun _ => ⟨rfl, rfl⟩) (run_lenC hr ha hu q1 (.inr ⟨l, cap, buf, rfl, hl, rfl⟩) _)
        · simp at hst
      · simp at hst
    · rename_i e hu
      split at htr
      · rename_i m e2 hu2
        simp only [Option.some.injEq] at htr; subst htr
        simp only [stepV] at hst
        obtain ⟨rfl, rfl⟩ := ok_inj hst
        exact good_builtin (Nx.refl hr) trivial (fun _ => ⟨rfl, rfl⟩) (run_len ha q1 _ (by simp only [hu, hu2, V.real]; rfl) w)
      · simp at htr
    · simp at htr
  · -- copy
    rename_i t u x y hat
    obtain ⟨q1, q2, q3, q4⟩ := two_args hys rfl hs
    have ha := arr0 hat
    have ha1 := arr1 hat
    split at htr
    · rename_i e hu hu1
      split at htr
      · rename_i hsz
        simp only [Option.some.injEq] at htr; subst htr
        simp only [stepV] at hst
        split at hst
        · rename_i l o m s hex hey
          rw [hex] at q1
          rw [hey] at q2
          cases hse : h.sets l o (bytesA (s.take m)) with
          | none => simp [hse] at hst
          | some h' =>
            simp only [hse, Option.bind_some] at hst
            obtain ⟨rfl, rfl⟩ := okh_inj hst
            obtain ⟨w', k1, k2⟩ := run_copyS hr ha ha1 hu hsz q1 q2 _ hse
            exact good_builtin k2 trivial (fun h => by simp at h) k1
        · simp at hst
      · simp at htr
    · rename_i e e2 hu hu1
      cases hsz : szOf P e with
      | none => simp [hsz] at htr
      | some s =>
        simp only [hsz, Option.map_some, Option.some.injEq] at htr; subst htr
        simp only [stepV] at hst
        split at hst
        · rename_i l o m e' l' o' m' e'' hex hey
          split at hst
          · rename_i hee
            obtain ⟨he1, he2⟩ := hee
            rw [he1] at hex
            rw [he2] at hey
            rw [hex] at q1
            rw [hey] at q2
            cases hg : h.gets l' o' (min m' m * s) with
            | none => simp [hg] at hst
            | some cs =>
              cases hse : h.sets l o cs with
              | none => simp [hg, hse] at hst
              | some h' =>
                simp only [hg, hse, Option.bind_some] at hst
                obtain ⟨rfl, rfl⟩ := okh_inj hst
                obtain ⟨w', k1, k2⟩ := run_copyL hr ha hu hsz q1 q2 _ hg hse
                exact good_builtin k2 trivial (fun h => by simp at h) k1
          · simp at hst
        · rename_i l o m e' hex hey
          obtain ⟨rfl, rfl⟩ := ok_inj hst
          exact good_builtin (Nx.refl hr) trivial (fun _ => ⟨rfl, rfl⟩) (run_copyNil hr ha hu hsz (.inl ⟨l, o, m, e', hex, hey⟩) q1 q2 _)
        · rename_i l o m e' hex hey
          obtain ⟨rfl, rfl⟩ := ok_inj hst
          exact good_builtin (Nx.refl hr) trivial (fun _ => ⟨rfl, rfl⟩) (run_copyNil hr ha hu hsz (.inr ⟨hex, .inr ⟨l, o, m, e', hey⟩⟩) q1 q2 _)
        · rename_i hex hey
          obtain ⟨rfl, rfl⟩ := ok_inj hst
          exact good_builtin (Nx.refl hr) trivial (fun _ => ⟨rfl, rfl⟩) (run_copyNil hr ha hu hsz (.inr ⟨hex, .inl hey⟩) q1 q2 _)
        · rename_i l o m c e' l' o' m' e'' hex hey
          split at hst
          · rename_i hee
            obtain ⟨he1, he2⟩ := hee
            rw [he1] at hex
            rw [he2] at hey
            rw [hex] at q1
            rw [hey] at q2
            cases hg : h.gets l' o' (min m' m * s) with
            | none => simp [hg] at hst
            | some cs =>
              cases hse : h.sets l o cs with
              | none => simp [hg, hse] at hst
              | some h' =>
                simp only [hg, hse, Option.bind_some] at hst
                obtain ⟨rfl, rfl⟩ := okh_inj hst
                obtain ⟨w', k1, k2⟩ := run_copyLs hr ha hu hsz q1 q2 _ hg hse
                exact good_builtin k2 trivial (fun h => by simp at h) k1
          · simp at hst
        · simp at hst
    · simp at htr
  · -- append
    rename_i t u x y hat
    obtain ⟨q1, q2, q3, q4⟩ := two_args hys rfl hs
    have ha := arr0 hat
    have ha1 := arr1 hat
    split at htr
    · rename_i e hu hu1
      split at htr
      · rename_i b z hsz hb hz
        split at htr
        case isFalse => simp at htr
        rename_i hzl
        simp only [Option.some.injEq] at htr; subst htr
        simp only [stepV] at hst
        split at hst
        · rename_i s hey
          rw [hey] at q2
          cases hap : appendA h e 1 b (x.ev S) s.length (bytesA s) with
          | none => simp [hap] at hst
          | some p =>
            obtain ⟨pv, poh⟩ := p
            simp only [hap, Option.bind_some, Option.some.injEq, Prod.mk.injEq] at hst
            obtain ⟨rfl, rfl⟩ := hst
            have hno : (bytesA s).all V.one = true := by
              rw [List.all_eq_true]; intro v hv; simp only [bytesA, List.mem_map] at hv; obtain ⟨b, _, rfl⟩ := hv; rfl
            obtain ⟨κ, w', k1, k2, k3, k4⟩ := append_ok hr ha hu hsz hb hz hzl (by omega) ha1 (.inl hu1) q1 q2 (fun w => by simp [V.real, Builtin.lenOf, size_mk]) (new := bytesA s)
              (fun w' _ => by have := first_cells_str (P := P) (ι := ι) s 1 s.length w'; rwa [List.take_length] at this) (by simp [bytesA_len]) (V.scs_of_plains _ _ (bytesA_plains s)) hno q3 _ hap
            exact good_builtin k2 k3 k4 k1
        · simp at hst
      · simp at htr
    · rename_i e e2 hu hu1
      split at htr
      · rename_i s b z hsz hb hz
        split at htr
        · rename_i hc
          obtain ⟨hs0, hzl⟩ := hc
          simp only [Option.some.injEq] at htr; subst htr
          simp only [stepV] at hst
          split at hst
          · rename_i hey
            rw [hey] at q2
            cases hap : appendA h e s b (x.ev S) 0 [] with
            | none => simp [hap] at hst
            | some p =>
              obtain ⟨pv, poh⟩ := p
              simp only [hap, Option.bind_some, Option.some.injEq, Prod.mk.injEq] at hst
              obtain ⟨rfl, rfl⟩ := hst
              obtain ⟨κ, w', k1, k2, k3, k4⟩ := append_ok hr ha hu hsz hb hz hzl hs0 ha1 (.inr ⟨_, hu1⟩) q1 q2 (fun w => rfl) (new := []) (fun w' _ => rfl) (by simp) trivial rfl q3 _ hap
              exact good_builtin k2 k3 k4 k1
          · rename_i l o m e' hey
            split at hst
            · rename_i hee
              rw [hee] at hey
              rw [hey] at q2
              cases hg : h.gets l o (m * s) with
              | none => simp [hg] at hst
              | some cs =>
                simp only [hg, Option.bind_some] at hst
                split at hst
                · rename_i hone
                  cases hap : appendA h e s b (x.ev S) m cs with
                  | none => simp [hap] at hst
                  | some p =>
                    obtain ⟨pv, poh⟩ := p
                    simp only [hap, Option.bind_some, Option.some.injEq, Prod.mk.injEq] at hst
                    obtain ⟨rfl, rfl⟩ := hst
                    obtain ⟨κ, w', k1, k2, k3, k4⟩ := append_ok hr ha hu hsz hb hz hzl hs0 ha1 (.inr ⟨_, hu1⟩) q1 q2 (fun w => rfl) (new := cs)
                      (fun w' hw' => by
                        have hr' : HR ι h.o w' := ⟨fun l o hl => (hr.obj l o hl).of_block (by rw [hw']), hr.apart, hr.sc⟩
                        simp only [V.real, Builtin.firstCells]
                        exact run_loadCells_gets hr' hg) (gets_get hg).1 (gets_sc hr hg) hone q3 _ hap
                    exact good_builtin k2 k3 k4 k1
                · simp at hst
            · simp at hst
          · rename_i ql qo qk qe hey
            rw [hey] at q2
            cases hap : appendA h e s b (x.ev S) 0 [] with
            | none => simp [hap] at hst
            | some p =>
              obtain ⟨pv, poh⟩ := p
              simp only [hap, Option.some.injEq, Prod.mk.injEq] at hst
              obtain ⟨rfl, rfl⟩ := hst
              obtain ⟨κ, w', k1, k2, k3, k4⟩ := append_ok hr ha hu hsz hb hz hzl hs0 ha1 (.inr ⟨_, hu1⟩) q1 q2 (fun w => rfl) (new := []) (fun w' _ => by simp [Builtin.firstCells, V.real, loadCells, loadCellsFrom, V.reals]) (by simp) trivial rfl q3 _ hap
              exact good_builtin k2 k3 k4 k1
          · obtain ⟨za, hza, hst⟩ := Option.bind_eq_some_iff.1 hst
            have hey := zslOf_some hza
            rw [hey] at q2
            cases hap : appendA h e s b (x.ev S) 0 [] with
            | none => simp [hap] at hst
            | some p =>
              obtain ⟨pv, poh⟩ := p
              simp only [hap, Option.bind_some, Option.some.injEq, Prod.mk.injEq] at hst
              obtain ⟨rfl, rfl⟩ := hst
              obtain ⟨κ, w', k1, k2, k3, k4⟩ := append_ok hr ha hu hsz hb hz hzl hs0 ha1 (.inr ⟨_, hu1⟩) q1 q2 (fun w => rfl) (new := []) (fun w' _ => by simp [Builtin.firstCells, V.real, loadCells, loadCellsFrom, V.reals]) (by simp) trivial rfl q3 _ hap
              exact good_builtin k2 k3 k4 k1
        · simp at htr
      · simp at htr
    · rename_i e kk hu hd
      split at htr
      · rename_i s b z hsz hb hz
        split at htr
        · rename_i hc
          obtain ⟨hs0, hzl⟩ := hc
          simp only [Option.some.injEq] at htr; subst htr
          simp only [stepV] at hst
          split at hst
          · rename_i ky m hey
            rw [hey] at q2
            split at hst
            · rename_i hcond
              obtain ⟨h0m, hbk, hone⟩ := hcond
              have hm : IntKind.i64.wrap m = (((IntKind.i64.wrap m).toNat : Nat) : Int) := by omega
              have hpl : V.plains z.cells = true := V.cells_plains _ (zero_run (ι := ι) hz w).2
              obtain ⟨κ, w', k1, k2, k3, k4⟩ := append_okZ hr ha hu hsz hb hz hzl hs0 ha1 hd q1 (rfl : (V.int ky m).real ι = .int ky m) hm hbk q2 rfl (by rw [reps_length, hzl]) (V.scs_of_plains _ _ (reps_plains _ hpl _)) hone q3 _ hst
              exact good_builtin k2 k3 k4 k1
            · simp at hst
          · simp at hst
        · simp at htr
      · simp at htr
    · simp at htr
  · -- clear
    rename_i t x hat
    obtain ⟨q1, q2⟩ := one_arg hys rfl hs
    have ha := arr0 hat
    split at htr
    · rename_i e hu
      split at htr
      · rename_i s z hsz hz
        split at htr
        · rename_i hc
          obtain ⟨hzl, hs0⟩ := hc
          simp only [Option.some.injEq] at htr; subst htr
          simp only [stepV] at hst
          split at hst
          · rename_i he
            obtain ⟨rfl, rfl⟩ := ok_inj hst
            exact good_builtin (Nx.refl hr) trivial (fun _ => ⟨rfl, rfl⟩) (run_clearNo ha hu (.inl he) q1 _)
          · rename_i l o m e' he
            split at hst
            · rename_i hm
              subst hm
              obtain ⟨rfl, rfl⟩ := ok_inj hst
              exact good_builtin (Nx.refl hr) trivial (fun _ => ⟨rfl, rfl⟩) (run_clearNo ha hu (.inr ⟨l, o, e', he⟩) q1 _)
            · rename_i hm
              split at hst
              · rename_i hee
                obtain ⟨rfl, hzl2⟩ := hee
                cases hse : h.sets l o (reps z.cells m) with
                | none => simp [hse] at hst
                | some h' =>
                  simp only [hse, Option.bind_some] at hst
                  obtain ⟨rfl, rfl⟩ := okh_inj hst
                  rw [he] at q1
                  obtain ⟨w', k1, k2⟩ := run_clearL hr ha hu hz hzl hs0 q1 _ hm hse
                  exact good_builtin k2 trivial (fun h => by simp at h) k1
              · simp at hst
          · rename_i l o m c e' he
            split at hst
            · simp at hst
            · rename_i hm
              split at hst
              · rename_i hee
                obtain ⟨rfl, hzl2⟩ := hee
                cases hse : h.sets l o (reps z.cells m) with
                | none => simp [hse] at hst
                | some h' =>
                  simp only [hse, Option.bind_some] at hst
                  obtain ⟨rfl, rfl⟩ := okh_inj hst
                  rw [he] at q1
                  obtain ⟨w', k1, k2⟩ := run_clearSs hr ha hu hz hzl hs0 q1 _ hm hse
                  exact good_builtin k2 trivial (fun h => by simp at h) k1
              · simp at hst
          · simp at hst
        · simp at htr
      · simp at htr
    · rename_i kt e hu
      simp only [Option.some.injEq] at htr; subst htr
      simp only [stepV] at hst
      split at hst
      · rename_i he
        obtain ⟨rfl, rfl⟩ := ok_inj hst
        rw [he] at q1
        exact good_builtin (Nx.refl hr) trivial (fun _ => ⟨rfl, rfl⟩) (run_clearMNil ha hu q1 _)
      · rename_i l he
        split at hst
        · rename_i es hl
          obtain ⟨rfl, rfl⟩ := okh_inj hst
          rw [he] at q1
          obtain ⟨w', k1, k2⟩ := run_clearM hr ha hu q1 hl _
          exact good_builtin k2 trivial (fun h => by simp at h) k1
        · simp at hst
      · simp at hst
    · simp at htr
  · -- max
    simp only [Option.some.injEq] at htr; subst htr
    simp only [stepV] at hst
    split at hst
    · rename_i x r hev
      cases hm : minmaxA true x r with
      | none => simp [hm] at hst
      | some v' =>
        simp only [hm, Option.bind_some] at hst
        obtain ⟨rfl, rfl⟩ := ok_inj hst
        have hargs := evs_ok_arr hs hys
        have hsc := (evs_ok hs hys).2
        rw [hev] at hargs hsc
        rcases minmax_ok (P := P) (ι := ι) true w r x v hm with ⟨h1, h2⟩ | ⟨rfl, rfl⟩
        · refine good_builtin (Nx.refl hr) (V.sc_of_plain _ _ h1) (fun _ => ⟨rfl, rfl⟩) ?_
          simp only [if_true] at h2
          simp only [builtin, hargs, Builtin.max_, V.reals, Sem.run_bind, h2, Result.andThen_ok, Sem.run_pure]
        · refine good_builtin (Nx.refl hr) hsc.1 (fun _ => ⟨rfl, rfl⟩) ?_
          simp only [builtin, hargs, Builtin.max_, V.reals, Sem.run_bind, List.foldlM_nil, Result.andThen_ok, Sem.run_pure]
    · simp at hst
  · -- min
    simp only [Option.some.injEq] at htr; subst htr
    simp only [stepV] at hst
    split at hst
    · rename_i x r hev
      cases hm : minmaxA false x r with
      | none => simp [hm] at hst
      | some v' =>
        simp only [hm, Option.bind_some] at hst
        obtain ⟨rfl, rfl⟩ := ok_inj hst
        have hargs := evs_ok_arr hs hys
        have hsc := (evs_ok hs hys).2
        rw [hev] at hargs hsc
        rcases minmax_ok (P := P) (ι := ι) false w r x v hm with ⟨h1, h2⟩ | ⟨rfl, rfl⟩
        · refine good_builtin (Nx.refl hr) (V.sc_of_plain _ _ h1) (fun _ => ⟨rfl, rfl⟩) ?_
          simp only [Bool.false_eq_true, if_false] at h2
          simp only [builtin, hargs, Builtin.min_, V.reals, Sem.run_bind, h2, Result.andThen_ok, Sem.run_pure]
        · refine good_builtin (Nx.refl hr) hsc.1 (fun _ => ⟨rfl, rfl⟩) ?_
          simp only [builtin, hargs, Builtin.min_, V.reals, Sem.run_bind, List.foldlM_nil, Result.andThen_ok, Sem.run_pure]
    · simp at hst
  · -- delete
    rename_i t u m k hat
    obtain ⟨q1, q2, q3, q4⟩ := two_args hys rfl hs
    have ha := arr0 hat
    split at htr
    · rename_i kt e hu
      cases hkd : keyOk P kt with
      | none => simp [hkd] at htr
      | some kd =>
        simp only [hkd, Option.map_some, Option.some.injEq] at htr; subst htr
        simp only [stepV] at hst
        split at hst
        · split at hst
          · rename_i he
            obtain ⟨rfl, rfl⟩ := ok_inj hst
            rw [he] at q1
            exact good_builtin (Nx.refl hr) trivial (fun _ => ⟨rfl, rfl⟩) (run_mapDelNil ha hu hkd q1 q2 _)
          · rename_i l he
            split at hst
            · rename_i es hl
              cases hd : mapDrop kd (k.ev S) es with
              | none => simp [hd] at hst
              | some es' =>
                simp only [hd, Option.bind_some] at hst
                obtain ⟨rfl, rfl⟩ := okh_inj hst
                rw [he] at q1
                obtain ⟨w', k1, k2⟩ := run_mapDel hr ha hu hkd q1 q2 hl hd _
                exact good_builtin k2 trivial (fun h => by simp at h) k1
            · simp at hst
          · simp at hst
        · simp at hst
    · simp at htr
  · -- panic
    simp only [Option.some.injEq] at htr; subst htr
    simp [stepV] at hst
  · -- unsafe.SliceData
    rename_i t x hat
    have hargs := evs_ok_arr hs hys
    have hsc := (evs_ok hs hys).2
    split at htr
    · rename_i e hu
      simp only [Option.some.injEq] at htr; subst htr
      simp only [stepV] at hst
      split at hst
      · rename_i he
        obtain ⟨rfl, rfl⟩ := ok_inj hst
        exact good_builtin (Nx.refl hr) trivial (fun _ => ⟨rfl, rfl⟩) (run_sdata hr hargs (.inl ⟨he, rfl⟩) _)
      · rename_i l o m e' he
        split at hst
        · rename_i hc
          obtain ⟨h1, h2, h3⟩ := hc
          obtain ⟨rfl, rfl⟩ := ok_inj hst
          have hs1 : (Opd.ev S x).sc h.o.length := hsc.1
          rw [he] at hs1
          exact good_builtin (Nx.refl hr) hs1 (fun _ => ⟨rfl, rfl⟩) (run_sdata hr hargs (.inr ⟨l, o, m, e', he, h1, h2, h3, rfl⟩) _)
        · simp at hst
      · simp at hst
    · simp at htr
  · -- unsafe.String
    rename_i t it p k hat
    have hargs := evs_ok_arr hs hys
    have hats : ats = #[t, it] := by
      apply Array.ext'
      simpa using hat
    subst hats
    split at htr
    · rename_i e hu
      split at htr
      · rename_i hc
        simp only [Option.some.injEq] at htr; subst htr
        simp only [stepV] at hst
        split at hst
        · rename_i kk hp hk
          split at hst
          · rename_i h0
            subst h0
            obtain ⟨rfl, rfl⟩ := ok_inj hst
            refine good_builtin (Nx.refl hr) trivial (fun _ => ⟨rfl, rfl⟩) (run_ustrNil ?_ _)
            rw [hargs]
            simp only [evs, List.map_cons, List.map_nil, V.reals, hp, hk]
          · simp at hst
        · rename_i l o kk hp hk
          split at hst
          · rename_i hcond
            obtain ⟨h1, rfl, h3, h4⟩ := hcond
            simp only [Option.bind_eq_some_iff] at hst
            obtain ⟨cs, hg, s, hs', hst⟩ := hst
            obtain ⟨rfl, rfl⟩ := okh_inj hst
            obtain ⟨w', k1, k2⟩ := run_ustr (it := it) (ty := ty) hr hu hc h1 (args := args.map a.eval) (by
              rw [hargs]
              simp only [evs, List.map_cons, List.map_nil, V.reals, hp, hk]) h3 hg hs' h4 _
            exact good_builtin k2 trivial (fun h => by simp at h) k1
          · simp at hst
        · simp at hst
      · simp at htr
    · simp at htr
  · simp at htr
end
end AM

/- AM, part 15: every operation that enters no function (the rest). -/
namespace AM
open Go
set_option linter.unusedVariables false
set_option linter.unusedSimpArgs false
set_option linter.unusedSectionVars false

section
variable {P : Program} {ι : Map} {σ : Type} [Slots σ] {h : Heap} {w : World} {S : σ} {n : Nat} {a : Act}

def AOp.isCall : AOp → Bool
  | .call .. | .callv .. => true
  | _ => false

theorem nili_const {y : Operand} (hy : trOpd y = some (.k .nili)) : y = .const .nilIface := by
  cases y with
  | const v =>
    simp only [trOpd, Option.map_eq_some_iff, Opd.k.injEq] at hy
    obtain ⟨z, hz, rfl⟩ := hy
    cases v with
    | agg cs => simp [ofVal] at hz
    | pointer p => cases p <;> simp [ofVal, ofCell] at hz
    | map p => cases p <;> simp [ofVal, ofCell] at hz
    | chan p => cases p <;> simp [ofVal, ofCell] at hz
    | slice p n c =>
      simp only [ofVal] at hz
      unfold ofCell at hz
      split at hz <;> simp_all
    | nilIface => rfl
    | _ => simp [ofVal, ofCell] at hz
  | _ => simp [trOpd] at hy

theorem binOp_good (hr : HR ι h.o w) (hs : SR ι S n a.tmps h.o.length) {bop : BinOp} {t u : Nat} {x y : Operand} {type : Nat} {op : AOp} (htr : trOp P (.binOp bop t x y u) type = some op)
    {v : V} {oh : Option Heap} (hst : stepV op S h = some (v, oh)) {d : Option Nat} {pos : String} {af : Array Edge} {g : Option (Nat × Bool)} :
    Good P a ⟨d, .binOp bop t x y u, type, pos, af, g⟩ ι h w v oh := by
  simp only [trOp] at htr
  split at htr
  · rename_i x' y' hx hy
    have bin : ∀ {op}, some (AOp.bin bop x' y') = some op → stepV op S h = some (v, oh) → Good P a ⟨d, .binOp bop t x y u, type, pos, af, g⟩ ι h w v oh := by
      intro op he hst
      simp only [Option.some.injEq] at he; subst he
      simp only [stepV] at hst
      cases hb : binA bop (x'.ev S) (y'.ev S) with
      | none => simp [hb] at hst
      | some r =>
        simp only [hb, Option.bind_some] at hst
        obtain ⟨rfl, rfl⟩ := ok_inj hst
        exact good_bin hr hs hx hy hb
    split at htr
    · rename_i hop
      have eqk : ∀ {op} (k : Kd), k ≠ .i → k ≠ .s → okT P t k → some (AOp.eqf (bop == .neq) false [(1, k)] x' y') = some op → stepV op S h = some (v, oh) → Good P a ⟨d, .binOp bop t x y u, type, pos, af, g⟩ ι h w v oh := by
        intro op k h1 h2 hk he hst
        simp only [Option.some.injEq] at he; subst he
        simp only [stepV, eqA, Bool.false_eq_true, if_false] at hst
        cases hb : eqK k (x'.ev S) (y'.ev S) with
        | none => simp [hb] at hst
        | some r =>
          simp only [hb, Option.bind_some] at hst
          obtain ⟨rfl, rfl⟩ := ok_inj hst
          exact good_eqk hr hs hop hx hy h1 h2 hk hb
      have eqa : ∀ {op} {dd : TypeDesc} (hu : P.underlying t = some dd) (hd : isAggD dd = true), (match flatT P 40 t with
          | some ks => if P.eqGuardType P.depth t = false then some (AOp.eqf (bop == .neq) true ks x' y') else none
          | none => none) = some op → stepV op S h = some (v, oh) → Good P a ⟨d, .binOp bop t x y u, type, pos, af, g⟩ ι h w v oh := by
        intro op dd hu hd he hst
        split at he
        · rename_i ks hks
          split at he
          · rename_i hg
            simp only [Option.some.injEq] at he; subst he
            simp only [stepV] at hst
            cases hb : eqA true ks (x'.ev S) (y'.ev S) with
            | none => simp [hb] at hst
            | some r =>
              simp only [hb, Option.bind_some] at hst
              obtain ⟨rfl, rfl⟩ := ok_inj hst
              exact good_eqa hr hs hop hx hy hu hd hks hg hb
          · simp at he
        · simp at he
      split at htr
      · exact bin htr hst
      · exact bin htr hst
      · rename_i e hu
        split at htr
        · rename_i hc
          obtain ⟨m, hm⟩ := Option.isSome_iff_exists.1 hc.2
          exact eqk .p (by simp) (by simp) ⟨e, m, hu, hm, fun h0 => hc.1 (by rw [hm, h0])⟩ htr hst
        · simp at htr
      · rename_i hu; exact eqk .b (by simp) (by simp) hu htr hst
      · rename_i e hu; exact eqk .sl (by simp) (by simp) ⟨e, hu⟩ htr hst
      · rename_i k e hu; exact eqk .m (by simp) (by simp) ⟨k, e, hu⟩ htr hst
      · rename_i k e c hu; exact eqk .f (by simp) (by simp) ⟨k, e, c, hu⟩ htr hst
      · rename_i fs hu; exact eqa hu rfl htr hst
      · rename_i m e hu; exact eqa hu rfl htr hst
      · rename_i ms hu
        split at htr
        · rename_i hxc
          simp only [Option.some.injEq] at htr; subst htr
          simp only [stepV] at hst
          have hyc := nili_const hy
          subst hyc
          have hxe := ev_ok hs hx
          split at hst
          · rename_i he
            rw [he] at hxe
            obtain ⟨rfl, rfl⟩ := ok_inj hst
            refine Good.same hr trivial ?_
            have hg : (eqGuard bop t x (.const .nilIface) .nilIface .nilIface).run P w = .ok () w := by
              rcases hop with rfl | rfl <;> simp [eqGuard]
            have hb : binOp bop t .nilIface .nilIface = (do let r ← Op.equal t .nilIface .nilIface; pure (.bool (if bop = .neq then !r else r))) := by
              rcases hop with rfl | rfl <;> rfl
            have hq : (Op.equalIn (9999 + 1) t .nilIface .nilIface).run P w = .ok true w := by
              unfold Op.equalIn
              simp [run_underlying hu]
            simp only [V.real] at hxe
            simp only [execOp, Sem.run_bind, hxe, ev_ok hs hy, Opd.ev, V.real, Result.andThen_ok, hg, hb, Op.equal, Op.maxDepth, hq, Sem.run_pure]
            rcases hop with rfl | rfl <;> rfl
          · rename_i t' v' he
            rw [he] at hxe
            obtain ⟨rfl, rfl⟩ := ok_inj hst
            refine Good.same hr trivial ?_
            simp only [V.real] at hxe
            have hg : ∀ z, (eqGuard bop t x (.const .nilIface) (.iface t' z) .nilIface).run P w = .ok () w := by
              intro z
              rcases hop with rfl | rfl <;> simp [eqGuard]
            have hb : ∀ z, binOp bop t (.iface t' z) .nilIface = (do let r ← Op.equal t (.iface t' z) .nilIface; pure (.bool (if bop = .neq then !r else r))) := by
              intro z
              rcases hop with rfl | rfl <;> rfl
            have hq : ∀ z, (Op.equalIn (9999 + 1) t (.iface t' z) .nilIface).run P w = .ok false w := by
              intro z
              unfold Op.equalIn
              simp [run_underlying hu]
            simp only [execOp, Sem.run_bind, hxe, ev_ok hs hy, Opd.ev, V.real, Result.andThen_ok, hg, hb, Op.equal, Op.maxDepth, hq, Sem.run_pure]
            rcases hop with rfl | rfl <;> rfl
          · simp at hst
        · simp at htr
      · simp at htr
    · exact bin htr hst
  · simp at htr

theorem step_good (hr : HR ι h.o w) (hs : SR ι S n a.tmps h.o.length) {o : Oper} {op : AOp} (htr : trOp P o.op o.type = some op) (hnc : op.isCall = false) {v : V} {oh : Option Heap}
    (hst : stepV op S h = some (v, oh)) : Good P a o ι h w v oh := by
  obtain ⟨d, op0, ty, pos, af, g⟩ := o
  simp only at htr
  cases op0 with
  | binOp bop t x y u => exact binOp_good hr hs htr hst
  | move x =>
    simp only [trOp, Option.map_eq_some_iff] at htr
    obtain ⟨x', hx, rfl⟩ := htr
    simp only [stepV] at hst
    obtain ⟨rfl, rfl⟩ := ok_inj hst
    exact Good.same hr (ev_sc hs hx) (by simp only [execOp, ev_ok hs hx, Sem.run_pure])
  | assign x =>
    simp only [trOp, Option.map_eq_some_iff] at htr
    obtain ⟨x', hx, rfl⟩ := htr
    simp only [stepV] at hst
    obtain ⟨rfl, rfl⟩ := ok_inj hst
    exact Good.same hr (ev_sc hs hx) (by simp only [execOp, ev_ok hs hx, Sem.run_pure])
  | pick c x y =>
    simp only [trOp] at htr
    split at htr
    · rename_i c' x' y' hc hx hy
      simp only [Option.some.injEq] at htr; subst htr
      simp only [stepV] at hst
      split at hst
      · rename_i t ht
        obtain ⟨rfl, rfl⟩ := ok_inj hst
        refine Good.same hr ?_ ?_
        · split
          · exact ev_sc hs hx
          · exact ev_sc hs hy
        · simp only [execOp, ev_ok hs hc, ev_ok hs hx, ev_ok hs hy, ht, V.real, asBool, Sem.run_bind, Sem.run_pure, Result.andThen_ok]
          cases t <;> rfl
      · simp at hst
    · simp at htr
  | alloc t =>
    simp only [trOp, Option.map_eq_some_iff] at htr
    obtain ⟨z, hz, rfl⟩ := htr
    simp only [stepV] at hst
    obtain ⟨rfl, rfl⟩ := okh_inj hst
    exact good_alloc hr hz
  | box t x =>
    simp only [trOp, Option.map_eq_some_iff] at htr
    obtain ⟨x', hx, rfl⟩ := htr
    simp only [stepV] at hst
    obtain ⟨rfl, rfl⟩ := okh_inj hst
    exact good_box hr hs hx
  | build t parts =>
    simp only [trOp] at htr
    split at htr
    · rename_i z fs hz hu
      simp only [Option.bind_eq_some_iff] at htr
      obtain ⟨ps, hps, htr⟩ := htr
      split at htr
      · rename_i hall
        simp only [Option.some.injEq] at htr; subst htr
        simp only [stepV, Option.bind_eq_some_iff] at hst
        obtain ⟨cs, hf, hst⟩ := hst
        obtain ⟨rfl, rfl⟩ := ok_inj hst
        exact good_build hr hs hz _ hps hf (.inl ⟨fs, hu, hall, rfl⟩)
      · simp at htr
    · rename_i z m e hz hu
      simp only [Option.bind_eq_some_iff, Option.map_eq_some_iff] at htr
      obtain ⟨s, hsz, ps, hps, rfl⟩ := htr
      simp only [stepV, Option.bind_eq_some_iff] at hst
      obtain ⟨cs, hf, hst⟩ := hst
      obtain ⟨rfl, rfl⟩ := ok_inj hst
      exact good_build hr hs hz _ hps hf (.inr ⟨m, e, s, hu, hsz, rfl⟩)
    · simp at htr
  | buildSlice t len parts =>
    simp only [trOp] at htr
    split at htr
    · rename_i e hu
      split at htr
      · rename_i s z hsz hz
        split at htr
        · rename_i hc
          simp only [Option.map_eq_some_iff] at htr
          obtain ⟨ps, hps, rfl⟩ := htr
          simp only [stepV, Option.bind_eq_some_iff] at hst
          obtain ⟨cs, hf, hst⟩ := hst
          obtain ⟨rfl, rfl⟩ := okh_inj hst
          exact good_bslice hr hs hu hsz hz hc.1 hc.2.1 hc.2.2 hps hf
        · simp at htr
      · simp at htr
    · simp at htr
  | load t x =>
    simp only [trOp] at htr
    split at htr
    · rename_i par x' hp hx
      simp only [Option.some.injEq] at htr; subst htr
      simp only [stepV] at hst
      split at hst
      · rename_i l o he
        split at hst
        · simp only [Option.bind_eq_some_iff] at hst
          obtain ⟨v', hg, hst⟩ := hst
          obtain ⟨rfl, rfl⟩ := ok_inj hst
          exact good_load hr hs hx hp he hg
        · rename_i m
          simp only [Option.bind_eq_some_iff] at hst
          obtain ⟨cs, hg, hst⟩ := hst
          obtain ⟨rfl, rfl⟩ := ok_inj hst
          exact good_load hr hs hx hp he (by simp only [hg, Option.map_some])
      · simp at hst
    · simp at htr
  | store t x y =>
    simp only [trOp] at htr
    split at htr
    · rename_i m x' y' hz hx hy
      simp only [Option.some.injEq] at htr; subst htr
      simp only [stepV] at hst
      split at hst
      · rename_i l o he
        split at hst
        · rename_i hm
          simp only [Option.bind_eq_some_iff] at hst
          obtain ⟨h', hse, hst⟩ := hst
          obtain ⟨rfl, rfl⟩ := okh_inj hst
          exact good_store hr hs hx hy hz he hm hse
        · simp at hst
      · simp at hst
    · simp at htr
  | nilCheck x =>
    simp only [trOp, Option.map_eq_some_iff] at htr
    obtain ⟨x', hx, rfl⟩ := htr
    simp only [stepV] at hst
    split at hst
    · rename_i l o he
      obtain ⟨rfl, rfl⟩ := ok_inj hst
      have hsc := ev_sc hs hx
      rw [he] at hsc
      exact Good.same hr hsc (by simp only [execOp, ev_ok hs hx, he, V.real, Sem.run_bind, Sem.run_pure, Result.andThen_ok])
    · simp at hst
  | unOp uop t x =>
    simp only [trOp, Option.map_eq_some_iff] at htr
    obtain ⟨x', hx, rfl⟩ := htr
    simp only [stepV, Option.bind_eq_some_iff] at hst
    obtain ⟨v', hu, hst⟩ := hst
    obtain ⟨rfl, rfl⟩ := ok_inj hst
    obtain ⟨h1, h2⟩ := unA_ok (P := P) (ι := ι) hu w
    exact Good.same hr (V.sc_of_plain _ _ h1) (by simp only [execOp, ev_ok hs hx, Sem.run_bind, h2, Sem.run_pure, Result.andThen_ok])
  | convert t u x =>
    simp only [trOp] at htr
    split at htr
    · rename_i x' k0 k hx h1 h2
      simp only [Option.some.injEq] at htr; subst htr
      simp only [stepV] at hst
      split at hst
      · rename_i k1 i he
        obtain ⟨rfl, rfl⟩ := ok_inj hst
        exact good_toInt hr hs hx h1 h2 he
      · simp at hst
    · rename_i x' hx h1 h2
      simp only [Option.some.injEq] at htr; subst htr
      simp only [stepV] at hst
      split at hst
      · rename_i s he
        obtain ⟨rfl, rfl⟩ := ok_inj hst
        exact good_strStr hr hs hx h1 h2 he
      · simp at hst
    · rename_i x' e hx h1 h2
      split at htr
      · rename_i h3
        simp only [Option.some.injEq] at htr; subst htr
        simp only [stepV] at hst
        split at hst
        · rename_i he
          obtain ⟨rfl, rfl⟩ := ok_inj hst
          exact good_toStrNil hr hs hx h1 h2 h3 he
        · rename_i l o m he
          simp only [Option.bind_eq_some_iff] at hst
          obtain ⟨cs, hg, s, hss, hst⟩ := hst
          obtain ⟨rfl, rfl⟩ := ok_inj hst
          exact good_toStr hr hs hx h1 h2 h3 he hg hss
        · simp at hst
      · simp at htr
    · rename_i x' e hx h1 h2
      split at htr
      · rename_i h3
        simp only [Option.some.injEq] at htr; subst htr
        simp only [stepV] at hst
        split at hst
        · rename_i s he
          obtain ⟨rfl, rfl⟩ := okh_inj hst
          exact good_toBytes hr hs hx h1 h2 h3 he
        · simp at hst
      · simp at htr
    · rename_i x' e hx h1 h2
      split at htr
      · rename_i h3
        simp only [Option.some.injEq] at htr; subst htr
        simp only [stepV] at hst
        split at hst
        · rename_i l o he
          split at hst
          · rename_i hg
            obtain ⟨rfl, rfl⟩ := ok_inj hst
            exact good_cvU hr hs hx h1 h2 h3.1 h3.2 he hg
          · simp at hst
        · simp at hst
      · simp at htr
    · rename_i x' e hx h1 h2
      split at htr
      · rename_i h3
        simp only [Option.some.injEq] at htr; subst htr
        simp only [stepV] at hst
        split at hst
        · rename_i l o he
          split at hst
          · rename_i hg
            obtain ⟨rfl, hg⟩ := hg
            obtain ⟨rfl, rfl⟩ := ok_inj hst
            exact good_cvP hr hs hx h1 h2 h3 he hg
          · simp at hst
        · simp at hst
      · simp at htr
    · simp at htr
  | makeInterface t x =>
    simp only [trOp] at htr
    split at htr
    · simp at htr
    · rename_i d x' hni hu hx
      simp only [Option.some.injEq] at htr; subst htr
      simp only [stepV] at hst
      obtain ⟨rfl, rfl⟩ := ok_inj hst
      refine Good.same hr (ev_sc hs hx) ?_
      simp only [execOp, Instr.makeInterface, Sem.run_bind, run_underlying hu, Result.andThen_ok, ev_ok hs hx]
      cases d <;> simp [V.real] <;> simp_all
    · simp at htr
  | typeAssert x xt t ok =>
    simp only [trOp] at htr
    split at htr
    · simp at htr
    · rename_i dd x' z hni hu hx hz
      split at htr
      · rename_i hok
        subst hok
        simp only [Option.some.injEq] at htr; subst htr
        have hzr := fun w => zero_run hz w (ι := ι)
        have hxs := ev_sc hs hx
        have hxe := ev_ok hs hx
        simp only [stepV] at hst
        split at hst
        · rename_i t' v' he
          rw [he] at hxs hxe
          split at hst
          · rename_i htt
            subst htt
            obtain ⟨rfl, rfl⟩ := ok_inj hst
            refine Good.same hr ⟨hxs, trivial, trivial⟩ ?_
            simp only [execOp, Instr.typeAssert, Sem.run_bind, run_underlying hu, Result.andThen_ok, hxe]
            cases dd <;> simp [V.real, V.reals] <;> simp_all
          · rename_i htt
            obtain ⟨rfl, rfl⟩ := ok_inj hst
            refine Good.same hr ⟨V.sc_of_plain _ _ (hzr w).2, trivial, trivial⟩ ?_
            simp only [execOp, Instr.typeAssert, Sem.run_bind, run_underlying hu, Result.andThen_ok, hxe]
            cases dd <;> simp [V.real, V.reals, htt, (hzr _).1] <;> simp_all
        · rename_i he
          rw [he] at hxe
          obtain ⟨rfl, rfl⟩ := ok_inj hst
          refine Good.same hr ⟨V.sc_of_plain _ _ (hzr w).2, trivial, trivial⟩ ?_
          simp only [execOp, Instr.typeAssert, Sem.run_bind, run_underlying hu, Result.andThen_ok, hxe]
          cases dd <;> simp [V.real, V.reals, (hzr _).1] <;> simp_all
        · simp at hst
      · simp at htr
    · simp at htr
  | makeFunc fn fs cs =>
    cases fn with
    | func f =>
      simp only [trOp] at htr
      split at htr
      · rename_i a' b' ha hb
        simp only [Option.some.injEq] at htr; subst htr
        simp only [stepV] at hst
        obtain ⟨rfl, rfl⟩ := ok_inj hst
        refine Good.same hr ⟨(evs_ok hs ha).2, (evs_ok hs hb).2⟩ ?_
        simp only [execOp, Instr.makeFunc, Sem.run_bind, Sem.run_pure, Result.andThen_ok, evs_ok_arr hs ha, evs_ok_arr hs hb, V.real]
      · simp at htr
    | _ => simp [trOp] at htr
  | makeMap t r =>
    cases r with
    | none =>
      simp only [trOp, Option.some.injEq] at htr; subst htr
      simp only [stepV] at hst
      obtain ⟨rfl, rfl⟩ := okh_inj hst
      exact good_mkMap hr
    | some r => simp [trOp] at htr
  | makeSlice t l c =>
    simp only [trOp] at htr
    split at htr
    · rename_i e hu
      split at htr
      · rename_i s b z l' c' hsz hb hz hl hc
        split at htr
        · rename_i hcond
          simp only [Option.some.injEq] at htr; subst htr
          simp only [stepV] at hst
          split at hst
          · rename_i k1 ln k2 cp hel hec
            split at hst
            · rename_i hq
              obtain ⟨rfl, rfl⟩ := okh_inj hst
              exact good_mkSlice hr hs hl hc hu hsz hb hz hcond.1 hcond.2 hel hec hq.1 hq.2.1 hq.2.2.1 hq.2.2.2
            · simp at hst
          · simp at hst
        · simp at htr
      · simp at htr
    · simp at htr
  | fieldAddr t x f =>
    simp only [trOp] at htr
    split at htr
    · rename_i fs x' hu hx
      split at htr
      · rename_i fd hfd
        split at htr
        · rename_i m hm
          split at htr
          · simp at htr
          · rename_i hm0
            simp only [Option.some.injEq] at htr; subst htr
            simp only [stepV] at hst
            split at hst
            · rename_i l o he
              obtain ⟨rfl, rfl⟩ := ok_inj hst
              exact good_faddr hr hs hx hu hfd hm hm0 he
            · simp at hst
        · simp at htr
      · simp at htr
    · simp at htr
  | field t x f =>
    simp only [trOp] at htr
    split at htr
    · rename_i fs x' hu hx
      split at htr
      · rename_i fd hfd
        simp only [Option.map_eq_some_iff] at htr
        obtain ⟨par, hp, rfl⟩ := htr
        simp only [stepV] at hst
        split at hst
        · rename_i cs he
          simp only [Option.bind_eq_some_iff] at hst
          obtain ⟨v', hpa, hst⟩ := hst
          obtain ⟨rfl, rfl⟩ := ok_inj hst
          exact good_field hr hs hx hu hfd hp he hpa
        · simp at hst
      · simp at htr
    · simp at htr
  | indexAddr t x i =>
    simp only [trOp] at htr
    split at htr
    · rename_i m e x' i' hu hx hi
      simp only [Option.map_eq_some_iff] at htr
      obtain ⟨s, hsz, rfl⟩ := htr
      simp only [stepV] at hst
      split at hst
      · rename_i l o he
        simp only [Option.bind_eq_some_iff] at hst
        obtain ⟨j, hj, hst⟩ := hst
        obtain ⟨rfl, rfl⟩ := ok_inj hst
        exact good_iaddrA hr hs hx hi hu hsz he hj
      · simp at hst
    · rename_i e x' i' hu hx hi
      simp only [Option.map_eq_some_iff] at htr
      obtain ⟨s, hsz, rfl⟩ := htr
      simp only [stepV] at hst
      split at hst
      · rename_i l o m e' he
        split at hst
        · rename_i hee
          rw [hee] at he
          simp only [Option.bind_eq_some_iff] at hst
          obtain ⟨j, hj, hst⟩ := hst
          obtain ⟨rfl, rfl⟩ := ok_inj hst
          exact good_iaddrS hr hs hx hi hu hsz he hj
        · simp at hst
      · simp at hst
    · simp at htr
  | index t x i =>
    simp only [trOp] at htr
    split at htr
    · rename_i m e x' i' hu hx hi
      split at htr
      · rename_i s p hsz hp
        simp only [Option.some.injEq] at htr; subst htr
        simp only [stepV] at hst
        split at hst
        · rename_i cs he
          simp only [Option.bind_eq_some_iff] at hst
          obtain ⟨j, hj, v', hpa, hst⟩ := hst
          obtain ⟨rfl, rfl⟩ := ok_inj hst
          exact good_idxA hr hs hx hi hu hsz hp he hj hpa
        · simp at hst
      · simp at htr
    · rename_i x' i' hu hx hi
      simp only [Option.some.injEq] at htr; subst htr
      simp only [stepV] at hst
      split at hst
      · rename_i s he
        simp only [Option.bind_eq_some_iff] at hst
        obtain ⟨j, hj, hst⟩ := hst
        split at hst
        · rename_i b hb
          obtain ⟨rfl, rfl⟩ := ok_inj hst
          exact good_idxS hr hs hx hi hu he hj hb
        · simp at hst
      · simp at hst
    · simp at htr
  | slice t x lo hi mx =>
    cases mx with
    | some m => simp [trOp] at htr
    | none =>
      have sla : ∀ {m e s x' lo' hi'} (hx : trOpd x = some x') (hlo : trOpt lo = some lo') (hhi : trOpt hi = some hi')
          (hu : P.underlying t = some (.array m e) ∨ ∃ q, P.underlying t = some (.pointer q) ∧ P.underlying q = some (.array m e)) (hsz : szOf P e = some s), stepV (.slA m s x' lo' hi') S h = some (v, oh) → Good P a ⟨d, .slice t x lo hi none, ty, pos, af, g⟩ ι h w v oh := by
        intro m e s x' lo' hi' hx hlo hhi hu hsz hst
        simp only [stepV] at hst
        split at hst
        · rename_i l o he
          split at hst
          · rename_i cs hc
            split at hst
            · rename_i hcond
              obtain ⟨hex, ho, hl, h0⟩ := hcond
              subst ho
              simp only [Option.bind_eq_some_iff] at hst
              obtain ⟨p, hp, hst⟩ := hst
              have hoh : oh = none := by
                split at hst
                · exact (ok_inj hst).2
                · split at hst
                  · exact (ok_inj hst).2
                  · simp at hst
              subst hoh
              exact good_slA hr hs hx hlo hhi hu hsz h0 he hex hc hl hp hst
            · split at hst
              · simp only [Option.bind_eq_some_iff] at hst
                obtain ⟨p, hp, hst⟩ := hst
                have hoh : oh = none := by
                  split at hst
                  · exact (ok_inj hst).2
                  · split at hst
                    · exact (ok_inj hst).2
                    · simp at hst
                subst hoh
                exact good_slAs hr hs hx hlo hhi hu hsz he hp hst
              · simp at hst
          · simp at hst
        · simp at hst
      simp only [trOp] at htr
      split at htr
      · rename_i x' lo' hi' hu hx hlo hhi
        simp only [Option.some.injEq] at htr; subst htr
        simp only [stepV] at hst
        split at hst
        · rename_i s he
          simp only [Option.bind_eq_some_iff] at hst
          obtain ⟨p, hp, hst⟩ := hst
          obtain ⟨rfl, rfl⟩ := ok_inj hst
          exact good_slS hr hs hx hlo hhi hu he hp
        · simp at hst
      · rename_i e x' lo' hi' hu hx hlo hhi
        simp only [Option.map_eq_some_iff] at htr
        obtain ⟨s, hsz, rfl⟩ := htr
        simp only [stepV] at hst
        split at hst
        · rename_i l o m e' he
          split at hst
          · rename_i hcond
            obtain ⟨hee, h0, hh⟩ := hcond
            rw [hee] at he
            simp only [Option.bind_eq_some_iff] at hst
            obtain ⟨p, hp, hst⟩ := hst
            exact good_slL hr hs hx hlo hhi hu hsz h0 he hh hp hst
          · simp at hst
        · rename_i he
          simp only [Option.bind_eq_some_iff] at hst
          obtain ⟨p, hp, hst⟩ := hst
          obtain ⟨rfl, rfl⟩ := ok_inj hst
          exact good_slNil hr hs hx hlo hhi hu hsz he hp
        · simp only [Option.bind_eq_some_iff] at hst
          obtain ⟨za, hz, p, hp, hst⟩ := hst
          have he := zslOf_some hz
          obtain ⟨rfl, rfl⟩ := ok_inj hst
          exact good_slZero hr hs hx hlo hhi hu hsz he hp
      · rename_i m e x' lo' hi' hu hx hlo hhi
        simp only [Option.map_eq_some_iff] at htr
        obtain ⟨s, hsz, rfl⟩ := htr
        exact sla hx hlo hhi (.inl hu) hsz hst
      · rename_i q x' lo' hi' hu hx hlo hhi
        split at htr
        · rename_i m e hu2
          simp only [Option.map_eq_some_iff] at htr
          obtain ⟨s, hsz, rfl⟩ := htr
          exact sla hx hlo hhi (.inr ⟨q, hu, hu2⟩) hsz hst
        · simp at htr
      · simp at htr
  | extract x i =>
    simp only [trOp, Option.map_eq_some_iff] at htr
    obtain ⟨x', hx, rfl⟩ := htr
    simp only [stepV] at hst
    split at hst
    · rename_i vs he
      simp only [Option.bind_eq_some_iff] at hst
      obtain ⟨v', hv, hst⟩ := hst
      obtain ⟨rfl, rfl⟩ := ok_inj hst
      exact good_extract hr hs hx he hv
    · simp at hst
  | lookup t m k cok =>
    simp only [trOp] at htr
    split at htr
    · rename_i kt e m' k' hu hm hk
      split at htr
      · rename_i z hz
        simp only [Option.map_eq_some_iff] at htr
        obtain ⟨kd, hkd, rfl⟩ := htr
        simp only [stepV] at hst
        split at hst
        · split at hst
          · rename_i he
            obtain ⟨rfl, rfl⟩ := ok_inj hst
            exact good_lookup hr hs hm hk hu hz hkd (r := none) (.inl ⟨he, rfl⟩)
          · rename_i l he
            split at hst
            · rename_i es hl
              simp only [Option.bind_eq_some_iff] at hst
              obtain ⟨r, hf, hst⟩ := hst
              obtain ⟨rfl, rfl⟩ := ok_inj hst
              exact good_lookup hr hs hm hk hu hz hkd (.inr ⟨l, es, he, hl, hf⟩)
            · simp at hst
          · simp at hst
        · simp at hst
      · simp at htr
    · simp at htr
  | mapUpdate t m k x =>
    simp only [trOp] at htr
    split at htr
    · rename_i kt e m' k' x' hu hm hk hx
      simp only [Option.map_eq_some_iff] at htr
      obtain ⟨kd, hkd, rfl⟩ := htr
      simp only [stepV] at hst
      split at hst
      · rename_i hkey
        split at hst
        · rename_i l he
          split at hst
          · rename_i es hl
            simp only [Option.bind_eq_some_iff] at hst
            obtain ⟨es', hp, hst⟩ := hst
            obtain ⟨rfl, rfl⟩ := okh_inj hst
            exact good_mapSet hr hs hm hk hx hu hkd hkey he hl hp
          · simp at hst
        · simp at hst
      · simp at hst
    · simp at htr
  | call c =>
    obtain ⟨callee, args, ats⟩ := c
    simp only [trOp] at htr
    split at htr
    · split at htr
      · simp only [Option.some.injEq] at htr; subst htr; simp [AOp.isCall] at hnc
      · split at htr
        · rename_i f l hl hno hesc
          split at htr
          · rename_i x
            simp only [Option.some.injEq] at htr; subst htr
            simp only [stepV] at hst
            obtain ⟨rfl, rfl⟩ := ok_inj hst
            have hargs := evs_ok_arr hs hl
            have hsc := (evs_ok hs hl).2
            refine Good.same hr hsc.1 ?_
            simp only [execOp, resolve, Act.eval, Deferred.ofValue, Sem.run_bind, Sem.run_pure, Result.andThen_ok, invoke, hargs]
            exact run_noEsc hesc _ _
          · simp at htr
        · simp at htr
    · simp only [Option.some.injEq] at htr; subst htr; simp [AOp.isCall] at hnc
    · rename_i b l hl
      exact builtin_good hr hs hl htr hst
    · simp at htr
  | panic x =>
    simp only [trOp, Option.map_eq_some_iff] at htr
    obtain ⟨x', hx, rfl⟩ := htr
    simp [stepV] at hst
  | insert _ _ _ _ => simp [trOp] at htr
  | ready _ => simp [trOp] at htr
  | waits _ => simp [trOp] at htr
  | sliceToArrayPointer _ _ => simp [trOp] at htr
  | makeChan t x =>
    unfold trOp at htr
    split at htr
    all_goals first
      | (rename_i heq; cases heq; done)
      | skip
    · rename_i t' k heq
      cases heq
      split at htr
      · rename_i dr e hu
        split at htr
        · rename_i b hb
          split at htr
          · rename_i hc
            simp only [Option.some.injEq] at htr; subst htr
            simp only [stepV] at hst
            obtain ⟨rfl, rfl⟩ := okh_inj hst
            exact good_mkChan hr hu hb hc.1 hc.2.1 hc.2.2
          · simp at htr
        · simp at htr
      · simp at htr
    · simp at htr
  | mapEntry _ _ _ => simp [trOp] at htr
  | entryStore _ _ _ _ => simp [trOp] at htr
  | range _ _ => simp [trOp] at htr
  | next _ _ => simp [trOp] at htr
  | entry _ => simp [trOp] at htr
  | go _ => simp [trOp] at htr
  | defer _ => simp [trOp] at htr
  | send _ _ => simp [trOp] at htr
  | recv _ _ _ => simp [trOp] at htr
  | select _ _ => simp [trOp] at htr
end
end AM

/- AM, part 16: abstract code is what the program's code does. -/
namespace AM
open Go
set_option linter.unusedVariables false
set_option linter.unusedSimpArgs false
set_option linter.unusedSectionVars false

section
variable {P : Program} {σ : Type} [Slots σ]

/-- How a call ends. -/
def OutOk (κ : Map) (N : Nat) (e : Ending) : Out → Prop
  | .val v => e = .returned (v.real κ) ∧ v.sc N
  | .pan v => e = .panicked [{ v := v.real κ, recovered := false }] ∧ v.sc N

/-- What is known of calls. -/
def CallOk (P : Program) (call : CallF) : Prop := ∀ f args h out oh, call f args h = some (out, oh) → callOk P f = true ∧ ∀ ι w, HR ι h.o w → V.scs h.o.length args →
  Calls P f (V.reals ι args).toArray w fun e w' => ∃ κ, Nx ι h w κ (oh.getD h) w' ∧ OutOk κ (oh.getD h).o.length e out

theorem SR.mono {ι κ : Map} {S : σ} {n : Nat} {tmps : Array Value} {N M : Nat} (h : SR ι S n tmps N) (ha : Agree ι κ N) (hm : N ≤ M) : SR κ S n tmps M :=
  ⟨h.size, fun i => by rw [h.val i, V.real_agree ha _ (h.sc i)], fun i => V.sc_mono hm _ (h.sc i)⟩

theorem SR.put {ι : Map} {S : σ} {n : Nat} {a : Act} {N : Nat} (h : SR ι S n a.tmps N) {v : V} (hv : v.sc N) {d : Option Nat} (hd : ∀ i, d = some i → i < n) : SR ι (putO S d v) n (a.put d (v.real ι)).tmps N := by
  cases d with
  | none => exact h
  | some i =>
    have hi := hd i rfl
    refine ⟨by simp [Act.put, h.size], fun j => ?_, fun j => ?_⟩
    · simp only [putO, Slots.law, Act.put]
      have := h.val j
      by_cases hj : j = i
      · subst hj
        simp [h.size, hi]
      · rw [if_neg hj]
        rw [← this]
        simp only [Array.getD_eq_getD_getElem?, Array.getElem?_setIfInBounds]
        rw [if_neg (fun e => hj e.symm)]
    · simp only [putO, Slots.law]
      split
      · exact hv
      · exact h.sc j

theorem wanted_ok {ι : Map} {S : σ} {n : Nat} {a : Act} {N : Nat} (h : SR ι S n a.tmps N) {ops : Array Oper} {o : Oper} {g : Option (Nat × Bool)} (hg : trGuard ops o.guard = some g) : Region.wanted o (yielded ops a.tmps) = wantedA S g := by
  unfold trGuard at hg
  unfold Region.wanted
  split at hg
  · rename_i hgd
    simp only [Option.some.injEq] at hg
    subst hg
    rw [hgd]
    rfl
  · rename_i j want hgd
    rw [hgd]
    split at hg
    · rename_i d hd
      simp only [Option.some.injEq] at hg
      subst hg
      simp only [wantedA, yielded, hd, Option.bind_some]
      have hv := h.val d
      simp only [Array.getD_eq_getD_getElem?] at hv
      cases ht : a.tmps[d]? with
      | none =>
        rw [ht] at hv
        simp only [Option.getD_none] at hv
        cases hs : Slots.get S d with
        | bool b => rw [hs] at hv; simp [V.real, undef] at hv
        | _ => simp
      | some x =>
        rw [ht] at hv
        simp only [Option.getD_some] at hv
        cases hs : Slots.get S d with
        | bool b =>
          rw [hs] at hv
          simp only [V.real] at hv
          subst hv
          cases b <;> cases want <;> rfl
        | _ =>
          rw [hs] at hv
          simp only [V.real] at hv
          subst hv
          simp
    · simp at hg

/-- The end of a piece of code. -/
def Post (ι : Map) (h : Heap) (w : World) (n : Nat) (ds : List Deferred) (x : Ex) (S' : σ) (h' : Heap) (e : Exit) (a' : Act) (w' : World) : Prop :=
  ∃ κ, Nx ι h w κ h' w' ∧ SR κ S' n a'.tmps h'.o.length ∧ a'.defers = ds ∧ (match x with
    | .norm => e = .normal
    | .exit id => e = .exit id
    | .ret => e = .ret
    | .pan v => e = .panic [{ v := v.real κ, recovered := false }] ∧ v.sc h'.o.length)

theorem Post.trans {ι κ : Map} {h h1 : Heap} {w w1 : World} {n : Nat} {ds : List Deferred} {x : Ex} {S' : σ} {h' : Heap} {e : Exit} {a' : Act} {w' : World} (hn : Nx ι h w κ h1 w1) (hp : Post κ h1 w1 n ds x S' h' e a' w') : Post ι h w n ds x S' h' e a' w' := by
  obtain ⟨μ, h1, h2, h3, h4⟩ := hp
  exact ⟨μ, hn.trans h1, h2, h3, h4⟩

theorem put_defers' (a : Act) (d : Option Nat) (v : Value) : (a.put d v).defers = a.defers := by cases d <;> rfl

theorem callFunc_run {f : Nat} (hf : callOk P f = true) (args : Array Value) (w : World) : (callFunc f args).run P w = .ok (.enter f args) w := by
  unfold callOk at hf
  split at hf
  · rename_i fn hfn
    simp only [Bool.and_eq_true, bne_iff_ne, ne_eq] at hf
    have hb : fn.body.isNone = false := by rw [← Option.not_isSome, hf.2]; rfl
    have hnm : (fn.name == "runtime.NumGoroutine") = false := by simpa using hf.1
    simp only [callFunc, Sem.run_bind, run_program, Result.andThen_ok, hfn, hnm, hb, Bool.false_eq_true, if_false, Sem.run_pure]
  · simp at hf

theorem trBuiltin_inv {b : Builtin} {ats : List Nat} {l : List Opd} {op : AOp} (h : trBuiltin P b ats l = some op) : op.isCall = false ∧ ∀ x, op = .panic x → b = .panic ∧ l = [x] := by
  unfold trBuiltin at h
  split at h
  · split at h <;> first
      | (simp only [Option.some.injEq] at h; subst h; exact ⟨rfl, fun x hx => by simp at hx⟩)
      | (split at h <;> first | (simp only [Option.some.injEq] at h; subst h; exact ⟨rfl, fun x hx => by simp at hx⟩) | (simp at h; done))
      | (simp at h; done)
  · split at h <;> first
      | (split at h <;> first | (simp only [Option.some.injEq] at h; subst h; exact ⟨rfl, fun x hx => by simp at hx⟩) | (simp at h; done))
      | (simp only [Option.map_eq_some_iff] at h; obtain ⟨_, _, rfl⟩ := h; exact ⟨rfl, fun x hx => by simp at hx⟩)
      | (simp at h; done)
  · split at h <;> first
      | (split at h <;> first
          | (split at h <;> first | (simp only [Option.some.injEq] at h; subst h; exact ⟨rfl, fun x hx => by simp at hx⟩) | (simp at h; done))
          | (simp at h; done))
      | (simp at h; done)
  · split at h <;> first
      | (split at h <;> first
          | (split at h <;> first | (simp only [Option.some.injEq] at h; subst h; exact ⟨rfl, fun x hx => by simp at hx⟩) | (simp at h; done))
          | (simp at h; done))
      | (simp only [Option.some.injEq] at h; subst h; exact ⟨rfl, fun x hx => by simp at hx⟩)
      | (simp at h; done)
  · simp only [Option.some.injEq] at h; subst h; exact ⟨rfl, fun x hx => by simp at hx⟩
  · simp only [Option.some.injEq] at h; subst h; exact ⟨rfl, fun x hx => by simp at hx⟩
  · split at h
    · simp only [Option.map_eq_some_iff] at h; obtain ⟨_, _, rfl⟩ := h; exact ⟨rfl, fun x hx => by simp at hx⟩
    · simp at h
  · simp only [Option.some.injEq] at h; subst h; exact ⟨rfl, fun x hx => by simp only [AOp.panic.injEq] at hx; subst hx; exact ⟨rfl, rfl⟩⟩
  · split at h <;> first | (simp only [Option.some.injEq] at h; subst h; exact ⟨rfl, fun x hx => by simp at hx⟩) | (simp at h; done)
  · split at h <;> first
      | (split at h <;> first | (simp only [Option.some.injEq] at h; subst h; exact ⟨rfl, fun x hx => by simp at hx⟩) | (simp at h; done))
      | (simp at h; done)
  · simp at h

/-- Only a call becomes a call, only a panic a panic. -/
def CallForm (P : Program) (o : Op) (op : AOp) : Prop :=
  match op with
  | .call f l => ∃ args ats, o = .call ⟨.value (.func f), args, ats⟩ ∧ callOk P f = true ∧ trOpds args.toList = some l
  | .callv x l => ∃ t args ats, x = .t t ∧ o = .call ⟨.value (.tmp t), args, ats⟩ ∧ trOpds args.toList = some l
  | .panic x => (∃ y, o = .panic y ∧ trOpd y = some x) ∨ ∃ args ats, o = .call ⟨.builtin .panic, args, ats⟩ ∧ trOpds args.toList = some [x]
  | _ => True

theorem CallForm.of {o : Op} {op : AOp} (h1 : op.isCall = false) (h2 : ∀ x, op ≠ .panic x) : CallForm P o op := by
  cases op <;> first | trivial | (simp [AOp.isCall] at h1; done) | exact absurd rfl (h2 _)

set_option maxHeartbeats 2000000 in
theorem trOp_form {o : Op} {ty : Nat} {op : AOp} (h : trOp P o ty = some op) : CallForm P o op := by
  cases o with
  | call c =>
    obtain ⟨callee, args, ats⟩ := c
    simp only [trOp] at h
    split at h
    · rename_i f l hl
      split at h
      · rename_i hok
        simp only [Option.some.injEq] at h
        subst h
        exact ⟨args, ats, rfl, hok, hl⟩
      · split at h
        · split at h
          · simp only [Option.some.injEq] at h; subst h; trivial
          · simp at h
        · simp at h
    · rename_i t l hl
      simp only [Option.some.injEq] at h
      subst h
      exact ⟨t, args, ats, rfl, rfl, hl⟩
    · rename_i b l hl
      obtain ⟨h1, h2⟩ := trBuiltin_inv h
      cases op with
      | panic x =>
        obtain ⟨rfl, rfl⟩ := h2 x rfl
        exact .inr ⟨args, ats, rfl, hl⟩
      | call f l => simp [AOp.isCall] at h1
      | callv f l => simp [AOp.isCall] at h1
      | _ => trivial
    · simp at h
  | panic x =>
    simp only [trOp, Option.map_eq_some_iff] at h
    obtain ⟨y, hy, rfl⟩ := h
    exact .inl ⟨x, rfl, hy⟩
  | move x => simp only [trOp, Option.map_eq_some_iff] at h; obtain ⟨_, _, rfl⟩ := h; trivial
  | assign x => simp only [trOp, Option.map_eq_some_iff] at h; obtain ⟨_, _, rfl⟩ := h; trivial
  | box t x => simp only [trOp, Option.map_eq_some_iff] at h; obtain ⟨_, _, rfl⟩ := h; trivial
  | alloc t => simp only [trOp, Option.map_eq_some_iff] at h; obtain ⟨_, _, rfl⟩ := h; trivial
  | nilCheck x => simp only [trOp, Option.map_eq_some_iff] at h; obtain ⟨_, _, rfl⟩ := h; trivial
  | unOp _ _ x => simp only [trOp, Option.map_eq_some_iff] at h; obtain ⟨_, _, rfl⟩ := h; trivial
  | extract x i => simp only [trOp, Option.map_eq_some_iff] at h; obtain ⟨_, _, rfl⟩ := h; trivial
  | build t ps =>
    simp only [trOp] at h
    split at h
    · simp only [Option.bind_eq_some_iff] at h
      obtain ⟨_, _, h⟩ := h
      split at h
      · simp only [Option.some.injEq] at h; subst h; trivial
      · simp at h
    · simp only [Option.bind_eq_some_iff, Option.map_eq_some_iff] at h
      obtain ⟨_, _, _, _, rfl⟩ := h; trivial
    · simp at h
  | slice t x lo hi mx =>
    cases mx with
    | some m => simp [trOp] at h
    | none =>
      simp only [trOp] at h
      split at h
      · simp only [Option.some.injEq] at h; subst h; trivial
      · simp only [Option.map_eq_some_iff] at h; obtain ⟨_, _, rfl⟩ := h; trivial
      · simp only [Option.map_eq_some_iff] at h; obtain ⟨_, _, rfl⟩ := h; trivial
      · split at h
        · simp only [Option.map_eq_some_iff] at h; obtain ⟨_, _, rfl⟩ := h; trivial
        · simp at h
      · simp at h
  | makeFunc fn a b =>
    cases fn with
    | func f =>
      simp only [trOp] at h
      split at h
      · simp only [Option.some.injEq] at h; subst h; trivial
      · simp at h
    | _ => simp [trOp] at h
  | makeMap t r =>
    cases r with
    | none => simp only [trOp, Option.some.injEq] at h; subst h; trivial
    | some r => simp [trOp] at h
  | makeChan t x =>
    unfold trOp at h
    split at h
    all_goals first
      | (rename_i heq; cases heq; done)
      | skip
    · rename_i heq
      cases heq
      split at h
      · split at h
        · split at h
          · simp only [Option.some.injEq] at h; subst h; trivial
          · simp at h
        · simp at h
      · simp at h
    · simp at h
  | binOp bop t x y u =>
    simp only [trOp] at h
    split at h
    · split at h
      · split at h <;> first
          | (simp only [Option.some.injEq] at h; subst h; trivial)
          | (split at h <;> first
              | (simp only [Option.some.injEq] at h; subst h; trivial)
              | (split at h <;> first | (simp only [Option.some.injEq] at h; subst h; trivial) | (simp at h; done))
              | (simp at h; done))
          | (simp at h; done)
      · simp only [Option.some.injEq] at h; subst h; trivial
    · simp at h
  | _ =>
    simp only [trOp] at h
    first
    | (simp at h; done)
    | (split at h <;> first
        | (simp at h; done)
        | (simp only [Option.some.injEq] at h; subst h; trivial)
        | (simp only [Option.map_eq_some_iff] at h; obtain ⟨_, _, rfl⟩ := h; trivial)
        | (split at h <;> first
            | (simp at h; done)
            | (simp only [Option.some.injEq] at h; subst h; trivial)
            | (simp only [Option.map_eq_some_iff] at h; obtain ⟨_, _, rfl⟩ := h; trivial)
            | (split at h <;> first
                | (simp at h; done)
                | (simp only [Option.some.injEq] at h; subst h; trivial)
                | (simp only [Option.map_eq_some_iff] at h; obtain ⟨_, _, rfl⟩ := h; trivial)
                | (split at h <;> first
                    | (simp at h; done)
                    | (simp only [Option.some.injEq] at h; subst h; trivial)))))

/-- One operation. -/
theorem oper_ok {call : CallF} (hcall : CallOk P call) {ι : Map} {h : Heap} {w : World} {S : σ} {n : Nat} {a : Act} (hr : HR ι h.o w) (hs : SR ι S n a.tmps h.o.length) {o : Oper} {op : AOp} (htr : trOp P o.op o.type = some op) (hd : ∀ i, o.dst = some i → i < n)
    {out : Out} {oh : Option Heap} (hst : stepA call op S h = some (out, oh)) {K : Act → World → Prop} {Q : Exit → Act → World → Prop}
    (hK : ∀ v, out = .val v → ∀ κ w', Nx ι h w κ (oh.getD h) w' → SR κ (putO S o.dst v) n (a.put o.dst (v.real κ)).tmps (oh.getD h).o.length → K (a.put o.dst (v.real κ)) w')
    (hQ : ∀ v, out = .pan v → ∀ κ w', Nx ι h w κ (oh.getD h) w' → v.sc (oh.getD h).o.length → Q (.panic [{ v := v.real κ, recovered := false }]) a w') : o.wp P a w K Q := by
  have hform := trOp_form htr
  have fin : ∀ {v} {κ : Map} {w' : World}, out = .val v → Nx ι h w κ (oh.getD h) w' → v.sc (oh.getD h).o.length → K (a.put o.dst (v.real κ)) w' := fun hv hn hsc =>
    hK _ hv _ _ hn ((hs.mono hn.ag hn.len).put hsc hd)
  have calls : ∀ {f args}, (execOp a.eval o).run P w = .ok (.enter f (V.reals ι args).toArray) w → V.scs h.o.length args → call f args h = some (out, oh) → o.wp P a w K Q := by
    intro f args hrun hsc hc
    unfold Oper.wp
    rw [hrun, Oper.upon_enter]
    refine ((hcall f args h out oh hc).2 ι w hr hsc).mono fun e w' ⟨κ, hn, hm⟩ => ?_
    cases out with
    | val v => obtain ⟨rfl, hv⟩ := hm; exact fin rfl hn hv
    | pan v => obtain ⟨rfl, hv⟩ := hm; exact hQ _ rfl _ _ hn hv
  have vals : op.isCall = false → stepA call op S h = (match stepV op S h with | some (v, oh) => some (.val v, oh) | none => none) → o.wp P a w K Q := by
    intro hcl he
    rw [he] at hst
    split at hst
    · rename_i v oh' hv
      simp only [Option.some.injEq, Prod.mk.injEq] at hst
      obtain ⟨rfl, rfl⟩ := hst
      obtain ⟨κ, w', r, hrun, hrv, hn, hsc, _⟩ := step_good hr hs htr hcl hv
      unfold Oper.wp
      rw [hrun]
      rcases hrv with rfl | ⟨rfl, rfl⟩
      · rw [Oper.upon_value]; exact fin rfl hn hsc
      · rw [Oper.upon_skip]; exact fin rfl hn hsc
    · simp at hst
  cases op with
  | call f l =>
    obtain ⟨args, ats, ho, hok, hl⟩ := hform
    simp only [stepA] at hst
    refine calls ?_ (evs_ok hs hl).2 hst
    simp only [execOp, ho, resolve, Act.eval, Deferred.ofValue, Sem.run_bind, Sem.run_pure, Result.andThen_ok, invoke]
    have h1 : (args.map a.eval) = (V.reals ι (evs S l)).toArray := evs_ok_arr hs hl
    simp only [Array.append_empty, Array.empty_append]
    rw [callFunc_run hok]
    rw [← h1]
  | callv x l =>
    obtain ⟨t, args, ats, rfl, ho, hl⟩ := hform
    simp only [stepA] at hst
    split at hst
    · rename_i f fs cs he
      have hok := (hcall f _ h out oh hst).1
      have hsc : (Opd.ev S (.t t)).sc h.o.length := hs.sc t
      rw [he] at hsc
      refine calls ?_ (scs_append.2 ⟨scs_append.2 ⟨hsc.1, (evs_ok hs hl).2⟩, hsc.2⟩) hst
      have het : a.eval (.tmp t) = .func (.func f) (V.reals ι fs).toArray (V.reals ι cs).toArray := by
        have := hs.val t
        rw [show Slots.get S t = .fn f fs cs from he] at this
        exact this
      simp only [execOp, ho, resolve, het, Deferred.ofValue, Sem.run_bind, Sem.run_pure, Result.andThen_ok, invoke, evs_ok_arr hs hl]
      rw [callFunc_run hok]
      congr 2
      simp [V.reals_eq]
    · simp at hst
  | panic x' =>
    have key : ∀ (hrun : ∀ t y, (x'.ev S).real ι = .iface t y → (execOp a.eval o).run P w = .halt (.panic (.iface t y)) w) (hsc : (x'.ev S).sc h.o.length), o.wp P a w K Q := by
      intro hrun hsc
      simp only [stepA] at hst
      split at hst
      · rename_i t y he
        simp only [Option.some.injEq, Prod.mk.injEq] at hst
        obtain ⟨rfl, rfl⟩ := hst
        rw [he] at hsc
        unfold Oper.wp
        rw [hrun t (y.real ι) (by rw [he]; rfl), Oper.upon_panic]
        exact hQ _ rfl ι w (Nx.refl hr) hsc
      · simp at hst
    rcases hform with ⟨y, ho, hy⟩ | ⟨args, ats, ho, hl⟩
    · exact key (fun t z he => by simp only [execOp, ho, Instr.panic, ev_ok hs hy, he, Sem.run_bind, run_goPanic, Result.andThen_halt]) (ev_sc hs hy)
    · have h1 := evs_ok_arr hs hl
      refine key (fun t z he => ?_) (evs_ok hs hl).2.1
      have h0 : (args.map a.eval)[0]? = some (.iface t z) := by rw [h1]; simp only [evs, List.map_cons, List.map_nil, V.reals, he]; rfl
      simp only [execOp, ho, resolve, Sem.run_bind, Sem.run_pure, Result.andThen_ok, invoke, builtin, Array.getD_eq_getD_getElem?, h0, Option.getD_some, Instr.panic, run_goPanic, Result.andThen_halt]
  | _ => exact vals rfl rfl

end
end AM

/- AM, part 17: regions whose order is open. -/
namespace AM
open Go
set_option linter.unusedVariables false
set_option linter.unusedSimpArgs false
set_option linter.unusedSectionVars false

section
variable {σ : Type} [Slots σ]
open Slots

/-! ### What an operation reads -/

def SameAt (l : List Nat) (S S' : σ) : Prop := ∀ t ∈ l, get S t = get S' t

theorem Opd.ev_congr {x : Opd} {S S' : σ} (h : SameAt x.sl S S') : x.ev S = x.ev S' := by
  cases x with
  | t i => exact h i (by simp [Opd.sl])
  | _ => rfl

theorem SameAt.left {a b : List Nat} {S S' : σ} (h : SameAt (a ++ b) S S') : SameAt a S S' := fun t ht => h t (List.mem_append_left _ ht)
theorem SameAt.right {a b : List Nat} {S S' : σ} (h : SameAt (a ++ b) S S') : SameAt b S S' := fun t ht => h t (List.mem_append_right _ ht)

theorem evs_congr : ∀ {l : List Opd} {S S' : σ}, SameAt (opdSls l) S S' → evs S l = evs S' l
  | [], _, _, _ => rfl
  | x :: l, S, S', h => by
    have h' : SameAt (x.sl ++ opdSls l) S S' := h
    show x.ev S :: evs S l = x.ev S' :: evs S' l
    rw [Opd.ev_congr h'.left, evs_congr h'.right]

theorem parts_congr {α β : Type} : ∀ {l : List (α × β × Opd)} {S S' : σ}, SameAt (opdSls (l.map fun p => p.2.2)) S S' → (l.map fun p => (p.1, p.2.1, p.2.2.ev S)) = l.map fun p => (p.1, p.2.1, p.2.2.ev S')
  | [], _, _, _ => rfl
  | x :: l, S, S', h => by
    have h' : SameAt (x.2.2.sl ++ opdSls (l.map fun p => p.2.2)) S S' := h
    simp only [List.map_cons]
    rw [Opd.ev_congr h'.left, parts_congr h'.right]

theorem oev_congr {x : Option Opd} {S S' : σ} (h : SameAt (oSl x) S S') : x.map (Opd.ev S) = x.map (Opd.ev S') := by
  cases x with
  | none => rfl
  | some x => simp only [Option.map_some]; rw [Opd.ev_congr (h : SameAt x.sl S S')]

theorem wanted_congr {g : Option (Nat × Bool)} {S S' : σ} (h : SameAt (match g with | some (j, _) => [j] | none => []) S S') : wantedA S g = wantedA S' g := by
  cases g with
  | none => rfl
  | some p =>
    obtain ⟨j, w⟩ := p
    simp only [wantedA]
    rw [h j (by simp)]

theorem stepA_congr {call : CallF} {op : AOp} {S S' : σ} {h : Heap} (hs : SameAt op.looks S S') : stepA call op S h = stepA call op S' h := by
  cases op with
  | call f l => simp only [stepA]; rw [evs_congr (hs : SameAt (opdSls l) S S')]
  | callv x l =>
    have hs' : SameAt (x.sl ++ opdSls l) S S' := hs
    simp only [stepA]; rw [Opd.ev_congr hs'.left, evs_congr hs'.right]
  | panic x => simp only [stepA]; rw [Opd.ev_congr (hs : SameAt x.sl S S')]
  | mv x | un _ x | nck x | load _ x | box _ x | faddr _ x | field _ _ x | toInt _ x | toStr x | cpS x | toBytes _ x | extract x _ | mki _ x | tassert _ _ x | inil _ x | lenS x | lenL x | clearL _ _ x | lenM x | clearM x | lenC x | sdata x | cvU x | cvP _ x =>
    simp only [stepA, stepV]; rw [Opd.ev_congr (hs : SameAt x.sl S S')]
  | bin _ x y | eqf _ _ _ x y | store _ x y | iaddrA _ _ x y | iaddrS _ x y | idxA _ _ _ x y | idxS x y | copyS x y | copyL _ x y | app _ _ _ _ x y | appz _ _ _ _ x y | appS _ _ _ x y | mkSlice _ _ _ _ x y | lookup _ _ _ x y | mapDel _ x y | ustr _ x y =>
    have hs' : SameAt (x.sl ++ y.sl) S S' := hs
    simp only [stepA, stepV]; rw [Opd.ev_congr hs'.left, Opd.ev_congr hs'.right]
  | pick x y z | mapSet _ x y z =>
    have hs' : SameAt (x.sl ++ (y.sl ++ z.sl)) S S' := hs
    simp only [stepA, stepV]; rw [Opd.ev_congr hs'.left, Opd.ev_congr hs'.right.left, Opd.ev_congr hs'.right.right]
  | alloc t z | lenA n | mkMap | mkChan n => rfl
  | build z ps | bslice t e z ps =>
    simp only [stepA, stepV]; rw [parts_congr (hs : SameAt (opdSls (ps.map fun p => p.2.2)) S S')]
  | slS x lo hi | slL _ x lo hi | slA _ _ x lo hi =>
    have hs' : SameAt (x.sl ++ (oSl lo ++ oSl hi)) S S' := hs
    simp only [stepA, stepV]; rw [Opd.ev_congr hs'.left, oev_congr hs'.right.left, oev_congr hs'.right.right]
  | mkf f a b =>
    have hs' : SameAt (opdSls a ++ opdSls b) S S' := hs
    simp only [stepA, stepV]; rw [evs_congr hs'.left, evs_congr hs'.right]
  | minmax _ l => simp only [stepA, stepV]; rw [evs_congr (hs : SameAt (opdSls l) S S')]

theorem newA_congr {op : AOp} {S S' : σ} (hs : SameAt op.looks S S') : newA op S = newA op S' := by
  cases op with
  | box t x => simp only [newA]; rw [Opd.ev_congr (hs : SameAt x.sl S S')]
  | bslice t e z ps => simp only [newA]; rw [parts_congr (hs : SameAt (opdSls (ps.map fun p => p.2.2)) S S')]
  | mkSlice t e b z x y =>
    have hs' : SameAt (x.sl ++ y.sl) S S' := hs
    simp only [newA]; rw [Opd.ev_congr hs'.left, Opd.ev_congr hs'.right]
  | _ => rfl

def Qt (r : Option (V × Option Heap)) : Prop := ∀ v oh, r = some (v, oh) → oh = none
theorem Qt.ok (x : V) : Qt (AM.ok x) := fun _ _ h => (ok_inj h).2
theorem Qt.none : Qt none := fun _ _ h => by cases h
theorem Qt.bind {α : Type} {o : Option α} {f : α → Option (V × Option Heap)} (h : ∀ x, Qt (f x)) : Qt (o.bind f) := by
  intro v oh he
  cases o with
  | none => cases he
  | some x => exact h x v oh he

/-- What is of the slots alone. -/
theorem pure_step {call : CallF} {op : AOp} (hc : op.cls = 0) {S : σ} {h : Heap} {out : Out} {oh : Option Heap} (hs : stepA call op S h = some (out, oh)) : oh = none ∧ (∃ v, out = .val v) ∧ ∀ h', stepA call op S h' = some (out, none) := by
  have key : Qt (stepV op S h) ∧ (∀ h', stepV op S h' = stepV op S h) ∧ (∀ h', stepA call op S h' = match stepV op S h' with | some (v, oh) => some (.val v, oh) | none => none) := by
    cases op <;> simp only [AOp.cls] at hc <;> try (simp at hc; done)
    all_goals
      refine ⟨?_, fun _ => rfl, fun _ => rfl⟩
      simp only [stepV, lenLV]
      repeat' first
        | exact Qt.ok _
        | exact Qt.none
        | (refine Qt.bind fun _ => ?_)
        | split
  obtain ⟨k1, k2, k3⟩ := key
  rw [k3 h] at hs
  cases hv : stepV op S h with
  | none => rw [hv] at hs; cases hs
  | some q =>
    obtain ⟨v, oh'⟩ := q
    rw [hv] at hs
    simp only [Option.some.injEq, Prod.mk.injEq] at hs
    obtain ⟨rfl, rfl⟩ := hs
    have := k1 _ _ hv
    subst this
    exact ⟨rfl, ⟨v, rfl⟩, fun h' => by rw [k3 h', k2 h', hv]⟩

/-- What makes one object. -/
theorem newA_step {call : CallF} {op : AOp} {S : σ} {f : Nat → V} {ob : Obj} (hn : newA op S = some (f, ob)) (h : Heap) : stepV op S h = some (f h.o.length, some (h.new ob)) ∧ op.isCall = false ∧ stepA call op S h = some (.val (f h.o.length), some (h.new ob)) := by
  cases op with
  | alloc t z =>
    simp only [newA, Option.some.injEq, Prod.mk.injEq] at hn
    obtain ⟨rfl, rfl⟩ := hn
    exact ⟨rfl, rfl, rfl⟩
  | box t x =>
    simp only [newA, Option.some.injEq, Prod.mk.injEq] at hn
    obtain ⟨rfl, rfl⟩ := hn
    exact ⟨rfl, rfl, rfl⟩
  | mkMap =>
    simp only [newA, Option.some.injEq, Prod.mk.injEq] at hn
    obtain ⟨rfl, rfl⟩ := hn
    exact ⟨rfl, rfl, rfl⟩
  | mkChan n =>
    simp only [newA, Option.some.injEq, Prod.mk.injEq] at hn
    obtain ⟨rfl, rfl⟩ := hn
    exact ⟨rfl, rfl, rfl⟩
  | bslice t e z ps =>
    simp only [newA, Option.map_eq_some_iff, Prod.mk.injEq] at hn
    obtain ⟨cs, hcs, rfl, rfl⟩ := hn
    refine ⟨?_, rfl, ?_⟩ <;> simp only [stepA, stepV, hcs, Option.bind_some, okh]
  | mkSlice t e b z l c =>
    simp only [newA] at hn
    split at hn
    · rename_i h1 h2
      split at hn
      · rename_i hc
        simp only [Option.some.injEq, Prod.mk.injEq] at hn
        obtain ⟨rfl, rfl⟩ := hn
        refine ⟨?_, rfl, ?_⟩ <;> simp only [stepA, stepV, h1, h2, if_pos hc, okh]
      · cases hn
    · cases hn
  | _ => simp [newA] at hn

/-- Of a new object's number its value says where the object lies, and no more. -/
theorem newA_val {op : AOp} {S : σ} {f : Nat → V} {ob : Obj} (hn : newA op S = some (f, ob)) {ι κ : Map} {l k : Nat} (h : ι l = κ k) : (f l).real ι = (f k).real κ ∧ ∀ ok : Nat → Bool, V.only ok (f l) = ok l := by
  cases op with
  | alloc t z =>
    simp only [newA, Option.some.injEq, Prod.mk.injEq] at hn
    obtain ⟨rfl, rfl⟩ := hn
    exact ⟨by simp only [V.real, h], fun _ => rfl⟩
  | box t x =>
    simp only [newA, Option.some.injEq, Prod.mk.injEq] at hn
    obtain ⟨rfl, rfl⟩ := hn
    exact ⟨by simp only [V.real, h], fun _ => rfl⟩
  | mkMap | mkChan _ =>
    simp only [newA, Option.some.injEq, Prod.mk.injEq] at hn
    obtain ⟨rfl, rfl⟩ := hn
    exact ⟨by simp only [V.real, h], fun _ => rfl⟩
  | bslice t e z ps =>
    simp only [newA, Option.map_eq_some_iff, Prod.mk.injEq] at hn
    obtain ⟨cs, hcs, rfl, rfl⟩ := hn
    exact ⟨by simp only [V.real, h], fun _ => rfl⟩
  | mkSlice t e b z l' c =>
    simp only [newA] at hn
    split at hn
    · split at hn
      · simp only [Option.some.injEq, Prod.mk.injEq] at hn
        obtain ⟨rfl, rfl⟩ := hn
        exact ⟨by simp only [V.real, h], fun _ => rfl⟩
      · cases hn
    · cases hn
  | _ => simp [newA] at hn

theorem newA_own {op : AOp} {S : σ} {f : Nat → V} {ob : Obj} (hn : newA op S = some (f, ob)) : ob.own = true := by
  cases op with
  | alloc t z | box t x | mkMap | mkChan _ =>
    simp only [newA, Option.some.injEq, Prod.mk.injEq] at hn
    obtain ⟨rfl, rfl⟩ := hn
    rfl
  | bslice t e z ps =>
    simp only [newA, Option.map_eq_some_iff, Prod.mk.injEq] at hn
    obtain ⟨cs, hcs, rfl, rfl⟩ := hn
    rfl
  | mkSlice t e b z l c =>
    simp only [newA] at hn
    split at hn
    · split at hn
      · simp only [Option.some.injEq, Prod.mk.injEq] at hn
        obtain ⟨rfl, rfl⟩ := hn
        rfl
      · cases hn
    · cases hn
  | _ => simp [newA] at hn
end
end AM

/- AM, part 17b: heaps of which less is known, and what stays beside a call. -/
namespace AM
open Go
set_option linter.unusedVariables false
set_option linter.unusedSimpArgs false
set_option linter.unusedSectionVars false

/-- Of g no more is known than of h. -/
def Weak (g h : List Obj) : Prop := g.length = h.length ∧ ∀ (l : Nat) (o : Obj), g[l]? = some o → o = .dead ∨ h[l]? = some o

theorem HR.weak {ι : Map} {g h : List Obj} {w : World} (hr : HR ι h w) (hw : Weak g h) : HR ι g w := by
  refine ⟨fun l o hl => ?_, fun l l' o o' hne hl hl' ho ho' => ?_, fun l o hl => ?_⟩
  · rcases hw.2 l o hl with rfl | h1
    · trivial
    · exact hr.obj l o h1
  · rcases hw.2 l o hl with rfl | h1
    · simp [Obj.own] at ho
    · rcases hw.2 l' o' hl' with rfl | h2
      · simp [Obj.live] at ho'
      · exact hr.apart l l' o o' hne h1 h2 ho ho'
  · rcases hw.2 l o hl with rfl | h1
    · trivial
    · rw [hw.1]; exact hr.sc l o h1

theorem Weak.refl (h : List Obj) : Weak h h := ⟨rfl, fun _ _ h => .inr h⟩
theorem Weak.trans {g h k : List Obj} (h1 : Weak g h) (h2 : Weak h k) : Weak g k :=
  ⟨h1.1.trans h2.1, fun l o hl => by
    rcases h1.2 l o hl with rfl | h3
    · exact .inl rfl
    · exact h2.2 l o h3⟩

/-- What is beside: at some numbers objects of which g knows nothing. -/
def over (h : List Obj) : List (Nat × Obj) → List Obj
  | [] => h
  | (l, o) :: r => over (h.set l o) r

theorem over_length : ∀ (h : List Obj) (r : List (Nat × Obj)), (over h r).length = h.length
  | _, [] => rfl
  | h, (l, o) :: r => by rw [over, over_length, List.length_set]

/-- The numbers are apart, and dead below. -/
def Apart (h : List Obj) : List (Nat × Obj) → Prop
  | [] => True
  | (l, o) :: r => l < h.length ∧ (∀ x, h[l]? = some x → x = .dead) ∧ (∀ q ∈ r, q.1 ≠ l) ∧ Apart h r

theorem over_get : ∀ (h : List Obj) (r : List (Nat × Obj)) (l : Nat), (∀ q ∈ r, q.1 ≠ l) → (over h r)[l]? = h[l]?
  | _, [], _, _ => rfl
  | h, (k, o) :: r, l, hn => by
    rw [over, over_get _ r l (fun q hq => hn q (List.mem_cons_of_mem _ hq)), List.getElem?_set_ne (hn (k, o) (List.mem_cons_self ..))]

theorem over_mem : ∀ (h : List Obj) (r : List (Nat × Obj)), Apart h r → ∀ q ∈ r, (over h r)[q.1]? = some q.2
  | _, [], _, q, hq => by cases hq
  | h, (k, o) :: r, ha, q, hq => by
    obtain ⟨h1, h2, h3, h4⟩ := ha
    rcases List.mem_cons.1 hq with rfl | hq'
    · rw [over, over_get _ r _ h3, List.getElem?_set_self h1]
    · rw [over]
      refine over_mem _ r ?_ q hq'
      clear hq hq'
      have gen : ∀ r : List (Nat × Obj), (∀ q ∈ r, q.1 ≠ k) → Apart h r → Apart (h.set k o) r := by
        intro r
        induction r with
        | nil => intro _ _; trivial
        | cons p r ih =>
          intro hne hp
          obtain ⟨l, x⟩ := p
          obtain ⟨a1, a2, a3, a4⟩ := hp
          refine ⟨by simpa using a1, fun y hy => ?_, a3, ih (fun q hq => hne q (List.mem_cons_of_mem _ hq)) a4⟩
          rw [List.getElem?_set_ne (Ne.symm (hne (l, x) (List.mem_cons_self ..)))] at hy
          exact a2 y hy
      exact gen r h3 h4

theorem over_look {h : List Obj} {r : List (Nat × Obj)} (ha : Apart h r) (l : Nat) (x : Obj) (hx : (over h r)[l]? = some x) : (∃ q ∈ r, q.1 = l ∧ x = q.2) ∨ ((∀ q ∈ r, q.1 ≠ l) ∧ h[l]? = some x) := by
  by_cases hq : ∃ q ∈ r, q.1 = l
  · obtain ⟨q, hq, rfl⟩ := hq
    rw [over_mem h r ha q hq] at hx
    simp only [Option.some.injEq] at hx
    exact .inl ⟨q, hq, rfl, hx.symm⟩
  · have hn : ∀ q ∈ r, q.1 ≠ l := fun q hq' he => hq ⟨q, hq', he⟩
    rw [over_get h r l hn] at hx
    exact .inr ⟨hn, hx⟩

theorem apart_dead {h : List Obj} : ∀ {r : List (Nat × Obj)}, Apart h r → ∀ q ∈ r, ∀ x, h[q.1]? = some x → x = .dead
  | [], _, q, hq, _, _ => by cases hq
  | (k, o) :: r, ha, q, hq, x, hx => by
    rcases List.mem_cons.1 hq with rfl | hq'
    · exact ha.2.1 x hx
    · exact apart_dead ha.2.2.2 q hq' x hx

theorem weak_over {h : List Obj} {r : List (Nat × Obj)} (ha : Apart h r) : Weak h (over h r) := by
  refine ⟨(over_length h r).symm, fun l o hl => ?_⟩
  by_cases hq : ∃ q ∈ r, q.1 = l
  · obtain ⟨q, hq, rfl⟩ := hq
    exact .inl (apart_dead ha q hq o hl)
  · right
    rw [over_get h r l (fun q hq' he => hq ⟨q, hq', he⟩)]
    exact hl

theorem live_over {h : List Obj} {r : List (Nat × Obj)} (ha : Apart h r) {l : Nat} {o : Obj} (hl : h[l]? = some o) (ho : o.live = true) : (over h r)[l]? = some o := by
  rcases (weak_over ha).2 l o hl with rfl | h1
  · simp [Obj.live] at ho
  · exact h1

/-- A step over a heap of which less is known leaves what is beside. -/
theorem beside {κ κ' : Map} {h h' : Heap} {w w' : World} {r : List (Nat × Obj)} (ha : Apart h.o r) (hown : ∀ q ∈ r, q.2.own = true) (hr : HR κ (over h.o r) w) (hn : Nx κ h w κ' h' w') (hd : ∀ q ∈ r, ∀ x, h'.o[q.1]? = some x → x = .dead) :
    HR κ' (over h'.o r) w' ∧ Fr κ (over h.o r) w κ' (over h'.o r) w' ∧ Apart h'.o r := by
  have hlen : h.o.length ≤ h'.o.length := hn.len
  have hlt : ∀ q ∈ r, q.1 < h.o.length := by
    intro q hq
    have := over_mem h.o r ha q hq
    have h2 := (List.getElem?_eq_some_iff.1 this).1
    rwa [over_length] at h2
  have ha' : Apart h'.o r := by
    have gen : ∀ s : List (Nat × Obj), (∀ q ∈ s, q ∈ r) → Apart h.o s → Apart h'.o s := by
      intro s
      induction s with
      | nil => intro _ _; trivial
      | cons p s ih =>
        intro hs hp
        obtain ⟨l, x⟩ := p
        obtain ⟨a1, a2, a3, a4⟩ := hp
        exact ⟨by omega, hd (l, x) (hs _ (List.mem_cons_self ..)), a3, ih (fun q hq => hs q (List.mem_cons_of_mem _ hq)) a4⟩
    exact gen r (fun _ h => h) ha
  -- the blocks of what is beside
  have own' : ∀ q ∈ r, ¬ Own κ h.o (κ q.1).blk := by
    rintro q hq ⟨l, o, hl, ho, hb⟩
    have hq1 := over_mem h.o r ha q hq
    have hne : l ≠ q.1 := by
      intro e
      subst e
      have := apart_dead ha q hq o hl
      subst this
      simp [Obj.own] at ho
    exact hr.apart l q.1 o q.2 hne (live_over ha hl (Obj.live_of_own ho)) hq1 ho (Obj.live_of_own (hown q hq)) hb
  have hblt : ∀ q ∈ r, (κ q.1).blk < w.heap.size := fun q hq => (hr.obj q.1 q.2 (over_mem h.o r ha q hq)).lt (Obj.live_of_own (hown q hq))
  have own2 : ∀ q ∈ r, ¬ Own κ' h'.o (κ q.1).blk := fun q hq => hn.fr.own _ (hblt q hq) (own' q hq)
  have ag : ∀ q ∈ r, κ' q.1 = κ q.1 := fun q hq => hn.ag q.1 (hlt q hq)
  have notOwn : ∀ b, ¬ Own κ (over h.o r) b → ¬ Own κ h.o b := fun b hb ⟨l, o, hl, ho, hbl⟩ => hb ⟨l, o, live_over ha hl (Obj.live_of_own ho), ho, hbl⟩
  refine ⟨⟨fun l o hl => ?_, fun l l' o o' hne hl hl' ho ho' => ?_, fun l o hl => ?_⟩, ⟨hn.fr.os, hn.fr.tape, hn.fr.output, hn.fr.size, fun b hb hb' => hn.fr.keep b hb (notOwn b hb'), fun b hb hb' => ?_⟩, ha'⟩
  · rcases over_look ha' l o hl with ⟨q, hq, rfl, rfl⟩ | ⟨_, h1⟩
    · have hq1 := over_mem h.o r ha q hq
      have h2 := hr.obj q.1 q.2 hq1
      have h3 := hr.sc q.1 q.2 hq1
      rw [over_length] at h3
      rw [ag q hq]
      exact (h2.of_block (hn.fr.keep _ (hblt q hq) (own' q hq))).agree hn.ag h3
    · exact hn.hr.obj l o h1
  · rcases over_look ha' l o hl with ⟨q, hq, rfl, rfl⟩ | ⟨hnq, h1⟩
    · rcases over_look ha' l' o' hl' with ⟨q', hq', rfl, rfl⟩ | ⟨hnq', h1'⟩
      · rw [ag q hq, ag q' hq']
        exact hr.apart q.1 q'.1 q.2 q'.2 hne (over_mem h.o r ha q hq) (over_mem h.o r ha q' hq') ho ho'
      · cases hoo : o'.own with
        | true =>
          intro he
          rw [ag q hq] at he
          exact own2 q hq ⟨l', o', h1', hoo, he.symm⟩
        | false =>
          have h2 := hn.ro l' o' h1' ho' hoo
          have hlt' : l' < h.o.length := (List.getElem?_eq_some_iff.1 h2).1
          rw [ag q hq, hn.ag l' hlt']
          exact hr.apart q.1 l' q.2 o' hne (over_mem h.o r ha q hq) (live_over ha h2 ho') ho ho'
    · rcases over_look ha' l' o' hl' with ⟨q', hq', rfl, rfl⟩ | ⟨hnq', h1'⟩
      · intro he
        rw [ag q' hq'] at he
        exact own2 q' hq' ⟨l, o, h1, ho, he⟩
      · exact hn.hr.apart l l' o o' hne h1 h1' ho ho'
  · rw [over_length]
    rcases over_look ha' l o hl with ⟨q, hq, rfl, rfl⟩ | ⟨_, h1⟩
    · have h3 := hr.sc q.1 q.2 (over_mem h.o r ha q hq)
      rw [over_length] at h3
      exact Obj.sc_mono hlen h3
    · exact hn.hr.sc l o h1
  · rintro ⟨l, o, hl, ho, hbl⟩
    rcases over_look ha' l o hl with ⟨q, hq, rfl, rfl⟩ | ⟨_, h1⟩
    · rw [ag q hq] at hbl
      exact hb' ⟨q.1, q.2, over_mem h.o r ha q hq, ho, hbl⟩
    · exact hn.fr.own b hb (notOwn b hb') ⟨l, o, h1, ho, hbl⟩
end AM

/- AM, part 17c: a region in any order: the order that is gone, and what any other order makes of it (no worlds here). -/
namespace AM
open Go
set_option linter.unusedVariables false
set_option linter.unusedSimpArgs false
set_option linter.unusedSectionVars false

/-! ### What the translation has looked at -/

structure StepOk (aos : List AO) (es : List (List Nat)) (acc : List Row) (q : Row × DO) : Prop where
  o : aos[q.1.i]? = some q.1.o
  ps : ∃ ps, es[q.1.i]? = some ps ∧ (∀ p ∈ ps, ∃ y ∈ acc, y.i = p) ∧ ∀ b, q.1.mask.testBit b = true → b ∈ ps ∨ ∃ p ∈ ps, ∃ y ∈ acc, y.i = p ∧ y.mask.testBit b = true
  ne : ∀ y ∈ acc, y.i ≠ q.1.i
  self : dstHit q.1.o.d q.1.o.looks = false
  new : q.1.o.op.newOk = true
  pair : ∀ y ∈ acc, pairOk y q.1 = true ∧ dstSame y.pl q.1.pl = false
  x : q.2 = doOf q.1 acc
  pl : q.1.pl.isSome = true ↔ q.1.o.op.cls = 3

def GD (aos : List AO) (es : List (List Nat)) : List Row → List (Row × DO) → Prop
  | acc, [] => ∀ j, j < aos.length → ∃ y ∈ acc, y.i = j
  | acc, q :: r => StepOk aos es acc q ∧ GD aos es (q.1 :: acc) r

theorem maskOf_bit : ∀ {acc : List Row} {p b : Nat}, (maskOf acc p).testBit b = true → ∃ y ∈ acc, y.i = p ∧ y.mask.testBit b = true
  | [], p, b, h => by simp [maskOf] at h
  | y :: r, p, b, h => by
    simp only [maskOf] at h
    split at h
    · rename_i hy
      exact ⟨y, List.mem_cons_self .., hy, h⟩
    · obtain ⟨z, hz, h1, h2⟩ := maskOf_bit h
      exact ⟨z, List.mem_cons_of_mem _ hz, h1, h2⟩

theorem foldMask_bit {acc : List Row} {b : Nat} : ∀ {ps : List Nat} {a : Nat}, (ps.foldl (fun a p => a ||| ((1 <<< p) ||| maskOf acc p)) a).testBit b = true → a.testBit b = true ∨ b ∈ ps ∨ ∃ p ∈ ps, (maskOf acc p).testBit b = true
  | [], a, h => .inl h
  | p :: ps, a, h => by
    simp only [List.foldl_cons] at h
    rcases foldMask_bit h with h1 | h1 | ⟨q, hq, h1⟩
    · simp only [Nat.testBit_or, Bool.or_eq_true] at h1
      rcases h1 with h1 | h1 | h1
      · exact .inl h1
      · right; left
        rw [Nat.one_shiftLeft, Nat.testBit_two_pow] at h1
        simp only [decide_eq_true_eq] at h1
        exact h1 ▸ List.mem_cons_self ..
      · exact .inr (.inr ⟨p, List.mem_cons_self .., h1⟩)
    · exact .inr (.inl (List.mem_cons_of_mem _ h1))
    · exact .inr (.inr ⟨q, List.mem_cons_of_mem _ hq, h1⟩)

theorem goD_ok {aos : List AO} {es : List (List Nat)} : ∀ {ord : List Nat} {acc : List Row} {k : Nat} {L : List (Row × DO)}, goD aos es ord acc k = some L → GD aos es acc L
  | [], acc, k, L, h => by
    simp only [goD] at h
    split at h
    · rename_i hc
      simp only [Option.some.injEq] at h; subst h
      intro j hj
      have := List.all_eq_true.1 hc j (List.mem_range.2 hj)
      obtain ⟨y, hy, he⟩ := List.any_eq_true.1 this
      exact ⟨y, hy, by simpa using he⟩
    · cases h
  | i :: ord, acc, k, L, h => by
    simp only [goD] at h
    split at h
    · rename_i o ps ho hps
      split at h
      · rename_i hc
        obtain ⟨c1, c2, c3, c4, c5⟩ := hc
        split at h
        · rename_i l hl
          simp only [Option.some.injEq] at h; subst h
          refine ⟨⟨ho, ⟨ps, hps, fun p hp => ?_, fun b hb => ?_⟩, fun y hy => ?_, c2, c4, fun y hy => ?_, rfl, ?_⟩, goD_ok hl⟩
          · have := List.all_eq_true.1 c3 p hp
            obtain ⟨y, hy, he⟩ := List.any_eq_true.1 this
            exact ⟨y, hy, by simpa using he⟩
          · rcases foldMask_bit hb with h1 | h1 | ⟨p, hp, h1⟩
            · simp at h1
            · exact .inl h1
            · obtain ⟨y, hy, e1, e2⟩ := maskOf_bit h1
              exact .inr ⟨p, hp, y, hy, e1, e2⟩
          · have := List.all_eq_true.1 c1 y hy
            show y.i ≠ i
            simpa using this
          · have := List.all_eq_true.1 c5 y hy
            simp only [Bool.and_eq_true, Bool.not_eq_true'] at this
            exact this
          · show (if o.op.cls = 3 then some k else none).isSome = true ↔ o.op.cls = 3
            split <;> simp_all
        · cases h
      · cases h
    · cases h

section
variable {σ : Type} [Slots σ]
open Slots

structure En (σ : Type) where
  row : Row
  x : DO
  v : V
  k : KD
  S : σ
  H : Heap

def fS (D : Nat → Bool) : List (En σ) → σ → σ
  | [], S => S
  | e :: r, S => fS D r (if D e.row.i = true then putO S e.row.o.d e.v else S)
def fH (D : Nat → Bool) : List (En σ) → Heap → Heap
  | [], H => H
  | e :: r, H => fH D r (if D e.row.i = true then e.k.app H else H)

def Ch (call : CallF) (N m : Nat) : List (En σ) → σ → Heap → Prop
  | [], _, _ => True
  | e :: r, S, H => e.S = S ∧ e.H = H ∧ outD call N m e.x S H = some (e.v, e.k) ∧ Ch call N m r (putO S e.row.o.d e.v) (e.k.app H)

def tt : Nat → Bool := fun _ => true

theorem fS_append (D : Nat → Bool) : ∀ (a b : List (En σ)) (S : σ), fS D (a ++ b) S = fS D b (fS D a S)
  | [], b, S => rfl
  | e :: a, b, S => by simp only [List.cons_append, fS]; exact fS_append D a b _
theorem fH_append (D : Nat → Bool) : ∀ (a b : List (En σ)) (H : Heap), fH D (a ++ b) H = fH D b (fH D a H)
  | [], b, S => rfl
  | e :: a, b, S => by simp only [List.cons_append, fH]; exact fH_append D a b _

theorem Ch_append {call : CallF} {N m : Nat} : ∀ {a b : List (En σ)} {S : σ} {H : Heap}, Ch call N m (a ++ b) S H ↔ Ch call N m a S H ∧ Ch call N m b (fS tt a S) (fH tt a H)
  | [], b, S, H => by simp [Ch, fS, fH]
  | e :: a, b, S, H => by
    simp only [List.cons_append, Ch, fS, fH, tt, if_true]
    rw [Ch_append]
    simp only [and_assoc]

theorem fS_congr {D D' : Nat → Bool} : ∀ {T : List (En σ)} {S : σ}, (∀ e ∈ T, D e.row.i = D' e.row.i) → fS D T S = fS D' T S
  | [], _, _ => rfl
  | e :: T, S, h => by
    simp only [fS]
    rw [h e (List.mem_cons_self ..)]
    exact fS_congr fun e he => h e (List.mem_cons_of_mem _ he)
theorem fH_congr {D D' : Nat → Bool} : ∀ {T : List (En σ)} {H : Heap}, (∀ e ∈ T, D e.row.i = D' e.row.i) → fH D T H = fH D' T H
  | [], _, _ => rfl
  | e :: T, S, h => by
    simp only [fH]
    rw [h e (List.mem_cons_self ..)]
    exact fH_congr fun e he => h e (List.mem_cons_of_mem _ he)

theorem get_putO_ne {S : σ} {d : Option Nat} {v : V} {t : Nat} (h : d ≠ some t) : get (putO S d v) t = get S t := by
  cases d with
  | none => rfl
  | some i =>
    simp only [putO, Slots.law]
    rw [if_neg]
    intro e; exact h (by rw [e])

theorem get_putO_eq {S : σ} {v : V} {t : Nat} : get (putO S (some t) v) t = v := by simp [putO, Slots.law]

/-- Where two orders have put the same into a slot. -/
theorem fS_get {D D' : Nat → Bool} {t : Nat} : ∀ {T : List (En σ)} {S S' : σ}, (∀ e ∈ T, D e.row.i = D' e.row.i ∨ e.row.o.d ≠ some t) → get S t = get S' t → get (fS D T S) t = get (fS D' T S') t
  | [], _, _, _, h => h
  | e :: T, S, S', h, hs => by
    simp only [fS]
    refine fS_get (fun e he => h e (List.mem_cons_of_mem _ he)) ?_
    rcases h e (List.mem_cons_self ..) with h1 | h1
    · rw [h1]
      split
      · cases hd : e.row.o.d with
        | none => exact hs
        | some i =>
          by_cases hi : i = t
          · subst hi; rw [get_putO_eq, get_putO_eq]
          · rw [get_putO_ne (by simpa using hi), get_putO_ne (by simpa using hi)]; exact hs
      · exact hs
    · have g : ∀ (b : Bool) (X : σ), get (if b = true then putO X e.row.o.d e.v else X) t = get X t := by
        intro b X
        split
        · exact get_putO_ne h1
        · rfl
      rw [g, g]; exact hs

theorem fS_miss {D : Nat → Bool} {t : Nat} {T : List (En σ)} {S : σ} (h : ∀ e ∈ T, D e.row.i = true → e.row.o.d ≠ some t) : get (fS D T S) t = get S t := by
  have h0 : ∀ (T : List (En σ)) (S : σ), fS (fun _ => false) T S = S := by
    intro T
    induction T with
    | nil => intro S; rfl
    | cons e T ih => intro S; simp only [fS, Bool.false_eq_true, if_false]; exact ih S
  rw [← h0 T S]
  conv => rhs; rw [← h0 T S]
  rw [h0]
  refine (fS_get (D' := fun _ => false) (S' := S) (fun e he => ?_) rfl).trans (by rw [h0])
  cases hd : D e.row.i with
  | false => exact .inl rfl
  | true => exact .inr (h e he hd)

/-- What lies behind: what was made, where nothing else has turned. -/
def asD (D : Nat → Bool) : List (En σ) → List (Nat × Obj)
  | [] => []
  | e :: r => if D e.row.i = true then (match e.k with
    | .a l o => (l, o) :: asD D r
    | _ => asD D r) else asD D r

theorem fH_over {D : Nat → Bool} : ∀ {T : List (En σ)} {X : Heap}, (∀ e ∈ T, D e.row.i = true → ∀ h', e.k ≠ .c h') → fH D T X = ⟨over X.o (asD D T), X.e, X.d⟩
  | [], X, _ => rfl
  | e :: T, X, h => by
    simp only [fH, asD]
    have ih := fun Y => fH_over (D := D) (T := T) (X := Y) fun e he => h e (List.mem_cons_of_mem _ he)
    split
    · rename_i hd
      cases hk : e.k with
      | q => simp only [KD.app]; exact ih _
      | a l o => simp only [KD.app]; rw [ih]; rfl
      | c h' => exact absurd hk (h e (List.mem_cons_self ..) hd h')
    · exact ih _

theorem asD_mem {D : Nat → Bool} : ∀ {T : List (En σ)} {q : Nat × Obj}, q ∈ asD D T → ∃ e ∈ T, D e.row.i = true ∧ e.k = .a q.1 q.2
  | [], q, h => by cases h
  | e :: T, q, h => by
    simp only [asD] at h
    split at h
    · rename_i hd
      split at h
      · rename_i l o hk
        rcases List.mem_cons.1 h with rfl | h
        · exact ⟨e, List.mem_cons_self .., hd, hk⟩
        · obtain ⟨e', he', h'⟩ := asD_mem h
          exact ⟨e', List.mem_cons_of_mem _ he', h'⟩
      · obtain ⟨e', he', h'⟩ := asD_mem h
        exact ⟨e', List.mem_cons_of_mem _ he', h'⟩
    · obtain ⟨e', he', h'⟩ := asD_mem h
      exact ⟨e', List.mem_cons_of_mem _ he', h'⟩

/-! ### What one operation of the order says -/

theorem outD_facts {call : CallF} {N m : Nat} {x : DO} {S : σ} {h : Heap} {v : V} {k : KD} (ho : outD call N m x S h = some (v, k)) (hpl : x.pl.isSome = true ↔ x.o.op.cls = 3) :
    (wantedA S x.o.g = false ∧ v = undefV ∧ k = .q) ∨
    (wantedA S x.o.g = true ∧ ∃ p f ob, x.pl = some p ∧ newA x.o.op S = some (f, ob) ∧ Obj.only (okL N m x.al) ob = true ∧ v = f (N + p) ∧ k = .a (N + p) ob) ∨
    (wantedA S x.o.g = true ∧ x.pl = none ∧ stepA call x.o.op S h = some (.val v, none) ∧ (m = 0 ∨ V.only (okL N m x.al) v = true) ∧ k = .q) ∨
    (wantedA S x.o.g = true ∧ x.pl = none ∧ ∃ h', stepA call x.o.op S h = some (.val v, some h') ∧ x.o.op.cls = 2 ∧ (m = 0 ∨ (V.only (okL N m x.al) v = true ∧ h'.only N m x.al = true ∧ deadKept N h h' m = true)) ∧ x.rc.all (lookA call S h') = true ∧ k = .c h') := by
  unfold outD at ho
  split at ho
  · rename_i hw
    split at ho
    · rename_i p hp
      split at ho
      · rename_i f ob hn
        split at ho
        · rename_i hob
          simp only [Option.some.injEq, Prod.mk.injEq] at ho
          exact .inr (.inl ⟨hw, p, f, ob, hp, hn, hob, ho.1.symm, ho.2.symm⟩)
        · cases ho
      · cases ho
    · rename_i hp
      split at ho
      · rename_i v' hs
        split at ho
        · rename_i hc
          simp only [Option.some.injEq, Prod.mk.injEq] at ho
          obtain ⟨rfl, rfl⟩ := ho
          exact .inr (.inr (.inl ⟨hw, hp, hs, hc, rfl⟩))
        · cases ho
      · rename_i v' h' hs
        split at ho
        · rename_i hc
          simp only [Option.some.injEq, Prod.mk.injEq] at ho
          obtain ⟨rfl, rfl⟩ := ho
          exact .inr (.inr (.inr ⟨hw, hp, h', hs, hc.1, hc.2.1, hc.2.2, rfl⟩))
        · cases ho
      · cases ho
  · rename_i hw
    simp only [Option.some.injEq, Prod.mk.injEq] at ho
    exact .inl ⟨by simpa using hw, ho.1.symm, ho.2.symm⟩

theorem deadKept_at {N : Nat} {h h' : Heap} : ∀ {m k : Nat}, deadKept N h h' m = true → k < m → h.o[N + k]? = some .dead → h'.o[N + k]? = some .dead
  | 0, k, _, hk, _ => by omega
  | m + 1, k, hd, hk, hh => by
    simp only [deadKept, Bool.and_eq_true, Bool.or_eq_true, Bool.not_eq_true'] at hd
    by_cases hkm : k = m
    · subst hkm
      rcases hd.1 with h1 | h1
      · rw [hh] at h1; simp [isDead] at h1
      · unfold isDead at h1
        split at h1
        · assumption
        · cases h1
    · exact deadKept_at hd.2 (by omega) hh

/-- What was not made yet is dead yet. -/
theorem dead_till {call : CallF} {N m k : Nat} (hk : k < m) : ∀ {T : List (En σ)} {S : σ} {H : Heap}, Ch call N m T S H → (∀ e ∈ T, (e.x.pl.isSome = true ↔ e.x.o.op.cls = 3) ∧ e.x.pl ≠ some k) → H.o[N + k]? = some .dead → (fH tt T H).o[N + k]? = some .dead
  | [], _, _, _, _, h => h
  | e :: T, S, H, hc, hp, h => by
    obtain ⟨_, _, ho, hr⟩ := hc
    simp only [fH, tt, if_true]
    refine dead_till hk hr (fun e he => hp e (List.mem_cons_of_mem _ he)) ?_
    obtain ⟨p1, p2⟩ := hp e (List.mem_cons_self ..)
    rcases outD_facts ho p1 with ⟨_, _, hq⟩ | ⟨_, p, f, ob, hpl, _, _, _, hq⟩ | ⟨_, _, _, _, hq⟩ | ⟨_, _, h', _, _, hm, _, hq⟩
    · rw [hq]; exact h
    · rw [hq]
      simp only [KD.app]
      rw [List.getElem?_set_ne]
      · exact h
      · intro e; exact p2 (by rw [hpl]; congr 1; omega)
    · rw [hq]; exact h
    · rw [hq]
      simp only [KD.app]
      rcases hm with h0 | ⟨_, _, hd⟩
      · omega
      · exact deadKept_at hd hk h

/-- The length does not shrink below the placeholders (needs no more than that sets keep it; changers are looked at by the world's side). -/
theorem execD_trace {call : CallF} {N m : Nat} : ∀ {L : List (Row × DO)} {S : σ} {H : Heap} {S' : σ} {H' : Heap}, (∀ q ∈ L, q.2.o = q.1.o) → execD call N m (L.map (·.2)) S H = some (S', H') →
    ∃ T : List (En σ), T.map (fun e => (e.row, e.x)) = L ∧ Ch call N m T S H ∧ fS tt T S = S' ∧ fH tt T H = H'
  | [], S, H, S', H', _, h => by
    simp only [List.map_nil, execD, Option.some.injEq, Prod.mk.injEq] at h
    exact ⟨[], rfl, trivial, h.1, h.2⟩
  | q :: L, S, H, S', H', hx, h => by
    simp only [List.map_cons, execD] at h
    split at h
    · rename_i v k ho
      obtain ⟨T, e1, e2, e3, e4⟩ := execD_trace (fun q hq => hx q (List.mem_cons_of_mem _ hq)) h
      have hq := hx q (List.mem_cons_self ..)
      rw [hq] at e2 e3
      refine ⟨⟨q.1, q.2, v, k, S, H⟩ :: T, by simp [e1], ⟨rfl, rfl, ho, e2⟩, ?_, ?_⟩
      · simp only [fS, tt, if_true]; exact e3
      · simp only [fH, tt, if_true]; exact e4
    · cases h
end
end AM

/- AM, part 17d: worlds behind operations in any order. -/
namespace AM
open Go
set_option linter.unusedVariables false
set_option linter.unusedSimpArgs false
set_option linter.unusedSectionVars false

mutual
theorem V.only_mono {ok ok' : Nat → Bool} (h : ∀ l, ok l = true → ok' l = true) : ∀ v : V, V.only ok v = true → V.only ok' v = true
  | .ptr .., hv | .slice .., hv | .esl .., hv | .ssl .., hv | .map _, hv | .chan _, hv => h _ hv
  | .fn _ a b, hv => by
    simp only [V.only, Bool.and_eq_true] at hv ⊢
    exact ⟨V.onlys_mono h a hv.1, V.onlys_mono h b hv.2⟩
  | .iface _ v, hv => V.only_mono h v hv
  | .agg cs, hv => V.onlys_mono h cs hv
  | .tuple cs, hv => V.onlys_mono h cs hv
  | .bool _, _ | .int .., _ | .str _, _ | .nilp, _ | .nils, _ | .zsl _, _ | .nilm, _ | .nilc, _ | .nilf, _ | .nili, _ => rfl
theorem V.onlys_mono {ok ok' : Nat → Bool} (h : ∀ l, ok l = true → ok' l = true) : ∀ l : List V, V.onlys ok l = true → V.onlys ok' l = true
  | [], _ => rfl
  | v :: r, hv => by
    simp only [V.onlys, Bool.and_eq_true] at hv ⊢
    exact ⟨V.only_mono h v hv.1, V.onlys_mono h r hv.2⟩
end

mutual
theorem V.only_of_sc {ok : Nat → Bool} {n : Nat} (h : ∀ l, l < n → ok l = true) : ∀ v : V, v.sc n → V.only ok v = true
  | .ptr .., hv | .slice .., hv | .esl .., hv | .ssl .., hv | .map _, hv | .chan _, hv => h _ hv
  | .fn _ a b, hv => by
    simp only [V.only, Bool.and_eq_true]
    exact ⟨V.onlys_of_scs h a hv.1, V.onlys_of_scs h b hv.2⟩
  | .iface _ v, hv => V.only_of_sc h v hv
  | .agg cs, hv => V.onlys_of_scs h cs hv
  | .tuple cs, hv => V.onlys_of_scs h cs hv
  | .bool _, _ | .int .., _ | .str _, _ | .nilp, _ | .nils, _ | .zsl _, _ | .nilm, _ | .nilc, _ | .nilf, _ | .nili, _ => rfl
theorem V.onlys_of_scs {ok : Nat → Bool} {n : Nat} (h : ∀ l, l < n → ok l = true) : ∀ l : List V, V.scs n l → V.onlys ok l = true
  | [], _ => rfl
  | v :: r, hv => by
    simp only [V.onlys, Bool.and_eq_true]
    exact ⟨V.only_of_sc h v hv.1, V.onlys_of_scs h r hv.2⟩
end

mutual
theorem V.real_ap {ok : Nat → Bool} {n : Nat} {κ μ : Map} (h : ∀ l, l < n → ok l = true → μ l = κ l) : ∀ v : V, v.sc n → V.only ok v = true → v.real μ = v.real κ
  | .ptr .., hs, hv | .slice .., hs, hv | .esl .., hs, hv | .ssl .., hs, hv | .map _, hs, hv | .chan _, hs, hv => by simp only [V.real, h _ hs hv]
  | .fn _ a b, hs, hv => by
    simp only [V.only, Bool.and_eq_true] at hv
    simp only [V.real, V.reals_ap h a hs.1 hv.1, V.reals_ap h b hs.2 hv.2]
  | .iface _ v, hs, hv => by simp only [V.real, V.real_ap h v hs hv]
  | .agg cs, hs, hv => by simp only [V.real, V.reals_ap h cs hs hv]
  | .tuple cs, hs, hv => by simp only [V.real, V.reals_ap h cs hs hv]
  | .bool _, _, _ | .int .., _, _ | .str _, _, _ | .nilp, _, _ | .nils, _, _ | .zsl _, _, _ | .nilm, _, _ | .nilc, _, _ | .nilf, _, _ | .nili, _, _ => rfl
theorem V.reals_ap {ok : Nat → Bool} {n : Nat} {κ μ : Map} (h : ∀ l, l < n → ok l = true → μ l = κ l) : ∀ l : List V, V.scs n l → V.onlys ok l = true → V.reals μ l = V.reals κ l
  | [], _, _ => rfl
  | v :: r, hs, hv => by
    simp only [V.onlys, Bool.and_eq_true] at hv
    simp only [V.reals, V.real_ap h v hs.1 hv.1, V.reals_ap h r hs.2 hv.2]
end

theorem V.onlys_iff (ok : Nat → Bool) : ∀ l, V.onlys ok l = true ↔ ∀ v ∈ l, V.only ok v = true
  | [] => by simp [V.onlys]
  | v :: r => by simp [V.onlys, V.onlys_iff ok r]

theorem Obj.only_of_sc {ok : Nat → Bool} {n : Nat} (h : ∀ l, l < n → ok l = true) {o : Obj} (hs : o.sc n) : Obj.only ok o = true := by
  cases o with
  | dead => rfl
  | cells ck t fz cs => exact V.onlys_of_scs h _ hs
  | map es =>
    simp only [Obj.only, List.all_eq_true, Bool.and_eq_true]
    exact fun e he => ⟨V.only_of_sc h _ (hs e he).1, V.only_of_sc h _ (hs e he).2⟩
  | chan c b => exact V.onlys_of_scs h _ hs
  | raw x => rfl

theorem Obj.only_mono {ok ok' : Nat → Bool} (h : ∀ l, ok l = true → ok' l = true) {o : Obj} (hs : Obj.only ok o = true) : Obj.only ok' o = true := by
  cases o with
  | dead => rfl
  | cells ck t fz cs => exact V.onlys_mono h _ hs
  | map es =>
    simp only [Obj.only, List.all_eq_true, Bool.and_eq_true] at hs ⊢
    exact fun e he => ⟨V.only_mono h _ (hs e he).1, V.only_mono h _ (hs e he).2⟩
  | chan c b => exact V.onlys_mono h _ hs
  | raw x => rfl

theorem OR.ap {ok : Nat → Bool} {n : Nat} {κ μ : Map} (ha : ∀ l, l < n → ok l = true → μ l = κ l) {w : World} {p : Place} {o : Obj} (h : OR κ w p o) (hs : o.sc n) (hon : Obj.only ok o = true) : OR μ w p o := by
  cases o with
  | dead => trivial
  | cells ck t fz cs =>
    obtain ⟨a, b, c, d, h1, h2, h3, h4, h5⟩ := h
    refine ⟨a, b, c, d, h1, h2, h3, fun i x hx => ?_, h5⟩
    have hm := List.mem_of_getElem? hx
    rw [V.real_ap ha x ((V.scs_iff n cs).1 hs x hm) ((V.onlys_iff ok cs).1 hon x hm)]
    exact h4 i x hx
  | map es =>
    obtain ⟨a, b, c, h1, hp, h2, h3⟩ := h
    refine ⟨a, b, c, h1, hp, ?_, h3⟩
    rw [h2]
    apply List.map_congr_left
    intro e he
    replace he := hp.mem_iff.1 he
    simp only [Obj.only, List.all_eq_true, Bool.and_eq_true] at hon
    rw [V.real_ap ha e.1 (hs e he).1 (hon e he).1, V.real_ap ha e.2 (hs e he).2 (hon e he).2]
  | chan c b =>
    obtain ⟨x, y, h⟩ := h
    refine ⟨x, y, ?_⟩
    rw [V.reals_ap ha b hs hon]
    exact h
  | raw x => exact h

theorem apart_of {h : List Obj} : ∀ {r : List (Nat × Obj)}, (∀ q ∈ r, h[q.1]? = some .dead) → (r.map (·.1)).Nodup → Apart h r
  | [], _, _ => trivial
  | (l, o) :: r, hd, hn => by
    simp only [List.map_cons, List.nodup_cons, List.mem_map, not_exists, not_and] at hn
    have h1 := hd (l, o) (List.mem_cons_self ..)
    refine ⟨(List.getElem?_eq_some_iff.1 h1).1, fun x hx => ?_, fun q hq e => hn.1 q hq e, apart_of (fun q hq => hd q (List.mem_cons_of_mem _ hq)) hn.2⟩
    rw [h1] at hx
    simp only [Option.some.injEq] at hx
    exact hx.symm

/-- A step over a heap of which less is known, from the beginning on. -/
theorem beside_nx {ι κ κ' : Map} {hx g g' : Heap} {w0 w w' : World} {r : List (Nat × Obj)} (ha : Apart g.o r) (hown : ∀ q ∈ r, q.2.own = true) (hbase : ∀ q ∈ r, hx.o.length ≤ q.1)
    (hn : Nx ι hx w0 κ ⟨over g.o r, g.e, g.d⟩ w) (hs : Nx κ g w κ' g' w') (hd : ∀ q ∈ r, ∀ x, g'.o[q.1]? = some x → x = .dead) : Nx ι hx w0 κ' ⟨over g'.o r, g'.e, g'.d⟩ w' := by
  obtain ⟨h1, h2, h3⟩ := beside ha hown hn.hr hs hd
  have hlen : hx.o.length ≤ g.o.length := by have := hn.len; simpa [over_length] using this
  have low : ∀ l, l < hx.o.length → ∀ q ∈ r, q.1 ≠ l := fun l hl q hq e => by have := hbase q hq; omega
  refine ⟨h1, hn.ag.trans hs.ag hlen, ?_, hn.fr.trans h2, fun l n hl he h0 o ho => ?_, ⟨Nat.le_trans hs.ed.1 hn.ed.1, Nat.le_trans hs.ed.2 hn.ed.2⟩, fun l hl hd' => ?_, fun l o ho hl ho' => ?_⟩
  · simp only [over_length]; exact Nat.le_trans hlen hs.len
  · simp only [over_get g'.o r l (low l hl)] at ho
    refine hs.cl l n (by omega) he (fun o' ho' => ?_) o ho
    exact hn.cl l n hl (Nat.lt_of_lt_of_le he hs.ed.1) h0 o' (by simp only [over_get g.o r l (low l hl)]; exact ho')
  · simp only [over_get g'.o r l (low l hl)]
    have a1 := hs.un l (by omega) hd'
    have a2 := hn.un l hl (Nat.lt_of_lt_of_le hd' hs.ed.2)
    simp only [over_get g.o r l (low l hl)] at a2
    exact a1.trans a2
  · simp only at ho
    rcases over_look h3 l o ho with ⟨q, hq, rfl, rfl⟩ | ⟨_, h4⟩
    · rw [hown q hq] at ho'; cases ho'
    · exact hn.ro l o (live_over ha (hs.ro l o h4 hl ho') hl) hl ho'

/-- What was made at the end is put where it was to be. -/
theorem place_nx {ι κ κ' : Map} {hx H : Heap} {w0 w w' : World} {p : Nat} {ob : Obj} (hn : Nx ι hx w0 κ H w) (hp : H.o[p]? = some .dead) (hpN : hx.o.length ≤ p) {ok : Nat → Bool} (hok : ∀ l, l ≠ p → ok l = true → True) (hokp : ok p = false)
    (honly : ∀ (l : Nat) (o : Obj), H.o[l]? = some o → Obj.only ok o = true) (hob : Obj.only ok ob = true) (hobs : ob.sc H.o.length) (hown : ob.own = true) (hk : Nx κ H w κ' (H.new ob) w') :
    Nx ι hx w0 (κ'.upd p (κ' H.o.length)) ⟨H.o.set p ob, H.e, H.d⟩ w' := by
  have hpl : p < H.o.length := (List.getElem?_eq_some_iff.1 hp).1
  have hag : ∀ l, ok l = true → (κ'.upd p (κ' H.o.length)) l = κ' l := by
    intro l hl
    unfold Map.upd
    rw [if_neg]
    intro e; subst e; rw [hokp] at hl; cases hl
  have hne : ∀ l, l ≠ p → (κ'.upd p (κ' H.o.length)) l = κ' l := fun l hl => by unfold Map.upd; rw [if_neg hl]
  have look : ∀ (k : Nat) (x : Obj), (H.o.set p ob)[k]? = some x → (k = p ∧ x = ob) ∨ (k ≠ p ∧ H.o[k]? = some x) := by
    intro k x hx
    rw [List.getElem?_set] at hx
    split at hx
    · rename_i hk
      subst hk
      simp only [Option.some.injEq] at hx
      exact .inl ⟨rfl, hx.symm⟩
    · rename_i hk
      exact .inr ⟨fun e => hk e.symm, hx⟩
  have newAt : (H.new ob).o[H.o.length]? = some ob := by simp [Heap.new]
  have oldAt : ∀ (k : Nat) (x : Obj), H.o[k]? = some x → (H.new ob).o[k]? = some x := by
    intro k x hx
    simp only [Heap.new]
    rw [List.getElem?_append_left (List.getElem?_eq_some_iff.1 hx).1]
    exact hx
  have ltl : ∀ (k : Nat) (x : Obj), H.o[k]? = some x → k < H.o.length := fun k x hx => (List.getElem?_eq_some_iff.1 hx).1
  have owns : ∀ b, Own (κ'.upd p (κ' H.o.length)) (H.o.set p ob) b → Own κ' (H.new ob).o b := by
    rintro b ⟨l, o, hl, ho, hb⟩
    rcases look l o hl with ⟨rfl, rfl⟩ | ⟨hlp, hl'⟩
    · exact ⟨H.o.length, o, newAt, ho, by rw [Map.upd_same] at hb; exact hb⟩
    · exact ⟨l, o, oldAt l o hl', ho, by rw [hne l hlp] at hb; exact hb⟩
  refine ⟨⟨fun l o hl => ?_, fun l l' o o' hll hl hl' ho ho' => ?_, fun l o hl => ?_⟩, fun l hl => ?_, ?_, ⟨hk.fr.os.trans hn.fr.os, hk.fr.tape.trans hn.fr.tape, hk.fr.output.trans hn.fr.output, Nat.le_trans hn.fr.size hk.fr.size, fun b hb hb' => ?_, fun b hb hb' hc => ?_⟩, fun l n hl he h0 o ho => ?_, hn.ed, fun l hl hd => ?_, fun l o hl h1 h2 => ?_⟩
  · rcases look l o hl with ⟨rfl, rfl⟩ | ⟨hlp, hl'⟩
    · rw [Map.upd_same]
      exact (hk.hr.obj _ _ newAt).ap (fun l _ h => hag l h) hobs hob
    · rw [hne l hlp]
      exact (hk.hr.obj _ _ (oldAt l o hl')).ap (fun l _ h => hag l h) (hn.hr.sc l o hl') (honly l o hl')
  · rcases look l o hl with ⟨rfl, rfl⟩ | ⟨hlp, h2⟩ <;> rcases look l' o' hl' with ⟨rfl, rfl⟩ | ⟨hlp', h2'⟩
    · exact absurd rfl hll
    · rw [Map.upd_same, hne l' hlp']
      exact hk.hr.apart _ _ _ _ (by have := ltl l' o' h2'; omega) newAt (oldAt l' o' h2') ho ho'
    · rw [Map.upd_same, hne l hlp]
      exact hk.hr.apart _ _ _ _ (by have := ltl l o h2; omega) (oldAt l o h2) newAt ho ho'
    · rw [hne l hlp, hne l' hlp']
      exact hk.hr.apart _ _ _ _ hll (oldAt l o h2) (oldAt l' o' h2') ho ho'
  · simp only [List.length_set]
    rcases look l o hl with ⟨rfl, rfl⟩ | ⟨hlp, hl'⟩
    · exact hobs
    · exact hn.hr.sc l o hl'
  · rw [hne l (by omega), hk.ag l (by omega), hn.ag l hl]
  · simp only [List.length_set]; exact hn.len
  · exact (hk.fr.keep b (Nat.lt_of_lt_of_le hb hn.fr.size) (hn.fr.own b hb hb')).trans (hn.fr.keep b hb hb')
  · exact hk.fr.own b (Nat.lt_of_lt_of_le hb hn.fr.size) (hn.fr.own b hb hb') (owns b hc)
  · rcases look l o ho with ⟨rfl, rfl⟩ | ⟨hlp, hl'⟩
    · omega
    · exact hn.cl l n hl he h0 o hl'
  · simp only at hd ⊢
    rw [List.getElem?_set_ne (by omega)]
    exact hn.un l hl hd
  · rcases look l o hl with ⟨rfl, rfl⟩ | ⟨hlp, hl'⟩
    · rw [hown] at h2; cases h2
    · exact hn.ro l o hl' h1 h2

section
variable {P : Program} {σ : Type} [Slots σ]
open Slots

theorem place_sr {κ' : Map} {S : σ} {N n p : Nat} {tmps : Array Value} {d : Option Nat} {v v' : V} {ok : Nat → Bool} (hokp : ok p = false) (hs : SR κ' (putO S d v) n tmps (N + 1)) (hsc : ∀ t, (get S t).sc N) (hon : ∀ t, V.only ok (get S t) = true)
    (hv : v.real κ' = v'.real (κ'.upd p (κ' N))) (hv' : v'.sc N) : SR (κ'.upd p (κ' N)) (putO S d v') n tmps N := by
  have hag : ∀ l, l < N → ok l = true → (κ'.upd p (κ' N)) l = κ' l := by
    intro l _ hl
    unfold Map.upd
    rw [if_neg]
    intro e; subst e; rw [hokp] at hl; cases hl
  refine ⟨hs.size, fun i => ?_, fun i => ?_⟩
  · rw [hs.val i]
    by_cases hd : d = some i
    · subst hd; rw [get_putO_eq, get_putO_eq]; exact hv
    · rw [get_putO_ne hd, get_putO_ne hd]
      exact (V.real_ap hag _ (hsc i) (hon i)).symm
  · by_cases hd : d = some i
    · subst hd; rw [get_putO_eq]; exact hv'
    · rw [get_putO_ne hd]; exact hsc i

theorem SR.congr {κ : Map} {S S' : σ} {n N : Nat} {tmps : Array Value} (h : SR κ S n tmps N) (he : ∀ t, get S t = get S' t) : SR κ S' n tmps N :=
  ⟨h.size, fun i => by rw [← he i]; exact h.val i, fun i => by rw [← he i]; exact h.sc i⟩

theorem kpl_sc {S : σ} {M : Nat} (hs : ∀ i, (get S i).sc M) {x : Opd} (hx : x.kpl = true) : (x.ev S).sc M := by
  cases x with
  | t i => exact hs i
  | k v => exact V.sc_of_plain _ _ hx
  | f n => exact ⟨trivial, trivial⟩

theorem fillA_sc {M : Nat} : ∀ {ps : List (Nat × Nat × V)} {cs out : List V}, fillA cs ps = some out → V.scs M cs → (∀ p ∈ ps, p.2.2.sc M) → V.scs M out
  | [], cs, out, hf, hc, _ => by simp only [fillA, Option.some.injEq] at hf; subst hf; exact hc
  | (off, n, v) :: ps, cs, out, hf, hc, hp => by
    simp only [fillA] at hf
    split at hf
    · exact fillA_sc hf (splice_sc hc (V.cells_sc _ _ (hp _ (List.mem_cons_self ..)))) fun p hp' => hp p (List.mem_cons_of_mem _ hp')
    · cases hf

theorem newA_sc {op : AOp} {S : σ} {f : Nat → V} {ob : Obj} {M : Nat} (hn : newA op S = some (f, ob)) (hok : op.newOk = true) (hs : ∀ i, (get S i).sc M) : ob.sc M ∧ ∀ l, l < M → (f l).sc M := by
  cases op with
  | alloc t z =>
    simp only [newA, Option.some.injEq, Prod.mk.injEq] at hn
    obtain ⟨rfl, rfl⟩ := hn
    exact ⟨V.scs_of_plains _ _ hok, fun l hl => hl⟩
  | box t x =>
    simp only [newA, Option.some.injEq, Prod.mk.injEq] at hn
    obtain ⟨rfl, rfl⟩ := hn
    exact ⟨V.cells_sc _ _ (kpl_sc hs hok), fun l hl => hl⟩
  | mkMap =>
    simp only [newA, Option.some.injEq, Prod.mk.injEq] at hn
    obtain ⟨rfl, rfl⟩ := hn
    exact ⟨(fun e he => absurd he (by simp)), fun l hl => hl⟩
  | mkChan n =>
    simp only [newA, Option.some.injEq, Prod.mk.injEq] at hn
    obtain ⟨rfl, rfl⟩ := hn
    exact ⟨trivial, fun l hl => hl⟩
  | bslice t e z ps =>
    simp only [newA, Option.map_eq_some_iff, Prod.mk.injEq] at hn
    obtain ⟨cs, hcs, rfl, rfl⟩ := hn
    simp only [AOp.newOk, Bool.and_eq_true, List.all_eq_true] at hok
    refine ⟨fillA_sc hcs (V.scs_of_plains _ _ hok.1) fun p hp => ?_, fun l hl => hl⟩
    obtain ⟨q, hq, rfl⟩ := List.mem_map.1 hp
    exact kpl_sc hs (hok.2 q hq)
  | mkSlice t e b z l c =>
    simp only [newA] at hn
    split at hn
    · split at hn
      · simp only [Option.some.injEq, Prod.mk.injEq] at hn
        obtain ⟨rfl, rfl⟩ := hn
        exact ⟨V.scs_of_plains _ _ (reps_plains z hok _), fun l hl => hl⟩
      · cases hn
    · cases hn
  | _ => simp [newA] at hn
end
end AM

/- AM, part 17e: any order does what the order does that is gone. -/
namespace AM
open Go
set_option linter.unusedVariables false
set_option linter.unusedSimpArgs false
set_option linter.unusedSectionVars false

theorem cls_le (op : AOp) : op.cls = 0 ∨ op.cls = 1 ∨ op.cls = 2 ∨ op.cls = 3 := by
  cases op <;> simp [AOp.cls]

theorem dstHit_false {d : Option Nat} {l : List Nat} (h : dstHit d l = false) : ∀ t ∈ l, d ≠ some t := by
  intro t ht e
  subst e
  simp only [dstHit] at h
  rw [← Bool.not_eq_true] at h
  exact h (by simpa using ht)
theorem dstSame_false {d e : Option Nat} (h : dstSame d e = false) : ∀ t, d = some t → e ≠ some t := by
  intro t h1 h2
  subst h1; subst h2
  simp [dstSame] at h

theorem pairOk_facts {y x : Row} (h : pairOk y x = true) : dstSame y.o.d x.o.d = false ∧ ((y.o.op.cls = 1 ∨ y.o.op.cls = 2) → dstHit x.o.d y.o.looks = false) ∧
    (x.mask.testBit y.i = true ∨ (dstHit y.o.d x.o.looks = false ∧ dstHit x.o.d y.o.looks = false ∧ ((x.o.op.cls = 1 ∨ x.o.op.cls = 2) → y.o.op.cls ≠ 2 ∧ y.o.op.cls ≠ 3))) := by
  unfold pairOk at h
  simp only [Bool.and_eq_true, Bool.not_eq_true', Bool.or_eq_true, Bool.and_eq_false_iff, Bool.or_eq_false_iff, beq_eq_false_iff_ne, ne_eq] at h
  obtain ⟨⟨h1, h2⟩, h3⟩ := h
  refine ⟨h1, fun hc => ?_, ?_⟩
  · rcases h2 with ⟨a, b⟩ | h2
    · rcases hc with hc | hc
      · exact absurd hc a
      · exact absurd hc b
    · exact h2
  · rcases h3 with h3 | ⟨⟨a, b⟩, c⟩
    · exact .inl h3
    · refine .inr ⟨a, b, fun hc => ?_⟩
      rcases c with ⟨c1, c2⟩ | ⟨c1, c2⟩
      · rcases hc with hc | hc
        · exact absurd hc c1
        · exact absurd hc c2
      · exact ⟨c1, c2⟩

theorem GD_split {aos : List AO} {es : List (List Nat)} {q : Row × DO} {L2 : List (Row × DO)} : ∀ {L1 : List (Row × DO)} {acc : List Row}, GD aos es acc (L1 ++ q :: L2) → StepOk aos es ((L1.map (·.1)).reverse ++ acc) q
  | [], acc, h => h.1
  | y :: L1, acc, h => by
    have := GD_split h.2
    simpa using this

theorem GD_cover {aos : List AO} {es : List (List Nat)} : ∀ {L : List (Row × DO)} {acc : List Row}, GD aos es acc L → ∀ j, j < aos.length → (∃ y ∈ acc, y.i = j) ∨ ∃ q ∈ L, q.1.i = j
  | [], acc, h, j, hj => .inl (h j hj)
  | q :: L, acc, h, j, hj => by
    rcases GD_cover h.2 j hj with ⟨y, hy, he⟩ | ⟨q', hq', he⟩
    · rcases List.mem_cons.1 hy with rfl | hy
      · exact .inr ⟨q, List.mem_cons_self .., he⟩
      · exact .inl ⟨y, hy, he⟩
    · exact .inr ⟨q', List.mem_cons_of_mem _ hq', he⟩

mutual
theorem V.beq_eq : ∀ a b : V, V.beq a b = true → a = b
  | .bool a, b, h => by cases b <;> simp [V.beq] at h; rw [h]
  | .int k a, b, h => by cases b <;> simp [V.beq] at h; rw [h.1, h.2]
  | .str a, b, h => by cases b <;> simp [V.beq] at h; rw [h]
  | .ptr a c, b, h => by cases b <;> simp [V.beq] at h; rw [h.1, h.2]
  | .nilp, b, h => by cases b <;> simp [V.beq] at h; rfl
  | .slice a c d e, b, h => by cases b <;> simp [V.beq] at h; obtain ⟨⟨⟨rfl, rfl⟩, rfl⟩, rfl⟩ := h; rfl
  | .nils, b, h => by cases b <;> simp [V.beq] at h; rfl
  | .ssl a c d e f, b, h => by cases b <;> simp [V.beq] at h
  | .esl a c d e, b, h => by cases b <;> simp [V.beq] at h; obtain ⟨⟨⟨rfl, rfl⟩, rfl⟩, rfl⟩ := h; rfl
  | .zsl a, b, h => by
    cases b <;> simp [V.beq] at h
    rw [h]
  | .map a, b, h => by cases b <;> simp [V.beq] at h; rw [h]
  | .nilm, b, h => by cases b <;> simp [V.beq] at h; rfl
  | .chan a, b, h => by cases b <;> simp [V.beq] at h; rw [h]
  | .nilc, b, h => by cases b <;> simp [V.beq] at h; rfl
  | .nilf, b, h => by cases b <;> simp [V.beq] at h; rfl
  | .nili, b, h => by cases b <;> simp [V.beq] at h; rfl
  | .agg a, b, h => by
    cases b with
    | agg c => simp only [V.beq] at h; rw [V.beqs_eq a c h]
    | _ => simp [V.beq] at h
  | .tuple a, b, h => by
    cases b with
    | tuple c => simp only [V.beq] at h; rw [V.beqs_eq a c h]
    | _ => simp [V.beq] at h
  | .iface t a, b, h => by
    cases b with
    | iface u c =>
      simp only [V.beq, Bool.and_eq_true, decide_eq_true_eq] at h
      rw [V.beq_eq a c h.2, h.1]
    | _ => simp [V.beq] at h
  | .fn f x y, b, h => by
    cases b with
    | fn g x' y' =>
      simp only [V.beq, Bool.and_eq_true, decide_eq_true_eq] at h
      rw [V.beqs_eq x x' h.1.2, V.beqs_eq y y' h.2, h.1.1]
    | _ => simp [V.beq] at h
theorem V.beqs_eq : ∀ a b : List V, V.beqs a b = true → a = b
  | [], b, h => by cases b <;> simp [V.beqs] at h; rfl
  | x :: xs, b, h => by
    cases b with
    | nil => simp [V.beqs] at h
    | cons y ys =>
      simp only [V.beqs, Bool.and_eq_true] at h
      rw [V.beq_eq x y h.1, V.beqs_eq xs ys h.2]
end

section
variable {P : Program} {σ : Type} [Slots σ]
open Slots

theorem fH_skip {D D' : Nat → Bool} : ∀ {T : List (En σ)} {H : Heap}, (∀ e ∈ T, D e.row.i = D' e.row.i ∨ e.k = .q) → fH D T H = fH D' T H
  | [], _, _ => rfl
  | e :: T, H, h => by
    simp only [fH]
    have hh : (if D e.row.i = true then e.k.app H else H) = (if D' e.row.i = true then e.k.app H else H) := by
      rcases h e (List.mem_cons_self ..) with h1 | h1
      · rw [h1]
      · rw [h1]; simp [KD.app]
    rw [hh]
    exact fH_skip fun e he => h e (List.mem_cons_of_mem _ he)

theorem last_c (D : Nat → Bool) : ∀ (T : List (En σ)), (∀ e ∈ T, D e.row.i = true → ∀ h', e.k ≠ .c h') ∨ ∃ p1 y p2 h', T = p1 ++ y :: p2 ∧ D y.row.i = true ∧ y.k = .c h' ∧ ∀ e ∈ p2, D e.row.i = true → ∀ h', e.k ≠ .c h'
  | [] => .inl (fun e he => absurd he (by simp))
  | e :: T => by
    rcases last_c D T with h | ⟨p1, y, p2, h', rfl, h1, h2, h3⟩
    · by_cases hd : D e.row.i = true
      · by_cases hk : ∃ h', e.k = .c h'
        · obtain ⟨h', hk⟩ := hk
          exact .inr ⟨[], e, T, h', rfl, hd, hk, h⟩
        · refine .inl (fun e' he' hd' h' => ?_)
          rcases List.mem_cons.1 he' with rfl | he'
          · exact fun hc => hk ⟨h', hc⟩
          · exact h e' he' hd' h'
      · refine .inl (fun e' he' hd' h' => ?_)
        rcases List.mem_cons.1 he' with rfl | he'
        · exact absurd hd' hd
        · exact h e' he' hd' h'
    · exact .inr ⟨e :: p1, y, p2, h', rfl, h1, h2, h3⟩

theorem Ch_mem {call : CallF} {N m : Nat} {T : List (En σ)} {S : σ} {H : Heap} {pre post : List (En σ)} {e : En σ} (h : Ch call N m T S H) (hT : T = pre ++ e :: post) : e.S = fS tt pre S ∧ e.H = fH tt pre H ∧ outD call N m e.x e.S e.H = some (e.v, e.k) := by
  subst hT
  obtain ⟨_, h1, h2, h3, _⟩ := Ch_append.1 h
  exact ⟨h1, h2, by rw [h1, h2]; exact h3⟩

/-- All that is known of a region. -/
structure Rg (P : Program) (call : CallF) (n : Nat) (ops : Array Oper) (aos : List AO) (T : List (En σ)) (S0 : σ) (hx : Heap) (m : Nat) : Prop where
  tr : trOpers P n ops ops.toList = some aos
  gd : GD aos (ops.toList.map depsOf) [] (T.map fun e => (e.row, e.x))
  ch : Ch call hx.o.length m T S0 ⟨hx.o ++ List.replicate m .dead, hx.e, hx.d⟩
  plm : ∀ e ∈ T, ∀ k, e.row.pl = some k → k < m
  he : m ≠ 0 → hx.o.length ≤ hx.e
  s0 : ∀ t, (get S0 t).sc hx.o.length

def Rg.H0 (hx : Heap) (m : Nat) : Heap := ⟨hx.o ++ List.replicate m .dead, hx.e, hx.d⟩

variable {call : CallF} {n : Nat} {ops : Array Oper} {aos : List AO} {T : List (En σ)} {S0 : σ} {hx : Heap} {m : Nat}

theorem Rg.step (R : Rg P call n ops aos T S0 hx m) {pre post : List (En σ)} {e : En σ} (hT : T = pre ++ e :: post) : StepOk aos (ops.toList.map depsOf) (pre.map (·.row)).reverse (e.row, e.x) := by
  have h := R.gd
  rw [hT] at h
  simp only [List.map_append, List.map_cons] at h
  have := GD_split h
  simpa [List.map_map, Function.comp_def] using this

theorem Rg.xo (R : Rg P call n ops aos T S0 hx m) {pre post : List (En σ)} {e : En σ} (hT : T = pre ++ e :: post) : e.x.o = e.row.o ∧ e.x.pl = e.row.pl ∧ (e.x.pl.isSome = true ↔ e.x.o.op.cls = 3) := by
  have h := R.step hT
  have hx := h.x
  simp only at hx
  rw [hx]
  exact ⟨rfl, rfl, h.pl⟩

/-- Of two operations, the one ahead of the other. -/
theorem Rg.two (R : Rg P call n ops aos T S0 hx m) {pre post : List (En σ)} {e y : En σ} (hT : T = pre ++ e :: post) (hy : y ∈ pre) : pairOk y.row e.row = true ∧ dstSame y.row.pl e.row.pl = false ∧ y.row.i ≠ e.row.i := by
  have h := R.step hT
  have hm : y.row ∈ (pre.map (·.row)).reverse := List.mem_reverse.2 (List.mem_map_of_mem hy)
  exact ⟨(h.pair _ hm).1, (h.pair _ hm).2, h.ne _ hm⟩

theorem Rg.two' (R : Rg P call n ops aos T S0 hx m) {pre post : List (En σ)} {e y : En σ} (hT : T = pre ++ e :: post) (hy : y ∈ post) : pairOk e.row y.row = true ∧ dstSame e.row.pl y.row.pl = false ∧ e.row.i ≠ y.row.i := by
  obtain ⟨p1, p2, rfl⟩ := List.append_of_mem hy
  refine R.two (pre := pre ++ e :: p1) (post := p2) (by rw [hT]; simp) ?_
  simp

theorem Rg.out (R : Rg P call n ops aos T S0 hx m) {pre post : List (En σ)} {e : En σ} (hT : T = pre ++ e :: post) : e.S = fS tt pre S0 ∧ e.H = fH tt pre (Rg.H0 hx m) ∧ outD call hx.o.length m e.x e.S e.H = some (e.v, e.k) := Ch_mem R.ch hT

theorem Rg.mem (R : Rg P call n ops aos T S0 hx m) {e : En σ} (he : e ∈ T) : ∃ pre post, T = pre ++ e :: post := List.append_of_mem he

theorem Rg.kq (R : Rg P call n ops aos T S0 hx m) {e : En σ} (he : e ∈ T) (hc : e.row.o.op.cls ≠ 2) (hc' : e.row.o.op.cls ≠ 3) : e.k = .q := by
  obtain ⟨pre, post, hT⟩ := R.mem he
  obtain ⟨h1, h2, h3⟩ := R.out hT
  obtain ⟨x1, x2, x3⟩ := R.xo hT
  rcases outD_facts h3 x3 with ⟨_, _, hq⟩ | ⟨_, p, f, ob, hpl, _⟩ | ⟨_, _, _, _, hq⟩ | ⟨_, _, h', _, h2, _⟩
  · exact hq
  · rw [x1] at x3; exact absurd (x3.1 (by rw [hpl]; rfl)) hc'
  · exact hq
  · rw [x1] at h2; exact absurd h2 hc

theorem Rg.kc (R : Rg P call n ops aos T S0 hx m) {e : En σ} (he : e ∈ T) {h' : Heap} (hk : e.k = .c h') : e.row.o.op.cls = 2 := by
  obtain ⟨pre, post, hT⟩ := R.mem he
  obtain ⟨h1, h2, h3⟩ := R.out hT
  obtain ⟨x1, x2, x3⟩ := R.xo hT
  rcases outD_facts h3 x3 with ⟨_, _, hq⟩ | ⟨_, p, f, ob, hpl, _, _, _, hq⟩ | ⟨_, _, _, _, hq⟩ | ⟨_, _, h', _, h2, _⟩
  · rw [hq] at hk; cases hk
  · rw [hq] at hk; cases hk
  · rw [hq] at hk; cases hk
  · rw [x1] at h2; exact h2

theorem Rg.ka (R : Rg P call n ops aos T S0 hx m) {e : En σ} (he : e ∈ T) {l : Nat} {o : Obj} (hk : e.k = .a l o) : ∃ p, e.row.pl = some p ∧ p < m ∧ l = hx.o.length + p ∧ o.own = true := by
  obtain ⟨pre, post, hT⟩ := R.mem he
  obtain ⟨h1, h2, h3⟩ := R.out hT
  obtain ⟨x1, x2, x3⟩ := R.xo hT
  rcases outD_facts h3 x3 with ⟨_, _, hq⟩ | ⟨_, p, f, ob, hpl, hn, _, _, hq⟩ | ⟨_, _, _, _, hq⟩ | ⟨_, _, h', _, _, _, _, hq⟩
  · rw [hq] at hk; cases hk
  · rw [hq] at hk
    cases hk
    rw [x2] at hpl
    exact ⟨p, hpl, R.plm e he p hpl, rfl, newA_own hn⟩
  · rw [hq] at hk; cases hk
  · rw [hq] at hk; cases hk

/-- What was listed is closed. -/
def Closed (T : List (En σ)) (D : Nat → Bool) : Prop := ∀ e ∈ T, D e.row.i = true → ∀ b, e.row.mask.testBit b = true → D b = true

section
variable (R : Rg P call n ops aos T S0 hx m) {D : Nat → Bool} (hD : Closed T D) {pre post : List (En σ)} {e : En σ} (hT : T = pre ++ e :: post) (hn : D e.row.i = false) (hm : ∀ b, e.row.mask.testBit b = true → D b = true)
include R hD hT hn hm

theorem Rg.preN {y : En σ} (hy : y ∈ pre) (hd : D y.row.i = false) : dstHit y.row.o.d e.row.o.looks = false ∧ ((e.row.o.op.cls = 1 ∨ e.row.o.op.cls = 2) → y.row.o.op.cls ≠ 2 ∧ y.row.o.op.cls ≠ 3) := by
  obtain ⟨_, _, h⟩ := pairOk_facts (R.two hT hy).1
  rcases h with h | ⟨h1, _, h3⟩
  · rw [hm _ h] at hd; cases hd
  · exact ⟨h1, h3⟩

theorem Rg.postN {y : En σ} (hy : y ∈ post) (hd : D y.row.i = true) : dstHit y.row.o.d e.row.o.looks = false ∧ e.row.mask.testBit y.row.i = e.row.mask.testBit y.row.i ∧ y.row.mask.testBit e.row.i = false ∧ ((y.row.o.op.cls = 1 ∨ y.row.o.op.cls = 2) → e.row.o.op.cls ≠ 2 ∧ e.row.o.op.cls ≠ 3) := by
  have hyT : y ∈ T := by rw [hT]; simp [hy]
  obtain ⟨_, _, h⟩ := pairOk_facts (R.two' hT hy).1
  have hb : y.row.mask.testBit e.row.i = false := by
    cases hb : y.row.mask.testBit e.row.i with
    | false => rfl
    | true => rw [hD y hyT hd _ hb] at hn; cases hn
  rcases h with h | ⟨_, h2, h3⟩
  · rw [h] at hb; cases hb
  · exact ⟨h2, rfl, hb, h3⟩

theorem Rg.looks : SameAt e.row.o.looks (fS D T S0) e.S := by
  intro t ht
  rw [(R.out hT).1, hT, fS_append]
  simp only [fS, hn, Bool.false_eq_true, if_false]
  rw [fS_miss (T := post) (fun y hy hd => dstHit_false (R.postN hD hT hn hm hy hd).1 t ht)]
  refine fS_get (fun y hy => ?_) rfl
  cases hd : D y.row.i with
  | true => exact .inl rfl
  | false => exact .inr (dstHit_false (R.preN hD hT hn hm hy hd).1 t ht)

theorem Rg.preH (hc : e.row.o.op.cls = 1 ∨ e.row.o.op.cls = 2) : fH D pre (Rg.H0 hx m) = e.H := by
  rw [(R.out hT).2.1]
  refine fH_skip fun y hy => ?_
  cases hd : D y.row.i with
  | true => exact .inl rfl
  | false =>
    obtain ⟨h1, h2⟩ := (R.preN hD hT hn hm hy hd).2 hc
    exact .inr (R.kq (by rw [hT]; simp [hy]) h1 h2)

theorem Rg.postC (hc : e.row.o.op.cls = 2 ∨ e.row.o.op.cls = 3) : ∀ y ∈ post, D y.row.i = true → ∀ h', y.k ≠ .c h' := by
  intro y hy hd h' hk
  have hyT : y ∈ T := by rw [hT]; simp [hy]
  have h2 := R.kc hyT hk
  obtain ⟨h3, h4⟩ := (R.postN hD hT hn hm hy hd).2.2.2 (.inr h2)
  rcases hc with hc | hc
  · exact h3 hc
  · exact h4 hc
end

theorem H0_dead {k : Nat} (hk : k < m) : (Rg.H0 hx m).o[hx.o.length + k]? = some .dead := by
  simp only [Rg.H0]
  rw [List.getElem?_append_right (by omega), List.getElem?_replicate, if_pos (by omega)]

/-- Behind a part of the order what is made later is dead. -/
theorem Rg.dead (R : Rg P call n ops aos T S0 hx m) {pre post : List (En σ)} (hT : T = pre ++ post) {y : En σ} (hy : y ∈ post) {p : Nat} (hp : y.row.pl = some p) : (fH tt pre (Rg.H0 hx m)).o[hx.o.length + p]? = some .dead := by
  have hyT : y ∈ T := by rw [hT]; simp [hy]
  have hpm := R.plm y hyT p hp
  have hc := R.ch
  rw [hT] at hc
  refine dead_till (call := call) hpm (Ch_append.1 hc).1 (fun e he => ?_) (H0_dead hpm)
  obtain ⟨a, b, rfl⟩ := List.append_of_mem he
  have hT' : T = a ++ e :: (b ++ post) := by rw [hT]; simp
  obtain ⟨x1, x2, x3⟩ := R.xo hT'
  refine ⟨x3, fun h => ?_⟩
  rw [x2] at h
  exact dstSame_false (R.two' hT' (List.mem_append_right _ hy)).2.1 p h hp

theorem Rg.asDead (R : Rg P call n ops aos T S0 hx m) (D : Nat → Bool) {pre post : List (En σ)} (hT : T = pre ++ post) : ∀ q ∈ asD D post, (fH tt pre (Rg.H0 hx m)).o[q.1]? = some .dead := by
  intro q hq
  obtain ⟨y, hy, _, hk⟩ := asD_mem hq
  obtain ⟨p, h1, _, h3, _⟩ := R.ka (by rw [hT]; simp [hy]) hk
  rw [h3]
  exact R.dead hT hy h1

theorem Rg.asOwn (R : Rg P call n ops aos T S0 hx m) (D : Nat → Bool) {pre post : List (En σ)} (hT : T = pre ++ post) : ∀ q ∈ asD D post, q.2.own = true ∧ hx.o.length ≤ q.1 := by
  intro q hq
  obtain ⟨y, hy, _, hk⟩ := asD_mem hq
  obtain ⟨p, h1, _, h3, h4⟩ := R.ka (by rw [hT]; simp [hy]) hk
  exact ⟨h4, by omega⟩

theorem Rg.asNodup (R : Rg P call n ops aos T S0 hx m) (D : Nat → Bool) : ∀ {post pre : List (En σ)}, T = pre ++ post → ((asD D post).map (·.1)).Nodup
  | [], pre, _ => by simp [asD]
  | e :: r, pre, hT => by
    have ih := R.asNodup D (post := r) (pre := pre ++ [e]) (by rw [hT]; simp)
    simp only [asD]
    split
    · split
      · rename_i l o hk
        simp only [List.map_cons, List.nodup_cons]
        refine ⟨fun hl => ?_, ih⟩
        obtain ⟨q, hq, hql⟩ := List.mem_map.1 hl
        obtain ⟨y, hy, _, hky⟩ := asD_mem hq
        obtain ⟨p, h1, _, h3, _⟩ := R.ka (e := e) (by rw [hT]; simp) hk
        obtain ⟨p', h1', _, h3', _⟩ := R.ka (e := y) (by rw [hT]; simp [hy]) hky
        have : p = p' := by omega
        subst this
        exact dstSame_false (R.two' hT hy).2.1 p h1 h1'
      · exact ih
    · exact ih

theorem Rg.asApart (R : Rg P call n ops aos T S0 hx m) (D : Nat → Bool) {pre post : List (En σ)} (hT : T = pre ++ post) : Apart (fH tt pre (Rg.H0 hx m)).o (asD D post) :=
  apart_of (R.asDead D hT) (R.asNodup D hT)

def kOf : Option Heap → KD
  | none => .q
  | some h => .c h

/-- What an operation that reads or turns the heap does, wherever it stands. -/
theorem Rg.heavy (R : Rg P call n ops aos T S0 hx m) {D : Nat → Bool} (hD : Closed T D) {pre post : List (En σ)} {e : En σ} (hT : T = pre ++ e :: post) (hn : D e.row.i = false) (hm : ∀ b, e.row.mask.testBit b = true → D b = true)
    {oh : Option Heap} (hst : stepA call e.row.o.op e.S e.H = some (.val e.v, oh)) (hwe : wantedA e.S e.row.o.g = true) (hpl : e.row.pl = none) (hk : e.k = kOf oh) (hc2 : oh ≠ none → e.row.o.op.cls = 2) :
    ∃ (g : Heap) (r : List (Nat × Obj)) (v : V), fH D T (Rg.H0 hx m) = ⟨over g.o r, g.e, g.d⟩ ∧ Apart g.o r ∧ (∀ q ∈ r, q.2.own = true ∧ hx.o.length ≤ q.1) ∧ stepA call e.row.o.op (fS D T S0) g = some (.val v, oh) ∧ (e.row.o.d ≠ none → v = e.v) ∧
      (∀ q ∈ r, ∀ x, (oh.getD g).o[q.1]? = some x → x = .dead) ∧ fH (fun j => j == e.row.i || D j) T (Rg.H0 hx m) = ⟨over (oh.getD g).o r, (oh.getD g).e, (oh.getD g).d⟩ := by
  have hlk := R.looks hD hT hn hm
  have hlop : SameAt e.row.o.op.looks (fS D T S0) e.S := hlk.left
  have hstD : stepA call e.row.o.op (fS D T S0) e.H = some (.val e.v, oh) := by rw [stepA_congr hlop]; exact hst
  have ne1 : ∀ y ∈ pre, (y.row.i == e.row.i) = false := fun y hy => by simpa using (R.two hT hy).2.2
  have ne2 : ∀ y ∈ post, (y.row.i == e.row.i) = false := fun y hy => by simpa using Ne.symm (R.two' hT hy).2.2
  have hsplit : fH D T (Rg.H0 hx m) = fH D post (fH D pre (Rg.H0 hx m)) := by
    rw [hT, fH_append]; simp only [fH, hn, Bool.false_eq_true, if_false]
  have hsplit' : fH (fun j => j == e.row.i || D j) T (Rg.H0 hx m) = fH D post (e.k.app (fH D pre (Rg.H0 hx m))) := by
    rw [hT, fH_append]
    simp only [fH, beq_self_eq_true, Bool.true_or, if_true]
    rw [fH_congr (T := pre) (D' := D) (fun y hy => by rw [ne1 y hy, Bool.false_or]), fH_congr (T := post) (D' := D) (fun y hy => by rw [ne2 y hy, Bool.false_or])]
  have hTe : T = (pre ++ [e]) ++ post := by rw [hT]; simp
  obtain ⟨o1, o2, o3⟩ := R.out hT
  have hcls : e.row.o.op.cls ≠ 3 := fun h => by
    have := (R.step hT).pl.2 h
    rw [show (e.row, e.x).1.pl = e.row.pl from rfl, hpl] at this
    cases this
  -- the heap behind this operation, in the order that is gone
  have hbehind : fH tt (pre ++ [e]) (Rg.H0 hx m) = e.k.app e.H := by rw [fH_append, o2]; simp [fH, tt]
  have simple : (e.row.o.op.cls = 1 ∨ e.row.o.op.cls = 2) → (∀ y ∈ post, D y.row.i = true → ∀ h', y.k ≠ .c h') → ∃ (g : Heap) (r : List (Nat × Obj)) (v : V), fH D T (Rg.H0 hx m) = ⟨over g.o r, g.e, g.d⟩ ∧ Apart g.o r ∧ (∀ q ∈ r, q.2.own = true ∧ hx.o.length ≤ q.1) ∧ stepA call e.row.o.op (fS D T S0) g = some (.val v, oh) ∧ (e.row.o.d ≠ none → v = e.v) ∧
      (∀ q ∈ r, ∀ x, (oh.getD g).o[q.1]? = some x → x = .dead) ∧ fH (fun j => j == e.row.i || D j) T (Rg.H0 hx m) = ⟨over (oh.getD g).o r, (oh.getD g).e, (oh.getD g).d⟩ := by
    intro hc hno
    have hpre := R.preH hD hT hn hm hc
    have hap := e.k.app e.H
    have hgd : oh.getD e.H = e.k.app e.H := by rw [hk]; cases oh <;> rfl
    have dead' := R.asDead D hTe
    rw [hbehind] at dead'
    have apart1 : Apart e.H.o (asD D post) := by
      refine apart_of (fun q hq => ?_) (R.asNodup D hTe)
      obtain ⟨y, hy, _, hk'⟩ := asD_mem hq
      obtain ⟨p, h1, _, h3, _⟩ := R.ka (by rw [hT]; simp [hy]) hk'
      rw [o2, h3]
      exact R.dead (hT) (List.mem_cons_of_mem _ hy) h1
    refine ⟨e.H, asD D post, e.v, ?_, apart1, R.asOwn D hTe, hstD, fun _ => rfl, fun q hq x hx' => ?_, ?_⟩
    · rw [hsplit, hpre]; exact fH_over hno
    · rw [hgd, dead' q hq] at hx'
      simp only [Option.some.injEq] at hx'; exact hx'.symm
    · rw [hsplit', hpre, hgd]; exact fH_over hno
  rcases cls_le e.row.o.op with h0 | h1 | h2 | h3
  · -- of the slots alone
    obtain ⟨rfl, _, hall⟩ := pure_step h0 hstD
    have hkq : e.k = .q := hk
    refine ⟨fH D T (Rg.H0 hx m), [], e.v, rfl, trivial, fun q hq => (by cases hq), hall _, fun _ => rfl, fun q hq => (by cases hq), ?_⟩
    rw [hsplit', hkq]
    exact hsplit.symm
  · -- it reads
    have hoh : oh = none := by
      cases oh with
      | none => rfl
      | some h' => have := hc2 (by simp); omega
    subst hoh
    have hkq : e.k = .q := hk
    rcases last_c D post with hno | ⟨p1, y, p2, h', rfl, hyD, hyk, hno⟩
    · exact simple (.inl h1) hno
    · have hTy : T = (pre ++ e :: p1) ++ y :: p2 := by rw [hT]; simp
      have hTy' : T = (pre ++ e :: p1 ++ [y]) ++ p2 := by rw [hT]; simp
      have hypost : y ∈ p1 ++ y :: p2 := by simp
      obtain ⟨_, _, hmask, _⟩ := R.postN hD hT hn hm hypost hyD
      obtain ⟨y1, y2, y3⟩ := R.out hTy
      obtain ⟨z1, z2, z3⟩ := R.xo hTy
      have hyc := R.kc (by rw [hT]; simp) hyk
      -- it is looked at again there
      have hlook : lookA call y.S h' e.row.o = true := by
        rcases outD_facts y3 z3 with ⟨_, _, hq⟩ | ⟨_, p, f, ob, _, _, _, _, hq⟩ | ⟨_, _, _, _, hq⟩ | ⟨_, _, h'', _, _, _, hrc, hq⟩
        · rw [hq] at hyk; cases hyk
        · rw [hq] at hyk; cases hyk
        · rw [hq] at hyk; cases hyk
        · rw [hq] at hyk
          cases hyk
          have hx := (R.step hTy).x
          simp only at hx
          rw [hx] at hrc
          simp only [doOf, if_pos hyc] at hrc
          refine List.all_eq_true.1 hrc _ (List.mem_map.2 ⟨e.row, List.mem_filter.2 ⟨List.mem_reverse.2 (List.mem_map_of_mem (by simp)), ?_⟩, rfl⟩)
          simp only [Bool.and_eq_true, Bool.not_eq_true']
          exact ⟨by simp [h1], hmask⟩
      -- its slots there
      have hsy : SameAt e.row.o.looks y.S e.S := by
        intro t ht
        rw [y1, fS_append]
        simp only [fS, tt, if_true]
        rw [fS_miss (fun u hu _ => ?_), get_putO_ne (dstHit_false (R.step hT).self t ht), o1]
        · have hu' := (R.two' hT (show u ∈ p1 ++ y :: p2 by simp [hu])).1
          exact dstHit_false ((pairOk_facts hu').2.1 (.inl h1)) t ht
      have hwy : wantedA y.S e.row.o.g = wantedA e.S e.row.o.g := wanted_congr hsy.right
      have hgd : fH tt (pre ++ e :: p1 ++ [y]) (Rg.H0 hx m) = h' := by rw [fH_append, ← y2]; simp [fH, tt, hyk, KD.app]
      have hap := R.asApart D hTy'
      rw [hgd] at hap
      simp only [lookA, hwy, hwe, if_true] at hlook
      split at hlook
      · rename_i v' hsv
        have hfH : fH D T (Rg.H0 hx m) = ⟨over h'.o (asD D p2), h'.e, h'.d⟩ := by
          rw [hsplit, fH_append]
          simp only [fH, hyD, if_true, hyk, KD.app]
          exact fH_over hno
        refine ⟨h', asD D p2, v', hfH, hap, R.asOwn D hTy', ?_, fun hd => ?_, fun q hq x hx' => apart_dead hap q hq x hx', ?_⟩
        · rw [stepA_congr (S' := y.S) (fun t ht => (hlop t ht).trans (hsy.left t ht).symm)]; exact hsv
        · split at hlook
          · rename_i d hdd
            have := V.beq_eq _ _ hlook
            rw [this, y1, fS_append]
            simp only [fS, tt, if_true]
            rw [fS_miss (fun u hu _ => ?_), hdd, get_putO_eq]
            have hu' := (R.two' hT (show u ∈ p1 ++ y :: p2 by simp [hu])).1
            exact dstSame_false (pairOk_facts hu').1 d hdd
          · rename_i hdd; exact absurd hdd hd
        · rw [hsplit', hkq]; simp only [KD.app]; rw [← hsplit]; exact hfH
      · cases hlook
  · exact simple (.inr h2) (R.postC hD hT hn hm (.inl h2))
  · exact absurd h3 hcls
end
end AM

/- AM, part 17f: regions whose order is open are sound. -/
namespace AM
open Go
set_option linter.unusedVariables false
set_option linter.unusedSimpArgs false
set_option linter.unusedSectionVars false

section
variable {P : Program}
theorem trOper_inv {n : Nat} {ops : Array Oper} {o : Oper} {ao : AO} (h : trOper P n ops o = some ao) : trOp P o.op o.type = some ao.op ∧ trGuard ops o.guard = some ao.g ∧ o.dst = ao.d ∧ ∀ i, o.dst = some i → i < n := by
  unfold trOper at h
  split at h
  · rename_i op g hop hg
    split at h
    · rename_i hd
      simp only [Option.some.injEq] at h
      subst h
      exact ⟨hop, hg, hd, fun i hi => by rw [hd] at hi; simp at hi⟩
    · rename_i d hd
      split at h
      · rename_i hlt
        simp only [Option.some.injEq] at h
        subst h
        exact ⟨hop, hg, hd, fun i hi => by rw [hd] at hi; simp only [Option.some.injEq] at hi; exact hi ▸ hlt⟩
      · simp at h
  · simp at h

theorem undef_real (ι : Map) : undefV.real ι = undef := rfl

end

theorem over_set {l : Nat} {o : Obj} : ∀ {h : List Obj} {r : List (Nat × Obj)}, (∀ q ∈ r, q.1 ≠ l) → over (h.set l o) r = (over h r).set l o
  | h, [], _ => rfl
  | h, (k, x) :: r, hn => by
    simp only [over]
    rw [List.set_comm _ _ (Ne.symm (hn (k, x) (List.mem_cons_self ..)))]
    exact over_set fun q hq => hn q (List.mem_cons_of_mem _ hq)

section
variable {P : Program} {σ : Type} [Slots σ]
open Slots
variable {call : CallF} {n : Nat} {ops : Array Oper} {aos : List AO} {T : List (En σ)} {S0 : σ} {hx : Heap} {m : Nat}

theorem fH_inv {D : Nat → Bool} {Q : Heap → Prop} : ∀ {T : List (En σ)} {H : Heap}, Q H → (∀ e ∈ T, D e.row.i = true → ∀ X, Q X → Q (e.k.app X)) → Q (fH D T H)
  | [], H, h, _ => h
  | e :: T, H, h, hs => by
    simp only [fH]
    refine fH_inv ?_ fun e he => hs e (List.mem_cons_of_mem _ he)
    split
    · rename_i hd; exact hs e (List.mem_cons_self ..) hd H h
    · exact h

theorem fS_inv {D : Nat → Bool} {Q : V → Prop} : ∀ {T : List (En σ)} {S : σ}, (∀ t, Q (get S t)) → (∀ e ∈ T, D e.row.i = true → Q e.v) → ∀ t, Q (get (fS D T S) t)
  | [], S, h, _ => h
  | e :: T, S, h, hs => by
    simp only [fS]
    refine fS_inv (fun t => ?_) fun e he => hs e (List.mem_cons_of_mem _ he)
    split
    · rename_i hd
      by_cases ht : e.row.o.d = some t
      · rw [ht, get_putO_eq]; exact hs e (List.mem_cons_self ..) hd
      · rw [get_putO_ne ht]; exact h t
    · exact h t

theorem Rg.plU (R : Rg P call n ops aos T S0 hx m) {e y : En σ} (he : e ∈ T) (hy : y ∈ T) {p : Nat} (h1 : e.row.pl = some p) (h2 : y.row.pl = some p) : e.row.i = y.row.i := by
  obtain ⟨pre, post, hT⟩ := R.mem he
  rw [hT] at hy
  rcases List.mem_append.1 hy with hy | hy
  · exact absurd h1 (dstSame_false (R.two hT hy).2.1 p h2)
  · rcases List.mem_cons.1 hy with rfl | hy
    · rfl
    · exact absurd h2 (dstSame_false (R.two' hT hy).2.1 p h1)

section
variable (R : Rg P call n ops aos T S0 hx m) {D : Nat → Bool} (hD : Closed T D) {x : En σ} (hxT : x ∈ T) (hxD : D x.row.i = false) {p : Nat} (hp : x.row.pl = some p)
include R hD hxT hxD hp

theorem Rg.notIn {e : En σ} (he : e ∈ T) (hd : D e.row.i = true) : p ∉ e.x.al := by
  intro hal
  obtain ⟨pre, post, hT⟩ := R.mem he
  have h := (R.step hT).x
  simp only at h
  rw [h] at hal
  simp only [doOf, List.mem_filterMap, List.mem_filter, List.mem_reverse, List.mem_map] at hal
  obtain ⟨y, ⟨⟨y', hy', rfl⟩, hb⟩, hpl⟩ := hal
  have := R.plU (by rw [hT]; simp [hy']) hxT hpl hp
  rw [← this] at hxD
  rw [hD e he hd _ hb] at hxD
  cases hxD

theorem Rg.okl {al : List Nat} (hn : p ∉ al) : ∀ l, okL hx.o.length m al l = true → (l != hx.o.length + p) = true := by
  intro l hl
  have hpm := R.plm x hxT p hp
  simp only [bne_iff_ne, ne_eq]
  intro e
  subst e
  simp only [okL, Bool.or_eq_true, decide_eq_true_eq, List.contains_iff_mem] at hl
  rcases hl with (hl | hl) | hl
  · omega
  · omega
  · exact hn (by rwa [Nat.add_sub_cancel_left] at hl)

theorem Rg.onlyS : ∀ t, V.only (fun l => l != hx.o.length + p) (get (fS D T S0) t) = true := by
  have hpm := R.plm x hxT p hp
  refine fS_inv (Q := fun v => V.only (fun l => l != hx.o.length + p) v = true) (fun t => V.only_of_sc (n := hx.o.length) (fun l hl => by simp; omega) _ (R.s0 t)) fun e he hd => ?_
  obtain ⟨pre, post, hT⟩ := R.mem he
  obtain ⟨_, _, h3⟩ := R.out hT
  obtain ⟨x1, x2, x3⟩ := R.xo hT
  have hal := R.notIn hD hxT hxD hp he hd
  have okl := R.okl hD hxT hxD hp hal
  rcases outD_facts h3 x3 with ⟨_, hv, _⟩ | ⟨_, p', f, ob, hpl, hn, _, hv, _⟩ | ⟨_, _, _, hm, _⟩ | ⟨_, _, h', _, _, hm, _, _⟩
  · rw [hv]; rfl
  · rw [hv, (newA_val hn (ι := fun _ => ⟨0, 0, 0⟩) (κ := fun _ => ⟨0, 0, 0⟩) (l := hx.o.length + p') (k := 0) rfl).2]
    simp only [bne_iff_ne, ne_eq]
    intro e'
    have : p' = p := by omega
    subst this
    rw [x2] at hpl
    have := R.plU he hxT hpl hp
    rw [this, hxD] at hd
    cases hd
  · rcases hm with h0 | hm
    · omega
    · exact V.only_mono okl _ hm
  · rcases hm with h0 | ⟨hm, _⟩
    · omega
    · exact V.only_mono okl _ hm

theorem Rg.onlyH : ∀ (l : Nat) (o : Obj), (fH D T (Rg.H0 hx m)).o[l]? = some o → (hx.o.length ≤ (fH D T (Rg.H0 hx m)).e ∧ l < hx.o.length) ∨ Obj.only (fun l => l != hx.o.length + p) o = true := by
  have hpm := R.plm x hxT p hp
  refine fH_inv (Q := fun X => ∀ (l : Nat) (o : Obj), X.o[l]? = some o → (hx.o.length ≤ X.e ∧ l < hx.o.length) ∨ Obj.only (fun l => l != hx.o.length + p) o = true) (fun l o hl => ?_) fun e he hd X hX => ?_
  · simp only [Rg.H0] at hl ⊢
    rw [List.getElem?_append] at hl
    split at hl
    · rename_i hlt
      exact .inl ⟨R.he (by omega), hlt⟩
    · rw [List.getElem?_replicate] at hl
      split at hl
      · simp only [Option.some.injEq] at hl; subst hl; exact .inr rfl
      · cases hl
  · obtain ⟨pre, post, hT⟩ := R.mem he
    obtain ⟨_, _, h3⟩ := R.out hT
    obtain ⟨x1, x2, x3⟩ := R.xo hT
    have hal := R.notIn hD hxT hxD hp he hd
    have okl := R.okl hD hxT hxD hp hal
    rcases outD_facts h3 x3 with ⟨_, hv, hk⟩ | ⟨_, p', f, ob, hpl, hn, hob, hv, hk⟩ | ⟨_, _, _, hm, hk⟩ | ⟨_, _, h', _, _, hm, _, hk⟩
    · rw [hk]; exact hX
    · rw [hk]
      intro l o hl
      simp only [KD.app] at hl ⊢
      rw [List.getElem?_set] at hl
      split at hl
      · split at hl
        · simp only [Option.some.injEq] at hl; subst hl
          exact .inr (Obj.only_mono okl hob)
        · cases hl
      · exact hX l o hl
    · rw [hk]; exact hX
    · rw [hk]
      intro l o hl
      simp only [KD.app] at hl ⊢
      rcases hm with h0 | ⟨_, hon, _⟩
      · omega
      · unfold Heap.only at hon
        split at hon
        · rename_i hle
          by_cases hlt : l < hx.o.length
          · exact .inl ⟨hle, hlt⟩
          · refine .inr (Obj.only_mono okl (List.all_eq_true.1 hon o ?_))
            rw [List.mem_iff_getElem?]
            exact ⟨l - hx.o.length, by rw [List.getElem?_drop, show hx.o.length + (l - hx.o.length) = l by omega]; exact hl⟩
        · exact .inr (Obj.only_mono okl (List.all_eq_true.1 hon o (List.mem_of_getElem? hl)))

theorem Rg.deadD (hc : x.row.o.op.cls = 3) : (fH D T (Rg.H0 hx m)).o[hx.o.length + p]? = some .dead := by
  have hpm := R.plm x hxT p hp
  have keys : ∀ {q1 q2 : List (En σ)}, T = q1 ++ q2 → ∀ q ∈ asD D q2, q.1 ≠ hx.o.length + p := by
    intro q1 q2 hT q hq e
    obtain ⟨y, hy, hyD, hk⟩ := asD_mem hq
    have hyT : y ∈ T := by rw [hT]; simp [hy]
    obtain ⟨p', h1, _, h3, _⟩ := R.ka hyT hk
    have : p' = p := by omega
    subst this
    have := R.plU hyT hxT h1 hp
    rw [this, hxD] at hyD
    cases hyD
  rcases last_c D T with hno | ⟨p1, y, p2, h', hT, hyD, hyk, hno⟩
  · rw [fH_over hno]
    simp only
    rw [over_get _ _ _ (keys (q1 := []) rfl)]
    exact H0_dead hpm
  · have hT' : T = (p1 ++ [y]) ++ p2 := by rw [hT]; simp
    obtain ⟨y1, y2, y3⟩ := R.out hT
    have hfD : fH D T (Rg.H0 hx m) = ⟨over h'.o (asD D p2), h'.e, h'.d⟩ := by
      rw [hT, fH_append]
      simp only [fH, hyD, if_true, hyk, KD.app]
      exact fH_over hno
    rw [hfD]
    simp only
    rw [over_get _ _ _ (keys hT')]
    have hgd : fH tt (p1 ++ [y]) (Rg.H0 hx m) = h' := by rw [fH_append, ← y2]; simp [fH, tt, hyk, KD.app]
    rw [← hgd]
    have hxT' := hxT
    rw [hT] at hxT'
    rcases List.mem_append.1 hxT' with h | h
    · exfalso
      obtain ⟨_, _, hpo⟩ := pairOk_facts (R.two hT h).1
      rcases hpo with hb | ⟨_, _, h3⟩
      · rw [hD y (by rw [hT]; simp) hyD _ hb] at hxD; cases hxD
      · exact (h3 (.inr (R.kc (by rw [hT]; simp) hyk))).2 hc
    · rcases List.mem_cons.1 h with rfl | h
      · rw [hxD] at hyD; cases hyD
      · exact R.dead hT' h hp
end

/-- The slots behind one operation more. -/
theorem Rg.slots (R : Rg P call n ops aos T S0 hx m) {D : Nat → Bool} {pre post : List (En σ)} {e : En σ} (hT : T = pre ++ e :: post) (hn : D e.row.i = false) {v : V} (hv : e.row.o.d ≠ none → v = e.v) :
    ∀ t, get (putO (fS D T S0) e.row.o.d v) t = get (fS (fun j => j == e.row.i || D j) T S0) t := by
  intro t
  have ne1 : ∀ y ∈ pre, (y.row.i == e.row.i) = false := fun y hy => by simpa using (R.two hT hy).2.2
  have ne2 : ∀ y ∈ post, (y.row.i == e.row.i) = false := fun y hy => by simpa using Ne.symm (R.two' hT hy).2.2
  have h1 : fS D T S0 = fS D post (fS D pre S0) := by
    rw [hT, fS_append]; simp only [fS, hn, Bool.false_eq_true, if_false]
  have h2 : fS (fun j => j == e.row.i || D j) T S0 = fS D post (putO (fS D pre S0) e.row.o.d e.v) := by
    rw [hT, fS_append]
    simp only [fS, beq_self_eq_true, Bool.true_or, if_true]
    rw [fS_congr (T := pre) (D' := D) (fun y hy => by rw [ne1 y hy, Bool.false_or]), fS_congr (T := post) (D' := D) (fun y hy => by rw [ne2 y hy, Bool.false_or])]
  rw [h1, h2]
  by_cases hd : e.row.o.d = some t
  · rw [hv (by rw [hd]; simp), hd, get_putO_eq, fS_miss (fun y hy _ => dstSame_false (pairOk_facts (R.two' hT hy).1).1 t hd), get_putO_eq]
  · rw [get_putO_ne hd]
    exact fS_get (fun y hy => .inl rfl) (get_putO_ne hd).symm

theorem trOpers_get {n : Nat} {ops : Array Oper} : ∀ {l : List Oper} {aos : List AO}, trOpers P n ops l = some aos → aos.length = l.length ∧ ∀ (i : Nat) (o : Oper), l[i]? = some o → ∃ ao, aos[i]? = some ao ∧ trOper P n ops o = some ao
  | [], aos, h => by
    simp only [trOpers, Option.some.injEq] at h; subst h
    exact ⟨rfl, fun i o hi => by simp at hi⟩
  | x :: l, aos, h => by
    simp only [trOpers] at h
    split at h
    · rename_i y ys hy hys
      simp only [Option.some.injEq] at h; subst h
      obtain ⟨h1, h2⟩ := trOpers_get hys
      refine ⟨by simp [h1], fun i o hi => ?_⟩
      cases i with
      | zero => simp only [List.getElem?_cons_zero, Option.some.injEq] at hi ⊢; subst hi; exact ⟨y, rfl, hy⟩
      | succ i => simp only [List.getElem?_cons_succ] at hi ⊢; exact h2 i o hi
    · cases h

/-- What holds wherever one stands. -/
def Inv (ι : Map) (hx : Heap) (w0 : World) (n : Nat) (ds : List Deferred) (m : Nat) (T : List (En σ)) (S0 : σ) (D : Nat → Bool) (a : Act) (w : World) : Prop :=
  ∃ κ, Nx ι hx w0 κ (fH D T (Rg.H0 hx m)) w ∧ SR κ (fS D T S0) n a.tmps (fH D T (Rg.H0 hx m)).o.length ∧ a.defers = ds

theorem Rg.go (hcall : CallOk P call) (R : Rg P call n ops aos T S0 hx m) {D : Nat → Bool} (hD : Closed T D) {pre post : List (En σ)} {e : En σ} (hT : T = pre ++ e :: post) (hn : D e.row.i = false) (hm : ∀ b, e.row.mask.testBit b = true → D b = true)
    {ι : Map} {w0 w : World} {ds : List Deferred} {a : Act} (hsc0 : ∀ (l : Nat) (o : Obj), hx.o[l]? = some o → o.sc hx.o.length) (hI : Inv ι hx w0 n ds m T S0 D a w) {K : Act → World → Prop} {Q : Exit → Act → World → Prop}
    (hK : ∀ a' w', Inv ι hx w0 n ds m T S0 (fun j => j == e.row.i || D j) a' w' → K a' w') : wpOp P ops Q e.row.i K a w := by
  obtain ⟨κ, hnx, hsr, hds⟩ := hI
  have heT : e ∈ T := by rw [hT]; simp
  obtain ⟨x1, x2, x3⟩ := R.xo hT
  obtain ⟨o1, o2, o3⟩ := R.out hT
  have hso := R.step hT
  unfold wpOp
  cases hop : ops[e.row.i]? with
  | none =>
    exfalso
    have h1 := (trOpers_get R.tr).1
    have h2 := (List.getElem?_eq_some_iff.1 hso.o).1
    rw [h1] at h2
    rw [Array.getElem?_eq_none_iff] at hop
    simp at h2; omega
  | some o =>
    obtain ⟨ao, ha, htr⟩ := (trOpers_get R.tr).2 e.row.i o (by simpa using hop)
    rw [hso.o] at ha
    simp only [Option.some.injEq] at ha
    obtain ⟨h1, h2, h3, h4⟩ := trOper_inv htr
    rw [← ha] at h1 h2 h3
    have hw := wanted_ok hsr h2
    have hlk := R.looks hD hT hn hm
    have hwc : wantedA (fS D T S0) e.row.o.g = wantedA e.S e.row.o.g := wanted_congr hlk.right
    simp only
    rw [hw, hwc]
    have hH' : ∀ {k : KD}, e.k = k → k = .q → fH (fun j => j == e.row.i || D j) T (Rg.H0 hx m) = fH D T (Rg.H0 hx m) := by
      intro k hk hq
      refine fH_skip fun y hy => ?_
      by_cases hyi : y.row.i = e.row.i
      · right
        obtain ⟨q1, q2, hTy⟩ := R.mem hy
        -- the same place: the same operation
        have : y ∈ pre ++ e :: post := by rw [← hT]; exact hy
        rcases List.mem_append.1 this with h | h
        · exact absurd hyi (R.two hT h).2.2
        · rcases List.mem_cons.1 h with rfl | h
          · rw [hk, hq]
          · exact absurd hyi.symm (R.two' hT h).2.2
      · left
        simp [hyi]
    rcases outD_facts o3 x3 with ⟨hwf, hv, hk⟩ | ⟨hwt, p, f, ob, hpl, hnew, hob, hv, hk⟩ | ⟨hwt, hpl, hst, _, hk⟩ | ⟨hwt, hpl, h', hst, hc2, _, _, hk⟩
    · -- not asked
      rw [x1] at hwf
      rw [hwf]
      simp only [Bool.false_eq_true, if_false]
      refine hK _ _ ⟨κ, ?_, ?_, by rw [put_defers']; exact hds⟩
      · rw [hH' hk rfl]; exact hnx
      · rw [hH' hk rfl]
        have := hsr.put (v := undefV) trivial h4
        rw [undef_real, h3] at this
        rw [h3]
        exact this.congr (R.slots hT hn (fun _ => hv.symm))
    · -- it makes an object
      rw [x1] at hwt hnew
      rw [x2] at hpl
      rw [hwt]
      simp only [if_true]
      refine .inl ?_
      have hcls : e.row.o.op.cls = 3 := hso.pl.1 (by simp only [hpl]; rfl)
      have hnewD : newA e.row.o.op (fS D T S0) = some (f, ob) := by rw [newA_congr hlk.left]; exact hnew
      obtain ⟨_, _, hstep⟩ := newA_step (call := call) hnewD (fH D T (Rg.H0 hx m))
      have hdead := R.deadD hD heT hn hpl hcls
      have hplen := (List.getElem?_eq_some_iff.1 hdead).1
      obtain ⟨hobsc, hfsc⟩ := newA_sc hnewD hso.new hsr.sc
      have hal : p ∉ e.x.al := by
        intro hal
        have h := hso.x
        simp only at h
        rw [h] at hal
        simp only [doOf, List.mem_filterMap, List.mem_filter, List.mem_reverse, List.mem_map] at hal
        obtain ⟨y, ⟨⟨y', hy', rfl⟩, hb⟩, hpl'⟩ := hal
        exact dstSame_false (R.two hT hy').2.1 p hpl' hpl
      refine oper_ok hcall hnx.hr hsr h1 h4 hstep (fun v hv' κ' w' hn' hsr' => ?_) (fun v hv' => by cases hv')
      cases hv'
      have honly : ∀ (l : Nat) (o : Obj), (fH D T (Rg.H0 hx m)).o[l]? = some o → Obj.only (fun l => l != hx.o.length + p) o = true := by
        intro l o hl
        rcases R.onlyH hD heT hn hpl l o hl with ⟨h5, h6⟩ | h5
        · exact Obj.only_of_sc (n := hx.o.length) (fun l hl => by simp; omega) (hnx.cl l hx.o.length h6 (by omega) (hsc0 l) o hl)
        · exact h5
      have hfin := place_nx hnx hdead (by omega) (ok := fun l => l != hx.o.length + p) (fun _ _ _ => trivial) (by simp) honly (Obj.only_mono (R.okl hD heT hn hpl hal) hob) hobsc (newA_own hnewD) hn'
      have hfin2 := place_sr (ok := fun l => l != hx.o.length + p) (p := hx.o.length + p) (v' := f (hx.o.length + p)) (by simp) (by simpa [Heap.new] using hsr') hsr.sc (R.onlyS hD heT hn hpl) (newA_val hnewD (by rw [Map.upd_same])).1 (hfsc _ hplen)
      have hHH : fH (fun j => j == e.row.i || D j) T (Rg.H0 hx m) = ⟨(fH D T (Rg.H0 hx m)).o.set (hx.o.length + p) ob, (fH D T (Rg.H0 hx m)).e, (fH D T (Rg.H0 hx m)).d⟩ := by
        have ne1 : ∀ y ∈ pre, (y.row.i == e.row.i) = false := fun y hy => by simpa using (R.two hT hy).2.2
        have ne2 : ∀ y ∈ post, (y.row.i == e.row.i) = false := fun y hy => by simpa using Ne.symm (R.two' hT hy).2.2
        have hsplit : fH D T (Rg.H0 hx m) = fH D post (fH D pre (Rg.H0 hx m)) := by
          rw [hT, fH_append]; simp only [fH, hn, Bool.false_eq_true, if_false]
        have hsplit' : fH (fun j => j == e.row.i || D j) T (Rg.H0 hx m) = fH D post (e.k.app (fH D pre (Rg.H0 hx m))) := by
          rw [hT, fH_append]
          simp only [fH, beq_self_eq_true, Bool.true_or, if_true]
          rw [fH_congr (T := pre) (D' := D) (fun y hy => by rw [ne1 y hy, Bool.false_or]), fH_congr (T := post) (D' := D) (fun y hy => by rw [ne2 y hy, Bool.false_or])]
        have hno := R.postC hD hT hn hm (.inr hcls)
        rw [hsplit', hsplit, hk, fH_over hno, fH_over hno]
        simp only [KD.app]
        rw [over_set]
        intro q hq e'
        obtain ⟨y, hy, hyD, hyk⟩ := asD_mem hq
        obtain ⟨p', h5, _, h6, _⟩ := R.ka (by rw [hT]; simp [hy]) hyk
        have : p' = p := by omega
        subst this
        exact dstSame_false (R.two' hT hy).2.1 p' hpl h5
      refine hK _ _ ⟨_, by rw [hHH]; exact hfin, ?_, by rw [put_defers']; exact hds⟩
      rw [hHH]
      simp only [List.length_set]
      rw [h3] at hfin2 ⊢
      refine hfin2.congr (R.slots hT hn (fun _ => hv.symm))
    · -- it leaves the heap
      rw [x1] at hwt hst
      rw [x2] at hpl
      rw [hwt]
      simp only [if_true]
      refine .inl ?_
      obtain ⟨g, r, v, hg, hap, hrow, hstg, hvv, hdd, hgg⟩ := R.heavy hD hT hn hm (oh := none) hst hwt hpl hk (fun h => absurd rfl h)
      have hlen : (fH D T (Rg.H0 hx m)).o.length = g.o.length := by rw [hg]; simp [over_length]
      rw [hlen] at hsr
      rw [hg] at hnx
      refine oper_ok hcall (hnx.hr.weak (weak_over hap)) hsr h1 h4 hstg (fun v' hv' κ' w' hn' hsr' => ?_) (fun v hv' => by cases hv')
      cases hv'
      refine hK _ _ ⟨κ', by rw [hgg]; exact beside_nx hap (fun q hq => (hrow q hq).1) (fun q hq => (hrow q hq).2) hnx hn' hdd, ?_, by rw [put_defers']; exact hds⟩
      rw [hgg]
      simp only [over_length]
      rw [h3] at hsr' ⊢
      exact hsr'.congr (R.slots hT hn hvv)
    · -- it turns the heap
      rw [x1] at hwt hst hc2
      rw [x2] at hpl
      rw [hwt]
      simp only [if_true]
      refine .inl ?_
      obtain ⟨g, r, v, hg, hap, hrow, hstg, hvv, hdd, hgg⟩ := R.heavy hD hT hn hm (oh := some h') hst hwt hpl hk (fun _ => hc2)
      have hlen : (fH D T (Rg.H0 hx m)).o.length = g.o.length := by rw [hg]; simp [over_length]
      rw [hlen] at hsr
      rw [hg] at hnx
      refine oper_ok hcall (hnx.hr.weak (weak_over hap)) hsr h1 h4 hstg (fun v' hv' κ' w' hn' hsr' => ?_) (fun v hv' => by cases hv')
      cases hv'
      refine hK _ _ ⟨κ', by rw [hgg]; exact beside_nx hap (fun q hq => (hrow q hq).1) (fun q hq => (hrow q hq).2) hnx hn' hdd, ?_, by rw [put_defers']; exact hds⟩
      rw [hgg]
      simp only [over_length]
      rw [h3] at hsr' ⊢
      exact hsr'.congr (R.slots hT hn hvv)

theorem count_set : ∀ {l : List Bool} {i : Nat}, l[i]? = some false → (l.set i true).count true = l.count true + 1
  | [], i, h => by simp at h
  | b :: l, 0, h => by
    simp only [List.getElem?_cons_zero, Option.some.injEq] at h; subst h
    simp [List.set]
  | b :: l, i + 1, h => by
    simp only [List.getElem?_cons_succ] at h
    simp only [List.set, List.count_cons, count_set h]
    omega

theorem Rg.all (hcall : CallOk P call) (R : Rg P call n ops aos T S0 hx m) {ι : Map} {w0 : World} {ds : List Deferred} (hsc0 : ∀ (l : Nat) (o : Obj), hx.o[l]? = some o → o.sc hx.o.length) {Q : Exit → Act → World → Prop}
    (hQ : ∀ a w, Inv ι hx w0 n ds m T S0 tt a w → Q .normal a w) : ∀ (fuel : Nat) (listed : Array Bool) (a : Act) (w : World), listed.size = ops.size → fuel + listed.toList.count true = ops.size → Closed T (fun i => listed.getD i false) →
      Inv ι hx w0 n ds m T S0 (fun i => listed.getD i false) a w → wpAny P .any ops Q fuel listed a w := by
  have hlen := (trOpers_get R.tr).1
  -- each operation stands in the order
  have hcov : ∀ i, i < ops.size → ∃ e ∈ T, e.row.i = i := by
    intro i hi
    rcases GD_cover R.gd i (by rw [hlen]; simpa using hi) with ⟨y, hy, _⟩ | ⟨q, hq, he⟩
    · cases hy
    · obtain ⟨e, he', rfl⟩ := List.mem_map.1 hq
      exact ⟨e, he', he⟩
  have hlt : ∀ e ∈ T, e.row.i < ops.size := by
    intro e he
    obtain ⟨pre, post, hT⟩ := R.mem he
    have := (List.getElem?_eq_some_iff.1 (R.step hT).o).1
    rw [hlen] at this
    simpa using this
  -- what is listed below counts
  have hend : ∀ (listed : Array Bool) (a : Act) (w : World), (∀ e ∈ T, listed.getD e.row.i false = true) → Inv ι hx w0 n ds m T S0 (fun i => listed.getD i false) a w → Q .normal a w := by
    intro listed a w hall ⟨κ, h1, h2, h3⟩
    have e1 : fH (fun i => listed.getD i false) T (Rg.H0 hx m) = fH tt T (Rg.H0 hx m) := fH_congr fun e he => by rw [hall e he]; rfl
    have e2 : fS (fun i => listed.getD i false) T S0 = fS tt T S0 := fS_congr fun e he => by rw [hall e he]; rfl
    rw [e1] at h1 h2
    rw [e2] at h2
    exact hQ a w ⟨κ, h1, h2, h3⟩
  -- nothing is ready: all is listed
  have hready : ∀ (listed : Array Bool), listed.size = ops.size → Region.ready .any ops listed = [] → ∀ e ∈ T, listed.getD e.row.i false = true := by
    intro listed hs hr
    have key : ∀ (post pre : List (En σ)), T = pre ++ post → (∀ e ∈ pre, listed.getD e.row.i false = true) → ∀ e ∈ post, listed.getD e.row.i false = true := by
      intro post
      induction post with
      | nil => intro pre _ _ e he; cases he
      | cons e r ih =>
        intro pre hT hpre
        have he : listed.getD e.row.i false = true := by
          cases hd : listed.getD e.row.i false with
          | true => rfl
          | false =>
            exfalso
            have hi := hlt e (by rw [hT]; simp)
            have hrd : e.row.i ∈ Region.ready .any ops listed := by
              rw [mem_ready]
              refine ⟨?_, ops[e.row.i], Array.getElem?_eq_getElem hi, fun ed hed hb => ?_⟩
              · simp only [Array.getD_eq_getD_getElem?] at hd ⊢
                rw [Array.getElem?_eq_getElem (by omega)] at hd ⊢
                exact hd
              · obtain ⟨ps, hps, hall, _⟩ := (R.step hT).ps
                have hps' : ps = depsOf ops[e.row.i] := by
                  simp only [List.getElem?_map, Array.getElem?_toList, Array.getElem?_eq_getElem hi, Option.map_some, Option.some.injEq] at hps
                  exact hps.symm
                obtain ⟨y, hy, hye⟩ := hall ed.on (by
                  rw [hps', depsOf]
                  exact List.mem_map.2 ⟨ed, List.mem_filter.2 ⟨by simpa using hed, hb⟩, rfl⟩)
                obtain ⟨y', hy', rfl⟩ := List.mem_map.1 (List.mem_reverse.1 hy)
                rw [← hye]
                exact hpre y' hy'
            rw [hr] at hrd
            cases hrd
        intro e' he'
        rcases List.mem_cons.1 he' with rfl | he'
        · exact he
        · refine ih (pre ++ [e]) (by rw [hT]; simp) (fun y hy => ?_) e' he'
          rcases List.mem_append.1 hy with hy | hy
          · exact hpre y hy
          · simp only [List.mem_singleton] at hy; subst hy; exact he
    exact key T [] rfl (fun e he => by cases he)
  intro fuel
  induction fuel with
  | zero =>
    intro listed a w hs hc hcl hI
    have hall : ∀ i, i < ops.size → listed.getD i true = true ∧ listed.getD i false = true := by
      intro i hi
      have h1 : listed.toList.count true = listed.toList.length := by rw [Array.length_toList, hs]; omega
      have h2 := List.count_eq_length.1 h1
      have h3 : listed[i]'(by omega) = true := (h2 _ (by simp)).symm
      simp only [Array.getD_eq_getD_getElem?]
      rw [Array.getElem?_eq_getElem (by omega), h3]
      exact ⟨rfl, rfl⟩
    refine ⟨?_, hend listed a w (fun e he => (hall _ (hlt e he)).2) hI⟩
    rw [List.eq_nil_iff_forall_not_mem]
    intro j hj
    rw [mem_ready] at hj
    obtain ⟨h1, o, ho, _⟩ := hj
    have hjl := (Array.getElem?_eq_some_iff.1 ho).1
    rw [(hall j hjl).1] at h1
    cases h1
  | succ fuel ih =>
    intro listed a w hs hc hcl hI
    refine ⟨fun hr => hend listed a w (hready listed hs hr) hI, fun i hi => ?_⟩
    rw [mem_ready] at hi
    obtain ⟨h1, o, ho, hdeps⟩ := hi
    have hil := (Array.getElem?_eq_some_iff.1 ho).1
    obtain ⟨e, heT, rfl⟩ := hcov i hil
    obtain ⟨pre, post, hT⟩ := R.mem heT
    have hlf : listed[e.row.i]? = some false := by
      simp only [Array.getD_eq_getD_getElem?] at h1
      cases hg : listed[e.row.i]? with
      | none => rw [hg] at h1; cases h1
      | some b => rw [hg] at h1; simp only [Option.getD_some] at h1; rw [h1]
    have hn : listed.getD e.row.i false = false := by
      rw [Array.getD_eq_getD_getElem?, hlf]; rfl
    have hm : ∀ b, e.row.mask.testBit b = true → listed.getD b false = true := by
      intro b hb
      obtain ⟨ps, hps, _, hbits⟩ := (R.step hT).ps
      have hps' : ps = depsOf ops[e.row.i] := by
        simp only [List.getElem?_map, Array.getElem?_toList, Array.getElem?_eq_getElem hil, Option.map_some, Option.some.injEq] at hps
        exact hps.symm
      have hoo : ops[e.row.i] = o := (Array.getElem?_eq_some_iff.1 ho).2
      have hdone : ∀ p ∈ ps, listed.getD p false = true := by
        intro p hp
        rw [hps', hoo, depsOf, List.mem_map] at hp
        obtain ⟨ed, hed, rfl⟩ := hp
        obtain ⟨hed1, hed2⟩ := List.mem_filter.1 hed
        exact hdeps ed (by simpa using hed1) hed2
      rcases hbits b hb with h2 | ⟨p, hp, y, hy, rfl, hyb⟩
      · exact hdone b h2
      · obtain ⟨y', hy', rfl⟩ := List.mem_map.1 (List.mem_reverse.1 hy)
        exact hcl y' (by rw [hT]; simp [hy']) (hdone _ hp) b hyb
    have hDD : ∀ j, (listed.setIfInBounds e.row.i true).getD j false = (j == e.row.i || listed.getD j false) := by
      intro j
      by_cases hj : j = e.row.i
      · subst hj
        simp only [Array.getD_eq_getD_getElem?, Array.getElem?_setIfInBounds, beq_self_eq_true, Bool.true_or, if_true]
        rw [if_pos (by omega)]; rfl
      · rw [getD_set_ne false (Ne.symm hj)]
        simp [hj]
    refine R.go hcall (D := fun i => listed.getD i false) hcl hT hn hm hsc0 hI (fun a' w' hI' => ?_)
    have hfun : (fun i => (listed.setIfInBounds e.row.i true).getD i false) = (fun j => j == e.row.i || listed.getD j false) := funext hDD
    refine ih _ a' w' (by simp [hs]) ?_ ?_ (by rw [hfun]; exact hI')
    · rw [Array.toList_setIfInBounds, count_set (by simpa using hlf)]; omega
    · rw [hfun]
      intro y hy hyD b hb
      simp only [Bool.or_eq_true, beq_iff_eq] at hyD ⊢
      right
      rcases hyD with h2 | h2
      · -- the same place: the same operation
        have : y ∈ pre ++ e :: post := by rw [← hT]; exact hy
        rcases List.mem_append.1 this with h | h
        · exact absurd h2 (R.two hT h).2.2
        · rcases List.mem_cons.1 h with rfl | h
          · exact hm b hb
          · exact absurd h2.symm (R.two' hT h).2.2
      · exact hcl y hy h2 b hb
end
end AM

