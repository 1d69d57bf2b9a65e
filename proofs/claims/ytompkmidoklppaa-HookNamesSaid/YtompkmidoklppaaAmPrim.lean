/- AM, part 2: reading and writing cells of abstract objects, and that the world follows. -/
import Derived.Test.YtompkmidoklppaaAmBase
namespace AM
open Go
set_option linter.unusedVariables false
set_option linter.unusedSimpArgs false

def V.one : V → Bool
  | .agg _ | .tuple _ => false
  | _ => true

theorem V.one_real (ι : Map) (v : V) (h : v.one = true) : (v.real ι).oneCell' = true := by
  cases v <;> simp_all [V.one, V.real, Value.oneCell']

def V.cells : V → List V
  | .agg cs => cs
  | v => [v]

theorem V.cells_real (ι : Map) (v : V) : (v.real ι).cells = (V.reals ι v.cells).toArray := by
  cases v <;> simp [V.cells, V.real, V.reals, Value.cells]

theorem V.cells_plains (v : V) (h : v.plain = true) : V.plains v.cells = true := by
  cases v <;> simp_all [V.cells, V.plain, V.plains]

theorem V.cells_sc (n : Nat) (v : V) (h : v.sc n) : V.scs n v.cells := by
  cases v <;> simp_all [V.cells, V.sc, V.scs]

def Heap.get (h : Heap) (l i : Nat) : Option V :=
  match h.o[l]? with
  | some (.cells _ _ _ cs) => cs[i]?
  | _ => none

def Heap.gets (h : Heap) (l i n : Nat) : Option (List V) :=
  match h.o[l]? with
  | some (.cells _ _ _ cs) => if i + n ≤ cs.length then some ((cs.drop i).take n) else none
  | _ => none

def splice (cs : List V) (i : Nat) (vs : List V) : List V := cs.take i ++ vs ++ cs.drop (i + vs.length)

def Heap.sets (h : Heap) (l i : Nat) (vs : List V) : Option Heap :=
  match h.o[l]? with
  | some (.cells k t fz cs) =>
    if k ≠ .ro ∧ fz ≤ i ∧ i + vs.length ≤ cs.length ∧ vs.all V.one = true then some ⟨h.o.set l (.cells k t fz (splice cs i vs)), if V.plains vs = true then h.e else min h.e l, min h.d l⟩ else none
  | _ => none

def Heap.set (h : Heap) (l i : Nat) (v : V) : Option Heap :=
  match h.o[l]? with
  | some (.cells k t fz cs) =>
    if k ≠ .ro ∧ fz ≤ i ∧ i < cs.length ∧ v.one = true then some ⟨h.o.set l (.cells k t fz (cs.set i v)), if v.plain = true then h.e else min h.e l, min h.d l⟩ else none
  | _ => none

theorem splice_one (cs : List V) (i : Nat) (v : V) (h : i < cs.length) : splice cs i [v] = cs.set i v := by
  unfold splice
  rw [List.set_eq_take_append_cons_drop, if_pos h]
  simp

theorem Heap.set_eq (h : Heap) (l i : Nat) (v : V) : h.set l i v = h.sets l i [v] := by
  unfold Heap.set Heap.sets
  cases hc : h.o[l]? with
  | none => rfl
  | some x =>
    cases x with
    | cells k t fz cs =>
      simp only [List.length_cons, List.length_nil, List.all_cons, List.all_nil, Bool.and_true, V.plains]
      by_cases hh : k ≠ .ro ∧ fz ≤ i ∧ i < cs.length ∧ v.one = true
      · rw [if_pos hh, if_pos (show k ≠ .ro ∧ fz ≤ i ∧ i + (0 + 1) ≤ cs.length ∧ v.one = true from ⟨hh.1, hh.2.1, by omega, hh.2.2.2⟩), splice_one _ _ _ hh.2.2.1]
      · rw [if_neg hh, if_neg (show ¬ (k ≠ .ro ∧ fz ≤ i ∧ i + (0 + 1) ≤ cs.length ∧ v.one = true) from fun hx => hh ⟨hx.1, hx.2.1, by omega, hx.2.2.2⟩)]
    | dead => rfl
    | map es => rfl
    | chan c b => rfl
    | siter s q => rfl

theorem Addr_add (b o i : Nat) : (⟨b, o, none⟩ : Addr).add i = ⟨b, o + i, none⟩ := by unfold Addr.add; split <;> simp_all

section
variable {P : Program} {ι : Map} {h : Heap} {w : World}

theorem cell_get (hr : HR ι h.o w) {l i : Nat} {v : V} (hg : h.get l i = some v) : w.cell? ⟨(ι l).blk, (ι l).base + i, none⟩ = some (v.real ι) := by
  unfold Heap.get at hg
  split at hg
  · rename_i ck t fz cs hc
    obtain ⟨arr, t', lo, hi, hb, _, _, hx, _⟩ := hr.obj l _ hc
    simp [World.cell?, hb, hx i v hg]
  · simp at hg

theorem get_sc (hr : HR ι h.o w) {l i : Nat} {v : V} (hg : h.get l i = some v) : v.sc h.o.length := by
  unfold Heap.get at hg
  split at hg
  · rename_i ck t fz cs hc
    exact (V.scs_iff _ _).1 (hr.sc l _ hc) v (List.mem_of_getElem? hg)
  · simp at hg

theorem gets_get {l i n : Nat} {vs : List V} (hg : h.gets l i n = some vs) : vs.length = n ∧ ∀ j v, vs[j]? = some v → h.get l (i + j) = some v := by
  unfold Heap.gets at hg
  split at hg
  · rename_i ck t fz cs hc
    split at hg
    · rename_i hle
      simp only [Option.some.injEq] at hg
      subst hg
      refine ⟨by simp; omega, fun j v hv => ?_⟩
      rw [List.getElem?_take] at hv
      split at hv
      · rw [List.getElem?_drop] at hv
        simp only [Heap.get, hc]
        exact hv
      · simp at hv
    · simp at hg
  · simp at hg

theorem gets_sc (hr : HR ι h.o w) {l i n : Nat} {vs : List V} (hg : h.gets l i n = some vs) : V.scs h.o.length vs := by
  rw [V.scs_iff]
  intro v hv
  obtain ⟨j, hj⟩ := List.getElem?_of_mem hv
  exact get_sc hr ((gets_get hg).2 j v hj)

theorem run_loadCells_gets (hr : HR ι h.o w) {l i n : Nat} {vs : List V} (hg : h.gets l i n = some vs) :
    (loadCells ⟨(ι l).blk, (ι l).base + i, none⟩ n).run P w = .ok (V.reals ι vs).toArray w := by
  obtain ⟨hl, hx⟩ := gets_get hg
  have := run_loadCells_list (P := P) w ⟨(ι l).blk, (ι l).base + i, none⟩ (V.reals ι vs) (fun j v hv => by
    rw [V.reals_eq, List.getElem?_map] at hv
    cases hv2 : vs[j]? with
    | none => simp [hv2] at hv
    | some x =>
      simp only [hv2, Option.map_some, Option.some.injEq] at hv
      subst hv
      rw [Addr_add, Nat.add_assoc]
      exact cell_get hr (hx j x hv2))
  rw [V.reals_eq, List.length_map, hl] at this
  rw [V.reals_eq]
  exact this

theorem run_load_get (hr : HR ι h.o w) {l i : Nat} {v : V} (hg : h.get l i = some v) :
    (load ⟨(ι l).blk, (ι l).base + i, none⟩).run P w = .ok (v.real ι) w := by
  rw [run_load, cell_get hr hg]

/-- The cells of a block, some of them written. -/
def wr (arr : Array Value) (o : Nat) (vs : List Value) : Array Value := (arr.toList.take o ++ vs ++ arr.toList.drop (o + vs.length)).toArray

theorem setCells_frame (b : Nat) : ∀ (vs : List Value) (o : Nat) (w : World), (w.setCells b o vs).os = w.os ∧ (w.setCells b o vs).tape = w.tape ∧ (w.setCells b o vs).output = w.output ∧
    (w.setCells b o vs).heap.size = w.heap.size ∧ (∀ k, k ≠ b → (w.setCells b o vs).heap[k]? = w.heap[k]?)
  | [], o, w => ⟨rfl, rfl, rfl, rfl, fun _ _ => rfl⟩
  | v :: r, o, w => by
    obtain ⟨h1, h2, h3, h4, h5⟩ := setCells_frame b r (o + 1) (w.setCell ⟨b, o, none⟩ v)
    refine ⟨h1, h2, h3, by rw [World.setCells, h4]; simp [World.setCell], fun k hk => ?_⟩
    rw [World.setCells, h5 k hk]
    simp only [World.setCell, Array.getElem?_modify]
    rw [if_neg (by omega)]

theorem setCells_block (b : Nat) (t : Nat) (fr : Nat × Nat) : ∀ (vs : List Value) (o : Nat) (w : World) (arr : Array Value), w.heap[b]? = some (.cells arr t fr) → o + vs.length ≤ arr.size →
    (w.setCells b o vs).heap[b]? = some (.cells (wr arr o vs) t fr)
  | [], o, w, arr, h, _ => by
    simp only [World.setCells, wr, List.append_nil, List.length_nil, Nat.add_zero, List.take_append_drop, Array.toArray_toList]
    exact h
  | v :: r, o, w, arr, h, hl => by
    have h1 : (w.setCell ⟨b, o, none⟩ v).heap[b]? = some (.cells (arr.setIfInBounds o v) t fr) := by
      simp [World.setCell, Array.getElem?_modify, h]
    have := setCells_block b t fr r (o + 1) _ _ h1 (by simp at hl ⊢; omega)
    rw [World.setCells, this]
    congr 2
    unfold wr
    congr 1
    simp at hl
    rw [Array.toList_setIfInBounds, List.set_eq_take_append_cons_drop, if_pos (by simp; omega)]
    simp [List.take_append, List.drop_append, Nat.min_eq_left (show o ≤ arr.size by omega), show o + 1 - o = 1 by omega]
    have e1 : o + 1 + r.length - o = r.length + 1 := by omega
    have e2 : List.take (o + 1) (List.take o arr.toList) = List.take o arr.toList := by rw [List.take_take, Nat.min_eq_right (by omega)]
    have e3 : List.drop (o + 1 + r.length) (List.take o arr.toList) = [] := by rw [List.drop_eq_nil_iff]; simp; omega
    rw [e1, e2, e3]
    simp [List.drop_drop, Nat.add_comm, Nat.add_left_comm]

theorem scs_append {n : Nat} {a b : List V} : V.scs n (a ++ b) ↔ V.scs n a ∧ V.scs n b := by
  simp only [V.scs_iff, List.mem_append]
  exact ⟨fun h => ⟨fun v hv => h v (.inl hv), fun v hv => h v (.inr hv)⟩, fun h v hv => hv.elim (h.1 v) (h.2 v)⟩

theorem scs_take {n k : Nat} {a : List V} (h : V.scs n a) : V.scs n (a.take k) := by
  rw [V.scs_iff] at *
  exact fun v hv => h v (List.mem_of_mem_take hv)

theorem scs_drop {n k : Nat} {a : List V} (h : V.scs n a) : V.scs n (a.drop k) := by
  rw [V.scs_iff] at *
  exact fun v hv => h v (List.mem_of_mem_drop hv)

theorem splice_length {cs : List V} {i : Nat} {vs : List V} (h : i + vs.length ≤ cs.length) : (splice cs i vs).length = cs.length := by
  simp [splice]; omega

theorem splice_sc {n : Nat} {cs : List V} {i : Nat} {vs : List V} (h : V.scs n cs) (hv : V.scs n vs) : V.scs n (splice cs i vs) := by
  unfold splice
  exact scs_append.2 ⟨scs_append.2 ⟨scs_take h, hv⟩, scs_drop h⟩

/-- Cells are written. -/
theorem sets_sound (hr : HR ι h.o w) {l i : Nat} {vs : List V} {h' : Heap} (hs : h.sets l i vs = some h') (hv : V.scs h.o.length vs) :
    ∃ w', (∀ P, (storeCells ⟨(ι l).blk, (ι l).base + i, none⟩ (V.reals ι vs)).run P w = .ok () w') ∧ Nx ι h w ι h' w' := by
  unfold Heap.sets at hs
  split at hs
  · rename_i ck t fz cs hc
    split at hs
    · rename_i hcond
      obtain ⟨hck, hfz, hlen, hone⟩ := hcond
      simp only [Option.some.injEq] at hs
      subst hs
      obtain ⟨arr, t', lo, hi, hb, hsz, hcs, hx, hex, hro⟩ := hr.obj l _ hc
      obtain ⟨hbase, rfl, hfzs, hnf⟩ := hro hck
      have hrl : (V.reals ι vs).length = vs.length := by rw [V.reals_eq, List.length_map]
      obtain ⟨f1, f2, f3, f4, f5⟩ := setCells_frame (ι l).blk (V.reals ι vs) i w
      have hblk := setCells_block (ι l).blk t' (lo, hi) (V.reals ι vs) i w arr hb (by omega)
      refine ⟨w.setCells (ι l).blk i (V.reals ι vs), fun P => ?_, ?_⟩
      · have := run_storeCells_cells (P := P) (ι l).blk i (V.reals ι vs) 0 w (fun j hj => by
            simp only [World.cell?, hb]
            simp
            omega) (fun j hj => by
            simp only [World.frozen?, hb]
            have := hnf (i + j) (by omega) (by omega)
            simpa using this) (fun v hv => by
            rw [V.reals_eq] at hv
            obtain ⟨x, hx, rfl⟩ := List.mem_map.1 hv
            exact V.one_real ι x ((List.all_eq_true.1 hone) x hx))
        rw [hbase]
        simpa using this
      · refine Nx.upd hr hc (by simp [Obj.own, hck]) (o' := .cells ck t' fz (splice cs i vs)) (by simp [Obj.own, hck]) _ _ f1 f2 f3 f4 f5 ?_ ?_ ?_ (Nat.min_le_left _ _) (Nat.min_le_right _ _) ?_
        · refine ⟨_, _, _, _, hblk, ?_, ?_, ?_, fun hk => by rw [splice_length hlen]; exact hex hk, fun _ => ⟨hbase, rfl, hfzs, hnf⟩⟩
          · have : (wr arr i (V.reals ι vs)).size = arr.size := by
              simp [wr]
              omega
            omega
          · rw [splice_length hlen]; exact hcs
          · intro j c hj
            rw [hbase, Nat.zero_add]
            simp only [wr, List.getElem?_toArray]
            unfold splice at hj
            rw [List.append_assoc, List.getElem?_append] at hj ⊢
            have l1 : (List.take i cs).length = i := by simp; omega
            have l2 : (List.take i arr.toList).length = i := by simp; omega
            rw [l1] at hj
            rw [l2]
            by_cases hji : j < i
            · rw [if_pos hji] at hj ⊢
              rw [List.getElem?_take, if_pos hji] at hj ⊢
              have := hx j c hj
              rw [hbase, Nat.zero_add] at this
              simpa using this
            · rw [if_neg hji] at hj ⊢
              rw [List.getElem?_append] at hj ⊢
              rw [hrl]
              by_cases hjv : j - i < vs.length
              · rw [if_pos hjv] at hj ⊢
                rw [V.reals_eq, List.getElem?_map, hj]
                rfl
              · rw [if_neg hjv] at hj ⊢
                rw [List.getElem?_drop] at hj ⊢
                have := hx _ c hj
                rw [hbase, Nat.zero_add] at this
                simpa using this
        · exact splice_sc (hr.sc l _ hc) hv
        · split <;> omega
        · by_cases hp : V.plains vs = true
          · exact .inr fun n hn => splice_sc hn (V.scs_of_plains n vs hp)
          · rw [if_neg hp]
            exact .inl (Nat.min_le_right _ _)
    · simp at hs
  · simp at hs

theorem set_sound (hr : HR ι h.o w) {l i : Nat} {v : V} {h' : Heap} (hs : h.set l i v = some h') (hv : v.sc h.o.length) :
    ∃ w', (∀ P, (store ⟨(ι l).blk, (ι l).base + i, none⟩ (v.real ι)).run P w = .ok () w') ∧ Nx ι h w ι h' w' := by
  rw [Heap.set_eq] at hs
  obtain ⟨w', h1, h2⟩ := sets_sound hr hs ⟨hv, trivial⟩
  refine ⟨w', fun P => ?_, h2⟩
  have := h1 P
  simp only [V.reals, storeCells, Sem.run_bind, Addr_add, Nat.add_zero] at this
  cases hst : (store ⟨(ι l).blk, (ι l).base + i, none⟩ (v.real ι)).run P w with
  | ok a w2 =>
    rw [hst] at this
    simpa using this
  | halt x w2 =>
    rw [hst] at this
    simp at this

/-- New cells, in a block of their own. -/
theorem newCells_sound (hr : HR ι h.o w) (k : CK) (hk : k ≠ .ro) (t : Nat) (cs : List V) (rest : List Value) (hsc : V.scs (h.o.length + 1) cs) (fr : Nat × Nat) (hfr : ∀ i, i < cs.length + rest.length → ¬ (fr.1 ≤ i ∧ i < fr.2)) (hex : k = .ex → rest = []) :
    let κ := ι.upd h.o.length ⟨w.heap.size, 0, cs.length + rest.length⟩
    Nx ι h w κ ⟨h.o ++ [.cells k t 0 cs], h.e, h.d⟩ (w.alloc (.cells (V.reals κ cs ++ rest).toArray t fr)) := by
  intro κ
  refine Nx.new hr _ _ ⟨w.heap.size, 0, cs.length + rest.length⟩ rfl ?_ hsc
  refine ⟨(V.reals κ cs ++ rest).toArray, t, fr.1, fr.2, ?_, ?_, by simp, ?_, fun he => by simp [hex he], fun _ => ⟨rfl, rfl, Nat.zero_le _, ?_⟩⟩
  · show (w.heap.push _)[w.heap.size]? = _
    rw [Array.getElem?_push]
    simp [κ]
  · simp [V.reals_eq]
  · intro i c hc
    rw [Nat.zero_add, List.getElem?_toArray, List.getElem?_append_left (by rw [V.reals_eq, List.length_map]; exact (List.getElem?_eq_some_iff.1 hc).1), V.reals_eq, List.getElem?_map, hc]
    rfl
  · exact fun i _ hi => hfr i hi

theorem Nx.drew (hr : HR ι h.o w) {w' : World} (hh : w'.heap = w.heap) (h1 : w'.os = w.os) (h2 : w'.tape = w.tape) (h3 : w'.output = w.output) : Nx ι h w ι h w' := by
  refine ⟨⟨fun l o hl => (hr.obj l o hl).of_block (by rw [hh]), hr.apart, hr.sc⟩, Agree.refl _ _, Nat.le_refl _, ⟨h1, h2, h3, by rw [hh]; exact Nat.le_refl _, fun b _ _ => by rw [hh], fun _ _ h => h⟩, fun _ _ _ _ h => h, ⟨Nat.le_refl _, Nat.le_refl _⟩, fun _ _ _ => rfl⟩
end
end AM
