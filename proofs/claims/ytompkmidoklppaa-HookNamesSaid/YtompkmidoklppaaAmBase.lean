/- AM, part 1: an abstract value and heap beside the model's own, and what it is for a world to hold an abstract heap. -/
import Derived.WalkKit
import Derived.Deep.RegionHeld3
namespace AM
open Go
open Go.RowKit (Hid)
set_option linter.unusedVariables false
set_option linter.unusedSimpArgs false

/-- Abstract values: as the model's, with numbers of abstract objects in the places of blocks. -/
inductive V where
  | bool (b : Bool)
  | int (k : IntKind) (n : Int)
  | str (s : List UInt8)
  | ptr (l o : Nat)
  | nilp
  | slice (l o n e : Nat)
  | nils
  | map (l : Nat)
  | nilm
  | chan (l : Nat)
  | nilc
  | fn (f : Nat) (first caps : List V)
  | nilf
  | iface (t : Nat) (v : V)
  | nili
  | agg (cs : List V)
  | tuple (vs : List V)
  deriving Inhabited

/-- Where an abstract object lies: its block, its first cell there, and how many cells from there are its room. -/
structure Place where
  blk : Nat
  base : Nat
  size : Nat
  deriving Inhabited

abbrev Map := Nat → Place

mutual
def V.real (ι : Map) : V → Value
  | .bool b => .bool b
  | .int k n => .int k n
  | .str s => .string ⟨s.toArray⟩
  | .ptr l o => .pointer (some ⟨(ι l).blk, (ι l).base + o, none⟩)
  | .nilp => .pointer none
  | .slice l o n e => .slice (some ⟨(ι l).blk, (ι l).base + o, none⟩) n (((ι l).size - o) / e)
  | .nils => .slice none 0 0
  | .map l => .map (some (ι l).blk)
  | .nilm => .map none
  | .chan l => .chan (some (ι l).blk)
  | .nilc => .chan none
  | .fn f first caps => .func (.func f) (V.reals ι first).toArray (V.reals ι caps).toArray
  | .nilf => .nilFunc
  | .iface t v => .iface t (v.real ι)
  | .nili => .nilIface
  | .agg cs => .agg (V.reals ι cs).toArray
  | .tuple vs => .tuple (V.reals ι vs).toArray
def V.reals (ι : Map) : List V → List Value
  | [] => []
  | v :: r => v.real ι :: V.reals ι r
end

theorem V.reals_eq (ι : Map) : ∀ l, V.reals ι l = l.map (V.real ι)
  | [] => rfl
  | v :: r => by rw [V.reals, V.reals_eq ι r]; rfl

mutual
/-- All objects that a value leads to have numbers below n. -/
def V.sc (n : Nat) : V → Prop
  | .ptr l _ | .slice l _ _ _ | .map l | .chan l => l < n
  | .fn _ a b => V.scs n a ∧ V.scs n b
  | .iface _ v => v.sc n
  | .agg cs => V.scs n cs
  | .tuple vs => V.scs n vs
  | _ => True
def V.scs (n : Nat) : List V → Prop
  | [] => True
  | v :: r => v.sc n ∧ V.scs n r
end

theorem V.scs_iff (n : Nat) : ∀ l, V.scs n l ↔ ∀ v ∈ l, v.sc n
  | [] => by simp [V.scs]
  | v :: r => by simp [V.scs, V.scs_iff n r]

mutual
/-- No object at all. -/
def V.plain : V → Bool
  | .ptr .. | .slice .. | .map _ | .chan _ => false
  | .fn _ a b => V.plains a && V.plains b
  | .iface _ v => v.plain
  | .agg cs => V.plains cs
  | .tuple vs => V.plains vs
  | _ => true
def V.plains : List V → Bool
  | [] => true
  | v :: r => v.plain && V.plains r
end

theorem V.plains_iff : ∀ l, V.plains l = true ↔ ∀ v ∈ l, v.plain = true
  | [] => by simp [V.plains]
  | v :: r => by simp [V.plains, V.plains_iff r]

mutual
theorem V.sc_of_plain (n : Nat) : ∀ v : V, v.plain = true → v.sc n
  | .ptr .., h | .slice .., h | .map _, h | .chan _, h => by simp [V.plain] at h
  | .fn _ a b, h => by
    simp only [V.plain, Bool.and_eq_true] at h
    exact ⟨V.scs_of_plains n a h.1, V.scs_of_plains n b h.2⟩
  | .iface _ v, h => V.sc_of_plain n v h
  | .agg cs, h => V.scs_of_plains n cs h
  | .tuple cs, h => V.scs_of_plains n cs h
  | .bool _, _ | .int .., _ | .str _, _ | .nilp, _ | .nils, _ | .nilm, _ | .nilc, _ | .nilf, _ | .nili, _ => trivial
theorem V.scs_of_plains (n : Nat) : ∀ l : List V, V.plains l = true → V.scs n l
  | [], _ => trivial
  | v :: r, h => by
    simp only [V.plains, Bool.and_eq_true] at h
    exact ⟨V.sc_of_plain n v h.1, V.scs_of_plains n r h.2⟩
end

mutual
theorem V.sc_mono {n m : Nat} (hm : n ≤ m) : ∀ v : V, v.sc n → v.sc m
  | .ptr .., h | .slice .., h | .map _, h | .chan _, h => Nat.lt_of_lt_of_le h hm
  | .fn _ a b, h => ⟨V.scs_mono hm a h.1, V.scs_mono hm b h.2⟩
  | .iface _ v, h => V.sc_mono hm v h
  | .agg cs, h => V.scs_mono hm cs h
  | .tuple cs, h => V.scs_mono hm cs h
  | .bool _, _ | .int .., _ | .str _, _ | .nilp, _ | .nils, _ | .nilm, _ | .nilc, _ | .nilf, _ | .nili, _ => trivial
theorem V.scs_mono {n m : Nat} (hm : n ≤ m) : ∀ l : List V, V.scs n l → V.scs m l
  | [], _ => trivial
  | v :: r, h => ⟨V.sc_mono hm v h.1, V.scs_mono hm r h.2⟩
end

/-- Two maps that agree below n. -/
def Agree (ι κ : Map) (n : Nat) : Prop := ∀ l, l < n → κ l = ι l

theorem Agree.refl (ι : Map) (n : Nat) : Agree ι ι n := fun _ _ => rfl
theorem Agree.trans {ι κ μ : Map} {n m : Nat} (h : Agree ι κ n) (k : Agree κ μ m) (hm : n ≤ m) : Agree ι μ n :=
  fun l hl => (k l (by omega)).trans (h l hl)
theorem Agree.mono {ι κ : Map} {n m : Nat} (h : Agree ι κ n) (hm : m ≤ n) : Agree ι κ m := fun l hl => h l (by omega)

mutual
theorem V.real_agree {ι κ : Map} {n : Nat} (h : Agree ι κ n) : ∀ v : V, v.sc n → v.real κ = v.real ι
  | .ptr l _, hv | .slice l _ _ _, hv | .map l, hv | .chan l, hv => by simp only [V.real, h l hv]
  | .fn _ a b, hv => by simp only [V.real, V.reals_agree h a hv.1, V.reals_agree h b hv.2]
  | .iface _ v, hv => by simp only [V.real, V.real_agree h v hv]
  | .agg cs, hv => by simp only [V.real, V.reals_agree h cs hv]
  | .tuple cs, hv => by simp only [V.real, V.reals_agree h cs hv]
  | .bool _, _ | .int .., _ | .str _, _ | .nilp, _ | .nils, _ | .nilm, _ | .nilc, _ | .nilf, _ | .nili, _ => rfl
theorem V.reals_agree {ι κ : Map} {n : Nat} (h : Agree ι κ n) : ∀ l : List V, V.scs n l → V.reals κ l = V.reals ι l
  | [], _ => rfl
  | v :: r, hv => by simp only [V.reals, V.real_agree h v hv.1, V.reals_agree h r hv.2]
end

/-- Kinds of rows: never written; all its cells are known; there may be more room behind those that are known. -/
inductive CK where
  | ro | ex | gr
  deriving DecidableEq, Inhabited

/-- Abstract objects. 'fz': so many cells from the first may not be written (a string shares them). -/
inductive Obj where
  | dead
  | cells (k : CK) (t : Nat) (fz : Nat) (cs : List V)
  | map (es : List (V × V))
  | chan (cap : Nat) (buf : List V)
  | siter (s : List UInt8) (pos : Nat)
  deriving Inhabited

def Obj.live : Obj → Bool
  | .dead => false
  | _ => true

def Obj.own : Obj → Bool
  | .dead => false
  | .cells k _ _ _ => !decide (k = .ro)
  | _ => true

theorem Obj.live_of_own {o : Obj} (h : o.own = true) : o.live = true := by cases o <;> simp_all [Obj.own, Obj.live]

def Obj.sc (n : Nat) : Obj → Prop
  | .dead => True
  | .cells _ _ _ cs => V.scs n cs
  | .map es => ∀ e ∈ es, e.1.sc n ∧ e.2.sc n
  | .chan _ buf => V.scs n buf
  | .siter .. => True

theorem Obj.sc_mono {n m : Nat} (hm : n ≤ m) {o : Obj} (h : o.sc n) : o.sc m := by
  cases o with
  | dead => trivial
  | cells ck t fz cs => exact V.scs_mono hm _ h
  | map es => exact fun e he => ⟨V.sc_mono hm _ (h e he).1, V.sc_mono hm _ (h e he).2⟩
  | chan c b => exact V.scs_mono hm _ h
  | siter s p => trivial

/-- What a world holds at a place of an abstract object. -/
def OR (ι : Map) (w : World) (p : Place) : Obj → Prop
  | .dead => True
  | .cells k t fz cs => ∃ (arr : Array Value) (t' lo hi : Nat), w.heap[p.blk]? = some (.cells arr t' (lo, hi)) ∧ p.base + p.size ≤ arr.size ∧ cs.length ≤ p.size ∧
      (∀ i c, cs[i]? = some c → arr[p.base + i]? = some (c.real ι)) ∧ (k = .ex → p.size = cs.length) ∧ (k ≠ .ro → p.base = 0 ∧ t' = t ∧ fz ≤ p.size ∧ ∀ i, fz ≤ i → i < p.size → ¬ (lo ≤ i ∧ i < hi))
  | .map es => ∃ (ents : Array MapEntry) (clock : Nat), w.heap[p.blk]? = some (.map ents clock) ∧
      ents.toList.map (fun e => (e.key, e.val)) = es.map (fun e => (e.1.real ι, e.2.real ι)) ∧ (∀ e ∈ ents.toList, e.born < clock) ∧ (ents.toList.map (·.born)).Nodup
  | .chan cap buf => ∃ s r, w.heap[p.blk]? = some (.chan cap (V.reals ι buf).toArray false s r false)
  | .siter s pos => w.heap[p.blk]? = some (.stringIter ⟨s.toArray⟩ pos)

theorem OR.lt {ι : Map} {w : World} {p : Place} {o : Obj} (h : OR ι w p o) (hl : o.live = true) : p.blk < w.heap.size := by
  have key : ∀ {x : Go.Obj}, w.heap[p.blk]? = some x → p.blk < w.heap.size := fun hx => (Array.getElem?_eq_some_iff.1 hx).1
  cases o with
  | dead => simp [Obj.live] at hl
  | cells ck t fz cs => obtain ⟨_, _, _, _, h, _⟩ := h; exact key h
  | map es => obtain ⟨_, _, h, _⟩ := h; exact key h
  | chan c b => obtain ⟨_, _, h⟩ := h; exact key h
  | siter s q => exact key h

/-- The block alone tells. -/
theorem OR.of_block {ι : Map} {w w' : World} {p : Place} {o : Obj} (h : OR ι w p o) (hb : w'.heap[p.blk]? = w.heap[p.blk]?) : OR ι w' p o := by
  cases o with
  | dead => trivial
  | cells ck t fz cs => obtain ⟨a, b, c, d, h, h'⟩ := h; exact ⟨a, b, c, d, by rw [hb]; exact h, h'⟩
  | map es => obtain ⟨a, b, h, h'⟩ := h; exact ⟨a, b, by rw [hb]; exact h, h'⟩
  | chan c b => obtain ⟨x, y, h⟩ := h; exact ⟨x, y, by rw [hb]; exact h⟩
  | siter s q => exact hb.trans h

theorem OR.agree {ι κ : Map} {n : Nat} (ha : Agree ι κ n) {w : World} {p : Place} {o : Obj} (h : OR ι w p o) (hs : o.sc n) : OR κ w p o := by
  cases o with
  | dead => trivial
  | cells ck t fz cs =>
    obtain ⟨a, b, c, d, h1, h2, h3, h4, h5⟩ := h
    refine ⟨a, b, c, d, h1, h2, h3, fun i x hx => ?_, h5⟩
    rw [V.real_agree ha x ((V.scs_iff n cs).1 hs x (List.mem_of_getElem? hx))]
    exact h4 i x hx
  | map es =>
    obtain ⟨a, b, h1, h2, h3⟩ := h
    refine ⟨a, b, h1, ?_, h3⟩
    rw [h2]
    apply List.map_congr_left
    intro e he
    rw [V.real_agree ha e.1 (hs e he).1, V.real_agree ha e.2 (hs e he).2]
  | chan c b =>
    obtain ⟨x, y, h⟩ := h
    refine ⟨x, y, ?_⟩
    rw [V.reals_agree ha b hs]
    exact h
  | siter s q => exact h

/-- The abstract heap: its objects; 'e': no object of a number below e has been given what leads to others since the call began; 'd': none of a number below d has turned at all. -/
structure Heap where
  o : List Obj
  e : Nat
  d : Nat
  deriving Inhabited

/-- The world holds the abstract heap. -/
structure HR (ι : Map) (H : List Obj) (w : World) : Prop where
  obj : ∀ (l : Nat) (o : Obj), H[l]? = some o → OR ι w (ι l) o
  apart : ∀ (l l' : Nat) (o o' : Obj), l ≠ l' → H[l]? = some o → H[l']? = some o' → o.own = true → o'.live = true → (ι l).blk ≠ (ι l').blk
  sc : ∀ (l : Nat) (o : Obj), H[l]? = some o → o.sc H.length

/-- The blocks that an abstract heap may write. -/
def Own (ι : Map) (H : List Obj) (b : Nat) : Prop := ∃ (l : Nat) (o : Obj), H[l]? = some o ∧ o.own = true ∧ (ι l).blk = b

/-- From one world to a later one: what isn't the heap's own stays. -/
structure Fr (ι : Map) (H : List Obj) (w : World) (κ : Map) (H' : List Obj) (w' : World) : Prop where
  os : w'.os = w.os
  tape : w'.tape = w.tape
  output : w'.output = w.output
  size : w.heap.size ≤ w'.heap.size
  keep : ∀ b, b < w.heap.size → ¬ Own ι H b → w'.heap[b]? = w.heap[b]?
  own : ∀ b, b < w.heap.size → ¬ Own ι H b → ¬ Own κ H' b

theorem Fr.refl (ι : Map) (H : List Obj) (w : World) : Fr ι H w ι H w := ⟨rfl, rfl, rfl, Nat.le_refl _, fun _ _ _ => rfl, fun _ _ h => h⟩

theorem Fr.trans {ι κ μ : Map} {H H' H'' : List Obj} {w w' w'' : World} (h : Fr ι H w κ H' w') (k : Fr κ H' w' μ H'' w'') : Fr ι H w μ H'' w'' := by
  refine ⟨k.os.trans h.os, k.tape.trans h.tape, k.output.trans h.output, Nat.le_trans h.size k.size, fun b hb ho => ?_, fun b hb ho => ?_⟩
  · exact (k.keep b (Nat.lt_of_lt_of_le hb h.size) (h.own b hb ho)).trans (h.keep b hb ho)
  · exact k.own b (Nat.lt_of_lt_of_le hb h.size) (h.own b hb ho)

/-- All that a step of the heap gives. -/
structure Nx (ι : Map) (h : Heap) (w : World) (κ : Map) (h' : Heap) (w' : World) : Prop where
  hr : HR κ h'.o w'
  ag : Agree ι κ h.o.length
  len : h.o.length ≤ h'.o.length
  fr : Fr ι h.o w κ h'.o w'
  cl : ∀ (l n : Nat), l < h.o.length → l < h'.e → (∀ o : Obj, h.o[l]? = some o → o.sc n) → ∀ o : Obj, h'.o[l]? = some o → o.sc n
  ed : h'.e ≤ h.e ∧ h'.d ≤ h.d
  un : ∀ l, l < h.o.length → l < h'.d → h'.o[l]? = h.o[l]?

theorem Nx.refl {ι : Map} {h : Heap} {w : World} (hr : HR ι h.o w) : Nx ι h w ι h w := ⟨hr, Agree.refl _ _, Nat.le_refl _, Fr.refl _ _ _, fun _ _ _ _ h => h, ⟨Nat.le_refl _, Nat.le_refl _⟩, fun _ _ _ => rfl⟩

theorem Nx.trans {ι κ μ : Map} {H H' H'' : Heap} {w w' w'' : World} (h : Nx ι H w κ H' w') (k : Nx κ H' w' μ H'' w'') : Nx ι H w μ H'' w'' :=
  ⟨k.hr, h.ag.trans k.ag h.len, Nat.le_trans h.len k.len, h.fr.trans k.fr, fun l n hl he h0 => k.cl l n (Nat.lt_of_lt_of_le hl h.len) he (h.cl l n hl (Nat.lt_of_lt_of_le he k.ed.1) h0),
    ⟨Nat.le_trans k.ed.1 h.ed.1, Nat.le_trans k.ed.2 h.ed.2⟩, fun l hl hd => (k.un l (Nat.lt_of_lt_of_le hl h.len) hd).trans (h.un l hl (Nat.lt_of_lt_of_le hd k.ed.2))⟩

/-- The object of one number is another now; of the world one block has turned. -/
theorem Nx.upd {ι : Map} {h : Heap} {w w' : World} (hr : HR ι h.o w) {l : Nat} {o o' : Obj} (hl : h.o[l]? = some o) (ho : o.own = true) (ho' : o'.own = true) (e' d' : Nat)
    (hos : w'.os = w.os) (htape : w'.tape = w.tape) (hout : w'.output = w.output) (hsize : w'.heap.size = w.heap.size) (hkeep : ∀ b, b ≠ (ι l).blk → w'.heap[b]? = w.heap[b]?)
    (hor : OR ι w' (ι l) o') (hsc : o'.sc h.o.length) (he : e' ≤ h.e) (hd : d' ≤ h.d) (hdl : d' ≤ l) (hcl : e' ≤ l ∨ ∀ n, o.sc n → o'.sc n) : Nx ι h w ι ⟨h.o.set l o', e', d'⟩ w' := by
  have hll : l < h.o.length := (List.getElem?_eq_some_iff.1 hl).1
  have look : ∀ (k : Nat) (x : Obj), (h.o.set l o')[k]? = some x → (k = l ∧ x = o') ∨ (k ≠ l ∧ h.o[k]? = some x) := by
    intro k x hx
    rw [List.getElem?_set] at hx
    split at hx
    · rename_i hk
      subst hk
      simp only [hll, if_true, Option.some.injEq] at hx
      exact .inl ⟨rfl, hx.symm⟩
    · rename_i hk
      exact .inr ⟨fun e => hk e.symm, hx⟩
  have hown : ∀ b, Own ι (h.o.set l o') b → Own ι h.o b := by
    rintro b ⟨k, x, hx, hxo, hb⟩
    rcases look k x hx with ⟨rfl, rfl⟩ | ⟨hk, hx'⟩
    · exact ⟨k, o, hl, ho, hb⟩
    · exact ⟨k, x, hx', hxo, hb⟩
  refine ⟨⟨fun k x hx => ?_, fun k k' x x' hkk hx hx' hxo hxl => ?_, fun k x hx => ?_⟩, Agree.refl _ _, by simp, ⟨hos, htape, hout, by omega, fun b hb hb' => ?_, fun b hb hb' hc => hb' (hown b hc)⟩, fun k n hkn hke hc x hx => ?_, ⟨he, hd⟩, fun k hk hkd => ?_⟩
  · rcases look k x hx with ⟨rfl, rfl⟩ | ⟨hk, hx'⟩
    · exact hor
    · cases hlive : x.live with
      | false => cases x <;> simp_all [Obj.live, OR]
      | true => exact (hr.obj k x hx').of_block (hkeep _ (Ne.symm (hr.apart l k o x (Ne.symm hk) hl hx' ho hlive)))
  · rcases look k x hx with ⟨rfl, rfl⟩ | ⟨hk, hxx⟩ <;> rcases look k' x' hx' with ⟨rfl, rfl⟩ | ⟨hk', hxx'⟩
    · exact absurd rfl hkk
    · exact hr.apart k k' o x' hkk hl hxx' ho hxl
    · exact hr.apart k k' x o hkk hxx hl hxo (Obj.live_of_own ho)
    · exact hr.apart k k' x x' hkk hxx hxx' hxo hxl
  · simp only [List.length_set]
    rcases look k x hx with ⟨rfl, rfl⟩ | ⟨hk, hx'⟩
    · exact hsc
    · exact hr.sc k x hx'
  · exact hkeep b (fun e => hb' ⟨l, o, hl, ho, e.symm⟩)
  · simp only at hke
    rcases look k x hx with ⟨rfl, rfl⟩ | ⟨hk', hx'⟩
    · rcases hcl with hcl | hcl
      · omega
      · exact hcl n (hc o hl)
    · exact hc x hx'
  · simp only at hkd ⊢
    rw [List.getElem?_set_ne (by omega)]

def Map.upd (ι : Map) (l : Nat) (p : Place) : Map := fun k => if k = l then p else ι k
theorem Map.upd_same (ι : Map) (l : Nat) (p : Place) : Map.upd ι l p l = p := by simp [Map.upd]
theorem Map.agree_upd (ι : Map) (n : Nat) (p : Place) : Agree ι (Map.upd ι n p) n := fun l hl => by simp [Map.upd, Nat.ne_of_lt hl]

/-- A new object, in a new block. -/
theorem Nx.new {ι : Map} {h : Heap} {w : World} (hr : HR ι h.o w) (x : Go.Obj) (o : Obj) (p : Place) (hp : p.blk = w.heap.size)
    (hor : OR (ι.upd h.o.length p) (w.alloc x) p o) (hsc : o.sc (h.o.length + 1)) : Nx ι h w (ι.upd h.o.length p) ⟨h.o ++ [o], h.e, h.d⟩ (w.alloc x) := by
  have ag := Map.agree_upd ι h.o.length p
  have look : ∀ (k : Nat) (y : Obj), (h.o ++ [o])[k]? = some y → (k = h.o.length ∧ y = o) ∨ (k < h.o.length ∧ h.o[k]? = some y) := by
    intro k y hy
    rw [List.getElem?_append] at hy
    split at hy
    · exact .inr ⟨by assumption, hy⟩
    · have hk : k - h.o.length = 0 := by
        rcases Nat.eq_zero_or_pos (k - h.o.length) with h0 | h0
        · exact h0
        · rw [List.getElem?_eq_none (by simp; omega)] at hy; simp at hy
      rw [hk] at hy
      simp at hy
      exact .inl ⟨by omega, hy.symm⟩
  have old : ∀ k, k < h.o.length → (ι.upd h.o.length p) k = ι k := fun k hk => ag k hk
  have sz : (w.alloc x).heap.size = w.heap.size + 1 := by show (w.heap.push x).size = _; exact Array.size_push ..
  have blk : ∀ b, b < w.heap.size → (w.alloc x).heap[b]? = w.heap[b]? := fun b hb => by
    show (w.heap.push x)[b]? = _
    rw [Array.getElem?_push, if_neg (by omega)]
  have oldLt : ∀ (k : Nat) (y : Obj), h.o[k]? = some y → y.live = true → (ι k).blk < w.heap.size := fun k y hy hl => (hr.obj k y hy).lt hl
  refine ⟨⟨fun k y hy => ?_, fun k k' y y' hkk hy hy' hyo hyl => ?_, fun k y hy => ?_⟩, ag, by simp, ⟨rfl, rfl, rfl, by omega, fun b hb _ => blk b hb, fun b hb hb' hc => ?_⟩, fun k n hkn hke hc y hy => ?_, ⟨Nat.le_refl _, Nat.le_refl _⟩, fun k hk _ => List.getElem?_append_left hk⟩
  · rcases look k y hy with ⟨rfl, rfl⟩ | ⟨hk, hy'⟩
    · rw [Map.upd_same]; exact hor
    · rw [old k hk]
      have h1 := hr.obj k y hy'
      cases hlive : y.live with
      | false => cases y <;> simp_all [Obj.live, OR]
      | true => exact (h1.of_block (blk _ (oldLt k y hy' hlive))).agree ag (hr.sc k y hy')
  · rcases look k y hy with ⟨rfl, rfl⟩ | ⟨hk, hyy⟩ <;> rcases look k' y' hy' with ⟨rfl, rfl⟩ | ⟨hk', hyy'⟩
    · exact absurd rfl hkk
    · rw [Map.upd_same, old k' hk', hp]
      have := oldLt k' y' hyy' hyl
      omega
    · rw [Map.upd_same, old k hk, hp]
      have := oldLt k y hyy (Obj.live_of_own hyo)
      omega
    · rw [old k hk, old k' hk']
      exact hr.apart k k' y y' hkk hyy hyy' hyo hyl
  · simp only [List.length_append, List.length_cons, List.length_nil]
    rcases look k y hy with ⟨rfl, rfl⟩ | ⟨hk, hy'⟩
    · exact hsc
    · exact Obj.sc_mono (by omega) (hr.sc k y hy')
  · obtain ⟨k, y, hy, hyo, hb2⟩ := hc
    rcases look k y hy with ⟨rfl, rfl⟩ | ⟨hk, hy'⟩
    · rw [Map.upd_same, hp] at hb2; omega
    · rw [old k hk] at hb2
      exact hb' ⟨k, y, hy', hyo, hb2⟩
  · rcases look k y hy with ⟨rfl, rfl⟩ | ⟨hk', hy'⟩
    · omega
    · exact hc y hy'

end AM
