/- Own texts, joined: AmBase, AmPrim, AmCode, AmTr, AmOps, AmEq, AmOps2, AmOps3, AmOps4, AmOps5, AmOps6, AmOps7. -/
import Derived.WalkKit
import Derived.Deep.RegionHeld3
import Derived.Orders
import Derived.Deep.Quiet
/- AM, part 1: an abstract value and heap beside the model's own, and what it is for a world to hold an abstract heap. -/
namespace AM
open Go
open Go.RowKit (Hid)
set_option linter.unusedVariables false
set_option linter.unusedSimpArgs false

/-- Abstract values: as the model's, with numbers of abstract objects in the places of blocks. -/
inductive V where
  | bool (b : Bool)
  | int (k : IntKind) (n : Int)
  | str (s : List UInt8)
  | ptr (l o : Nat)
  | nilp
  | slice (l o n e : Nat)
  | nils
  | map (l : Nat)
  | nilm
  | chan (l : Nat)
  | nilc
  | fn (f : Nat) (first caps : List V)
  | nilf
  | iface (t : Nat) (v : V)
  | nili
  | agg (cs : List V)
  | tuple (vs : List V)
  | zsl (a : Addr)
  | esl (l o k e : Nat)
  | ssl (l o n c e : Nat)
  deriving Inhabited

/-- Where an abstract object lies: its block, its first cell there, and how many cells from there are its room. -/
structure Place where
  blk : Nat
  base : Nat
  size : Nat
  deriving Inhabited

abbrev Map := Nat → Place

mutual
def V.real (ι : Map) : V → Value
  | .bool b => .bool b
  | .int k n => .int k n
  | .str s => .string ⟨s.toArray⟩
  | .ptr l o => .pointer (some ⟨(ι l).blk, (ι l).base + o, none⟩)
  | .nilp => .pointer none
  | .slice l o n e => .slice (some ⟨(ι l).blk, (ι l).base + o, none⟩) n (((ι l).size - o) / e)
  | .nils => .slice none 0 0
  | .zsl a => .slice (some a) 0 0
  | .esl l o k e => .slice (some ⟨(ι l).blk, (if ((ι l).size - o) / e = k then (ι l).base + o else (ι l).base + o + k * e), none⟩) 0 (((ι l).size - o) / e - k)
  | .ssl l o n c e => .slice (some ⟨(ι l).blk, (ι l).base + o, none⟩) n c
  | .map l => .map (some (ι l).blk)
  | .nilm => .map none
  | .chan l => .chan (some (ι l).blk)
  | .nilc => .chan none
  | .fn f first caps => .func (.func f) (V.reals ι first).toArray (V.reals ι caps).toArray
  | .nilf => .nilFunc
  | .iface t v => .iface t (v.real ι)
  | .nili => .nilIface
  | .agg cs => .agg (V.reals ι cs).toArray
  | .tuple vs => .tuple (V.reals ι vs).toArray
def V.reals (ι : Map) : List V → List Value
  | [] => []
  | v :: r => v.real ι :: V.reals ι r
end

theorem V.reals_eq (ι : Map) : ∀ l, V.reals ι l = l.map (V.real ι)
  | [] => rfl
  | v :: r => by rw [V.reals, V.reals_eq ι r]; rfl

mutual
/-- All objects that a value leads to have numbers below n. -/
def V.sc (n : Nat) : V → Prop
  | .ptr l _ | .slice l _ _ _ | .esl l _ _ _ | .ssl l _ _ _ _ | .map l | .chan l => l < n
  | .fn _ a b => V.scs n a ∧ V.scs n b
  | .iface _ v => v.sc n
  | .agg cs => V.scs n cs
  | .tuple vs => V.scs n vs
  | _ => True
def V.scs (n : Nat) : List V → Prop
  | [] => True
  | v :: r => v.sc n ∧ V.scs n r
end

theorem V.scs_iff (n : Nat) : ∀ l, V.scs n l ↔ ∀ v ∈ l, v.sc n
  | [] => by simp [V.scs]
  | v :: r => by simp [V.scs, V.scs_iff n r]

mutual
/-- No object at all. -/
def V.plain : V → Bool
  | .ptr .. | .slice .. | .esl .. | .ssl .. | .map _ | .chan _ => false
  | .fn _ a b => V.plains a && V.plains b
  | .iface _ v => v.plain
  | .agg cs => V.plains cs
  | .tuple vs => V.plains vs
  | _ => true
def V.plains : List V → Bool
  | [] => true
  | v :: r => v.plain && V.plains r
end

theorem V.plains_iff : ∀ l, V.plains l = true ↔ ∀ v ∈ l, v.plain = true
  | [] => by simp [V.plains]
  | v :: r => by simp [V.plains, V.plains_iff r]

mutual
theorem V.sc_of_plain (n : Nat) : ∀ v : V, v.plain = true → v.sc n
  | .ptr .., h | .slice .., h | .esl .., h | .ssl .., h | .map _, h | .chan _, h => by simp [V.plain] at h
  | .fn _ a b, h => by
    simp only [V.plain, Bool.and_eq_true] at h
    exact ⟨V.scs_of_plains n a h.1, V.scs_of_plains n b h.2⟩
  | .iface _ v, h => V.sc_of_plain n v h
  | .agg cs, h => V.scs_of_plains n cs h
  | .tuple cs, h => V.scs_of_plains n cs h
  | .bool _, _ | .int .., _ | .str _, _ | .nilp, _ | .nils, _ | .zsl _, _ | .nilm, _ | .nilc, _ | .nilf, _ | .nili, _ => trivial
theorem V.scs_of_plains (n : Nat) : ∀ l : List V, V.plains l = true → V.scs n l
  | [], _ => trivial
  | v :: r, h => by
    simp only [V.plains, Bool.and_eq_true] at h
    exact ⟨V.sc_of_plain n v h.1, V.scs_of_plains n r h.2⟩
end

mutual
theorem V.sc_mono {n m : Nat} (hm : n ≤ m) : ∀ v : V, v.sc n → v.sc m
  | .ptr .., h | .slice .., h | .esl .., h | .ssl .., h | .map _, h | .chan _, h => Nat.lt_of_lt_of_le h hm
  | .fn _ a b, h => ⟨V.scs_mono hm a h.1, V.scs_mono hm b h.2⟩
  | .iface _ v, h => V.sc_mono hm v h
  | .agg cs, h => V.scs_mono hm cs h
  | .tuple cs, h => V.scs_mono hm cs h
  | .bool _, _ | .int .., _ | .str _, _ | .nilp, _ | .nils, _ | .zsl _, _ | .nilm, _ | .nilc, _ | .nilf, _ | .nili, _ => trivial
theorem V.scs_mono {n m : Nat} (hm : n ≤ m) : ∀ l : List V, V.scs n l → V.scs m l
  | [], _ => trivial
  | v :: r, h => ⟨V.sc_mono hm v h.1, V.scs_mono hm r h.2⟩
end

/-- Two maps that agree below n. -/
def Agree (ι κ : Map) (n : Nat) : Prop := ∀ l, l < n → κ l = ι l

theorem Agree.refl (ι : Map) (n : Nat) : Agree ι ι n := fun _ _ => rfl
theorem Agree.trans {ι κ μ : Map} {n m : Nat} (h : Agree ι κ n) (k : Agree κ μ m) (hm : n ≤ m) : Agree ι μ n :=
  fun l hl => (k l (by omega)).trans (h l hl)
theorem Agree.mono {ι κ : Map} {n m : Nat} (h : Agree ι κ n) (hm : m ≤ n) : Agree ι κ m := fun l hl => h l (by omega)

mutual
theorem V.real_agree {ι κ : Map} {n : Nat} (h : Agree ι κ n) : ∀ v : V, v.sc n → v.real κ = v.real ι
  | .ptr l _, hv | .slice l _ _ _, hv | .esl l _ _ _, hv | .ssl l _ _ _ _, hv | .map l, hv | .chan l, hv => by simp only [V.real, h l hv]
  | .fn _ a b, hv => by simp only [V.real, V.reals_agree h a hv.1, V.reals_agree h b hv.2]
  | .iface _ v, hv => by simp only [V.real, V.real_agree h v hv]
  | .agg cs, hv => by simp only [V.real, V.reals_agree h cs hv]
  | .tuple cs, hv => by simp only [V.real, V.reals_agree h cs hv]
  | .bool _, _ | .int .., _ | .str _, _ | .nilp, _ | .nils, _ | .zsl _, _ | .nilm, _ | .nilc, _ | .nilf, _ | .nili, _ => rfl
theorem V.reals_agree {ι κ : Map} {n : Nat} (h : Agree ι κ n) : ∀ l : List V, V.scs n l → V.reals κ l = V.reals ι l
  | [], _ => rfl
  | v :: r, hv => by simp only [V.reals, V.real_agree h v hv.1, V.reals_agree h r hv.2]
end

/-- Kinds of rows: never written; all its cells are known; there may be more room behind those that are known. -/
inductive CK where
  | ro | ex | gr
  deriving DecidableEq, Inhabited

/-- Abstract objects. 'fz': so many cells from the first may not be written (a string shares them). 'raw': a block of the model's own, as it is. -/
inductive Obj where
  | dead
  | cells (k : CK) (t : Nat) (fz : Nat) (cs : List V)
  | map (es : List (V × V))
  | chan (cap : Nat) (buf : List V)
  | raw (x : Go.Obj)
  deriving Inhabited

def Obj.live : Obj → Bool
  | .dead => false
  | _ => true

def Obj.own : Obj → Bool
  | .dead => false
  | .cells k _ _ _ => !decide (k = .ro)
  | _ => true

theorem Obj.live_of_own {o : Obj} (h : o.own = true) : o.live = true := by cases o <;> simp_all [Obj.own, Obj.live]

def Obj.sc (n : Nat) : Obj → Prop
  | .dead => True
  | .cells _ _ _ cs => V.scs n cs
  | .map es => ∀ e ∈ es, e.1.sc n ∧ e.2.sc n
  | .chan _ buf => V.scs n buf
  | .raw _ => True

theorem Obj.sc_mono {n m : Nat} (hm : n ≤ m) {o : Obj} (h : o.sc n) : o.sc m := by
  cases o with
  | dead => trivial
  | cells ck t fz cs => exact V.scs_mono hm _ h
  | map es => exact fun e he => ⟨V.sc_mono hm _ (h e he).1, V.sc_mono hm _ (h e he).2⟩
  | chan c b => exact V.scs_mono hm _ h
  | raw x => trivial

/-- What a world holds at a place of an abstract object. -/
def OR (ι : Map) (w : World) (p : Place) : Obj → Prop
  | .dead => True
  | .cells k t fz cs => ∃ (arr : Array Value) (t' lo hi : Nat), w.heap[p.blk]? = some (.cells arr t' (lo, hi)) ∧ p.base + p.size ≤ arr.size ∧ cs.length ≤ p.size ∧
      (∀ i c, cs[i]? = some c → arr[p.base + i]? = some (c.real ι)) ∧ (k = .ex → p.size = cs.length) ∧ (k ≠ .ro → p.base = 0 ∧ t' = t ∧ fz ≤ p.size ∧ ∀ i, fz ≤ i → i < p.size → ¬ (lo ≤ i ∧ i < hi))
  | .map es => ∃ (ents : Array MapEntry) (clock : Nat) (eq : List (V × V)), w.heap[p.blk]? = some (.map ents clock) ∧ eq.Perm es ∧
      ents.toList.map (fun e => (e.key, e.val)) = eq.map (fun e => (e.1.real ι, e.2.real ι)) ∧ (∀ e ∈ ents.toList, e.born < clock) ∧ (ents.toList.map (·.born)).Nodup
  | .chan cap buf => ∃ s r, w.heap[p.blk]? = some (.chan cap (V.reals ι buf).toArray false s r false)
  | .raw x => w.heap[p.blk]? = some x

theorem OR.lt {ι : Map} {w : World} {p : Place} {o : Obj} (h : OR ι w p o) (hl : o.live = true) : p.blk < w.heap.size := by
  have key : ∀ {x : Go.Obj}, w.heap[p.blk]? = some x → p.blk < w.heap.size := fun hx => (Array.getElem?_eq_some_iff.1 hx).1
  cases o with
  | dead => simp [Obj.live] at hl
  | cells ck t fz cs => obtain ⟨_, _, _, _, h, _⟩ := h; exact key h
  | map es => obtain ⟨_, _, _, h, _⟩ := h; exact key h
  | chan c b => obtain ⟨_, _, h⟩ := h; exact key h
  | raw x => exact key h

/-- The block alone tells. -/
theorem OR.of_block {ι : Map} {w w' : World} {p : Place} {o : Obj} (h : OR ι w p o) (hb : w'.heap[p.blk]? = w.heap[p.blk]?) : OR ι w' p o := by
  cases o with
  | dead => trivial
  | cells ck t fz cs => obtain ⟨a, b, c, d, h, h'⟩ := h; exact ⟨a, b, c, d, by rw [hb]; exact h, h'⟩
  | map es => obtain ⟨a, b, c, h, h'⟩ := h; exact ⟨a, b, c, by rw [hb]; exact h, h'⟩
  | chan c b => obtain ⟨x, y, h⟩ := h; exact ⟨x, y, by rw [hb]; exact h⟩
  | raw x => exact hb.trans h

theorem OR.agree {ι κ : Map} {n : Nat} (ha : Agree ι κ n) {w : World} {p : Place} {o : Obj} (h : OR ι w p o) (hs : o.sc n) : OR κ w p o := by
  cases o with
  | dead => trivial
  | cells ck t fz cs =>
    obtain ⟨a, b, c, d, h1, h2, h3, h4, h5⟩ := h
    refine ⟨a, b, c, d, h1, h2, h3, fun i x hx => ?_, h5⟩
    rw [V.real_agree ha x ((V.scs_iff n cs).1 hs x (List.mem_of_getElem? hx))]
    exact h4 i x hx
  | map es =>
    obtain ⟨a, b, c, h1, hp, h2, h3⟩ := h
    refine ⟨a, b, c, h1, hp, ?_, h3⟩
    rw [h2]
    apply List.map_congr_left
    intro e he
    have he := hp.mem_iff.1 he
    rw [V.real_agree ha e.1 (hs e he).1, V.real_agree ha e.2 (hs e he).2]
  | chan c b =>
    obtain ⟨x, y, h⟩ := h
    refine ⟨x, y, ?_⟩
    rw [V.reals_agree ha b hs]
    exact h
  | raw x => exact h

/-- The abstract heap: its objects; 'e': no object of a number below e has been given what leads to others since the call began; 'd': none of a number below d has turned at all. -/
structure Heap where
  o : List Obj
  e : Nat
  d : Nat
  deriving Inhabited

/-- The world holds the abstract heap. -/
structure HR (ι : Map) (H : List Obj) (w : World) : Prop where
  obj : ∀ (l : Nat) (o : Obj), H[l]? = some o → OR ι w (ι l) o
  apart : ∀ (l l' : Nat) (o o' : Obj), l ≠ l' → H[l]? = some o → H[l']? = some o' → o.own = true → o'.live = true → (ι l).blk ≠ (ι l').blk
  sc : ∀ (l : Nat) (o : Obj), H[l]? = some o → o.sc H.length

/-- The blocks that an abstract heap may write. -/
def Own (ι : Map) (H : List Obj) (b : Nat) : Prop := ∃ (l : Nat) (o : Obj), H[l]? = some o ∧ o.own = true ∧ (ι l).blk = b

/-- From one world to a later one: what isn't the heap's own stays. -/
structure Fr (ι : Map) (H : List Obj) (w : World) (κ : Map) (H' : List Obj) (w' : World) : Prop where
  os : w'.os = w.os
  tape : w'.tape = w.tape
  output : w'.output = w.output
  size : w.heap.size ≤ w'.heap.size
  keep : ∀ b, b < w.heap.size → ¬ Own ι H b → w'.heap[b]? = w.heap[b]?
  own : ∀ b, b < w.heap.size → ¬ Own ι H b → ¬ Own κ H' b

theorem Fr.refl (ι : Map) (H : List Obj) (w : World) : Fr ι H w ι H w := ⟨rfl, rfl, rfl, Nat.le_refl _, fun _ _ _ => rfl, fun _ _ h => h⟩

theorem Fr.trans {ι κ μ : Map} {H H' H'' : List Obj} {w w' w'' : World} (h : Fr ι H w κ H' w') (k : Fr κ H' w' μ H'' w'') : Fr ι H w μ H'' w'' := by
  refine ⟨k.os.trans h.os, k.tape.trans h.tape, k.output.trans h.output, Nat.le_trans h.size k.size, fun b hb ho => ?_, fun b hb ho => ?_⟩
  · exact (k.keep b (Nat.lt_of_lt_of_le hb h.size) (h.own b hb ho)).trans (h.keep b hb ho)
  · exact k.own b (Nat.lt_of_lt_of_le hb h.size) (h.own b hb ho)

/-- All that a step of the heap gives. -/
structure Nx (ι : Map) (h : Heap) (w : World) (κ : Map) (h' : Heap) (w' : World) : Prop where
  hr : HR κ h'.o w'
  ag : Agree ι κ h.o.length
  len : h.o.length ≤ h'.o.length
  fr : Fr ι h.o w κ h'.o w'
  cl : ∀ (l n : Nat), l < h.o.length → l < h'.e → (∀ o : Obj, h.o[l]? = some o → o.sc n) → ∀ o : Obj, h'.o[l]? = some o → o.sc n
  ed : h'.e ≤ h.e ∧ h'.d ≤ h.d
  un : ∀ l, l < h.o.length → l < h'.d → h'.o[l]? = h.o[l]?
  ro : ∀ (l : Nat) (o : Obj), h'.o[l]? = some o → o.live = true → o.own = false → h.o[l]? = some o

theorem Nx.refl {ι : Map} {h : Heap} {w : World} (hr : HR ι h.o w) : Nx ι h w ι h w := ⟨hr, Agree.refl _ _, Nat.le_refl _, Fr.refl _ _ _, fun _ _ _ _ h => h, ⟨Nat.le_refl _, Nat.le_refl _⟩, fun _ _ _ => rfl, fun _ _ h _ _ => h⟩

theorem Nx.trans {ι κ μ : Map} {H H' H'' : Heap} {w w' w'' : World} (h : Nx ι H w κ H' w') (k : Nx κ H' w' μ H'' w'') : Nx ι H w μ H'' w'' :=
  ⟨k.hr, h.ag.trans k.ag h.len, Nat.le_trans h.len k.len, h.fr.trans k.fr, fun l n hl he h0 => k.cl l n (Nat.lt_of_lt_of_le hl h.len) he (h.cl l n hl (Nat.lt_of_lt_of_le he k.ed.1) h0),
    ⟨Nat.le_trans k.ed.1 h.ed.1, Nat.le_trans k.ed.2 h.ed.2⟩, fun l hl hd => (k.un l (Nat.lt_of_lt_of_le hl h.len) hd).trans (h.un l hl (Nat.lt_of_lt_of_le hd k.ed.2)), fun l o hl h1 h2 => h.ro l o (k.ro l o hl h1 h2) h1 h2⟩

/-- The object of one number is another now; of the world one block has turned. -/
theorem Nx.upd {ι : Map} {h : Heap} {w w' : World} (hr : HR ι h.o w) {l : Nat} {o o' : Obj} (hl : h.o[l]? = some o) (ho : o.own = true) (ho' : o'.own = true) (e' d' : Nat)
    (hos : w'.os = w.os) (htape : w'.tape = w.tape) (hout : w'.output = w.output) (hsize : w'.heap.size = w.heap.size) (hkeep : ∀ b, b ≠ (ι l).blk → w'.heap[b]? = w.heap[b]?)
    (hor : OR ι w' (ι l) o') (hsc : o'.sc h.o.length) (he : e' ≤ h.e) (hd : d' ≤ h.d) (hdl : d' ≤ l) (hcl : e' ≤ l ∨ ∀ n, o.sc n → o'.sc n) : Nx ι h w ι ⟨h.o.set l o', e', d'⟩ w' := by
  have hll : l < h.o.length := (List.getElem?_eq_some_iff.1 hl).1
  have look : ∀ (k : Nat) (x : Obj), (h.o.set l o')[k]? = some x → (k = l ∧ x = o') ∨ (k ≠ l ∧ h.o[k]? = some x) := by
    intro k x hx
    rw [List.getElem?_set] at hx
    split at hx
    · rename_i hk
      subst hk
      simp only [Option.some.injEq] at hx
      exact .inl ⟨rfl, hx.symm⟩
    · rename_i hk
      exact .inr ⟨fun e => hk e.symm, hx⟩
  have hown : ∀ b, Own ι (h.o.set l o') b → Own ι h.o b := by
    rintro b ⟨k, x, hx, hxo, hb⟩
    rcases look k x hx with ⟨rfl, rfl⟩ | ⟨hk, hx'⟩
    · exact ⟨k, o, hl, ho, hb⟩
    · exact ⟨k, x, hx', hxo, hb⟩
  refine ⟨⟨fun k x hx => ?_, fun k k' x x' hkk hx hx' hxo hxl => ?_, fun k x hx => ?_⟩, Agree.refl _ _, by simp, ⟨hos, htape, hout, by omega, fun b hb hb' => ?_, fun b hb hb' hc => hb' (hown b hc)⟩, fun k n hkn hke hc x hx => ?_, ⟨he, hd⟩, fun k hk hkd => ?_, fun k x hx hxl hxo => ?_⟩
  · rcases look k x hx with ⟨rfl, rfl⟩ | ⟨hk, hx'⟩
    · exact hor
    · cases hlive : x.live with
      | false => cases x <;> simp_all [Obj.live, OR]
      | true => exact (hr.obj k x hx').of_block (hkeep _ (Ne.symm (hr.apart l k o x (Ne.symm hk) hl hx' ho hlive)))
  · rcases look k x hx with ⟨rfl, rfl⟩ | ⟨hk, hxx⟩ <;> rcases look k' x' hx' with ⟨rfl, rfl⟩ | ⟨hk', hxx'⟩
    · exact absurd rfl hkk
    · exact hr.apart k k' o x' hkk hl hxx' ho hxl
    · exact hr.apart k k' x o hkk hxx hl hxo (Obj.live_of_own ho)
    · exact hr.apart k k' x x' hkk hxx hxx' hxo hxl
  · simp only [List.length_set]
    rcases look k x hx with ⟨rfl, rfl⟩ | ⟨hk, hx'⟩
    · exact hsc
    · exact hr.sc k x hx'
  · exact hkeep b (fun e => hb' ⟨l, o, hl, ho, e.symm⟩)
  · simp only at hke
    rcases look k x hx with ⟨rfl, rfl⟩ | ⟨hk', hx'⟩
    · rcases hcl with hcl | hcl
      · omega
      · exact hcl n (hc o hl)
    · exact hc x hx'
  · simp only at hkd ⊢
    rw [List.getElem?_set_ne (by omega)]
  · rcases look k x hx with ⟨rfl, rfl⟩ | ⟨hk, hx'⟩
    · rw [ho'] at hxo; cases hxo
    · exact hx'

def Map.upd (ι : Map) (l : Nat) (p : Place) : Map := fun k => if k = l then p else ι k
theorem Map.upd_same (ι : Map) (l : Nat) (p : Place) : Map.upd ι l p l = p := by simp [Map.upd]
theorem Map.agree_upd (ι : Map) (n : Nat) (p : Place) : Agree ι (Map.upd ι n p) n := fun l hl => by simp [Map.upd, Nat.ne_of_lt hl]

/-- A new object, in a new block. -/
theorem Nx.new {ι : Map} {h : Heap} {w : World} (hr : HR ι h.o w) (x : Go.Obj) (o : Obj) (p : Place) (hp : p.blk = w.heap.size)
    (hor : OR (ι.upd h.o.length p) (w.alloc x) p o) (hsc : o.sc (h.o.length + 1)) (how : o.own = true) : Nx ι h w (ι.upd h.o.length p) ⟨h.o ++ [o], h.e, h.d⟩ (w.alloc x) := by
  have ag := Map.agree_upd ι h.o.length p
  have look : ∀ (k : Nat) (y : Obj), (h.o ++ [o])[k]? = some y → (k = h.o.length ∧ y = o) ∨ (k < h.o.length ∧ h.o[k]? = some y) := by
    intro k y hy
    rw [List.getElem?_append] at hy
    split at hy
    · exact .inr ⟨by assumption, hy⟩
    · have hk : k - h.o.length = 0 := by
        rcases Nat.eq_zero_or_pos (k - h.o.length) with h0 | h0
        · exact h0
        · rw [List.getElem?_eq_none (by simp; omega)] at hy; simp at hy
      rw [hk] at hy
      simp at hy
      exact .inl ⟨by omega, hy.symm⟩
  have old : ∀ k, k < h.o.length → (ι.upd h.o.length p) k = ι k := fun k hk => ag k hk
  have sz : (w.alloc x).heap.size = w.heap.size + 1 := by show (w.heap.push x).size = _; exact Array.size_push ..
  have blk : ∀ b, b < w.heap.size → (w.alloc x).heap[b]? = w.heap[b]? := fun b hb => by
    show (w.heap.push x)[b]? = _
    rw [Array.getElem?_push, if_neg (by omega)]
  have oldLt : ∀ (k : Nat) (y : Obj), h.o[k]? = some y → y.live = true → (ι k).blk < w.heap.size := fun k y hy hl => (hr.obj k y hy).lt hl
  refine ⟨⟨fun k y hy => ?_, fun k k' y y' hkk hy hy' hyo hyl => ?_, fun k y hy => ?_⟩, ag, by simp, ⟨rfl, rfl, rfl, by omega, fun b hb _ => blk b hb, fun b hb hb' hc => ?_⟩, fun k n hkn hke hc y hy => ?_, ⟨Nat.le_refl _, Nat.le_refl _⟩, fun k hk _ => List.getElem?_append_left hk, fun k y hy hyl hyo => ?_⟩
  · rcases look k y hy with ⟨rfl, rfl⟩ | ⟨hk, hy'⟩
    · rw [Map.upd_same]; exact hor
    · rw [old k hk]
      have h1 := hr.obj k y hy'
      cases hlive : y.live with
      | false => cases y <;> simp_all [Obj.live, OR]
      | true => exact (h1.of_block (blk _ (oldLt k y hy' hlive))).agree ag (hr.sc k y hy')
  · rcases look k y hy with ⟨rfl, rfl⟩ | ⟨hk, hyy⟩ <;> rcases look k' y' hy' with ⟨rfl, rfl⟩ | ⟨hk', hyy'⟩
    · exact absurd rfl hkk
    · rw [Map.upd_same, old k' hk', hp]
      have := oldLt k' y' hyy' hyl
      omega
    · rw [Map.upd_same, old k hk, hp]
      have := oldLt k y hyy (Obj.live_of_own hyo)
      omega
    · rw [old k hk, old k' hk']
      exact hr.apart k k' y y' hkk hyy hyy' hyo hyl
  · simp only [List.length_append, List.length_cons, List.length_nil]
    rcases look k y hy with ⟨rfl, rfl⟩ | ⟨hk, hy'⟩
    · exact hsc
    · exact Obj.sc_mono (by omega) (hr.sc k y hy')
  · obtain ⟨k, y, hy, hyo, hb2⟩ := hc
    rcases look k y hy with ⟨rfl, rfl⟩ | ⟨hk, hy'⟩
    · rw [Map.upd_same, hp] at hb2; omega
    · rw [old k hk] at hb2
      exact hb' ⟨k, y, hy', hyo, hb2⟩
  · rcases look k y hy with ⟨rfl, rfl⟩ | ⟨hk', hy'⟩
    · omega
    · exact hc y hy'
  · rcases look k y hy with ⟨rfl, rfl⟩ | ⟨hk', hy'⟩
    · rw [how] at hyo; cases hyo
    · exact hy'

end AM

/- AM, part 2: reading and writing cells of abstract objects, and that the world follows. -/
namespace AM
open Go
set_option linter.unusedVariables false
set_option linter.unusedSimpArgs false

def V.one : V → Bool
  | .agg _ | .tuple _ => false
  | _ => true

theorem V.one_real (ι : Map) (v : V) (h : v.one = true) : (v.real ι).oneCell' = true := by
  cases v <;> simp_all [V.one, V.real, Value.oneCell']

def V.cells : V → List V
  | .agg cs => cs
  | v => [v]

theorem V.cells_real (ι : Map) (v : V) : (v.real ι).cells = (V.reals ι v.cells).toArray := by
  cases v <;> simp [V.cells, V.real, V.reals, Value.cells]

theorem V.cells_plains (v : V) (h : v.plain = true) : V.plains v.cells = true := by
  cases v <;> simp_all [V.cells, V.plain, V.plains]

theorem V.cells_sc (n : Nat) (v : V) (h : v.sc n) : V.scs n v.cells := by
  cases v <;> simp_all [V.cells, V.sc, V.scs]

def Heap.get (h : Heap) (l i : Nat) : Option V :=
  match h.o[l]? with
  | some (.cells _ _ _ cs) => cs[i]?
  | _ => none

def Heap.gets (h : Heap) (l i n : Nat) : Option (List V) :=
  if n = 0 then some []
  else match h.o[l]? with
  | some (.cells _ _ _ cs) => if i + n ≤ cs.length then some ((cs.drop i).take n) else none
  | _ => none

def splice (cs : List V) (i : Nat) (vs : List V) : List V := cs.take i ++ vs ++ cs.drop (i + vs.length)

def Heap.sets (h : Heap) (l i : Nat) (vs : List V) : Option Heap :=
  match h.o[l]? with
  | some (.cells k t fz cs) =>
    if k ≠ .ro ∧ fz ≤ i ∧ i + vs.length ≤ cs.length ∧ vs.all V.one = true then some ⟨h.o.set l (.cells k t fz (splice cs i vs)), if V.plains vs = true then h.e else min h.e l, min h.d l⟩ else none
  | _ => none

def Heap.set (h : Heap) (l i : Nat) (v : V) : Option Heap :=
  match h.o[l]? with
  | some (.cells k t fz cs) =>
    if k ≠ .ro ∧ fz ≤ i ∧ i < cs.length ∧ v.one = true then some ⟨h.o.set l (.cells k t fz (cs.set i v)), if v.plain = true then h.e else min h.e l, min h.d l⟩ else none
  | _ => none

theorem Addr_add (b o i : Nat) : (⟨b, o, none⟩ : Addr).add i = ⟨b, o + i, none⟩ := by unfold Addr.add; split <;> simp_all

section
variable {P : Program} {ι : Map} {h : Heap} {w : World}

theorem cell_get (hr : HR ι h.o w) {l i : Nat} {v : V} (hg : h.get l i = some v) : w.cell? ⟨(ι l).blk, (ι l).base + i, none⟩ = some (v.real ι) := by
  unfold Heap.get at hg
  split at hg
  · rename_i ck t fz cs hc
    obtain ⟨arr, t', lo, hi, hb, _, _, hx, _⟩ := hr.obj l _ hc
    simp [World.cell?, hb, hx i v hg]
  · simp at hg

theorem get_sc (hr : HR ι h.o w) {l i : Nat} {v : V} (hg : h.get l i = some v) : v.sc h.o.length := by
  unfold Heap.get at hg
  split at hg
  · rename_i ck t fz cs hc
    exact (V.scs_iff _ _).1 (hr.sc l _ hc) v (List.mem_of_getElem? hg)
  · simp at hg

theorem gets_get {l i n : Nat} {vs : List V} (hg : h.gets l i n = some vs) : vs.length = n ∧ ∀ j v, vs[j]? = some v → h.get l (i + j) = some v := by
  unfold Heap.gets at hg
  split at hg
  · rename_i h0
    simp only [Option.some.injEq] at hg
    subst hg
    exact ⟨h0.symm, fun j v hv => by simp at hv⟩
  split at hg
  · rename_i ck t fz cs hc
    split at hg
    · rename_i hle
      simp only [Option.some.injEq] at hg
      subst hg
      refine ⟨by simp; omega, fun j v hv => ?_⟩
      rw [List.getElem?_take] at hv
      split at hv
      · rw [List.getElem?_drop] at hv
        simp only [Heap.get, hc]
        exact hv
      · simp at hv
    · simp at hg
  · simp at hg

theorem gets_sc (hr : HR ι h.o w) {l i n : Nat} {vs : List V} (hg : h.gets l i n = some vs) : V.scs h.o.length vs := by
  rw [V.scs_iff]
  intro v hv
  obtain ⟨j, hj⟩ := List.getElem?_of_mem hv
  exact get_sc hr ((gets_get hg).2 j v hj)

theorem run_loadCells_gets (hr : HR ι h.o w) {l i n : Nat} {vs : List V} (hg : h.gets l i n = some vs) :
    (loadCells ⟨(ι l).blk, (ι l).base + i, none⟩ n).run P w = .ok (V.reals ι vs).toArray w := by
  obtain ⟨hl, hx⟩ := gets_get hg
  have := run_loadCells_list (P := P) w ⟨(ι l).blk, (ι l).base + i, none⟩ (V.reals ι vs) (fun j v hv => by
    rw [V.reals_eq, List.getElem?_map] at hv
    cases hv2 : vs[j]? with
    | none => simp [hv2] at hv
    | some x =>
      simp only [hv2, Option.map_some, Option.some.injEq] at hv
      subst hv
      rw [Addr_add, Nat.add_assoc]
      exact cell_get hr (hx j x hv2))
  rw [V.reals_eq, List.length_map, hl] at this
  rw [V.reals_eq]
  exact this

theorem run_load_get (hr : HR ι h.o w) {l i : Nat} {v : V} (hg : h.get l i = some v) :
    (load ⟨(ι l).blk, (ι l).base + i, none⟩).run P w = .ok (v.real ι) w := by
  rw [run_load, cell_get hr hg]

/-- The cells of a block, some of them written. -/
def wr (arr : Array Value) (o : Nat) (vs : List Value) : Array Value := (arr.toList.take o ++ vs ++ arr.toList.drop (o + vs.length)).toArray

theorem setCells_frame (b : Nat) : ∀ (vs : List Value) (o : Nat) (w : World), (w.setCells b o vs).os = w.os ∧ (w.setCells b o vs).tape = w.tape ∧ (w.setCells b o vs).output = w.output ∧
    (w.setCells b o vs).heap.size = w.heap.size ∧ (∀ k, k ≠ b → (w.setCells b o vs).heap[k]? = w.heap[k]?)
  | [], o, w => ⟨rfl, rfl, rfl, rfl, fun _ _ => rfl⟩
  | v :: r, o, w => by
    obtain ⟨h1, h2, h3, h4, h5⟩ := setCells_frame b r (o + 1) (w.setCell ⟨b, o, none⟩ v)
    refine ⟨h1, h2, h3, by rw [World.setCells, h4]; simp [World.setCell], fun k hk => ?_⟩
    rw [World.setCells, h5 k hk]
    simp only [World.setCell, Array.getElem?_modify]
    rw [if_neg (by omega)]

theorem setCells_block (b : Nat) (t : Nat) (fr : Nat × Nat) : ∀ (vs : List Value) (o : Nat) (w : World) (arr : Array Value), w.heap[b]? = some (.cells arr t fr) → o + vs.length ≤ arr.size →
    (w.setCells b o vs).heap[b]? = some (.cells (wr arr o vs) t fr)
  | [], o, w, arr, h, _ => by
    simp only [World.setCells, wr, List.append_nil, List.length_nil, Nat.add_zero, List.take_append_drop, Array.toArray_toList]
    exact h
  | v :: r, o, w, arr, h, hl => by
    have h1 : (w.setCell ⟨b, o, none⟩ v).heap[b]? = some (.cells (arr.setIfInBounds o v) t fr) := by
      simp [World.setCell, Array.getElem?_modify, h]
    have := setCells_block b t fr r (o + 1) _ _ h1 (by simp at hl ⊢; omega)
    rw [World.setCells, this]
    congr 2
    unfold wr
    congr 1
    simp at hl
    rw [Array.toList_setIfInBounds, List.set_eq_take_append_cons_drop, if_pos (by simp; omega)]
    simp [List.take_append, List.drop_append, Nat.min_eq_left (show o ≤ arr.size by omega), show o + 1 - o = 1 by omega]
    have e1 : o + 1 + r.length - o = r.length + 1 := by omega
    have e2 : List.take (o + 1) (List.take o arr.toList) = List.take o arr.toList := by rw [List.take_take, Nat.min_eq_right (by omega)]
    have e3 : List.drop (o + 1 + r.length) (List.take o arr.toList) = [] := by rw [List.drop_eq_nil_iff]; simp; omega
    rw [e1, e2, e3]
    simp [List.drop_drop, Nat.add_comm, Nat.add_left_comm]

theorem scs_append {n : Nat} {a b : List V} : V.scs n (a ++ b) ↔ V.scs n a ∧ V.scs n b := by
  simp only [V.scs_iff, List.mem_append]
  exact ⟨fun h => ⟨fun v hv => h v (.inl hv), fun v hv => h v (.inr hv)⟩, fun h v hv => hv.elim (h.1 v) (h.2 v)⟩

theorem scs_take {n k : Nat} {a : List V} (h : V.scs n a) : V.scs n (a.take k) := by
  rw [V.scs_iff] at *
  exact fun v hv => h v (List.mem_of_mem_take hv)

theorem scs_drop {n k : Nat} {a : List V} (h : V.scs n a) : V.scs n (a.drop k) := by
  rw [V.scs_iff] at *
  exact fun v hv => h v (List.mem_of_mem_drop hv)

theorem splice_length {cs : List V} {i : Nat} {vs : List V} (h : i + vs.length ≤ cs.length) : (splice cs i vs).length = cs.length := by
  simp [splice]; omega

theorem splice_sc {n : Nat} {cs : List V} {i : Nat} {vs : List V} (h : V.scs n cs) (hv : V.scs n vs) : V.scs n (splice cs i vs) := by
  unfold splice
  exact scs_append.2 ⟨scs_append.2 ⟨scs_take h, hv⟩, scs_drop h⟩

/-- Cells are written. -/
theorem sets_sound (hr : HR ι h.o w) {l i : Nat} {vs : List V} {h' : Heap} (hs : h.sets l i vs = some h') (hv : V.scs h.o.length vs) :
    ∃ w', (∀ P, (storeCells ⟨(ι l).blk, (ι l).base + i, none⟩ (V.reals ι vs)).run P w = .ok () w') ∧ Nx ι h w ι h' w' := by
  unfold Heap.sets at hs
  split at hs
  · rename_i ck t fz cs hc
    split at hs
    · rename_i hcond
      obtain ⟨hck, hfz, hlen, hone⟩ := hcond
      simp only [Option.some.injEq] at hs
      subst hs
      obtain ⟨arr, t', lo, hi, hb, hsz, hcs, hx, hex, hro⟩ := hr.obj l _ hc
      obtain ⟨hbase, rfl, hfzs, hnf⟩ := hro hck
      have hrl : (V.reals ι vs).length = vs.length := by rw [V.reals_eq, List.length_map]
      obtain ⟨f1, f2, f3, f4, f5⟩ := setCells_frame (ι l).blk (V.reals ι vs) i w
      have hblk := setCells_block (ι l).blk t' (lo, hi) (V.reals ι vs) i w arr hb (by omega)
      refine ⟨w.setCells (ι l).blk i (V.reals ι vs), fun P => ?_, ?_⟩
      · have := run_storeCells_cells (P := P) (ι l).blk i (V.reals ι vs) 0 w (fun j hj => by
            simp only [World.cell?, hb]
            simp
            omega) (fun j hj => by
            simp only [World.frozen?, hb]
            have := hnf (i + j) (by omega) (by omega)
            simpa using this) (fun v hv => by
            rw [V.reals_eq] at hv
            obtain ⟨x, hx, rfl⟩ := List.mem_map.1 hv
            exact V.one_real ι x ((List.all_eq_true.1 hone) x hx))
        rw [hbase]
        simpa using this
      · refine Nx.upd hr hc (by simp [Obj.own, hck]) (o' := .cells ck t' fz (splice cs i vs)) (by simp [Obj.own, hck]) _ _ f1 f2 f3 f4 f5 ?_ ?_ ?_ (Nat.min_le_left _ _) (Nat.min_le_right _ _) ?_
        · refine ⟨_, _, _, _, hblk, ?_, ?_, ?_, fun hk => by rw [splice_length hlen]; exact hex hk, fun _ => ⟨hbase, rfl, hfzs, hnf⟩⟩
          · have : (wr arr i (V.reals ι vs)).size = arr.size := by
              simp [wr]
              omega
            omega
          · rw [splice_length hlen]; exact hcs
          · intro j c hj
            rw [hbase, Nat.zero_add]
            simp only [wr, List.getElem?_toArray]
            unfold splice at hj
            rw [List.append_assoc, List.getElem?_append] at hj ⊢
            have l1 : (List.take i cs).length = i := by simp; omega
            have l2 : (List.take i arr.toList).length = i := by simp; omega
            rw [l1] at hj
            rw [l2]
            by_cases hji : j < i
            · rw [if_pos hji] at hj ⊢
              rw [List.getElem?_take, if_pos hji] at hj ⊢
              have := hx j c hj
              rw [hbase, Nat.zero_add] at this
              simpa using this
            · rw [if_neg hji] at hj ⊢
              rw [List.getElem?_append] at hj ⊢
              rw [hrl]
              by_cases hjv : j - i < vs.length
              · rw [if_pos hjv] at hj ⊢
                rw [V.reals_eq, List.getElem?_map, hj]
                rfl
              · rw [if_neg hjv] at hj ⊢
                rw [List.getElem?_drop] at hj ⊢
                have := hx _ c hj
                rw [hbase, Nat.zero_add] at this
                simpa using this
        · exact splice_sc (hr.sc l _ hc) hv
        · split <;> omega
        · by_cases hp : V.plains vs = true
          · exact .inr fun n hn => splice_sc hn (V.scs_of_plains n vs hp)
          · rw [if_neg hp]
            exact .inl (Nat.min_le_right _ _)
    · simp at hs
  · simp at hs

/-- New cells, in a block of their own. -/
theorem newCells_sound (hr : HR ι h.o w) (k : CK) (hk : k ≠ .ro) (t : Nat) (cs : List V) (rest : List Value) (hsc : V.scs (h.o.length + 1) cs) (fr : Nat × Nat) (hfr : ∀ i, i < cs.length + rest.length → ¬ (fr.1 ≤ i ∧ i < fr.2)) (hex : k = .ex → rest = []) :
    let κ := ι.upd h.o.length ⟨w.heap.size, 0, cs.length + rest.length⟩
    Nx ι h w κ ⟨h.o ++ [.cells k t 0 cs], h.e, h.d⟩ (w.alloc (.cells (V.reals κ cs ++ rest).toArray t fr)) := by
  intro κ
  refine Nx.new hr _ _ ⟨w.heap.size, 0, cs.length + rest.length⟩ rfl ?_ hsc (by simp [Obj.own, hk])
  refine ⟨(V.reals κ cs ++ rest).toArray, t, fr.1, fr.2, ?_, ?_, by simp, ?_, fun he => by simp [hex he], fun _ => ⟨rfl, rfl, Nat.zero_le _, ?_⟩⟩
  · show (w.heap.push _)[w.heap.size]? = _
    rw [Array.getElem?_push]
    simp [κ]
  · simp [V.reals_eq]
  · intro i c hc
    rw [Nat.zero_add, List.getElem?_toArray, List.getElem?_append_left (by rw [V.reals_eq, List.length_map]; exact (List.getElem?_eq_some_iff.1 hc).1), V.reals_eq, List.getElem?_map, hc]
    rfl
  · exact fun i _ hi => hfr i hi

theorem Nx.drew (hr : HR ι h.o w) {w' : World} (hh : w'.heap = w.heap) (h1 : w'.os = w.os) (h2 : w'.tape = w.tape) (h3 : w'.output = w.output) : Nx ι h w ι h w' := by
  refine ⟨⟨fun l o hl => (hr.obj l o hl).of_block (by rw [hh]), hr.apart, hr.sc⟩, Agree.refl _ _, Nat.le_refl _, ⟨h1, h2, h3, by rw [hh]; exact Nat.le_refl _, fun b _ _ => by rw [hh], fun _ _ h => h⟩, fun _ _ _ _ h => h, ⟨Nat.le_refl _, Nat.le_refl _⟩, fun _ _ _ => rfl, fun _ _ h _ _ => h⟩
end
end AM

/- AM, part 3: the abstract code, how the program's code is turned into it, and how it runs. -/
namespace AM
open Go
set_option linter.unusedVariables false

inductive Opd where
  | t (i : Nat)
  | k (v : V)
  | f (n : Nat)
  deriving Inhabited

/-- Kinds of cells, as '==' tells them apart. -/
inductive Kd where
  | b | i | s | p | sl | m | f
  deriving DecidableEq, Inhabited

/-- Abstract operations: what hangs on types is reckoned already. -/
inductive AOp where
  | mv (x : Opd)
  | bin (o : BinOp) (x y : Opd)
  | eqf (neg agg : Bool) (ks : List (Nat × Kd)) (x y : Opd)
  | un (o : UnOp) (x : Opd)
  | pick (c a b : Opd)
  | nck (x : Opd)
  | load (n : Option Nat) (x : Opd)
  | store (n : Nat) (x v : Opd)
  | alloc (t : Nat) (z : List V)
  | box (t : Nat) (x : Opd)
  | build (z : List V) (ps : List (Nat × Nat × Opd))
  | bslice (t e : Nat) (z : List V) (ps : List (Nat × Nat × Opd))
  | faddr (off : Nat) (x : Opd)
  | field (off : Nat) (n : Option Nat) (x : Opd)
  | iaddrA (len e : Nat) (x i : Opd)
  | iaddrS (e : Nat) (x i : Opd)
  | idxA (len e : Nat) (n : Option Nat) (x i : Opd)
  | idxS (x i : Opd)
  | slS (x : Opd) (lo hi : Option Opd)
  | slL (e : Nat) (x : Opd) (lo hi : Option Opd)
  | slA (len e : Nat) (x : Opd) (lo hi : Option Opd)
  | toInt (k : IntKind) (x : Opd)
  | toStr (x : Opd)
  | cpS (x : Opd)
  | toBytes (t : Nat) (x : Opd)
  | extract (x : Opd) (i : Nat)
  | mkf (f : Nat) (a b : List Opd)
  | mki (t : Nat) (x : Opd)
  | tassert (t : Nat) (z : V) (x : Opd)
  | inil (ne : Bool) (x : Opd)
  | call (f : Nat) (args : List Opd)
  | callv (x : Opd) (args : List Opd)
  | lenS (x : Opd)
  | lenL (x : Opd)
  | lenA (n : Nat)
  | copyS (x y : Opd)
  | copyL (e : Nat) (x y : Opd)
  | clearL (e : Nat) (z : List V) (x : Opd)
  | minmax (mx : Bool) (xs : List Opd)
  | app (t e bytes : Nat) (z : List V) (x y : Opd)
  | appz (t e bytes : Nat) (z : List V) (x y : Opd)
  | appS (t bytes : Nat) (z : List V) (x y : Opd)
  | mkSlice (t e bytes : Nat) (z : List V) (l c : Opd)
  | mkMap
  | lookup (kd : Kd) (z : V) (ok : Bool) (m k : Opd)
  | mapSet (kd : Kd) (m k x : Opd)
  | mapDel (kd : Kd) (m k : Opd)
  | lenM (m : Opd)
  | clearM (m : Opd)
  | mkChan (n : Nat)
  | lenC (x : Opd)
  | sdata (x : Opd)
  | ustr (e : Nat) (p n : Opd)
  | cvU (x : Opd)
  | cvP (tb : List (Nat × Nat)) (x : Opd)
  | panic (x : Opd)
  deriving Inhabited

structure AO where
  d : Option Nat
  op : AOp
  g : Option (Nat × Bool)
  deriving Inhabited

/-- One operation of a region whose order is open: its place in the region; the operation; the numbers of new objects that its value may lead to; its own new object; what is looked at again if it turns the heap. -/
structure DO where
  i : Nat
  o : AO
  al : List Nat
  pl : Option Nat
  rc : List AO
  deriving Inhabited

inductive AC where
  | draw (m : Nat) (l : List DO)
  | skip
  | region (ops : List AO) (draw : Bool)
  | seq (a b : AC)
  | cond (c : Opd) (a b : AC)
  | block (id : Nat) (c : AC)
  | loop (c : AC)
  | exit (id : Nat)
  | scope (c : AC)
  | label (l : Nat)
  | ret
  | sel (d : Option Nat) (snd : Option Opd) (ch : Opd) (z : V) (ops : List AO)
  deriving Inhabited

inductive RV where
  | t (i : Nat)
  | c (i : Nat) (n : Option Nat)
  deriving Inhabited

structure AF where
  n : Nat
  res : List RV
  body : AC
  deriving Inhabited

inductive Out where
  | val (v : V)
  | pan (v : V)
  deriving Inhabited

inductive Ex where
  | norm
  | exit (id : Nat)
  | ret
  | pan (v : V)
  deriving Inhabited

abbrev CallF := Nat → List V → Heap → Option (Out × Option Heap)

class Slots (σ : Type) where
  get : σ → Nat → V
  put : σ → Nat → V → σ
  law : ∀ s d v i, get (put s d v) i = if i = d then v else get s i

def undefV : V := .tuple []

def fput (S : Nat → V) (d : Nat) (v : V) : Nat → V := fun i => if i = d then v else S i
instance : Slots (Nat → V) := ⟨fun s => s, fput, fun _ _ _ _ => rfl⟩

section
variable {σ : Type} [Slots σ]
open Slots

def Opd.ev (S : σ) : Opd → V
  | .t i => get S i
  | .k v => v
  | .f n => .fn n [] []

def putO (S : σ) : Option Nat → V → σ
  | some d, v => put S d v
  | none, _ => S
end

def intA (o : BinOp) (k : IntKind) (a b : Int) : Option V :=
  match o with
  | .add => some (.int k (k.wrap (a + b)))
  | .sub => some (.int k (k.wrap (a - b)))
  | .mul => some (.int k (k.wrap (a * b)))
  | .quo => if b = 0 then none else some (.int k (k.wrap (a.tdiv b)))
  | .rem => if b = 0 then none else some (.int k (a.tmod b))
  | .and | .or | .xor | .andNot => some (.int k (bits o k a b))
  | .eql => some (.bool (a == b))
  | .neq => some (.bool (a != b))
  | .lss => some (.bool (decide (a < b)))
  | .leq => some (.bool (decide (a ≤ b)))
  | .gtr => some (.bool (decide (b < a)))
  | .geq => some (.bool (decide (b ≤ a)))
  | _ => none

def shiftA (o : BinOp) (k : IntKind) (a b : Int) : Option V :=
  if b < 0 then none else
  match o with
  | .shl => some (.int k (k.wrap (a * 2 ^ (min b.toNat k.bits))))
  | .shr => some (.int k (a.fdiv (2 ^ (min b.toNat k.bits))))
  | _ => none

def strA (o : BinOp) (a b : List UInt8) : Option V :=
  match o with
  | .add => if a.length + b.length ≤ 9223372036854775807 then some (.str (a ++ b)) else none
  | .eql => some (.bool (a == b))
  | .neq => some (.bool (!(a == b)))
  | .lss => some (.bool (Op.bytesLess a b))
  | .leq => some (.bool (Op.bytesLess a b || a == b))
  | .gtr => some (.bool (!(Op.bytesLess a b || a == b)))
  | .geq => some (.bool (!Op.bytesLess a b))
  | _ => none

def binA (o : BinOp) (x y : V) : Option V :=
  match x, y with
  | .int k a, .int k' b =>
    match o with
    | .shl | .shr => shiftA o k a b
    | _ => if k = k' then intA o k a b else none
  | .str a, .str b => strA o a b
  | _, _ => none

/-- One cell against another one. -/
def eqK (k : Kd) (x y : V) : Option Bool :=
  match k with
  | .b => match x, y with
    | .bool a, .bool b => some (a == b)
    | _, _ => none
  | .i => match x, y with
    | .int k a, .int k' b => if k = k' then some (a == b) else none
    | _, _ => none
  | .s => match x, y with
    | .str a, .str b => some (a == b)
    | _, _ => none
  | .p => match x, y with
    | .nilp, .nilp => some true
    | .nilp, .ptr .. | .ptr .., .nilp => some false
    | .ptr l a, .ptr l' b => if l = l' then some (a == b) else none
    | _, _ => none
  | .sl => match x, y with
    | .nils, .nils => some true
    | .nils, .slice .. | .slice .., .nils => some false
    | .nils, .zsl _ | .zsl _, .nils => some false
    | .nils, .esl .. | .esl .., .nils => some false
    | _, _ => none
  | .m => match x, y with
    | .nilm, .nilm => some true
    | .nilm, .map _ | .map _, .nilm => some false
    | _, _ => none
  | .f => match x, y with
    | .nilf, .nilf => some true
    | .nilf, .fn .. | .fn .., .nilf => some false
    | _, _ => none

def eqKs : List Kd → List V → List V → Option Bool
  | [], [], [] => some true
  | k :: ks, x :: xs, y :: ys =>
    match eqK k x y, eqKs ks xs ys with
    | some a, some b => some (a && b)
    | _, _ => none
  | _, _, _ => none

def kdsOf : List (Nat × Kd) → List Kd
  | [] => []
  | (n, k) :: r => List.replicate n k ++ kdsOf r

def eqA (agg : Bool) (ks : List (Nat × Kd)) (x y : V) : Option Bool :=
  if agg = true then
    match x, y with
    | .agg xs, .agg ys => eqKs (kdsOf ks) xs ys
    | _, _ => none
  else
    match ks with
    | [(_, k)] => eqK k x y
    | _ => none

def unA (o : UnOp) (x : V) : Option V :=
  match o, x with
  | .not, .bool b => some (.bool (!b))
  | .neg, .int k n => some (.int k (k.wrap (0 - n)))
  | .xor, .int k n => some (.int k (bits .xor k (if k.signed then -1 else k.max) n))
  | _, _ => none

/-- Parts laid over cells. -/
def fillA (cs : List V) : List (Nat × Nat × V) → Option (List V)
  | [] => some cs
  | (off, n, v) :: r => if v.cells.length = n ∧ off + n ≤ cs.length then fillA (splice cs off v.cells) r else none

def partA (cs : List V) (off : Nat) : Option Nat → Option V
  | some n => if off + n ≤ cs.length then some (.agg ((cs.drop off).take n)) else none
  | none => cs[off]?

def idxOf (n : Nat) : V → Option Nat
  | .int _ i => if 0 ≤ i ∧ i < n then some i.toNat else none
  | _ => none

/-- The bounds of a slice expression. -/
def hiB (len cap : Nat) : Option V → Option Nat
  | none => some len
  | some (.int _ i) => if 0 ≤ i ∧ i ≤ (cap : Int) then some i.toNat else none
  | _ => none
def loB (b : Nat) : Option V → Option Nat
  | none => some 0
  | some (.int _ i) => if 0 ≤ i ∧ i ≤ (b : Int) then some i.toNat else none
  | _ => none
def boundsA (len cap : Nat) (lo hi : Option V) : Option (Nat × Nat) :=
  match hiB len cap hi with
  | some b => match loB b lo with
    | some a => some (a, b)
    | none => none
  | none => none

def Heap.cellsAt (h : Heap) (l : Nat) : Option (List V) :=
  match h.o[l]? with
  | some (.cells _ _ _ cs) => some cs
  | _ => none

/-- Are so many cells of an object known? -/
def Heap.holds (h : Heap) (l n : Nat) : Bool :=
  match h.o[l]? with
  | some (.cells _ _ _ cs) => decide (n ≤ cs.length)
  | _ => false

def Heap.exact (h : Heap) (l : Nat) : Bool :=
  match h.o[l]? with
  | some (.cells .ex _ _ _) => true
  | _ => false

/-- One's own row of a type. -/
def Heap.ownT (h : Heap) (l e : Nat) : Bool :=
  match h.o[l]? with
  | some (.cells ck t _ _) => !decide (ck = .ro) && decide (t = e)
  | _ => false
/-- One's own row of one of these types, as long as one of them. -/
def Heap.tyIn (h : Heap) (l : Nat) (tb : List (Nat × Nat)) : Bool :=
  match h.o[l]? with
  | some (.cells ck t _ cs) => !decide (ck = .ro) && tb.any fun p => decide (p.1 = t) && decide (p.2 ≤ cs.length)
  | _ => false

def Heap.new (h : Heap) (o : Obj) : Heap := ⟨h.o ++ [o], h.e, h.d⟩

def bytesA (s : List UInt8) : List V := s.map fun b => .int .u8 (b.toNat : Int)

def strOf : List V → Option (List UInt8)
  | [] => some []
  | .int .u8 n :: r => match strOf r with
    | some s => some (UInt8.ofNat n.toNat :: s)
    | none => none
  | _ => none

/-- Bytes, each in its range. -/
def strIn : List V → Option (List UInt8)
  | [] => some []
  | .int .u8 n :: r => match strIn r with
    | some s => if 0 ≤ n ∧ n < 256 then some (UInt8.ofNat n.toNat :: s) else none
    | none => none
  | _ => none

def maxi (mx : Bool) (a b : Int) : Int := if mx then (if b > a then b else a) else (if b < a then b else a)

def minmaxA (mx : Bool) (x : V) : List V → Option V
  | [] => some x
  | y :: r => match x, y with
    | .int k a, .int k' b => if k = k' then minmaxA mx (.int k (maxi mx a b)) r else none
    | _, _ => none

def evs {σ : Type} [Slots σ] (S : σ) (l : List Opd) : List V := l.map (Opd.ev S)

def reps (z : List V) : Nat → List V
  | 0 => []
  | n + 1 => z ++ reps z n

/-- None of these has this key. -/
def loneK (kd : Kd) (k : V) (r : List (V × V)) : Bool := r.all fun e => match eqK kd k e.1 with
  | some false => true
  | _ => false

/-- What an operation without calls does: its value; the heap, if it has turned. -/
def mapFind (kd : Kd) (k : V) : List (V × V) → Option (Option V)
  | [] => some none
  | (k', v) :: r => match eqK kd k k' with
    | some true => if loneK kd k r = true then some (some v) else none
    | some false => mapFind kd k r
    | none => none

def mapPut (kd : Kd) (k x : V) : List (V × V) → Option (List (V × V))
  | [] => some [(k, x)]
  | (k', v) :: r => match eqK kd k k' with
    | some true => if loneK kd k r = true then some ((k, x) :: r) else none
    | some false => match mapPut kd k x r with
      | some r' => some ((k', v) :: r')
      | none => none
    | none => none

def mapDrop (kd : Kd) (k : V) : List (V × V) → Option (List (V × V))
  | [] => some []
  | (k', v) :: r => match eqK kd k k' with
    | some true => if loneK kd k r = true then some r else none
    | some false => match mapDrop kd k r with
      | some r' => some ((k', v) :: r')
      | none => none
    | none => none

/-- A key that a map may have: an integer, a bool, a text. -/
def V.key (kd : Kd) : V → Bool
  | .int .. => decide (kd = .i)
  | .bool _ => decide (kd = .b)
  | .str _ => decide (kd = .s)
  | _ => false

def Heap.setMap (h : Heap) (l : Nat) (es : List (V × V)) (pl : Bool) : Heap :=
  ⟨h.o.set l (.map es), if pl = true then h.e else min h.e l, min h.d l⟩

def ok1 : Nat := 281474976710656
/-- Room for so many elements, as append asks for it. -/
def roomOk (n bytes : Nat) : Bool := decide ((2 * n + 1024) * bytes ≤ ok1 ∧ n ≤ ok1)

/-- A slice without room. -/
def zslOf : V → Option Addr
  | .zsl a => some a
  | _ => none
theorem zslOf_some {v : V} {a : Addr} (h : zslOf v = some a) : v = .zsl a := by
  cases v <;> simp_all [zslOf]

/-- What is appended to a slice. 'new': the new cells, k of them elements. -/
def appendA (h : Heap) (t e bytes : Nat) (x : V) (k : Nat) (new : List V) : Option (V × Option Heap) :=
  match x with
  | .nils => if k = 0 then some (.nils, none) else if roomOk k bytes = true then some (.slice h.o.length 0 k e, some (h.new (.cells .gr t 0 new))) else none
  | .slice l o n e' =>
    if e' = e then
      match h.o[l]? with
      | some (.cells ck t' fz cs) =>
        if o + n * e ≤ cs.length then
          if k = 0 then some (.slice l o n e, none)
          else if o + (n + k) * e ≤ cs.length then (h.sets l (o + n * e) new).map fun h' => (.slice l o (n + k) e, some h')
          else if o + n * e = cs.length ∧ roomOk (n + k) bytes = true then
            match ck with
            | .ro => none
            | .ex => some (.slice h.o.length 0 (n + k) e, some (h.new (.cells .gr t 0 (cs.drop o ++ new))))
            | .gr => if o = 0 ∧ fz ≤ cs.length ∧ t' = t then some (.slice h.o.length 0 (n + k) e, some ⟨h.o.set l .dead ++ [.cells .gr t fz (cs ++ new)], h.e, min h.d l⟩) else none
          else none
        else none
      | _ => none
    else none
  | v => (zslOf v).bind fun a => if k = 0 then some (.zsl a, none) else if roomOk k bytes = true then some (.slice h.o.length 0 k e, some (h.new (.cells .gr t 0 new))) else none

def ok (v : V) : Option (V × Option Heap) := some (v, none)
def okh (v : V) (h : Heap) : Option (V × Option Heap) := some (v, some h)
/-- How long a slice is. -/
def lenLV (v : V) : Option (V × Option Heap) := match v with
  | .slice _ _ n _ => ok (.int .i64 (n : Int))
  | .nils => ok (.int .i64 0)
  | .esl .. => ok (.int .i64 0)
  | v => (zslOf v).bind fun _ => ok (.int .i64 0)
theorem lenLV_slice (l o n e : Nat) : lenLV (.slice l o n e) = some (.int .i64 (n : Int), none) := rfl
theorem lenLV_nils : lenLV .nils = some (.int .i64 0, none) := rfl
theorem lenLV_esl (l o k e : Nat) : lenLV (.esl l o k e) = some (.int .i64 0, none) := rfl
theorem lenLV_zsl (a : Addr) : lenLV (.zsl a) = some (.int .i64 0, none) := rfl

section
variable {σ : Type} [Slots σ]

def stepV (op : AOp) (S : σ) (h : Heap) : Option (V × Option Heap) :=
  match op with
  | .mv x => ok (x.ev S)
  | .bin o x y => (binA o (x.ev S) (y.ev S)).bind ok
  | .eqf neg agg ks x y => (eqA agg ks (x.ev S) (y.ev S)).bind fun b => ok (.bool (if neg = true then !b else b))
  | .un o x => (unA o (x.ev S)).bind ok
  | .pick c a b => match c.ev S with
    | .bool t => ok (if t = true then a.ev S else b.ev S)
    | _ => none
  | .nck x => match x.ev S with
    | .ptr l o => ok (.ptr l o)
    | _ => none
  | .load n x => match x.ev S with
    | .ptr l o => match n with
      | none => (h.get l o).bind ok
      | some n => (h.gets l o n).bind fun cs => ok (.agg cs)
    | _ => none
  | .store n x v => match x.ev S with
    | .ptr l o => if (v.ev S).cells.length = n then (h.sets l o (v.ev S).cells).bind fun h' => okh undefV h' else none
    | _ => none
  | .alloc t z => okh (.ptr h.o.length 0) (h.new (.cells .ex t 0 z))
  | .box t x => okh (.ptr h.o.length 0) (h.new (.cells .ex t 0 (x.ev S).cells))
  | .build z ps => (fillA z (ps.map fun p => (p.1, p.2.1, p.2.2.ev S))).bind fun cs => ok (.agg cs)
  | .bslice t e z ps => (fillA z (ps.map fun p => (p.1, p.2.1, p.2.2.ev S))).bind fun cs =>
      okh (.slice h.o.length 0 (z.length / e) e) (h.new (.cells .ex t 0 cs))
  | .faddr off x => match x.ev S with
    | .ptr l o => ok (.ptr l (o + off))
    | _ => none
  | .field off n x => match x.ev S with
    | .agg cs => (partA cs off n).bind ok
    | _ => none
  | .iaddrA len e x i => match x.ev S with
    | .ptr l o => (idxOf len (i.ev S)).bind fun j => ok (.ptr l (o + j * e))
    | _ => none
  | .iaddrS e x i => match x.ev S with
    | .slice l o n e' => if e' = e then (idxOf n (i.ev S)).bind fun j => ok (.ptr l (o + j * e)) else none
    | _ => none
  | .idxA len e n x i => match x.ev S with
    | .agg cs => (idxOf len (i.ev S)).bind fun j => (partA cs (j * e) n).bind ok
    | _ => none
  | .idxS x i => match x.ev S with
    | .str s => (idxOf s.length (i.ev S)).bind fun j => match s[j]? with
      | some b => ok (.int .u8 (b.toNat : Int))
      | none => none
    | _ => none
  | .slS x lo hi => match x.ev S with
    | .str s => (boundsA s.length s.length (lo.map (Opd.ev S)) (hi.map (Opd.ev S))).bind fun p => ok (.str ((s.take p.2).drop p.1))
    | _ => none
  | .slL e x lo hi => match x.ev S with
    | .slice l o n e' => if e' = e ∧ 0 < e ∧ (n = 0 ∨ h.holds l (o + n * e) = true) then
        (boundsA n n (lo.map (Opd.ev S)) (hi.map (Opd.ev S))).bind fun p =>
          if p.1 = 0 then ok (.slice l o p.2 e)
          else if p.1 < p.2 then ok (.slice l (o + p.1 * e) (p.2 - p.1) e)
          else ok (.esl l o p.1 e)
      else none
    | .nils => (boundsA 0 0 (lo.map (Opd.ev S)) (hi.map (Opd.ev S))).bind fun _ => ok .nils
    | v => (zslOf v).bind fun a => (boundsA 0 0 (lo.map (Opd.ev S)) (hi.map (Opd.ev S))).bind fun _ => ok (.zsl a)
  | .slA len e x lo hi => match x.ev S with
    | .ptr l o => match h.cellsAt l with
      | some cs => if h.exact l = true ∧ o = 0 ∧ cs.length = len * e ∧ 0 < e then
          (boundsA len len (lo.map (Opd.ev S)) (hi.map (Opd.ev S))).bind fun p =>
            if p.1 = 0 then ok (.slice l 0 p.2 e) else if p.1 < len then ok (.slice l (p.1 * e) (p.2 - p.1) e) else none
        else if 0 < e ∧ o + len * e ≤ cs.length then
          (boundsA len len (lo.map (Opd.ev S)) (hi.map (Opd.ev S))).bind fun p => if p.1 = 0 then ok (.ssl l o p.2 len e) else if p.1 < len then ok (.ssl l (o + p.1 * e) (p.2 - p.1) (len - p.1) e) else none
        else none
      | none => none
    | _ => none
  | .toInt k x => match x.ev S with
    | .int _ n => ok (.int k (k.wrap n))
    | _ => none
  | .toStr x => match x.ev S with
    | .nils => ok (.str [])
    | .slice l o n 1 => (h.gets l o n).bind fun cs => (strOf cs).bind fun s => ok (.str s)
    | _ => none
  | .cpS x => match x.ev S with
    | .str s => ok (.str s)
    | _ => none
  | .toBytes t x => match x.ev S with
    | .str s => okh (.slice h.o.length 0 s.length 1) (h.new (.cells .gr t 0 (bytesA s)))
    | _ => none
  | .extract x i => match x.ev S with
    | .tuple vs => (vs[i]?).bind ok
    | _ => none
  | .mkf f a b => ok (.fn f (evs S a) (evs S b))
  | .mki t x => ok (.iface t (x.ev S))
  | .tassert t z x => match x.ev S with
    | .iface t' v => if t' = t then ok (.tuple [v, .bool true]) else ok (.tuple [z, .bool false])
    | .nili => ok (.tuple [z, .bool false])
    | _ => none
  | .inil ne x => match x.ev S with
    | .nili => ok (.bool (!ne))
    | .iface _ _ => ok (.bool ne)
    | _ => none
  | .call .. | .callv .. | .panic _ => none
  | .lenS x => match x.ev S with
    | .str s => ok (.int .i64 (s.length : Int))
    | _ => none
  | .lenL x => lenLV (x.ev S)
  | .lenA n => ok (.int .i64 (n : Int))
  | .copyS x y => match x.ev S, y.ev S with
    | .slice l o n 1, .str s => (h.sets l o (bytesA (s.take n))).bind fun h' => okh (.int .i64 ((min s.length n : Nat) : Int)) h'
    | _, _ => none
  | .copyL e x y => match x.ev S, y.ev S with
    | .slice l o n e', .slice l' o' n' e'' => if e' = e ∧ e'' = e then
        (h.gets l' o' (min n' n * e)).bind fun cs => (h.sets l o cs).bind fun h' => okh (.int .i64 ((min n' n : Nat) : Int)) h'
      else none
    | .slice .., .nils | .nils, .slice .. | .nils, .nils => ok (.int .i64 0)
    | .ssl l o n _ e', .slice l' o' n' e'' => if e' = e ∧ e'' = e then
        (h.gets l' o' (min n' n * e)).bind fun cs => (h.sets l o cs).bind fun h' => okh (.int .i64 ((min n' n : Nat) : Int)) h'
      else none
    | _, _ => none
  | .clearL e z x => match x.ev S with
    | .nils => ok undefV
    | .slice l o n e' => if n = 0 then ok undefV else if e' = e ∧ z.length = e then (h.sets l o (reps z n)).bind fun h' => okh undefV h' else none
    | .ssl l o n _ e' => if n = 0 then none else if e' = e ∧ z.length = e then (h.sets l o (reps z n)).bind fun h' => okh undefV h' else none
    | _ => none
  | .minmax mx xs => match evs S xs with
    | v :: r => (minmaxA mx v r).bind ok
    | [] => none
  | .app t e bytes _ x y => match y.ev S with
    | .nils => (appendA h t e bytes (x.ev S) 0 [])
    | .slice l o n e' => if e' = e then (h.gets l o (n * e)).bind fun cs => if cs.all V.one = true then appendA h t e bytes (x.ev S) n cs else none else none
    | .esl .. => appendA h t e bytes (x.ev S) 0 []
    | v => (zslOf v).bind fun _ => appendA h t e bytes (x.ev S) 0 []
  | .appz t e bytes z x y => match y.ev S with
    | .int _ m => if 0 ≤ IntKind.i64.wrap m ∧ (IntKind.i64.wrap m).toNat * bytes ≤ 2 ^ 48 ∧ (reps z (IntKind.i64.wrap m).toNat).all V.one = true then appendA h t e bytes (x.ev S) (IntKind.i64.wrap m).toNat (reps z (IntKind.i64.wrap m).toNat) else none
    | _ => none
  | .appS t bytes _ x y => match y.ev S with
    | .str s => (appendA h t 1 bytes (x.ev S) s.length (bytesA s))
    | _ => none
  | .mkSlice t e bytes z l c => match l.ev S, c.ev S with
    | .int _ ln, .int _ cp => if 0 ≤ ln ∧ ln ≤ cp ∧ cp * bytes ≤ ok1 ∧ cp ≤ ok1 then okh (.slice h.o.length 0 ln.toNat e) (h.new (.cells .ex t 0 (reps z cp.toNat))) else none
    | _, _ => none
  | .mkMap => okh (.map h.o.length) (h.new (.map []))
  | .lookup kd z cok m k => if (k.ev S).key kd = true then
      match m.ev S with
      | .nilm => ok (if cok = true then .tuple [z, .bool false] else z)
      | .map l => match h.o[l]? with
        | some (.map es) => (mapFind kd (k.ev S) es).bind fun r => ok (if cok = true then .tuple [r.getD z, .bool r.isSome] else r.getD z)
        | _ => none
      | _ => none
    else none
  | .mapSet kd m k x => if (k.ev S).key kd = true then
      match m.ev S with
      | .map l => match h.o[l]? with
        | some (.map es) => (mapPut kd (k.ev S) (x.ev S) es).bind fun es' => okh undefV (h.setMap l es' (x.ev S).plain)
        | _ => none
      | _ => none
    else none
  | .mapDel kd m k => if (k.ev S).key kd = true then
      match m.ev S with
      | .nilm => ok undefV
      | .map l => match h.o[l]? with
        | some (.map es) => (mapDrop kd (k.ev S) es).bind fun es' => okh undefV (h.setMap l es' true)
        | _ => none
      | _ => none
    else none
  | .lenM m => match m.ev S with
    | .nilm => ok (.int .i64 0)
    | .map l => match h.o[l]? with
      | some (.map es) => ok (.int .i64 (es.length : Int))
      | _ => none
    | _ => none
  | .clearM m => match m.ev S with
    | .nilm => ok undefV
    | .map l => match h.o[l]? with
      | some (.map es) => okh undefV (h.setMap l [] true)
      | _ => none
    | _ => none
  | .mkChan n => okh (.chan h.o.length) (h.new (.chan n []))
  | .lenC x => match x.ev S with
    | .nilc => ok (.int .i64 0)
    | .chan l => match h.o[l]? with
      | some (.chan _ buf) => ok (.int .i64 (buf.length : Int))
      | _ => none
    | _ => none
  | .sdata x => match x.ev S with
    | .nils => ok .nilp
    | .slice l o n e => if n ≠ 0 ∧ 0 < e ∧ h.holds l (o + n * e) = true then ok (.ptr l o) else none
    | _ => none
  | .ustr e p n => match p.ev S, n.ev S with
    | .nilp, .int .i64 k => if k = 0 then ok (.str []) else none
    | .ptr l o, .int .i64 k => if 0 < k ∧ o = 0 ∧ h.ownT l e = true ∧ k ≤ 9223372036854775807 then (h.gets l 0 k.toNat).bind fun cs => (strIn cs).bind fun s => okh (.str s) ⟨h.o.set l .dead, h.e, min h.d l⟩ else none
    | _, _ => none
  | .cvU x => match x.ev S with
    | .ptr l o => if (h.get l o).isSome = true then ok (.ptr l o) else none
    | _ => none
  | .cvP tb x => match x.ev S with
    | .ptr l o => if o = 0 ∧ h.tyIn l tb = true then ok (.ptr l 0) else none
    | _ => none

def stepA (call : CallF) (op : AOp) (S : σ) (h : Heap) : Option (Out × Option Heap) :=
  match op with
  | .call f args => call f (evs S args) h
  | .callv x args => match x.ev S with
    | .fn f first caps => call f (first ++ evs S args ++ caps) h
    | _ => none
  | .panic x => match x.ev S with
    | .iface t v => some (.pan (.iface t v), none)
    | _ => none
  | op => match stepV op S h with
    | some (v, oh) => some (.val v, oh)
    | none => none

def wantedA (S : σ) : Option (Nat × Bool) → Bool
  | none => true
  | some (j, want) => match Slots.get S j with
    | .bool b => b == want
    | _ => false

def execOps (call : CallF) : List AO → σ → Heap → Option (Ex × σ × Heap)
  | [], S, h => some (.norm, S, h)
  | o :: r, S, h =>
    if wantedA S o.g = true then
      match stepA call o.op S h with
      | some (.val v, none) => execOps call r (putO S o.d v) h
      | some (.val v, some h') => execOps call r (putO S o.d v) h'
      | some (.pan v, none) => some (.pan v, S, h)
      | some (.pan v, some h') => some (.pan v, S, h')
      | none => none
    else execOps call r (putO S o.d undefV) h

/-- A region whose order is open: nothing in it may turn the heap. -/
def execQ (call : CallF) : List AO → σ → Heap → Option (Ex × σ × Heap)
  | [], S, h => some (.norm, S, h)
  | o :: r, S, h =>
    if wantedA S o.g = true then
      match stepA call o.op S h with
      | some (.val v, none) => execQ call r (putO S o.d v) h
      | _ => none
    else execQ call r (putO S o.d undefV) h

mutual
/-- Is it the same value? -/
def V.beq : V → V → Bool
  | .bool a, .bool b => a == b
  | .int k a, .int k' b => decide (k = k') && (a == b)
  | .str a, .str b => a == b
  | .ptr a b, .ptr a' b' => decide (a = a') && decide (b = b')
  | .nilp, .nilp => true
  | .slice a b c d, .slice a' b' c' d' => decide (a = a') && decide (b = b') && decide (c = c') && decide (d = d')
  | .nils, .nils => true
  | .zsl a, .zsl b => decide (a = b)
  | .esl a b c d, .esl a' b' c' d' => decide (a = a') && decide (b = b') && decide (c = c') && decide (d = d')
  | .map a, .map b => decide (a = b)
  | .nilm, .nilm => true
  | .chan a, .chan b => decide (a = b)
  | .nilc, .nilc => true
  | .nilf, .nilf => true
  | .nili, .nili => true
  | .agg a, .agg b => V.beqs a b
  | .tuple a, .tuple b => V.beqs a b
  | .iface t a, .iface t' b => decide (t = t') && V.beq a b
  | .fn f a b, .fn f' a' b' => decide (f = f') && V.beqs a a' && V.beqs b b'
  | _, _ => false
def V.beqs : List V → List V → Bool
  | [], [] => true
  | x :: xs, y :: ys => V.beq x y && V.beqs xs ys
  | _, _ => false
end

mutual
/-- Only such objects does a value lead to. -/
def V.only (ok : Nat → Bool) : V → Bool
  | .ptr l _ | .slice l _ _ _ | .esl l _ _ _ | .ssl l _ _ _ _ | .map l | .chan l => ok l
  | .fn _ a b => V.onlys ok a && V.onlys ok b
  | .iface _ v => V.only ok v
  | .agg cs => V.onlys ok cs
  | .tuple vs => V.onlys ok vs
  | _ => true
def V.onlys (ok : Nat → Bool) : List V → Bool
  | [] => true
  | v :: r => V.only ok v && V.onlys ok r
end

def Obj.only (ok : Nat → Bool) : Obj → Bool
  | .cells _ _ _ cs => V.onlys ok cs
  | .map es => es.all fun e => V.only ok e.1 && V.only ok e.2
  | .chan _ buf => V.onlys ok buf
  | _ => true

def okL (N m : Nat) (al : List Nat) (l : Nat) : Bool := decide (l < N) || decide (N + m ≤ l) || al.contains (l - N)
def Heap.only (N m : Nat) (al : List Nat) (h : Heap) : Bool := (if N ≤ h.e then h.o.drop N else h.o).all (Obj.only (okL N m al))

/-- An operation that makes one object: its value, by that object's number; the object. -/
def newA (op : AOp) (S : σ) : Option ((Nat → V) × Obj) :=
  match op with
  | .alloc t z => some (fun l => .ptr l 0, .cells .ex t 0 z)
  | .box t x => some (fun l => .ptr l 0, .cells .ex t 0 (x.ev S).cells)
  | .bslice t e z ps => (fillA z (ps.map fun p => (p.1, p.2.1, p.2.2.ev S))).map fun cs => (fun l => .slice l 0 (z.length / e) e, .cells .ex t 0 cs)
  | .mkMap => some (fun l => .map l, .map [])
  | .mkChan n => some (fun l => .chan l, .chan n [])
  | .mkSlice t e bytes z l c => match l.ev S, c.ev S with
    | .int _ ln, .int _ cp => if 0 ≤ ln ∧ ln ≤ cp ∧ cp * bytes ≤ ok1 ∧ cp ≤ ok1 then some (fun l => .slice l 0 ln.toNat e, .cells .ex t 0 (reps z cp.toNat)) else none
    | _, _ => none
  | _ => none

/-- 0: of the slots alone; 1: reads memory; 2: may turn memory; 3: makes one object. -/
def AOp.cls : AOp → Nat
  | .mv _ | .bin .. | .eqf .. | .un .. | .pick .. | .nck _ | .faddr .. | .field .. | .iaddrA .. | .iaddrS .. | .idxA .. | .idxS .. | .slS .. | .build .. | .toInt .. | .cpS _ | .extract .. | .mkf .. | .mki .. | .tassert .. | .inil .. | .lenS _ | .lenL _ | .lenA _ | .minmax .. => 0
  | .load .. | .lookup .. | .toStr _ | .slA .. | .slL .. | .lenM _ | .lenC _ | .sdata _ | .cvU _ | .cvP .. => 1
  | .alloc .. | .box .. | .bslice .. | .mkMap | .mkSlice .. | .mkChan _ => 3
  | _ => 2

/-- What one operation of such a region does to the heap. -/
inductive KD where
  | q
  | a (l : Nat) (o : Obj)
  | c (h : Heap)

def KD.app (h : Heap) : KD → Heap
  | .q => h
  | .a l o => ⟨h.o.set l o, h.e, h.d⟩
  | .c h' => h'

/-- Looked at again: still the same value, still quiet. -/
def lookA (call : CallF) (S : σ) (h : Heap) (y : AO) : Bool :=
  if wantedA S y.g = true then
    match stepA call y.op S h with
    | some (.val v, none) => match y.d with
      | some d => V.beq v (Slots.get S d)
      | none => true
    | _ => false
  else true

def isDead : Option Obj → Bool
  | some .dead => true
  | _ => false

/-- What was not made yet is not made yet. -/
def deadKept (N : Nat) (h h' : Heap) : Nat → Bool
  | 0 => true
  | k + 1 => (!isDead h.o[N + k]? || isDead h'.o[N + k]?) && deadKept N h h' k

def outD (call : CallF) (N m : Nat) (x : DO) (S : σ) (h : Heap) : Option (V × KD) :=
  if wantedA S x.o.g = true then
    match x.pl with
    | some k => match newA x.o.op S with
      | some (f, ob) => if Obj.only (okL N m x.al) ob = true then some (f (N + k), .a (N + k) ob) else none
      | none => none
    | none => match stepA call x.o.op S h with
      | some (.val v, none) => if m = 0 ∨ V.only (okL N m x.al) v = true then some (v, .q) else none
      | some (.val v, some h') => if x.o.op.cls = 2 ∧ (m = 0 ∨ (V.only (okL N m x.al) v = true ∧ h'.only N m x.al = true ∧ deadKept N h h' m = true)) ∧ x.rc.all (lookA call S h') = true then some (v, .c h') else none
      | _ => none
  else some (undefV, .q)

/-- A region whose order is open, in one order. -/
def execD (call : CallF) (N m : Nat) : List DO → σ → Heap → Option (σ × Heap)
  | [], S, h => some (S, h)
  | x :: r, S, h => match outD call N m x S h with
    | some (v, k) => execD call N m r (putO S x.o.d v) (k.app h)
    | none => none

def drawA (call : CallF) (m : Nat) (l : List DO) (S : σ) (h : Heap) : Option (Ex × σ × Heap) :=
  if m = 0 then
    match execD call h.o.length 0 l S h with
    | some (S', h') => some (.norm, S', h')
    | none => none
  else
    match execD call h.o.length m l S ⟨h.o ++ List.replicate m .dead, h.o.length, h.o.length⟩ with
    | some (S', h') => some (.norm, S', ⟨h'.o, min h.e h'.e, min h.d h'.d⟩)
    | none => none

/-- A select of one case, with a default. -/
def selA (snd : Option Opd) (ch : Opd) (z : V) (S : σ) (h : Heap) : Option (V × Heap) :=
  match ch.ev S with
  | .chan l => match h.o[l]? with
    | some (.chan cap buf) => match snd with
      | some x => if buf.length < cap then some (.tuple [.int .i64 0, .bool false], ⟨h.o.set l (.chan cap (buf ++ [x.ev S])), if (x.ev S).plain = true then h.e else min h.e l, min h.d l⟩)
        else some (.tuple [.int .i64 (-1), .bool false], h)
      | none => match buf with
        | [] => some (.tuple [.int .i64 (-1), .bool false, z], h)
        | v :: r => some (.tuple [.int .i64 0, .bool true, v], ⟨h.o.set l (.chan cap r), h.e, min h.d l⟩)
    | _ => none
  | _ => none

def exec (call : CallF) : Nat → AC → σ → Heap → Option (Ex × σ × Heap)
  | 0, _, _, _ => none
  | n + 1, c, S, h =>
    match c with
    | .skip | .label _ => some (.norm, S, h)
    | .draw m l => drawA call m l S h
    | .region ops d => if d = true then execQ call ops S h else execOps call ops S h
    | .seq a b => match exec call n a S h with
      | some (.norm, S', h') => exec call n b S' h'
      | r => r
    | .cond c a b => match c.ev S with
      | .bool true => exec call n a S h
      | .bool false => exec call n b S h
      | _ => none
    | .block id c => match exec call n c S h with
      | some (.exit i, S', h') => if i = id then some (.norm, S', h') else some (.exit i, S', h')
      | r => r
    | .loop c => match exec call n c S h with
      | some (.norm, S', h') => exec call n (.loop c) S' h'
      | r => r
    | .exit id => some (.exit id, S, h)
    | .scope c => exec call n c S h
    | .ret => some (.ret, S, h)
    | .sel d snd ch z ops => match selA snd ch z S h with
      | some (v, h') => execOps call ops (putO S d v) h'
      | none => none

def resOne (S : σ) (h : Heap) : RV → Option V
  | .t i => some (Slots.get S i)
  | .c i n => match Slots.get S i with
    | .ptr l o => match n with
      | none => h.get l o
      | some n => (h.gets l o n).map .agg
    | _ => none

def resAll (S : σ) (h : Heap) : List RV → Option (List V)
  | [] => some []
  | r :: rs => match resOne S h r, resAll S h rs with
    | some v, some vs => some (v :: vs)
    | _, _ => none

/-- The results as one value. -/
def resV : List V → V
  | [v] => v
  | vs => .tuple vs

/-- What a call leaves for the caller: all that it made is let go, where nothing leads to it. -/
def leave (h h' : Heap) (v : V) : Option Heap :=
  if h.o.length ≤ h'.e ∧ v.plain = true then
    if h.o.length ≤ h'.d then none else some ⟨h'.o.take h.o.length, h.e, min h.d h'.d⟩
  else some ⟨h'.o, min h.e h'.e, min h.d h'.d⟩

def finish (f : AF) (h : Heap) : Option (Ex × σ × Heap) → Option (Out × Option Heap)
  | some (.norm, S, h') | some (.ret, S, h') => match resAll S h' f.res with
    | some vs => some (.val (resV vs), leave h h' (resV vs))
    | none => none
  | some (.pan v, S, h') => some (.pan v, leave h h' v)
  | _ => none

def enter (h : Heap) : Heap := ⟨h.o, h.o.length, h.o.length⟩
end

def initS (args : List V) : Nat → V := fun i => args.getD i undefV

/-- Calls, to a depth; 'ext' answers for some functions. -/
def callN (F : Nat → Option AF) (ext : CallF → Nat → Option (List V → Heap → Option (Out × Option Heap))) : Nat → CallF
  | 0, _, _, _ => none
  | n + 1, f, args, h =>
    match ext (callN F ext n) f with
    | some g => g args h
    | none => match F f with
      | none => none
      | some a => if args.length ≤ a.n then finish a h (exec (callN F ext n) n a.body (initS args) (enter h)) else none

end AM

/- AM, part 4: the program's code turned into abstract code. -/
namespace AM
open Go
set_option linter.unusedVariables false

def ofCell : Value → Option V
  | .bool b => some (.bool b)
  | .int k n => some (.int k n)
  | .string s => some (.str s.data.toList)
  | .pointer none => some .nilp
  | .slice none 0 0 => some .nils
  | .map none => some .nilm
  | .chan none => some .nilc
  | .nilFunc => some .nilf
  | .nilIface => some .nili
  | _ => none

def ofCells : List Value → Option (List V)
  | [] => some []
  | v :: r => match ofCell v, ofCells r with
    | some x, some xs => some (x :: xs)
    | _, _ => none

def ofVal : Value → Option V
  | .agg cs => (ofCells cs.toList).map .agg
  | v => ofCell v

def trOpd : Operand → Option Opd
  | .tmp t => some (.t t)
  | .const v => (ofVal v).map .k
  | .func f => some (.f f)
  | .global _ => none

def trOpds : List Operand → Option (List Opd)
  | [] => some []
  | x :: r => match trOpd x, trOpds r with
    | some y, some ys => some (y :: ys)
    | _, _ => none

def szOf (P : Program) (t : Nat) : Option Nat := (P.info? t).map (·.size)
def bytesOf (P : Program) (t : Nat) : Option Nat := (P.info? t).map (·.bytes)
def isAggD : TypeDesc → Bool
  | .struct _ | .array _ _ => true
  | _ => false
/-- What a part or a variable of a type is: so many cells, or one. -/
def parOf (P : Program) (t : Nat) : Option (Option Nat) :=
  match P.underlying t with
  | some d => if isAggD d = true then (szOf P t).map some else some none
  | none => none
def zeroOf (P : Program) (t : Nat) : Option V := ((P.info? t).bind (·.zero)).bind ofVal
def isByte (P : Program) (t : Nat) : Bool := match P.underlying t with
  | some (.int .u8) => true
  | _ => false

/-- Fields that lie one behind the other from a cell on. -/
def fieldsLie (P : Program) : List Field → Nat → Option Nat
  | [], off => some off
  | f :: r, off => if f.offset = off then match szOf P f.type with
    | some n => fieldsLie P r (off + n)
    | none => none
    else none

/-- The kinds of the cells of a type whose values are alike just if their cells are. -/
def flatT (P : Program) : Nat → Nat → Option (List (Nat × Kd))
  | 0, _ => none
  | d + 1, t =>
    match P.underlying t with
    | some .bool => if szOf P t = some 1 then some [(1, .b)] else none
    | some (.int _) => if szOf P t = some 1 then some [(1, .i)] else none
    | some .string => if szOf P t = some 1 then some [(1, .s)] else none
    | some (.struct fs) =>
      if P.stoodInHeld t = false ∧ (szOf P t).isSome = true ∧ fieldsLie P fs.toList 0 = szOf P t then flatF (flatT P d) fs.toList else none
    | some (.array n e) => match flatT P d e, szOf P e, szOf P t with
      | some ks, some a, some b => if n * a = b then (match ks with
          | [(m, k)] => some [(n * m, k)]
          | _ => some (List.replicate n ks).flatten) else none
      | _, _, _ => none
    | _ => none
where
  flatF (g : Nat → Option (List (Nat × Kd))) : List Field → Option (List (Nat × Kd))
    | [] => some []
    | f :: r => if f.name ≠ "_" then match g f.type, flatF g r with
      | some a, some b => some (a ++ b)
      | _, _ => none
      else none

/-- Where the parts of a struct, of an array lie. -/
def plF (P : Program) (fs : Array Field) (i : Nat) : Option (Nat × Nat) :=
  match fs[i]? with
  | some f => (szOf P f.type).map fun n => (f.offset, n)
  | none => none
def plA (n : Nat) (i : Nat) : Option (Nat × Nat) := some (i * n, n)

def trParts : List (Nat × Operand) → (Nat → Option (Nat × Nat)) → Option (List (Nat × Nat × Opd))
  | [], _ => some []
  | (i, x) :: r, pl => match pl i, trOpd x, trParts r pl with
    | some (off, n), some y, some ys => some ((off, n, y) :: ys)
    | _, _, _ => none

def trOpt : Option Operand → Option (Option Opd)
  | none => some none
  | some x => (trOpd x).map some

def keyOk (P : Program) (kt : Nat) : Option Kd := match P.underlying kt with
  | some .bool => some .b
  | some (.int _) => some .i
  | some .string => some .s
  | _ => none

def trBuiltin (P : Program) (b : Builtin) (argTypes : List Nat) (args : List Opd) : Option AOp :=
  match b, argTypes, args with
  | .len, [t], [x] => match P.underlying t with
    | some .string => some (.lenS x)
    | some (.slice _) => some (.lenL x)
    | some (.array n _) => some (.lenA n)
    | some (.map _ _) => some (.lenM x)
    | some (.chan _ _) => some (.lenC x)
    | some (.pointer e) => match P.underlying e with
      | some (.array n _) => some (.lenA n)
      | _ => none
    | _ => none
  | .copy, [t, u], [x, y] => match P.underlying t, P.underlying u with
    | some (.slice e), some .string => if szOf P e = some 1 then some (.copyS x y) else none
    | some (.slice e), some (.slice _) => (szOf P e).map fun n => .copyL n x y
    | _, _ => none
  | .append, [t, u], [x, y] => match P.underlying t, P.underlying u with
    | some (.slice e), some .string => match szOf P e, bytesOf P e, zeroOf P e with
      | some 1, some b, some z => if z.cells.length = 1 then some (.appS e b z.cells x y) else none
      | _, _, _ => none
    | some (.slice e), some (.slice _) => match szOf P e, bytesOf P e, zeroOf P e with
      | some n, some b, some z => if 0 < n ∧ z.cells.length = n then some (.app e n b z.cells x y) else none
      | _, _, _ => none
    | some (.slice e), some (.int _) => match szOf P e, bytesOf P e, zeroOf P e with
      | some n, some b, some z => if 0 < n ∧ z.cells.length = n then some (.appz e n b z.cells x y) else none
      | _, _, _ => none
    | _, _ => none
  | .clear, [t], [x] => match P.underlying t with
    | some (.slice e) => match szOf P e, zeroOf P e with
      | some n, some z => if z.cells.length = n ∧ 0 < n then some (.clearL n z.cells x) else none
      | _, _ => none
    | some (.map _ _) => some (.clearM x)
    | _ => none
  | .max, _, xs => some (.minmax true xs)
  | .min, _, xs => some (.minmax false xs)
  | .delete, [t, _], [m, k] => match P.underlying t with
    | some (.map kt _) => (keyOk P kt).map fun kd => .mapDel kd m k
    | _ => none
  | .panic, _, [x] => some (.panic x)
  | .unsafeSliceData, [t], [x] => match P.underlying t with
    | some (.slice _) => some (.sdata x)
    | _ => none
  | .unsafeString, [t, _], [p, k] => match P.underlying t with
    | some (.pointer e) => if P.cellsOf e = 1 then some (.ustr e p k) else none
    | _ => none
  | _, _, _ => none

def callOk (P : Program) (f : Nat) : Bool := match P.funcs[f]? with
  | some fn => fn.name != "runtime.NumGoroutine" && fn.body.isSome
  | none => false

/-- Rows of these types begin with a variable of a type. -/
def tabOf (P : Program) (u : Nat) : List (Nat × Nat) :=
  (List.range P.types.size).filterMap fun t => match P.underlying t with
    | some (.struct _) => if 0 < P.cellsOf t ∧ liesAt P P.depth t 1 0 u 1 = true then some (t, P.cellsOf t) else none
    | _ => none
def isNoEsc (P : Program) (f : Nat) : Bool := match P.funcs[f]? with
  | some fn => fn.name == "internal/abi.NoEscape" && fn.origin == "" && fn.body.isNone
  | none => false

def trOp (P : Program) (o : Op) (type : Nat) : Option AOp :=
  match o with
  | .move x | .assign x => (trOpd x).map .mv
  | .pick c a b => match trOpd c, trOpd a, trOpd b with
    | some c, some a, some b => some (.pick c a b)
    | _, _, _ => none
  | .alloc t => (zeroOf P t).map fun z => .alloc t z.cells
  | .box t x => (trOpd x).map fun x => .box t x
  | .build t parts => match zeroOf P t, P.underlying t with
    | some z, some (.struct fs) => (trParts parts.toList (plF P fs)).bind fun ps =>
        if fs.toList.all (fun f => (szOf P f.type).isSome) = true then some (.build z.cells ps) else none
    | some z, some (.array _ e) => (szOf P e).bind fun n => (trParts parts.toList (plA n)).map fun ps => .build z.cells ps
    | _, _ => none
  | .buildSlice t len parts => match P.underlying t with
    | some (.slice e) => match szOf P e, zeroOf P e with
      | some n, some z => if 0 < n ∧ len * n ≤ 16777216 ∧ z.cells.length = n then
          (trParts parts.toList (plA n)).map fun ps => .bslice e n (reps z.cells len) ps
        else none
      | _, _ => none
    | _ => none
  | .load t x => match parOf P t, trOpd x with
    | some n, some x => some (.load n x)
    | _, _ => none
  | .store t x v => match szOf P t, trOpd x, trOpd v with
    | some n, some x, some v => some (.store n x v)
    | _, _, _ => none
  | .nilCheck x => (trOpd x).map .nck
  | .binOp op t x y _ => match trOpd x, trOpd y with
    | some x, some y =>
      if op = .eql ∨ op = .neq then
        match P.underlying t with
        | some (.int _) | some .string => some (.bin op x y)
        | some (.pointer e) => if szOf P e ≠ some 0 ∧ (szOf P e).isSome = true then some (.eqf (op == .neq) false [(1, .p)] x y) else none
        | some .bool => some (.eqf (op == .neq) false [(1, .b)] x y)
        | some (.slice _) => some (.eqf (op == .neq) false [(1, .sl)] x y)
        | some (.map _ _) => some (.eqf (op == .neq) false [(1, .m)] x y)
        | some (.func _ _ _) => some (.eqf (op == .neq) false [(1, .f)] x y)
        | some (.struct _) | some (.array _ _) => match flatT P 40 t with
          | some ks => if P.eqGuardType P.depth t = false then some (.eqf (op == .neq) true ks x y) else none
          | none => none
        | some (.interface _) => match y with
          | .k .nili => some (.inil (op == .neq) x)
          | _ => none
        | _ => none
      else some (.bin op x y)
    | _, _ => none
  | .unOp op _ x => (trOpd x).map fun x => .un op x
  | .convert s d x => match trOpd x, P.underlying s, P.underlying d with
    | some x, some (.int _), some (.int k) => some (.toInt k x)
    | some x, some .string, some .string => some (.cpS x)
    | some x, some (.slice e), some .string => if isByte P e = true then some (.toStr x) else none
    | some x, some .string, some (.slice e) => if isByte P e = true then some (.toBytes e x) else none
    | some x, some (.pointer e), some .unsafePointer => if szOf P e ≠ some 0 ∧ (szOf P e).isSome = true then some (.cvU x) else none
    | some x, some .unsafePointer, some (.pointer u) => if (P.info? u).isSome = true then some (.cvP (tabOf P u) x) else none
    | _, _, _ => none
  | .makeInterface t x => match P.underlying t, trOpd x with
    | some (.interface _), _ => none
    | some _, some x => some (.mki t x)
    | _, _ => none
  | .typeAssert x _ t ok => match P.underlying t, trOpd x, zeroOf P t with
    | some (.interface _), _, _ => none
    | some _, some x, some z => if ok = true then some (.tassert t z x) else none
    | _, _, _ => none
  | .makeFunc (.func f) a b => match trOpds a.toList, trOpds b.toList with
    | some a, some b => some (.mkf f a b)
    | _, _ => none
  | .makeMap _ none => some .mkMap
  | .makeChan t (.const (.int .i64 k)) => match P.underlying t with
    | some (.chan _ e) => match bytesOf P e with
      | some b => if 0 ≤ k ∧ k ≤ 1000000 ∧ (b : Int) * k ≤ 281474976710544 then some (.mkChan k.toNat) else none
      | none => none
    | _ => none
  | .makeSlice t l c => match P.underlying t with
    | some (.slice e) => match szOf P e, bytesOf P e, zeroOf P e, trOpd l, trOpd c with
      | some n, some b, some z, some l, some c => if 0 < n ∧ z.cells.length = n then some (.mkSlice e n b z.cells l c) else none
      | _, _, _, _, _ => none
    | _ => none
  | .fieldAddr s x f => match P.underlying s, trOpd x with
    | some (.struct fs), some x => match fs[f]? with
      | some fd => match szOf P fd.type with
        | some n => if n = 0 then none else some (.faddr fd.offset x)
        | none => none
      | none => none
    | _, _ => none
  | .field s x f => match P.underlying s, trOpd x with
    | some (.struct fs), some x => match fs[f]? with
      | some fd => (parOf P fd.type).map fun n => .field fd.offset n x
      | none => none
    | _, _ => none
  | .indexAddr t x i => match P.underlying t, trOpd x, trOpd i with
    | some (.array n e), some x, some i => (szOf P e).map fun s => .iaddrA n s x i
    | some (.slice e), some x, some i => (szOf P e).map fun s => .iaddrS s x i
    | _, _, _ => none
  | .index t x i => match P.underlying t, trOpd x, trOpd i with
    | some (.array n e), some x, some i => match szOf P e, parOf P e with
      | some s, some p => some (.idxA n s p x i)
      | _, _ => none
    | some .string, some x, some i => some (.idxS x i)
    | _, _, _ => none
  | .slice t x lo hi none => match P.underlying t, trOpd x, trOpt lo, trOpt hi with
    | some .string, some x, some lo, some hi => some (.slS x lo hi)
    | some (.slice e), some x, some lo, some hi => (szOf P e).map fun n => .slL n x lo hi
    | some (.array n e), some x, some lo, some hi => (szOf P e).map fun s => .slA n s x lo hi
    | some (.pointer q), some x, some lo, some hi => match P.underlying q with
      | some (.array n e) => (szOf P e).map fun s => .slA n s x lo hi
      | _ => none
    | _, _, _, _ => none
  | .extract x i => (trOpd x).map fun x => .extract x i
  | .lookup t m k cok => match P.underlying t, trOpd m, trOpd k with
    | some (.map kt e), some m, some k => match zeroOf P e with
      | some z => (keyOk P kt).map fun kd => .lookup kd z cok m k
      | none => none
    | _, _, _ => none
  | .mapUpdate t m k x => match P.underlying t, trOpd m, trOpd k, trOpd x with
    | some (.map kt _), some m, some k, some x => (keyOk P kt).map fun kd => .mapSet kd m k x
    | _, _, _, _ => none
  | .call c => match c.callee, trOpds c.args.toList with
    | .value (.func f), some l => if callOk P f = true then some (.call f l) else if isNoEsc P f = true then (match l with | [x] => some (.mv x) | _ => none) else none
    | .value (.tmp t), some l => some (.callv (.t t) l)
    | .builtin b, some l => trBuiltin P b c.argTypes.toList l
    | _, _ => none
  | .panic x => (trOpd x).map .panic
  | _ => none

def trGuard (ops : Array Oper) : Option (Nat × Bool) → Option (Option (Nat × Bool))
  | none => some none
  | some (j, want) => match (ops[j]?).bind (·.dst) with
    | some d => some (some (d, want))
    | none => none

/-- n: how many slots there are. -/
def trOper (P : Program) (n : Nat) (ops : Array Oper) (o : Oper) : Option AO :=
  match trOp P o.op o.type, trGuard ops o.guard with
  | some op, some g => match o.dst with
    | none => some ⟨none, op, g⟩
    | some d => if d < n then some ⟨some d, op, g⟩ else none
  | _, _ => none

def trOpers (P : Program) (n : Nat) (ops : Array Oper) : List Oper → Option (List AO)
  | [] => some []
  | o :: r => match trOper P n ops o, trOpers P n ops r with
    | some x, some xs => some (x :: xs)
    | _, _ => none

/-! ### Regions whose order is open -/

def Opd.sl : Opd → List Nat
  | .t i => [i]
  | _ => []
def oSl : Option Opd → List Nat
  | some x => x.sl
  | none => []
def opdSls (l : List Opd) : List Nat := (l.map Opd.sl).flatten

/-- The slots that an operation reads. -/
def AOp.looks : AOp → List Nat
  | .mv x | .un _ x | .nck x | .load _ x | .box _ x | .faddr _ x | .field _ _ x | .toInt _ x | .toStr x | .cpS x | .toBytes _ x | .extract x _ | .mki _ x | .tassert _ _ x | .inil _ x | .lenS x | .lenL x | .clearL _ _ x | .lenM x | .clearM x | .panic x | .lenC x | .sdata x | .cvU x | .cvP _ x => x.sl
  | .bin _ x y | .eqf _ _ _ x y | .store _ x y | .iaddrA _ _ x y | .iaddrS _ x y | .idxA _ _ _ x y | .idxS x y | .copyS x y | .copyL _ x y | .app _ _ _ _ x y | .appz _ _ _ _ x y | .appS _ _ _ x y | .mkSlice _ _ _ _ x y | .lookup _ _ _ x y | .mapDel _ x y | .ustr _ x y => x.sl ++ y.sl
  | .pick x y z | .mapSet _ x y z => x.sl ++ (y.sl ++ z.sl)
  | .alloc .. | .lenA _ | .mkMap | .mkChan _ => []
  | .build _ ps | .bslice _ _ _ ps => opdSls (ps.map fun p => p.2.2)
  | .slS x lo hi | .slL _ x lo hi | .slA _ _ x lo hi => x.sl ++ (oSl lo ++ oSl hi)
  | .mkf _ a b => opdSls a ++ opdSls b
  | .call _ l => opdSls l
  | .callv x l => x.sl ++ opdSls l
  | .minmax _ l => opdSls l

def AO.looks (o : AO) : List Nat := o.op.looks ++ match o.g with
  | some (j, _) => [j]
  | none => []

structure Row where
  i : Nat
  mask : Nat
  o : AO
  pl : Option Nat

def maskOf : List Row → Nat → Nat
  | [], _ => 0
  | r :: rs, p => if r.i = p then r.mask else maskOf rs p

def dstHit (d : Option Nat) (l : List Nat) : Bool := match d with
  | some d => l.contains d
  | none => false
def dstSame (d e : Option Nat) : Bool := match d, e with
  | some d, some e => d == e
  | _, _ => false

/-- May y stand ahead of x in the order that is gone? -/
def pairOk (y x : Row) : Bool :=
  !dstSame y.o.d x.o.d && !((y.o.op.cls == 1 || y.o.op.cls == 2) && dstHit x.o.d y.o.looks) && (x.mask.testBit y.i ||
    (!dstHit y.o.d x.o.looks && !dstHit x.o.d y.o.looks && !((x.o.op.cls == 1 || x.o.op.cls == 2) && (y.o.op.cls == 2 || y.o.op.cls == 3))))

/-- A constant leads to no object. -/
def Opd.kpl : Opd → Bool
  | .k v => v.plain
  | _ => true
def AOp.newOk : AOp → Bool
  | .alloc _ z => V.plains z
  | .box _ x => x.kpl
  | .bslice _ _ z ps => V.plains z && ps.all (fun p => p.2.2.kpl)
  | .mkSlice _ _ _ z _ _ => V.plains z
  | _ => true

def rowOf (i : Nat) (o : AO) (ps : List Nat) (acc : List Row) (k : Nat) : Row :=
  ⟨i, ps.foldl (fun a p => a ||| ((1 <<< p) ||| maskOf acc p)) 0, o, if o.op.cls = 3 then some k else none⟩
def doOf (row : Row) (acc : List Row) : DO :=
  ⟨row.i, row.o, (acc.filter fun y => row.mask.testBit y.i).filterMap (·.pl), row.pl, if row.o.op.cls = 2 then (acc.filter fun y => y.o.op.cls == 1 && !row.mask.testBit y.i).map (·.o) else []⟩

def goD (aos : List AO) (es : List (List Nat)) : List Nat → List Row → Nat → Option (List (Row × DO))
  | [], acc, _ => if (List.range aos.length).all (fun j => acc.any fun y => y.i == j) = true then some [] else none
  | i :: r, acc, k =>
    match aos[i]?, es[i]? with
    | some o, some ps =>
      if (acc.all fun y => y.i != i) = true ∧ dstHit o.d o.looks = false ∧ (ps.all fun p => acc.any fun y => y.i == p) = true ∧ o.op.newOk = true ∧
        (acc.all fun y => pairOk y (rowOf i o ps acc k) && !dstSame y.pl (rowOf i o ps acc k).pl) = true then
        match goD aos es r (rowOf i o ps acc k :: acc) (if o.op.cls = 3 then k + 1 else k) with
        | some l => some ((rowOf i o ps acc k, doOf (rowOf i o ps acc k) acc) :: l)
        | none => none
      else none
    | _, _ => none

/-- An order: what reads ahead of what turns, what makes objects as late as may be. -/
def schedD (aos : List AO) (es : List (List Nat)) : Nat → List Nat → List Nat
  | 0, acc => acc.reverse
  | f + 1, acc =>
    let rdy := (List.range aos.length).filter fun i => !acc.contains i && (es.getD i []).all fun p => acc.contains p
    let cl := fun i => ((aos[i]?).map fun o => o.op.cls).getD 0
    match rdy.find? (fun i => cl i == 0 || cl i == 1) with
    | some i => schedD aos es f (i :: acc)
    | none => match rdy.find? (fun i => cl i == 2) with
      | some i => schedD aos es f (i :: acc)
      | none => match rdy with
        | i :: _ => schedD aos es f (i :: acc)
        | [] => acc.reverse

def depsOf (o : Oper) : List Nat := (o.after.toList.filter fun e => Region.binds .any e).map (·.on)

def plLt (m : Nat) : Option Nat → Bool
  | some k => decide (k < m)
  | none => true

def drawT (P : Program) (n : Nat) (ops : Array Oper) : Option AC :=
  match trOpers P n ops ops.toList with
  | some aos => match goD aos (ops.toList.map depsOf) (schedD aos (ops.toList.map depsOf) aos.length []) [] 0 with
    | some L => if (L.all fun q => plLt (L.filter fun x => x.2.pl.isSome).length q.1.pl) = true then some (.draw (L.filter fun x => x.2.pl.isSome).length (L.map (·.2))) else none
    | none => none
  | none => none

def dstLt (n : Nat) : Option Nat → Bool
  | some d => decide (d < n)
  | none => true

/-- A region that begins with a select of one case, with a default. -/
def selT (P : Program) (n : Nat) (ops : Array Oper) : Option AC :=
  match ops.toList with
  | o :: r => match o.op with
    | .select cs false => match cs.toList with
      | [c] => if o.guard = none ∧ dstLt n o.dst = true then
          match trOpd c.chan, trOpt c.send, zeroOf P c.elem, trOpers P n ops r with
          | some ch, some snd, some z, some l => some (.sel o.dst snd ch z l)
          | _, _, _, _ => none
        else none
      | _ => none
    | _ => none
  | [] => none

def trCode (P : Program) (n : Nat) : Code → Option AC
  | .skip => some .skip
  | .region _ ops d => if d = true then drawT P n ops else (match selT P n ops with
    | some c => some c
    | none => (trOpers P n ops ops.toList).map fun l => .region l false)
  | .refuse _ => some (.cond (.k .nilp) .skip .skip)
  | .seq a b => match trCode P n a, trCode P n b with
    | some a, some b => some (.seq a b)
    | _, _ => none
  | .cond c a b => match trOpd c, trCode P n a, trCode P n b with
    | some c, some a, some b => some (.cond c a b)
    | _, _, _ => none
  | .block id c => (trCode P n c).map fun c => .block id c
  | .loop c => (trCode P n c).map fun c => .loop c
  | .exit id => some (.exit id)
  | .scope c => (trCode P n c).map fun c => .scope c
  | .label l => some (.label l)
  | .ret => some .ret
  | _ => none

def trRes (P : Program) : List ResultVar → Option (List RV)
  | [] => some []
  | .tmp t :: r => (trRes P r).map fun l => .t t :: l
  | .cell a t :: r => match parOf P t, trRes P r with
    | some n, some l => some (.c a n :: l)
    | _, _ => none

def trFunc (P : Program) (f : Func) : Option AF :=
  match f.body with
  | some c => match trCode P f.ntmps c, trRes P f.results.toList with
    | some b, some r => some ⟨f.ntmps, r, b⟩
    | _, _ => none
  | none => none

def trProg (P : Program) (f : Nat) : Option AF :=
  match P.funcs[f]? with
  | some fn => if fn.name != "runtime.NumGoroutine" then trFunc P fn else none
  | none => none

end AM

/- AM, part 5: each abstract operation is what the program's own operation does. -/
namespace AM
open Go
set_option linter.unusedVariables false
set_option linter.unusedSimpArgs false
set_option linter.unusedSectionVars false

section
variable {σ : Type} [Slots σ]
open Slots

structure SR (ι : Map) (S : σ) (n : Nat) (tmps : Array Value) (N : Nat) : Prop where
  size : tmps.size = n
  val : ∀ i, tmps.getD i undef = (get S i).real ι
  sc : ∀ i, (get S i).sc N

theorem ofCell_real {v : Value} {x : V} (h : ofCell v = some x) : x.plain = true ∧ ∀ ι, x.real ι = v := by
  unfold ofCell at h
  split at h <;> first
    | (simp only [Option.some.injEq] at h; subst h; exact ⟨rfl, fun ι => rfl⟩)
    | (simp at h)

theorem ofCells_real : ∀ {l : List Value} {xs : List V}, ofCells l = some xs → V.plains xs = true ∧ ∀ ι, V.reals ι xs = l
  | [], xs, h => by simp only [ofCells, Option.some.injEq] at h; subst h; exact ⟨rfl, fun ι => rfl⟩
  | v :: r, xs, h => by
    simp only [ofCells] at h
    split at h
    · rename_i x ys hx hys
      simp only [Option.some.injEq] at h
      subst h
      obtain ⟨a1, a2⟩ := ofCell_real hx
      obtain ⟨b1, b2⟩ := ofCells_real hys
      exact ⟨by simp [V.plains, a1, b1], fun ι => by simp [V.reals, a2 ι, b2 ι]⟩
    · simp at h

theorem ofVal_real {v : Value} {x : V} (h : ofVal v = some x) : x.plain = true ∧ ∀ ι, x.real ι = v := by
  unfold ofVal at h
  split at h
  · rename_i cs
    cases hc : ofCells cs.toList with
    | none => simp [hc] at h
    | some xs =>
      simp only [hc, Option.map_some, Option.some.injEq] at h
      subst h
      obtain ⟨a, b⟩ := ofCells_real hc
      exact ⟨a, fun ι => by simp [V.real, b ι]⟩
  · exact ofCell_real h

variable {P : Program} {ι : Map} {h : Heap} {w : World} {S : σ} {n : Nat} {a : Act}

theorem ev_ok (hs : SR ι S n a.tmps h.o.length) {x : Operand} {y : Opd} (hx : trOpd x = some y) : a.eval x = (y.ev S).real ι := by
  cases x with
  | tmp t => simp only [trOpd, Option.some.injEq] at hx; subst hx; exact hs.val t
  | const v =>
    simp only [trOpd] at hx
    cases hv : ofVal v with
    | none => simp [hv] at hx
    | some z =>
      simp only [hv, Option.map_some, Option.some.injEq] at hx
      subst hx
      exact ((ofVal_real hv).2 ι).symm
  | func f => simp only [trOpd, Option.some.injEq] at hx; subst hx; rfl
  | global g => simp [trOpd] at hx

theorem ev_sc (hs : SR ι S n a.tmps h.o.length) {x : Operand} {y : Opd} (hx : trOpd x = some y) : (y.ev S).sc h.o.length := by
  cases x with
  | tmp t => simp only [trOpd, Option.some.injEq] at hx; subst hx; exact hs.sc t
  | const v =>
    simp only [trOpd] at hx
    cases hv : ofVal v with
    | none => simp [hv] at hx
    | some z =>
      simp only [hv, Option.map_some, Option.some.injEq] at hx
      subst hx
      exact V.sc_of_plain _ _ (ofVal_real hv).1
  | func f => simp only [trOpd, Option.some.injEq] at hx; subst hx; exact ⟨trivial, trivial⟩
  | global g => simp [trOpd] at hx

theorem evs_ok (hs : SR ι S n a.tmps h.o.length) : ∀ {l : List Operand} {ys : List Opd}, trOpds l = some ys → l.map a.eval = V.reals ι (evs S ys) ∧ V.scs h.o.length (evs S ys)
  | [], ys, hx => by simp only [trOpds, Option.some.injEq] at hx; subst hx; exact ⟨rfl, trivial⟩
  | x :: r, ys, hx => by
    simp only [trOpds] at hx
    split at hx
    · rename_i y zs hy hzs
      simp only [Option.some.injEq] at hx
      subst hx
      obtain ⟨b1, b2⟩ := evs_ok hs hzs
      exact ⟨by simp [evs, V.reals, ev_ok hs hy] at b1 ⊢; exact b1, ev_sc hs hy, b2⟩
    · simp at hx

theorem evs_ok_arr (hs : SR ι S n a.tmps h.o.length) {l : Array Operand} {ys : List Opd} (hx : trOpds l.toList = some ys) : l.map a.eval = (V.reals ι (evs S ys)).toArray := by
  rw [← (evs_ok hs hx).1]
  apply Array.ext'
  simp

/-- What an operation that enters no function comes to. -/
def Good (P : Program) (a : Act) (o : Oper) (ι : Map) (h : Heap) (w : World) (v : V) (oh : Option Heap) : Prop :=
  ∃ κ w' r, (execOp a.eval o).run P w = .ok r w' ∧ (r = .value (v.real κ) ∨ (r = .skip ∧ v = undefV)) ∧ Nx ι h w κ (oh.getD h) w' ∧ v.sc (oh.getD h).o.length ∧ (oh = none → κ = ι ∧ w' = w)

theorem Good.same {o : Oper} {v : V} (hr : HR ι h.o w) (hv : v.sc h.o.length) (hrun : (execOp a.eval o).run P w = .ok (.value (v.real ι)) w) : Good P a o ι h w v none :=
  ⟨ι, w, _, hrun, .inl rfl, Nx.refl hr, hv, fun _ => ⟨rfl, rfl⟩⟩

theorem intA_ok {op : BinOp} {k : IntKind} {x y : Int} {v : V} (hv : intA op k x y = some v) (w : World) (t : Nat) :
    v.plain = true ∧ (binOp op t (.int k x) (.int k y)).run P w = .ok (v.real ι) w := by
  cases op <;> simp only [intA, Option.some.injEq] at hv <;> first
    | (subst hv; exact ⟨rfl, by simp [binOp, Op.intArith, Op.intBits, Op.intCmp, V.real, bits]⟩)
    | (split at hv
       · simp at hv
       · rename_i hb
         simp only [Option.some.injEq] at hv
         subst hv
         exact ⟨rfl, by simp [binOp, Op.intDiv, hb, V.real]⟩)
    | (simp at hv)

theorem shiftA_ok {op : BinOp} {k k' : IntKind} {x y : Int} {v : V} (hop : op = .shl ∨ op = .shr) (hv : shiftA op k x y = some v) (w : World) (t : Nat) :
    v.plain = true ∧ (binOp op t (.int k x) (.int k' y)).run P w = .ok (v.real ι) w := by
  unfold shiftA at hv
  split at hv
  · simp at hv
  · rename_i hb
    rcases hop with rfl | rfl <;> (simp only [Option.some.injEq] at hv; subst hv; exact ⟨rfl, by simp [binOp, Op.shift, hb, V.real]⟩)

theorem toList_mk (l : List UInt8) : (⟨l.toArray⟩ : ByteArray).toList = l := by rw [ByteArray.toList_eq]

theorem size_mk (l : List UInt8) : (⟨l.toArray⟩ : ByteArray).size = l.length := by simp [ByteArray.size]

theorem append_mk (x y : List UInt8) : (⟨x.toArray⟩ : ByteArray) ++ ⟨y.toArray⟩ = ⟨(x ++ y).toArray⟩ := by
  apply ByteArray.ext
  rw [ByteArray.data_append]
  simp

theorem strA_ok {op : BinOp} {x y : List UInt8} {v : V} (hv : strA op x y = some v) (w : World) (t : Nat) :
    v.plain = true ∧ (binOp op t (.string ⟨x.toArray⟩) (.string ⟨y.toArray⟩)).run P w = .ok (v.real ι) w := by
  cases op <;> simp only [strA, Option.some.injEq] at hv <;> first
    | (subst hv; exact ⟨rfl, by simp [binOp, Op.stringOp, V.real]⟩)
    | (split at hv
       · rename_i hb
         simp only [Option.some.injEq] at hv
         subst hv
         refine ⟨rfl, ?_⟩
         have hn : ¬ ((((⟨x.toArray⟩ : ByteArray).size + (⟨y.toArray⟩ : ByteArray).size : Nat) : Int) > IntKind.i64.max) := by
           rw [size_mk, size_mk]
           have : IntKind.i64.max = 9223372036854775807 := by decide
           omega
         simp only [binOp, Op.stringOp, if_neg hn, Sem.run_pure, V.real, append_mk]
       · simp at hv)
    | (simp at hv)

theorem binA_ok {op : BinOp} {x y v : V} (hv : binA op x y = some v) (w : World) (t : Nat) :
    v.plain = true ∧ (binOp op t (x.real ι) (y.real ι)).run P w = .ok (v.real ι) w := by
  unfold binA at hv
  split at hv
  · rename_i k a k' b
    split at hv
    · exact shiftA_ok (.inl rfl) hv w t
    · exact shiftA_ok (.inr rfl) hv w t
    · split at hv
      · rename_i hk
        subst hk
        exact intA_ok hv w t
      · simp at hv
  · exact strA_ok hv w t
  · simp at hv

/-- The guard of '==' lets numbers and texts by. -/
theorem binA_guard {op : BinOp} {x y v : V} (hv : binA op x y = some v) (w : World) (t : Nat) (ox oy : Operand) :
    (eqGuard op t ox oy (x.real ι) (y.real ι)).run P w = .ok () w := by
  unfold binA at hv
  split at hv
  · cases op <;> simp [eqGuard, V.real]
  · cases op <;> simp [eqGuard, V.real]
  · simp at hv

theorem good_bin (hr : HR ι h.o w) (hs : SR ι S n a.tmps h.o.length) {d : Option Nat} {op : BinOp} {t u ty : Nat} {pos : String} {af : Array Edge} {g : Option (Nat × Bool)} {x y : Operand} {x' y' : Opd}
    (hx : trOpd x = some x') (hy : trOpd y = some y') {v : V} (hv : binA op (x'.ev S) (y'.ev S) = some v) :
    Good P a ⟨d, .binOp op t x y u, ty, pos, af, g⟩ ι h w v none := by
  obtain ⟨h1, h2⟩ := binA_ok (P := P) (ι := ι) hv w t
  refine Good.same hr (V.sc_of_plain _ _ h1) ?_
  have hg := binA_guard (P := P) (ι := ι) hv w t x y
  simp only [execOp, Sem.run_bind, ev_ok hs hx, ev_ok hs hy, hg, h2, Result.andThen_ok, Sem.run_pure]

end
end AM

/- AM, part 6: '==' on flat values. -/
namespace AM
open Go
set_option linter.unusedVariables false
set_option linter.unusedSimpArgs false
set_option linter.unusedSectionVars false

section
variable {P : Program} {ι : Map}

theorem kdsOf_append (a b : List (Nat × Kd)) : kdsOf (a ++ b) = kdsOf a ++ kdsOf b := by
  induction a with
  | nil => rfl
  | cons x r ih => obtain ⟨n, k⟩ := x; simp [kdsOf, ih]

theorem eqKs_len : ∀ {ks : List Kd} {xs ys : List V} {b : Bool}, eqKs ks xs ys = some b → xs.length = ks.length ∧ ys.length = ks.length
  | [], [], [], _, _ => ⟨rfl, rfl⟩
  | k :: ks, x :: xs, y :: ys, b, h => by
    simp only [eqKs] at h
    split at h
    · rename_i u v hu hv
      obtain ⟨a1, a2⟩ := eqKs_len hv
      exact ⟨by simp [a1], by simp [a2]⟩
    · simp at h
  | [], [], _ :: _, _, h | [], _ :: _, _, _, h | _ :: _, [], _, _, h | _ :: _, _ :: _, [], _, h => by simp [eqKs] at h

theorem eqKs_append : ∀ {a c : List Kd} {xs ys : List V} {b : Bool}, eqKs (a ++ c) xs ys = some b →
    ∃ p q, eqKs a (xs.take a.length) (ys.take a.length) = some p ∧ eqKs c (xs.drop a.length) (ys.drop a.length) = some q ∧ b = (p && q)
  | [], c, xs, ys, b, h => ⟨true, b, by simp [eqKs], by simpa using h, by simp⟩
  | k :: a, c, x :: xs, y :: ys, b, h => by
    simp only [List.cons_append, eqKs] at h
    split at h
    · rename_i u v hu hv
      obtain ⟨p, q, h1, h2, h3⟩ := eqKs_append hv
      simp only [Option.some.injEq] at h
      refine ⟨u && p, q, ?_, by simpa using h2, by rw [← h, h3, Bool.and_assoc]⟩
      simp only [List.length_cons, List.take_succ_cons, eqKs, hu, h1]
    · simp at h
  | k :: a, c, [], _, _, h | k :: a, c, _ :: _, [], _, h => by simp [eqKs] at h

/-- A value of a type out of its cells. -/
def mkV (P : Program) (t : Nat) (cs : List Value) : Value :=
  match P.underlying t with
  | some d => if isAggD d = true then .agg cs.toArray else cs.getD 0 undef
  | none => undef

theorem isAgg_run {t : Nat} {d : TypeDesc} (ht : P.underlying t = some d) (w : World) : (isAgg t).run P w = .ok (isAggD d) w := by
  unfold isAgg
  rw [Sem.run_bind, run_underlying ht w]
  cases d <;> simp [isAggD]

theorem sizeOf_run {t n : Nat} (ht : szOf P t = some n) (w : World) : (Go.sizeOf t).run P w = .ok n w := by
  unfold szOf at ht
  cases hi : P.info? t with
  | none => simp [hi] at ht
  | some i =>
    simp only [hi, Option.map_some, Option.some.injEq] at ht
    subst ht
    simp [Go.sizeOf, typeInfo, hi]

/-- A part of a flat value. -/
theorem part_run {t n : Nat} {d : TypeDesc} (ht : P.underlying t = some d) (hn : szOf P t = some n) (ha : isAggD d = true ∨ n = 1) {cs : List Value} {off : Nat} (hl : off + n ≤ cs.length) (w : World) :
    (part t cs.toArray off).run P w = .ok (mkV P t ((cs.drop off).take n)) w := by
  unfold part mkV
  rw [Sem.run_bind, isAgg_run ht w, ht]
  cases hd : isAggD d with
  | true =>
    simp only [Result.andThen_ok, if_true, Sem.run_bind, sizeOf_run hn w, Sem.run_pure, hd]
    congr 2
    apply Array.ext'
    simp [List.extract_eq_take_drop]
  | false =>
    obtain rfl : n = 1 := by simpa [hd] using ha
    have hlt : off < cs.length := by omega
    simp [hd, hlt, List.getD, List.getElem?_drop]

def okKd : Kd → TypeDesc → Bool
  | .b, .bool => true
  | .i, .int _ => true
  | .s, .string => true
  | _, _ => false

theorem eqK_scalar {k : Kd} {x y : V} {b : Bool} (hk : eqK k x y = some b) {t : Nat} {d : TypeDesc} (ht : P.underlying t = some d)
    (hd : okKd k d = true) (D : Nat) (w : World) :
    (Op.equalIn (D + 1) t (x.real ι) (y.real ι)).run P w = .ok b w := by
  cases k <;> cases d <;> simp [okKd] at hd <;> simp only [eqK] at hk <;> split at hk <;> first
    | (simp at hk; done)
    | (simp only [Option.some.injEq] at hk; subst hk; simp [Op.equalIn, run_underlying ht, V.real, beq_toListBytes]; done)
    | (split at hk
       · rename_i hkk
         subst hkk
         simp only [Option.some.injEq] at hk; subst hk; simp [Op.equalIn, run_underlying ht, V.real]
       · simp at hk)

theorem flat_len : ∀ (d t : Nat) (ks : List (Nat × Kd)), flatT P d t = some ks → szOf P t = some (kdsOf ks).length ∧ ∃ dd, P.underlying t = some dd ∧ (isAggD dd = true ∨ (kdsOf ks).length = 1)
  | 0, t, ks, h => by simp [flatT] at h
  | d + 1, t, ks, h => by
    simp only [flatT] at h
    split at h
    · rename_i hu
      split at h <;> simp at h
      rename_i hz; subst h; exact ⟨hz, _, hu, .inr rfl⟩
    · rename_i hu
      split at h <;> simp at h
      rename_i hz; subst h; exact ⟨hz, _, hu, .inr rfl⟩
    · rename_i hu
      split at h <;> simp at h
      rename_i hz; subst h; exact ⟨hz, _, hu, .inr rfl⟩
    · rename_i fs hu
      split at h
      · rename_i hc
        obtain ⟨h1, h2, h3⟩ := hc
        refine ⟨?_, _, hu, .inl rfl⟩
        rw [← h3]
        have key : ∀ (l : List Field) (off : Nat) (ks : List (Nat × Kd)), flatT.flatF (flatT P d) l = some ks → (fieldsLie P l off).isSome = true → fieldsLie P l off = some (off + (kdsOf ks).length) := by
          intro l
          induction l with
          | nil => intro off ks hk _; simp only [flatT.flatF, Option.some.injEq] at hk; subst hk; rfl
          | cons f r ih =>
            intro off ks hk hl
            simp only [flatT.flatF] at hk
            split at hk
            · split at hk
              · rename_i a b ha hb
                simp only [Option.some.injEq] at hk
                subst hk
                obtain ⟨z1, _⟩ := flat_len d f.type a ha
                simp only [fieldsLie] at hl ⊢
                split at hl
                · rename_i ho
                  rw [if_pos ho]
                  rw [z1] at hl ⊢
                  simp only at hl ⊢
                  rw [ih _ _ hb hl, kdsOf_append, List.length_append]
                  congr 1; omega
                · simp at hl
              · simp at hk
            · simp at hk
        have := key fs.toList 0 ks h (by rw [h3]; exact h2)
        rw [this, Nat.zero_add]
      · simp at h
    · rename_i m e hu
      split at h
      · rename_i ks' sa sb hks ha hb
        obtain ⟨z1, dd, z2, z3⟩ := flat_len d e ks' hks
        rw [ha] at z1
        simp only [Option.some.injEq] at z1
        split at h
        · rename_i hab
          refine ⟨?_, _, hu, .inl rfl⟩
          rw [hb, ← hab, z1]
          congr 1
          split at h
          · simp only [Option.some.injEq] at h
            subst h
            simp [kdsOf]
          · simp only [Option.some.injEq] at h
            subst h
            clear hab hb hu
            induction m with
            | zero => simp [kdsOf]
            | succ m ih => rw [List.replicate_succ, List.flatten_cons, kdsOf_append, List.length_append, ← ih, Nat.succ_mul]; omega
        · simp at h
      · simp at h
    · simp at h

theorem flat_ok : ∀ (d t : Nat) (ks : List (Nat × Kd)), flatT P d t = some ks → ∀ (D : Nat), d ≤ D → ∀ (xs ys : List V) (b : Bool) (w : World), eqKs (kdsOf ks) xs ys = some b →
    (Op.equalIn D t (mkV P t (V.reals ι xs)) (mkV P t (V.reals ι ys))).run P w = .ok b w
  | 0, t, ks, h, D, _, _, _, _, _, _ => by simp [flatT] at h
  | d + 1, t, ks, h, D, hD, xs, ys, b, w, he => by
    obtain ⟨D, rfl⟩ : ∃ E, D = E + 1 := ⟨D - 1, by omega⟩
    have one : ∀ (k : Kd), kdsOf [(1, k)] = [k] := fun k => rfl
    have sc : ∀ (k : Kd) (dd : TypeDesc), ks = [(1, k)] → P.underlying t = some dd → isAggD dd = false → okKd k dd = true →
        (Op.equalIn (D + 1) t (mkV P t (V.reals ι xs)) (mkV P t (V.reals ι ys))).run P w = .ok b w := by
      intro k dd hks hu hg hm
      subst hks
      rw [one] at he
      obtain ⟨l1, l2⟩ := eqKs_len he
      match xs, ys, l1, l2 with
      | [x], [y], _, _ =>
        simp only [eqKs] at he
        split at he
        · rename_i u v hu' hv'
          simp only [Option.some.injEq] at hv' he
          subst hv'
          simp only [Bool.and_true] at he
          subst he
          simp only [mkV, hu, hg, V.reals, List.getD, List.getElem?_cons_zero, Option.getD_some, Bool.false_eq_true, if_false]
          exact eqK_scalar hu' hu hm D w
        · simp at he
    have h0 := h
    simp only [flatT] at h
    split at h
    · rename_i hu
      split at h <;> simp at h
      exact sc _ _ h.symm hu rfl rfl
    · rename_i hu
      split at h <;> simp at h
      exact sc _ _ h.symm hu rfl rfl
    · rename_i hu
      split at h <;> simp at h
      exact sc _ _ h.symm hu rfl rfl
    · rename_i fs hu
      split at h
      · rename_i hc
        obtain ⟨h1, h2, h3⟩ := hc
        have hfo : P.fieldsOf t = fs := by simp [Program.fieldsOf, hu]
        simp only [mkV, hu, isAggD, if_true]
        rw [run_equalIn_struct w D t _ _ (by rw [hfo]; exact hu) h1, hfo]
        have key : ∀ (l : List Field) (off : Nat) (ks : List (Nat × Kd)) (b : Bool), flatT.flatF (flatT P d) l = some ks → (fieldsLie P l off).isSome = true →
            eqKs (kdsOf ks) (xs.drop off) (ys.drop off) = some b → off + (kdsOf ks).length ≤ xs.length → off + (kdsOf ks).length ≤ ys.length →
            (Op.eqFields D (V.reals ι xs).toArray (V.reals ι ys).toArray l).run P w = .ok b w := by
          intro l
          induction l with
          | nil =>
            intro off ks b hk _ hb h1 h2
            simp only [flatT.flatF, Option.some.injEq] at hk
            subst hk
            have hlen := eqKs_len hb
            simp only [kdsOf, List.length_nil] at hlen
            have e1 : xs.drop off = [] := List.eq_nil_of_length_eq_zero hlen.1
            have e2 : ys.drop off = [] := List.eq_nil_of_length_eq_zero hlen.2
            rw [e1, e2] at hb
            simp only [kdsOf, eqKs, Option.some.injEq] at hb
            subst hb
            simp [Op.eqFields]
          | cons f r ih =>
            intro off ks b hk hl hb hx hy
            simp only [flatT.flatF] at hk
            split at hk
            · rename_i hname
              split at hk
              · rename_i ka kb ha hb2
                simp only [Option.some.injEq] at hk
                subst hk
                obtain ⟨z1, dd, z2, z3⟩ := flat_len d f.type ka ha
                simp only [fieldsLie] at hl
                split at hl
                · rename_i ho
                  rw [z1] at hl
                  simp only at hl
                  rw [kdsOf_append] at hb hx hy
                  rw [List.length_append] at hx hy
                  obtain ⟨p, q, e1, e2, e3⟩ := eqKs_append hb
                  rw [List.drop_drop, List.drop_drop] at e2
                  have hp1 := part_run (P := P) z2 z1 z3 (cs := V.reals ι xs) (off := off) (by rw [V.reals_eq, List.length_map]; omega) w
                  have hp2 := part_run (P := P) z2 z1 z3 (cs := V.reals ι ys) (off := off) (by rw [V.reals_eq, List.length_map]; omega) w
                  have hq := flat_ok d f.type ka ha D (by omega) _ _ p w e1
                  have er : ∀ (zs : List V), ((V.reals ι zs).drop off).take (kdsOf ka).length = V.reals ι ((zs.drop off).take (kdsOf ka).length) := by
                    intro zs; simp only [V.reals_eq, List.map_take, List.map_drop]
                  rw [er] at hp1 hp2
                  simp only [Op.eqFields, hname, ne_eq, not_false_eq_true, if_true, Sem.run_bind, ho, hp1, hp2, hq, Result.andThen_ok]
                  cases p with
                  | false => simp [e3]
                  | true =>
                    simp only [Bool.not_true, Bool.false_eq_true, if_false]
                    rw [e3, Bool.true_and]
                    exact ih _ kb q hb2 hl e2 (by omega) (by omega)
                · simp at hl
              · simp at hk
            · simp at hk
        obtain ⟨l1, l2⟩ := eqKs_len he
        exact key fs.toList 0 ks b h (by rw [h3]; exact h2) (by simpa using he) (by omega) (by omega)
      · simp at h
    · rename_i m e hu
      split at h
      · rename_i ks' sa sb hks ha hb
        obtain ⟨z1, dd, z2, z3⟩ := flat_len d e ks' hks
        have z1' := z1
        rw [ha] at z1'
        simp only [Option.some.injEq] at z1'
        split at h
        · rename_i hab
          simp only [mkV, hu, isAggD, if_true]
          have hk2 : kdsOf ks = kdsOf (List.replicate m ks').flatten := by
            split at h
            · simp only [Option.some.injEq] at h
              subst h
              clear hab hb he h0 hu sc
              induction m with
              | zero => simp [kdsOf]
              | succ m ih =>
                rename_i m0 k0 _ _
                simp only [kdsOf, List.append_nil] at ih
                simp only [List.replicate_succ, List.flatten_cons, kdsOf_append, kdsOf, List.append_nil, ← ih, List.replicate_append_replicate]
                congr 1
                rw [Nat.succ_mul]; omega
            · simp only [Option.some.injEq] at h
              rw [h]
          rw [hk2] at he
          have key : ∀ (k i : Nat) (b : Bool), eqKs (kdsOf (List.replicate k ks').flatten) (xs.drop (i * sa)) (ys.drop (i * sa)) = some b → i * sa + k * sa ≤ xs.length → i * sa + k * sa ≤ ys.length →
              (forIn (List.range' i k) (none, PUnit.unit) (fun (j : Nat) (r : Option Bool × PUnit) => do
                let x ← part e (V.reals ι xs).toArray (j * sa)
                let y ← part e (V.reals ι ys).toArray (j * sa)
                let z ← Op.equalIn D e x y
                if (!z) = true then pure (ForInStep.done (some false, PUnit.unit)) else pure (ForInStep.yield (none, PUnit.unit))) : Sem (Option Bool × PUnit)).run P w =
                .ok ((if b = true then none else some false), PUnit.unit) w := by
            intro k
            induction k with
            | zero =>
              intro i b hb _ _
              have hlen := eqKs_len hb
              simp only [List.replicate_zero, List.flatten_nil, kdsOf, List.length_nil] at hlen
              have e1 : xs.drop (i * sa) = [] := List.eq_nil_of_length_eq_zero hlen.1
              have e2 : ys.drop (i * sa) = [] := List.eq_nil_of_length_eq_zero hlen.2
              rw [e1, e2] at hb
              simp only [List.replicate_zero, List.flatten_nil, kdsOf, eqKs, Option.some.injEq] at hb
              subst hb
              simp
            | succ k ih =>
              intro i b hb hx hy
              rw [List.replicate_succ, List.flatten_cons, kdsOf_append] at hb
              obtain ⟨p, q, e1, e2, e3⟩ := eqKs_append hb
              rw [List.drop_drop, List.drop_drop, ← z1'] at e2
              have hks1 : (k + 1) * sa = k * sa + sa := Nat.succ_mul k sa
              have his : i * sa + sa = (i + 1) * sa := (Nat.succ_mul i sa).symm
              have hp1 := part_run (P := P) z2 z1 z3 (cs := V.reals ι xs) (off := i * sa) (by rw [V.reals_eq, List.length_map]; omega) w
              have hp2 := part_run (P := P) z2 z1 z3 (cs := V.reals ι ys) (off := i * sa) (by rw [V.reals_eq, List.length_map]; omega) w
              have hq := flat_ok d e ks' hks D (by omega) _ _ p w e1
              have er : ∀ (zs : List V), ((V.reals ι zs).drop (i * sa)).take (kdsOf ks').length = V.reals ι ((zs.drop (i * sa)).take (kdsOf ks').length) := by
                intro zs; simp only [V.reals_eq, List.map_take, List.map_drop]
              rw [er] at hp1 hp2
              simp only [List.range'_succ, List.forIn_cons, Sem.run_bind, hp1, hp2, hq, Result.andThen_ok]
              cases p with
              | false => simp [e3]
              | true =>
                simp only [Bool.not_true, Bool.false_eq_true, if_false, Sem.run_pure, Result.andThen_ok]
                rw [e3, Bool.true_and]
                rw [his] at e2
                exact ih (i + 1) q e2 (by omega) (by omega)
          obtain ⟨l1, l2⟩ := eqKs_len he
          have hkl : (kdsOf (List.replicate m ks').flatten).length = m * sa := by
            clear key he hk2 hab hb h h0 hu sc l1 l2
            induction m with
            | zero => simp [kdsOf]
            | succ m ih => rw [List.replicate_succ, List.flatten_cons, kdsOf_append, List.length_append, ih, Nat.succ_mul, ← z1']; omega
          have := key m 0 b (by simpa using he) (by omega) (by omega)
          simp only [Op.equalIn, Sem.run_bind, run_underlying hu, Result.andThen_ok, sizeOf_run ha]
          rw [Std.Legacy.Range.forIn_eq_forIn_range']
          simp only [Std.Legacy.Range.size, Nat.sub_zero, Nat.add_sub_cancel, Nat.div_one]
          rw [this]
          cases b <;> simp
        · simp at h
      · simp at h
    · simp at h

theorem mkV_agg {t : Nat} {d : TypeDesc} (ht : P.underlying t = some d) (hd : isAggD d = true) (cs : List Value) : mkV P t cs = .agg cs.toArray := by simp [mkV, ht, hd]

variable {σ : Type} [Slots σ] {h : Heap} {w : World} {S : σ} {n : Nat} {a : Act}

end
end AM

/- AM, part 7: comparisons, cells, calls: what they come to. -/
namespace AM
open Go
set_option linter.unusedVariables false
set_option linter.unusedSimpArgs false
set_option linter.unusedSectionVars false

section
variable {P : Program} {ι : Map}

def okT (P : Program) (t : Nat) : Kd → Prop
  | .b => P.underlying t = some .bool
  | .i => ∃ k, P.underlying t = some (.int k)
  | .s => P.underlying t = some .string
  | .p => ∃ e m, P.underlying t = some (.pointer e) ∧ szOf P e = some m ∧ m ≠ 0
  | .sl => ∃ e, P.underlying t = some (.slice e)
  | .m => ∃ k e, P.underlying t = some (.map k e)
  | .f => ∃ a b c, P.underlying t = some (.func a b c)

theorem eqK_run {k : Kd} {x y : V} {b : Bool} (hk : eqK k x y = some b) {t : Nat} (ht : okT P t k) (D : Nat) (w : World) :
    (Op.equalIn (D + 1) t (x.real ι) (y.real ι)).run P w = .ok b w := by
  cases k with
  | b => exact eqK_scalar hk ht rfl D w
  | i => obtain ⟨k, ht⟩ := ht; exact eqK_scalar hk ht rfl D w
  | s => exact eqK_scalar hk ht rfl D w
  | p =>
    obtain ⟨e, m, ht, hm, hm0⟩ := ht
    simp only [eqK] at hk
    split at hk
    · simp only [Option.some.injEq] at hk; subst hk; simp [Op.equalIn, run_underlying ht, V.real]
    · simp only [Option.some.injEq] at hk; subst hk; simp [Op.equalIn, run_underlying ht, V.real]
    · simp only [Option.some.injEq] at hk; subst hk; simp [Op.equalIn, run_underlying ht, V.real]
    · split at hk
      · rename_i l o l' o' hl
        subst hl
        simp only [Option.some.injEq] at hk; subst hk
        simp only [Op.equalIn, Sem.run_bind, run_underlying ht, V.real, Result.andThen_ok, sizeOf_run hm, ne_eq, hm0, not_false_eq_true, if_true, sameAddr, beq_self_eq_true, Sem.run_pure]
        congr 1
        rw [Bool.eq_iff_iff]
        simp
      · simp at hk
    · simp at hk
  | sl =>
    obtain ⟨e, ht⟩ := ht
    simp only [eqK] at hk
    split at hk <;> first
      | (simp only [Option.some.injEq] at hk; subst hk; simp [Op.equalIn, run_underlying ht, V.real]; done)
      | simp at hk
  | m =>
    obtain ⟨q, e, ht⟩ := ht
    simp only [eqK] at hk
    split at hk <;> first
      | (simp only [Option.some.injEq] at hk; subst hk; simp [Op.equalIn, run_underlying ht, V.real]; done)
      | simp at hk
  | f =>
    obtain ⟨q, e, c, ht⟩ := ht
    simp only [eqK] at hk
    split at hk <;> first
      | (simp only [Option.some.injEq] at hk; subst hk; simp [Op.equalIn, run_underlying ht, V.real]; done)
      | simp at hk

theorem eqK_guard {k : Kd} {x y : V} {b : Bool} (hk : eqK k x y = some b) (op : BinOp) (t : Nat) (ox oy : Operand) (w : World) : (eqGuard op t ox oy (x.real ι) (y.real ι)).run P w = .ok () w := by
  cases k <;> simp only [eqK] at hk <;> split at hk <;> first
    | (simp at hk; done)
    | (cases op <;> simp [eqGuard, V.real])

theorem eqK_bin {k : Kd} (h1 : k ≠ .i) (h2 : k ≠ .s) {x y : V} {b : Bool} (hk : eqK k x y = some b) {op : BinOp} (hop : op = .eql ∨ op = .neq) (t : Nat) :
    binOp op t (x.real ι) (y.real ι) = (do let r ← Op.equal t (x.real ι) (y.real ι); pure (.bool (if op = .neq then !r else r))) := by
  cases k <;> first
    | exact absurd rfl h1
    | exact absurd rfl h2
    | (simp only [eqK] at hk; split at hk <;> first
        | (simp at hk; done)
        | (rcases hop with rfl | rfl <;> simp [binOp, V.real]))

variable {σ : Type} [Slots σ] {h : Heap} {w : World} {S : σ} {n : Nat} {a : Act}

theorem good_eqk (hr : HR ι h.o w) (hs : SR ι S n a.tmps h.o.length) {d : Option Nat} {op : BinOp} (hop : op = .eql ∨ op = .neq) {t u ty : Nat} {pos : String} {af : Array Edge} {g : Option (Nat × Bool)} {x y : Operand} {x' y' : Opd}
    (hx : trOpd x = some x') (hy : trOpd y = some y') {k : Kd} (h1 : k ≠ .i) (h2 : k ≠ .s) (ht : okT P t k) {b : Bool} (hv : eqK k (x'.ev S) (y'.ev S) = some b) :
    Good P a ⟨d, .binOp op t x y u, ty, pos, af, g⟩ ι h w (.bool (if (op == .neq) = true then !b else b)) none := by
  refine Good.same hr trivial ?_
  simp only [execOp, Sem.run_bind, ev_ok hs hx, ev_ok hs hy, eqK_guard hv op t x y w, eqK_bin h1 h2 hv hop t, Result.andThen_ok, Sem.run_pure, Op.equal, Op.maxDepth, eqK_run hv ht 9999 w, V.real]
  rcases hop with rfl | rfl <;> simp

theorem good_eqa (hr : HR ι h.o w) (hs : SR ι S n a.tmps h.o.length) {d : Option Nat} {op : BinOp} (hop : op = .eql ∨ op = .neq) {t u ty : Nat} {pos : String} {af : Array Edge} {g : Option (Nat × Bool)} {x y : Operand} {x' y' : Opd}
    (hx : trOpd x = some x') (hy : trOpd y = some y') {ks : List (Nat × Kd)} {dd : TypeDesc} (hu : P.underlying t = some dd) (hd : isAggD dd = true) (hf : flatT P 40 t = some ks) (hg : P.eqGuardType P.depth t = false) {b : Bool}
    (hv : eqA true ks (x'.ev S) (y'.ev S) = some b) :
    Good P a ⟨d, .binOp op t x y u, ty, pos, af, g⟩ ι h w (.bool (if (op == .neq) = true then !b else b)) none := by
  refine Good.same hr trivial ?_
  simp only [eqA, if_true] at hv
  split at hv
  · rename_i xs ys hx' hy'
    have hq := flat_ok (ι := ι) 40 t ks hf 10000 (by omega) xs ys b w hv
    rw [mkV_agg hu hd, mkV_agg hu hd] at hq
    have ex := ev_ok hs hx
    have ey := ev_ok hs hy
    rw [hx'] at ex
    rw [hy'] at ey
    simp only [V.real] at ex ey
    rcases hop with rfl | rfl
    · simp only [execOp, Sem.run_bind, ex, ey, run_eqGuard_agg w _ t x y _ _ hg, Result.andThen_ok, run_eql_struct w t, hq, Sem.run_pure, V.real]
      rfl
    · simp only [execOp, Sem.run_bind, ex, ey, run_eqGuard_agg w _ t x y _ _ hg, Result.andThen_ok, run_neq_struct w t, hq, Sem.run_pure, V.real]
      rfl
  · simp at hv

theorem unA_ok {op : UnOp} {x v : V} (hv : unA op x = some v) (w : World) : v.plain = true ∧ (Op.unary op (x.real ι)).run P w = .ok (v.real ι) w := by
  unfold unA at hv
  split at hv <;> first
    | (simp only [Option.some.injEq] at hv; subst hv; exact ⟨rfl, by simp [Op.unary, Op.intArith, Op.intBits, V.real, bits]⟩)
    | simp at hv

theorem idxOf_ok {m : Nat} {v : V} {j : Nat} (hv : idxOf m v = some j) : ∃ k i, v = .int k i ∧ 0 ≤ i ∧ i < (m : Int) ∧ j = i.toNat := by
  unfold idxOf at hv
  split at hv
  · rename_i k i
    split at hv
    · rename_i hc
      simp only [Option.some.injEq] at hv
      exact ⟨k, i, rfl, hc.1, hc.2, hv.symm⟩
    · simp at hv
  · simp at hv

theorem partA_ok {t : Nat} {par : Option Nat} (hp : parOf P t = some par) {cs : List V} {off : Nat} {v : V} (hv : partA cs off par = some v) (N : Nat) (hsc : V.scs N cs) (w : World) :
    v.sc N ∧ (part t (V.reals ι cs).toArray off).run P w = .ok (v.real ι) w := by
  unfold parOf at hp
  split at hp
  · rename_i d hu
    split at hp
    · rename_i hd
      cases hz : szOf P t with
      | none => simp [hz] at hp
      | some m =>
        simp only [hz, Option.map_some, Option.some.injEq] at hp
        subst hp
        simp only [partA] at hv
        split at hv
        · rename_i hle
          simp only [Option.some.injEq] at hv
          subst hv
          refine ⟨scs_take (scs_drop hsc), ?_⟩
          rw [part_run hu hz (.inl hd) (by rw [V.reals_eq, List.length_map]; exact hle) w, mkV_agg hu hd]
          simp only [V.real, V.reals_eq, List.map_take, List.map_drop]
        · simp at hv
    · rename_i hd
      simp only [Option.some.injEq] at hp
      subst hp
      simp only [partA] at hv
      refine ⟨(V.scs_iff _ _).1 hsc v (List.mem_of_getElem? hv), ?_⟩
      have hlt := (List.getElem?_eq_some_iff.1 hv).1
      have hdf : isAggD d = false := by simpa using hd
      unfold part
      rw [Sem.run_bind, isAgg_run hu w, hdf]
      have : (V.reals ι cs).toArray[off]? = some (v.real ι) := by
        rw [List.getElem?_toArray, V.reals_eq, List.getElem?_map, hv]; rfl
      simp [this]
  · simp at hp

theorem load_ok {t : Nat} {par : Option Nat} (hp : parOf P t = some par) (hr : HR ι h.o w) {l o : Nat} {v : V}
    (hv : (match par with | none => h.get l o | some m => (h.gets l o m).map .agg) = some v) :
    v.sc h.o.length ∧ (loadVar t ⟨(ι l).blk, (ι l).base + o, none⟩).run P w = .ok (v.real ι) w := by
  unfold parOf at hp
  split at hp
  · rename_i d hu
    split at hp
    · rename_i hd
      cases hz : szOf P t with
      | none => simp [hz] at hp
      | some m =>
        simp only [hz, Option.map_some, Option.some.injEq] at hp
        subst hp
        cases hg : h.gets l o m with
        | none => simp [hg] at hv
        | some cs =>
          simp only [hg, Option.map_some, Option.some.injEq] at hv
          subst hv
          refine ⟨gets_sc hr hg, ?_⟩
          unfold loadVar
          rw [Sem.run_bind, isAgg_run hu w, hd]
          simp only [Result.andThen_ok, if_true, Sem.run_bind, sizeOf_run hz w, run_loadCells_gets hr hg, Sem.run_pure, V.real]
    · rename_i hd
      have hdf : isAggD d = false := by simpa using hd
      simp only [Option.some.injEq] at hp
      subst hp
      refine ⟨get_sc hr hv, ?_⟩
      unfold loadVar
      rw [Sem.run_bind, isAgg_run hu w, hdf]
      simp only [Result.andThen_ok, Bool.false_eq_true, if_false]
      exact run_load_get hr hv
  · simp at hp

theorem good_load (hr : HR ι h.o w) (hs : SR ι S n a.tmps h.o.length) {d : Option Nat} {t ty : Nat} {pos : String} {af : Array Edge} {g : Option (Nat × Bool)} {x : Operand} {x' : Opd}
    (hx : trOpd x = some x') {par : Option Nat} (hp : parOf P t = some par) {l o : Nat} (he : x'.ev S = .ptr l o) {v : V} (hv : (match par with | none => h.get l o | some m => (h.gets l o m).map .agg) = some v) :
    Good P a ⟨d, .load t x, ty, pos, af, g⟩ ι h w v none := by
  obtain ⟨h1, h2⟩ := load_ok hp hr hv
  refine Good.same hr h1 ?_
  simp only [execOp, Sem.run_bind, ev_ok hs hx, he, V.real, Instr.loadAt, Instr.sureAddr, Sem.run_pure, Result.andThen_ok, h2]

theorem good_store (hr : HR ι h.o w) (hs : SR ι S n a.tmps h.o.length) {d : Option Nat} {t ty : Nat} {pos : String} {af : Array Edge} {g : Option (Nat × Bool)} {x y : Operand} {x' y' : Opd}
    (hx : trOpd x = some x') (hy : trOpd y = some y') {m : Nat} (hz : szOf P t = some m) {l o : Nat} (he : x'.ev S = .ptr l o) (hm : (y'.ev S).cells.length = m) {h' : Heap} (hv : h.sets l o (y'.ev S).cells = some h') :
    Good P a ⟨d, .store t x y, ty, pos, af, g⟩ ι h w undefV (some h') := by
  obtain ⟨w', h1, h2⟩ := sets_sound hr hv (V.cells_sc _ _ (ev_sc hs hy))
  refine ⟨ι, w', .skip, ?_, .inr ⟨rfl, rfl⟩, h2, trivial, fun h => by simp at h⟩
  have e1 : ((y'.ev S).real ι).cells.size = m := by rw [V.cells_real]; simp [V.reals_eq, hm]
  have e2 : ((y'.ev S).real ι).cells.toList = V.reals ι (y'.ev S).cells := by rw [V.cells_real]
  simp only [execOp, Sem.run_bind, ev_ok hs hx, ev_ok hs hy, he, V.real, Instr.storeAt, Instr.sureAddr, Sem.run_pure, Result.andThen_ok, storeVar, sizeOf_run hz, e1, ne_eq, not_true_eq_false, if_false, e2, h1 P]

theorem Nx.get {h' : Heap} {κ : Map} {w' : World} (hn : Nx ι h w κ h' w') : Nx ι h w κ ((some h').getD h) w' := hn

/-- A new variable. -/
theorem newRow_ok (hr : HR ι h.o w) (t : Nat) (cs : List V) (hsc : V.scs h.o.length cs) :
    ∃ κ w', (newRow t (V.reals ι cs).toArray).run P w = .ok ⟨(κ h.o.length).blk, (κ h.o.length).base, none⟩ w' ∧ Nx ι h w κ (h.new (.cells .ex t 0 cs)) w' ∧ (κ h.o.length).size = cs.length := by
  have hc := V.scs_mono (Nat.le_succ h.o.length) cs hsc
  have := newCells_sound hr .ex (by simp) t cs [] hc (0, 0) (by simp) (fun _ => rfl)
  simp only [List.length_nil, Nat.add_zero, List.append_nil] at this
  refine ⟨_, _, ?_, this, ?_⟩
  · rw [V.reals_agree (Map.agree_upd ι h.o.length _) cs hsc, Map.upd_same]
    simp only [newRow, Sem.run_bind, run_newObj, Result.andThen_ok, Sem.run_pure]
    rfl
  · rw [Map.upd_same]

theorem zero_run {t : Nat} {z : V} (hz : zeroOf P t = some z) (w : World) : (zeroValue t).run P w = .ok (z.real ι) w ∧ z.plain = true := by
  unfold zeroOf at hz
  cases hi : P.info? t with
  | none => simp [hi] at hz
  | some i =>
    cases hz0 : i.zero with
    | none => simp [hi, hz0] at hz
    | some v =>
      simp only [hi, hz0, Option.bind_some] at hz
      obtain ⟨h1, h2⟩ := ofVal_real hz
      exact ⟨by simp [zeroValue, typeInfo, hi, hz0, h2 ι], h1⟩

theorem good_alloc (hr : HR ι h.o w) {d : Option Nat} {t ty : Nat} {pos : String} {af : Array Edge} {g : Option (Nat × Bool)} {z : V} (hz : zeroOf P t = some z) :
    Good P a ⟨d, .alloc t, ty, pos, af, g⟩ ι h w (.ptr h.o.length 0) (some (h.new (.cells .ex t 0 z.cells))) := by
  obtain ⟨z1, z2⟩ := zero_run (ι := ι) hz w
  obtain ⟨κ, w', h1, h2, _⟩ := newRow_ok (P := P) hr t z.cells (V.scs_of_plains _ _ (V.cells_plains _ z2))
  refine ⟨κ, w', _, ?_, .inl rfl, h2, by simp [Heap.new, V.sc], fun h => by simp at h⟩
  simp only [execOp, Instr.alloc, Sem.run_bind, z1, Result.andThen_ok, newVar, V.cells_real, h1, Sem.run_pure, V.real, Nat.add_zero]

theorem good_box (hr : HR ι h.o w) (hs : SR ι S n a.tmps h.o.length) {d : Option Nat} {t ty : Nat} {pos : String} {af : Array Edge} {g : Option (Nat × Bool)} {x : Operand} {x' : Opd} (hx : trOpd x = some x') :
    Good P a ⟨d, .box t x, ty, pos, af, g⟩ ι h w (.ptr h.o.length 0) (some (h.new (.cells .ex t 0 (x'.ev S).cells))) := by
  obtain ⟨κ, w', h1, h2, _⟩ := newRow_ok (P := P) hr t (x'.ev S).cells (V.cells_sc _ _ (ev_sc hs hx))
  refine ⟨κ, w', _, ?_, .inl rfl, h2, by simp [Heap.new, V.sc], fun h => by simp at h⟩
  simp only [execOp, Instr.box, ev_ok hs hx, Sem.run_bind, Result.andThen_ok, newVar, V.cells_real, h1, Sem.run_pure, V.real, Nat.add_zero]

/-- Parts laid over cells. -/
theorem fill_ok (pl : Nat → Option (Nat × Nat)) (hs : SR ι S n a.tmps h.o.length) : ∀ {l : List (Nat × Operand)} {ps : List (Nat × Nat × Opd)} {cs out : List V}, trParts l pl = some ps →
    fillA cs (ps.map fun p => (p.1, p.2.1, p.2.2.ev S)) = some out → V.scs h.o.length cs →
    Instr.fill pl (V.reals ι cs).toArray (l.map fun p => (p.1, a.eval p.2)) = some (V.reals ι out).toArray ∧ V.scs h.o.length out ∧ out.length = cs.length
  | [], ps, cs, out, hp, hf, hsc => by
    simp only [trParts, Option.some.injEq] at hp
    subst hp
    simp only [List.map_nil, fillA, Option.some.injEq] at hf
    subst hf
    exact ⟨rfl, hsc, rfl⟩
  | (i, x) :: r, ps, cs, out, hp, hf, hsc => by
    simp only [trParts] at hp
    split at hp
    · rename_i off m y ys hpl hy hys
      simp only [Option.some.injEq] at hp
      subst hp
      simp only [List.map_cons, fillA] at hf
      split at hf
      · rename_i hc
        obtain ⟨hc1, hc2⟩ := hc
        have hys' := V.cells_sc _ _ (ev_sc hs hy)
        obtain ⟨e1, e2, e3⟩ := fill_ok pl hs hys hf (splice_sc hsc hys')
        refine ⟨?_, e2, by rw [e3, splice_length (by rw [hc1]; exact hc2)]⟩
        simp only [List.map_cons, Instr.fill, hpl, ev_ok hs hy, V.cells_real]
        have s1 : (V.reals ι (y.ev S).cells).toArray.size = m := by simp [V.reals_eq, hc1]
        have s2 : (V.reals ι cs).toArray.size = cs.length := by simp [V.reals_eq]
        rw [s1, s2]
        have hcond : (decide (m ≠ m) || decide (off + m > cs.length)) = false := by simp; omega
        simp only [hcond, Bool.false_eq_true, if_false]
        rw [← e1]
        congr 1
        -- writing one by one is laying over
        have key : ∀ (vs : List Value) (j : Nat) (cur : List Value), off + j + vs.length ≤ cur.length →
            (vs.zipIdx j).foldl (fun cs (p : Value × Nat) => cs.setIfInBounds (off + p.2) p.1) cur.toArray = (cur.take (off + j) ++ vs ++ cur.drop (off + j + vs.length)).toArray := by
          intro vs
          induction vs with
          | nil => intro j cur hl; simp
          | cons v vs ih =>
            intro j cur hl
            have e := ih (j + 1) (cur.set (off + j) v) (by simp at hl ⊢; omega)
            simp only [List.zipIdx_cons, List.foldl_cons, List.setIfInBounds_toArray] at e ⊢
            rw [e]
            congr 1
            simp at hl
            rw [List.set_eq_take_append_cons_drop, if_pos (by omega)]
            simp [List.take_append, List.drop_append, Nat.min_eq_left (show off + j ≤ cur.length by omega)]
            have a1 : off + (j + 1) - (off + j) = 1 := by omega
            have a2 : off + (j + 1) + vs.length - (off + j) = vs.length + 1 := by omega
            have a3 : List.take (off + (j + 1)) (List.take (off + j) cur) = List.take (off + j) cur := by rw [List.take_take, Nat.min_eq_right (by omega)]
            have a4 : List.drop (off + (j + 1) + vs.length) (List.take (off + j) cur) = [] := by rw [List.drop_eq_nil_iff]; simp; omega
            rw [a1, a2, a3, a4]
            simp [List.drop_drop, Nat.add_comm, Nat.add_left_comm]
        have := key (V.reals ι (y.ev S).cells) 0 (V.reals ι cs) (by simp only [V.reals_eq, List.length_map]; omega)
        simp only [Nat.add_zero] at this
        rw [← Array.foldl_toList, Array.toList_zipIdx]
        rw [this]
        congr 1
        simp only [splice, V.reals_eq, List.map_append, List.map_take, List.map_drop, List.length_map]
      · simp at hf
    · simp at hp

theorem listMapM_places {w : World} (fs : Array Field) (hall : fs.toList.all (fun f => (szOf P f.type).isSome) = true) :
    (fs.mapM (m := Sem) fun f => do pure (f.offset, ← Go.sizeOf f.type)).run P w = .ok (fs.map fun f => (f.offset, (szOf P f.type).getD 0)) w := by
  rw [Array.mapM_eq_mapM_toList]
  have key : ∀ (l : List Field), l.all (fun f => (szOf P f.type).isSome) = true →
      (l.mapM (m := Sem) fun f => do pure (f.offset, ← Go.sizeOf f.type)).run P w = .ok (l.map fun f => (f.offset, (szOf P f.type).getD 0)) w := by
    intro l
    induction l with
    | nil => intro _; simp
    | cons f r ih =>
      intro hl
      simp only [List.all_cons, Bool.and_eq_true] at hl
      obtain ⟨m, hm⟩ := Option.isSome_iff_exists.1 hl.1
      simp only [List.mapM_cons, Sem.run_bind, sizeOf_run hm, Result.andThen_ok, Sem.run_pure, ih hl.2, List.map_cons, hm, Option.getD_some]
  simp only [Sem.run_map, key fs.toList hall, Result.andThen_ok]
  congr 1
  apply Array.ext'
  simp

end
end AM

/- AM, part 8: more operations. -/
namespace AM
open Go
set_option linter.unusedVariables false
set_option linter.unusedSimpArgs false
set_option linter.unusedSectionVars false

section
variable {P : Program} {ι : Map} {σ : Type} [Slots σ] {h : Heap} {w : World} {S : σ} {n : Nat} {a : Act}

theorem good_build (hr : HR ι h.o w) (hs : SR ι S n a.tmps h.o.length) {d : Option Nat} {t ty : Nat} {pos : String} {af : Array Edge} {g : Option (Nat × Bool)} {parts : Array (Nat × Operand)} {z : V} (hz : zeroOf P t = some z)
    (pl : Nat → Option (Nat × Nat)) {ps : List (Nat × Nat × Opd)} (hps : trParts parts.toList pl = some ps) {cs : List V} (hf : fillA z.cells (ps.map fun p => (p.1, p.2.1, p.2.2.ev S)) = some cs)
    (hpl : (∃ fs, P.underlying t = some (.struct fs) ∧ fs.toList.all (fun f => (szOf P f.type).isSome) = true ∧ pl = plF P fs) ∨
      (∃ m e s, P.underlying t = some (.array m e) ∧ szOf P e = some s ∧ pl = plA s)) :
    Good P a ⟨d, .build t parts, ty, pos, af, g⟩ ι h w (.agg cs) none := by
  obtain ⟨z1, z2⟩ := zero_run (ι := ι) hz w
  obtain ⟨e1, e2, e3⟩ := fill_ok (ι := ι) pl hs hps hf (V.scs_of_plains _ _ (V.cells_plains _ z2))
  refine Good.same hr e2 ?_
  rw [← Array.toList_map] at e1
  rcases hpl with ⟨fs, hu, hall, rfl⟩ | ⟨m, e, s, hu, hsz, rfl⟩
  · have hpe : (fun i => (fs.map fun f => (f.offset, (szOf P f.type).getD 0))[i]?) = plF P fs := by
      funext i
      unfold plF
      rw [Array.getElem?_map]
      cases hfi : fs[i]? with
      | none => rfl
      | some f =>
        have hm : f ∈ fs.toList := by
          rw [← Array.getElem?_toList] at hfi
          exact List.mem_of_getElem? hfi
        obtain ⟨q, hq⟩ := Option.isSome_iff_exists.1 (List.all_eq_true.1 hall f hm)
        simp [hq]
    simp only [execOp, Instr.build, Sem.run_bind, z1, Result.andThen_ok, run_underlying hu, listMapM_places fs hall, V.cells_real]
    rw [hpe]
    simp only [Array.toList_map] at e1
    simp only [Array.toList_map]
    rw [e1]
    simp [V.real]
  · simp only [Array.toList_map] at e1
    rw [show plA s = fun i => some (i * s, s) from rfl] at e1
    simp only [execOp, Instr.build, Sem.run_bind, z1, Result.andThen_ok, run_underlying hu, sizeOf_run hsz, V.cells_real, Array.toList_map]
    rw [e1]
    simp [V.real]

theorem reps_length (z : List V) (k : Nat) : (reps z k).length = k * z.length := by
  induction k with
  | zero => simp [reps]
  | succ k ih => simp [reps, ih, Nat.succ_mul, Nat.add_comm]

theorem reps_get (z : List V) (hz : 0 < z.length) : ∀ (k i : Nat), i < k * z.length → (reps z k)[i]? = z[i % z.length]?
  | 0, i, h => by simp at h
  | k + 1, i, h => by
    simp only [reps, List.getElem?_append]
    split
    · rename_i hi
      rw [Nat.mod_eq_of_lt hi]
    · rename_i hi
      rw [reps_get z hz k (i - z.length) (by rw [Nat.succ_mul] at h; omega)]
      congr 1
      rw [Nat.mod_eq_sub_mod (a := i) (by omega)]

/-- Zero cells, laid one behind the other. -/
theorem zeros_eq (z : List V) (k : Nat) (hz : 0 < z.length) : ((Array.range (k * z.length)).map ((V.reals ι z).toArray[· % (V.reals ι z).toArray.size]!)) = (V.reals ι (reps z k)).toArray := by
  have hsz : (V.reals ι z).toArray.size = z.length := by simp [V.reals_eq]
  apply Array.ext'
  apply List.ext_getElem?
  intro i
  simp only [Array.toList_map, Array.toList_range, List.getElem?_map, hsz]
  by_cases hi : i < k * z.length
  · rw [List.getElem?_range hi]
    simp only [Option.map_some]
    rw [V.reals_eq, V.reals_eq, List.getElem?_map, reps_get z hz k i hi]
    have hm : i % z.length < z.length := Nat.mod_lt _ hz
    rw [List.getElem?_eq_getElem hm]
    simp [hm]
  · rw [List.getElem?_eq_none (by simp; omega), List.getElem?_eq_none (by rw [V.reals_eq, List.length_map, reps_length]; omega)]
    rfl

theorem reps_plains (z : List V) (hz : V.plains z = true) (k : Nat) : V.plains (reps z k) = true := by
  induction k with
  | zero => rfl
  | succ k ih => rw [V.plains_iff] at *; intro v hv; simp only [reps, List.mem_append] at hv; exact hv.elim (hz v) (ih v)

theorem good_bslice (hr : HR ι h.o w) (hs : SR ι S n a.tmps h.o.length) {d : Option Nat} {t ty len e s : Nat} {pos : String} {af : Array Edge} {g : Option (Nat × Bool)} {parts : Array (Nat × Operand)} {z : V}
    (hu : P.underlying t = some (.slice e)) (hsz : szOf P e = some s) (hz : zeroOf P e = some z) (h0 : 0 < s) (hl : len * s ≤ 16777216) (hzl : z.cells.length = s)
    {ps : List (Nat × Nat × Opd)} (hps : trParts parts.toList (plA s) = some ps) {cs : List V} (hf : fillA (reps z.cells len) (ps.map fun p => (p.1, p.2.1, p.2.2.ev S)) = some cs) :
    Good P a ⟨d, .buildSlice t len parts, ty, pos, af, g⟩ ι h w (.slice h.o.length 0 ((reps z.cells len).length / s) s) (some (h.new (.cells .ex e 0 cs))) := by
  obtain ⟨z1, z2⟩ := zero_run (ι := ι) hz w
  have hpz := reps_plains z.cells (V.cells_plains _ z2) len
  obtain ⟨e1, e2, e3⟩ := fill_ok (ι := ι) _ hs hps hf (V.scs_of_plains _ _ hpz)
  obtain ⟨κ, w', k1, k2, k3⟩ := newRow_ok (P := P) hr e cs e2
  rw [show plA s = fun i => some (i * s, s) from rfl] at e1
  have hrl : (reps z.cells len).length = len * s := by rw [reps_length, hzl]
  have hdiv : len * s / s = len := Nat.mul_div_cancel _ h0
  refine ⟨κ, w', _, ?_, .inl rfl, k2, by simp [Heap.new, V.sc], fun h => by simp at h⟩
  have hg : ¬ (len * s > 2 ^ 24) := by omega
  by_cases hls : len * s = 0
  · have h00 : len = 0 := by rcases Nat.mul_eq_zero.1 hls with h | h <;> omega
    subst h00
    have hz2 : (Array.map (fun x => (#[] : Array Value)[x % (#[] : Array Value).size]!) (Array.range (0 * s))) = (V.reals ι (reps z.cells 0)).toArray := by simp [reps, V.reals]
    simp only [execOp, Instr.buildSlice, Sem.run_bind, run_underlying hu, Result.andThen_ok, sizeOf_run hsz, if_neg hg, if_pos hls, Sem.run_pure, hz2, Array.toList_map, e1, k1]
    simp only [V.real, hrl, hdiv, Nat.add_zero, Nat.sub_zero, k3, e3]
  · have hz2 := zeros_eq (ι := ι) z.cells len (by omega)
    rw [hzl] at hz2
    simp only [execOp, Instr.buildSlice, Sem.run_bind, run_underlying hu, Result.andThen_ok, sizeOf_run hsz, if_neg hg, if_neg hls, z1, V.cells_real, Sem.run_pure, hz2, Array.toList_map, e1, k1]
    simp only [V.real, hrl, hdiv, Nat.add_zero, Nat.sub_zero, k3, e3]

theorem good_faddr (hr : HR ι h.o w) (hs : SR ι S n a.tmps h.o.length) {d : Option Nat} {t ty f m : Nat} {pos : String} {af : Array Edge} {g : Option (Nat × Bool)} {x : Operand} {x' : Opd} (hx : trOpd x = some x')
    {fs : Array Field} (hu : P.underlying t = some (.struct fs)) {fd : Field} (hfd : fs[f]? = some fd) (hsz : szOf P fd.type = some m) (hm : m ≠ 0) {l o : Nat} (he : x'.ev S = .ptr l o) :
    Good P a ⟨d, .fieldAddr t x f, ty, pos, af, g⟩ ι h w (.ptr l (o + fd.offset)) none := by
  have hsc := ev_sc hs hx
  rw [he] at hsc
  refine Good.same hr hsc ?_
  simp only [execOp, Instr.fieldAt, Sem.run_bind, run_underlying hu, Result.andThen_ok, hfd, ev_ok hs hx, he, V.real, Instr.sureAddr, Sem.run_pure, fieldPlace, sizeOf_run hsz, hm, if_false, Addr_add, Nat.add_assoc]

theorem good_field (hr : HR ι h.o w) (hs : SR ι S n a.tmps h.o.length) {d : Option Nat} {t ty f : Nat} {pos : String} {af : Array Edge} {g : Option (Nat × Bool)} {x : Operand} {x' : Opd} (hx : trOpd x = some x')
    {fs : Array Field} (hu : P.underlying t = some (.struct fs)) {fd : Field} (hfd : fs[f]? = some fd) {par : Option Nat} (hp : parOf P fd.type = some par) {cs : List V} (he : x'.ev S = .agg cs) {v : V} (hv : partA cs fd.offset par = some v) :
    Good P a ⟨d, .field t x f, ty, pos, af, g⟩ ι h w v none := by
  have hsc := ev_sc hs hx
  rw [he] at hsc
  obtain ⟨h1, h2⟩ := partA_ok (ι := ι) hp hv _ hsc w
  refine Good.same hr h1 ?_
  simp only [execOp, Instr.field, Sem.run_bind, run_underlying hu, Result.andThen_ok, hfd, ev_ok hs hx, he, V.real, asAgg, Sem.run_pure, h2]

theorem good_iaddrA (hr : HR ι h.o w) (hs : SR ι S n a.tmps h.o.length) {d : Option Nat} {t ty len e s : Nat} {pos : String} {af : Array Edge} {g : Option (Nat × Bool)} {x y : Operand} {x' y' : Opd} (hx : trOpd x = some x') (hy : trOpd y = some y')
    (hu : P.underlying t = some (.array len e)) (hsz : szOf P e = some s) {l o j : Nat} (he : x'.ev S = .ptr l o) (hj : idxOf len (y'.ev S) = some j) :
    Good P a ⟨d, .indexAddr t x y, ty, pos, af, g⟩ ι h w (.ptr l (o + j * s)) none := by
  have hsc := ev_sc hs hx
  rw [he] at hsc
  obtain ⟨k, i, hi, h0, hlt, rfl⟩ := idxOf_ok hj
  refine Good.same hr hsc ?_
  simp only [execOp, Instr.indexAt, Sem.run_bind, run_underlying hu, Result.andThen_ok, ev_ok hs hx, ev_ok hs hy, he, hi, V.real, asIntOf, Instr.sureAddr, Sem.run_pure, if_pos (And.intro h0 hlt), sizeOf_run hsz, Addr_add, Nat.add_assoc]

theorem good_iaddrS (hr : HR ι h.o w) (hs : SR ι S n a.tmps h.o.length) {d : Option Nat} {t ty e s : Nat} {pos : String} {af : Array Edge} {g : Option (Nat × Bool)} {x y : Operand} {x' y' : Opd} (hx : trOpd x = some x') (hy : trOpd y = some y')
    (hu : P.underlying t = some (.slice e)) (hsz : szOf P e = some s) {l o m j : Nat} (he : x'.ev S = .slice l o m s) (hj : idxOf m (y'.ev S) = some j) :
    Good P a ⟨d, .indexAddr t x y, ty, pos, af, g⟩ ι h w (.ptr l (o + j * s)) none := by
  have hsc := ev_sc hs hx
  rw [he] at hsc
  obtain ⟨k, i, hi, h0, hlt, rfl⟩ := idxOf_ok hj
  refine Good.same hr hsc ?_
  simp only [execOp, Instr.indexAt, Sem.run_bind, run_underlying hu, Result.andThen_ok, ev_ok hs hx, ev_ok hs hy, he, hi, V.real, asIntOf, Sem.run_pure, if_pos (And.intro h0 hlt), sizeOf_run hsz, Addr_add, Nat.add_assoc]

theorem good_idxA (hr : HR ι h.o w) (hs : SR ι S n a.tmps h.o.length) {d : Option Nat} {t ty len e s : Nat} {pos : String} {af : Array Edge} {g : Option (Nat × Bool)} {x y : Operand} {x' y' : Opd} (hx : trOpd x = some x') (hy : trOpd y = some y')
    (hu : P.underlying t = some (.array len e)) (hsz : szOf P e = some s) {par : Option Nat} (hp : parOf P e = some par) {cs : List V} {j : Nat} (he : x'.ev S = .agg cs) (hj : idxOf len (y'.ev S) = some j) {v : V} (hv : partA cs (j * s) par = some v) :
    Good P a ⟨d, .index t x y, ty, pos, af, g⟩ ι h w v none := by
  have hsc := ev_sc hs hx
  rw [he] at hsc
  obtain ⟨k, i, hi, h0, hlt, rfl⟩ := idxOf_ok hj
  obtain ⟨h1, h2⟩ := partA_ok (ι := ι) hp hv _ hsc w
  refine Good.same hr h1 ?_
  simp only [execOp, Instr.index, Sem.run_bind, run_underlying hu, Result.andThen_ok, ev_ok hs hx, ev_ok hs hy, he, hi, V.real, asIntOf, Sem.run_pure, if_pos (And.intro h0 hlt), sizeOf_run hsz, h2]

theorem good_idxS (hr : HR ι h.o w) (hs : SR ι S n a.tmps h.o.length) {d : Option Nat} {t ty : Nat} {pos : String} {af : Array Edge} {g : Option (Nat × Bool)} {x y : Operand} {x' y' : Opd} (hx : trOpd x = some x') (hy : trOpd y = some y')
    (hu : P.underlying t = some .string) {s : List UInt8} {j : Nat} (he : x'.ev S = .str s) (hj : idxOf s.length (y'.ev S) = some j) {b : UInt8} (hv : s[j]? = some b) :
    Good P a ⟨d, .index t x y, ty, pos, af, g⟩ ι h w (.int .u8 (b.toNat : Int)) none := by
  obtain ⟨k, i, hi, h0, hlt, rfl⟩ := idxOf_ok hj
  refine Good.same hr trivial ?_
  have hb : (⟨s.toArray⟩ : ByteArray)[i.toNat]? = some b := by
    have hl := (List.getElem?_eq_some_iff.1 hv)
    obtain ⟨hl1, hl2⟩ := hl
    rw [getElem?_pos (⟨s.toArray⟩ : ByteArray) i.toNat (by rw [size_mk]; exact hl1)]
    congr 1
  simp only [execOp, Instr.index, Sem.run_bind, run_underlying hu, Result.andThen_ok, ev_ok hs hx, ev_ok hs hy, he, hi, V.real, asIntOf, Sem.run_pure, if_pos h0, hb]

theorem bound_ok {k : IntKind} {i : Int} {c : Nat} (h : 0 ≤ i ∧ i ≤ (c : Int)) (code : BoundsCode) (w : World) : (Instr.sliceBound (.int k i) c code).run P w = .ok i.toNat w := by
  simp only [Instr.sliceBound, asIntOf, Sem.run_bind, Sem.run_pure, Result.andThen_ok, if_pos h]

theorem loB_ok {b : Nat} {lo : Option V} {q : Nat} (hb : loB b lo = some q) (w : World) :
    q ≤ b ∧ (match lo.map (V.real ι) with | some v => Instr.sliceBound v b .sliceB | none => pure 0 : Sem Nat).run P w = .ok q w := by
  cases lo with
  | none => simp only [loB, Option.some.injEq] at hb; subst hb; exact ⟨Nat.zero_le _, rfl⟩
  | some v =>
    cases v <;> simp only [loB, reduceCtorEq] at hb
    rename_i k i
    split at hb
    · rename_i hc'
      simp only [Option.some.injEq] at hb
      subst hb
      exact ⟨by omega, by simp only [Option.map_some, V.real, bound_ok hc']⟩
    · simp at hb

theorem bounds_ok {isSlice : Bool} {len cap cap' : Nat} (hc : cap' ≤ cap) {lo hi : Option V} {p : Nat × Nat} (hp : boundsA len cap' lo hi = some p) (w : World) :
    (Instr.sliceBounds isSlice len cap (lo.map (V.real ι)) (hi.map (V.real ι)) none).run P w = .ok (p.1, p.2, cap) w ∧ p.1 ≤ p.2 ∧ p.2 ≤ max len cap' := by
  unfold boundsA at hp
  split at hp
  · rename_i b hb
    split at hp
    · rename_i q hq
      simp only [Option.some.injEq] at hp
      subst hp
      obtain ⟨h2, h3⟩ := loB_ok (P := P) (ι := ι) hq w
      cases hi with
      | none =>
        simp only [hiB, Option.some.injEq] at hb
        subst hb
        refine ⟨?_, h2, Nat.le_max_left _ _⟩
        cases lo with
        | none =>
          simp only [Option.map_none, Sem.run_pure, Result.ok.injEq, and_true] at h3
          simp only [Instr.sliceBounds, Sem.run_bind, Sem.run_pure, Result.andThen_ok, Option.map_none, h3]
        | some v =>
          simp only [Option.map_some] at h3
          simp only [Instr.sliceBounds, Sem.run_bind, Sem.run_pure, Result.andThen_ok, Option.map_none, Option.map_some, Option.isSome_none, Bool.false_eq_true, if_false, h3]
      | some v =>
        cases v <;> simp only [hiB, reduceCtorEq] at hb
        rename_i k i
        split at hb
        · rename_i hc'
          simp only [Option.some.injEq] at hb
          subst hb
          have hbd := fun code => bound_ok (P := P) (k := k) (show 0 ≤ i ∧ i ≤ (cap : Int) by omega) code w
          refine ⟨?_, h2, by have := Nat.le_max_right len cap'; omega⟩
          cases lo with
          | none =>
            simp only [Option.map_none, Sem.run_pure, Result.ok.injEq, and_true] at h3
            simp only [Instr.sliceBounds, Sem.run_bind, Sem.run_pure, Result.andThen_ok, Option.map_none, Option.map_some, V.real, hbd, h3]
          | some v =>
            simp only [Option.map_some] at h3
            simp only [Instr.sliceBounds, Sem.run_bind, Sem.run_pure, Result.andThen_ok, Option.map_some, V.real, hbd, Option.isSome_none, Bool.false_eq_true, if_false, h3]
        · simp at hb
    · simp at hp
  · simp at hp

theorem opt_ok (hs : SR ι S n a.tmps h.o.length) {x : Option Operand} {y : Option Opd} (hx : trOpt x = some y) : x.map a.eval = (y.map (Opd.ev S)).map (V.real ι) := by
  cases x with
  | none => simp only [trOpt, Option.some.injEq] at hx; subst hx; rfl
  | some x =>
    simp only [trOpt] at hx
    cases hq : trOpd x with
    | none => simp [hq] at hx
    | some q => simp only [hq, Option.map_some, Option.some.injEq] at hx; subst hx; simp [ev_ok hs hq]

theorem extract_mk (s : List UInt8) (i j : Nat) : (⟨s.toArray⟩ : ByteArray).extract i j = ⟨((s.take j).drop i).toArray⟩ := by
  apply ByteArray.ext
  rw [ByteArray.data_extract]
  apply Array.ext'
  simp only [Array.toList_extract, List.extract_eq_take_drop]
  rw [List.take_drop]
  by_cases hij : i ≤ j
  · rw [show i + (j - i) = j by omega]
  · rw [show i + (j - i) = i by omega, List.drop_of_length_le (by simp; omega), List.drop_of_length_le (by simp; omega)]

theorem good_slS (hr : HR ι h.o w) (hs : SR ι S n a.tmps h.o.length) {d : Option Nat} {t ty : Nat} {pos : String} {af : Array Edge} {g : Option (Nat × Bool)} {x : Operand} {x' : Opd} {lo hi : Option Operand} {lo' hi' : Option Opd} (hx : trOpd x = some x') (hlo : trOpt lo = some lo') (hhi : trOpt hi = some hi')
    (hu : P.underlying t = some .string) {s : List UInt8} (he : x'.ev S = .str s) {p : Nat × Nat} (hp : boundsA s.length s.length (lo'.map (Opd.ev S)) (hi'.map (Opd.ev S)) = some p) :
    Good P a ⟨d, .slice t x lo hi none, ty, pos, af, g⟩ ι h w (.str ((s.take p.2).drop p.1)) none := by
  obtain ⟨h1, h2, h3⟩ := bounds_ok (P := P) (ι := ι) (isSlice := false) (Nat.le_refl s.length) hp w
  refine Good.same hr trivial ?_
  simp only [execOp, Instr.sliceAt, Sem.run_bind, run_underlying hu, Result.andThen_ok, ev_ok hs hx, he, V.real, opt_ok hs hlo, opt_ok hs hhi, Option.map_none, Instr.slice, size_mk, h1, Option.isSome_none, Bool.false_eq_true, if_false, Sem.run_pure, extract_mk]

theorem good_extract (hr : HR ι h.o w) (hs : SR ι S n a.tmps h.o.length) {d : Option Nat} {i ty : Nat} {pos : String} {af : Array Edge} {g : Option (Nat × Bool)} {x : Operand} {x' : Opd} (hx : trOpd x = some x') {vs : List V} (he : x'.ev S = .tuple vs) {v : V} (hv : vs[i]? = some v) :
    Good P a ⟨d, .extract x i, ty, pos, af, g⟩ ι h w v none := by
  have hsc := ev_sc hs hx
  rw [he] at hsc
  refine Good.same hr ((V.scs_iff _ _).1 hsc v (List.mem_of_getElem? hv)) ?_
  have hq : (V.reals ι vs).toArray[i]? = some (v.real ι) := by rw [List.getElem?_toArray, V.reals_eq, List.getElem?_map, hv]; rfl
  simp only [execOp, Instr.extract, ev_ok hs hx, he, V.real, hq, Sem.run_bind, Sem.run_pure, Result.andThen_ok]

end
end AM

/- AM, part 9: slices, conversions, copies, maps. -/
namespace AM
open Go
set_option linter.unusedVariables false
set_option linter.unusedSimpArgs false
set_option linter.unusedSectionVars false

section
variable {P : Program} {ι : Map} {σ : Type} [Slots σ] {h : Heap} {w : World} {S : σ} {n : Nat} {a : Act}

theorem holds_ok (hr : HR ι h.o w) {l m : Nat} (hh : h.holds l m = true) : m ≤ (ι l).size := by
  unfold Heap.holds at hh
  split at hh
  · rename_i k t fz cs hc
    obtain ⟨arr, t', lo, hi, hb, h1, h2, _⟩ := hr.obj l _ hc
    have := of_decide_eq_true hh
    omega
  · simp at hh

theorem good_slL (hr : HR ι h.o w) (hs : SR ι S n a.tmps h.o.length) {d : Option Nat} {t ty e s : Nat} {pos : String} {af : Array Edge} {g : Option (Nat × Bool)} {x : Operand} {x' : Opd} {lo hi : Option Operand} {lo' hi' : Option Opd} (hx : trOpd x = some x') (hlo : trOpt lo = some lo') (hhi : trOpt hi = some hi')
    (hu : P.underlying t = some (.slice e)) (hsz : szOf P e = some s) (h0 : 0 < s) {l o m : Nat} (he : x'.ev S = .slice l o m s) (hh : m = 0 ∨ h.holds l (o + m * s) = true) {p : Nat × Nat} (hp : boundsA m m (lo'.map (Opd.ev S)) (hi'.map (Opd.ev S)) = some p)
    {v : V} {oh : Option Heap} (hv : (if p.1 = 0 then ok (.slice l o p.2 s) else if p.1 < p.2 then ok (.slice l (o + p.1 * s) (p.2 - p.1) s) else ok (.esl l o p.1 s)) = some (v, oh)) :
    Good P a ⟨d, .slice t x lo hi none, ty, pos, af, g⟩ ι h w v oh := by
  have hsc := ev_sc hs hx
  rw [he] at hsc
  have hcap : m ≤ ((ι l).size - o) / s := by
    rcases hh with rfl | hh
    · exact Nat.zero_le _
    · have hsize := holds_ok hr hh
      rw [Nat.le_div_iff_mul_le h0]; omega
  obtain ⟨h1, h2, h3⟩ := bounds_ok (P := P) (ι := ι) (isSlice := true) hcap hp w
  have h3' : p.2 ≤ m := by simpa using h3
  have hrun : (execOp a.eval ⟨d, .slice t x lo hi none, ty, pos, af, g⟩).run P w =
      .ok (.value (.slice (if ((ι l).size - o) / s = p.1 then some ⟨(ι l).blk, (ι l).base + o, none⟩ else some ⟨(ι l).blk, (ι l).base + o + p.1 * s, none⟩) (p.2 - p.1) (((ι l).size - o) / s - p.1))) w := by
    simp only [execOp, Instr.sliceAt, Sem.run_bind, run_underlying hu, Result.andThen_ok, ev_ok hs hx, he, V.real, opt_ok hs hlo, opt_ok hs hhi, Option.map_none, Instr.slice, h1, sizeOf_run hsz, Sem.run_pure, Option.map_some, Addr_add]
  by_cases hp1 : p.1 = 0
  · rw [if_pos hp1] at hv
    simp only [ok, Option.some.injEq, Prod.mk.injEq] at hv
    obtain ⟨rfl, rfl⟩ := hv
    refine Good.same hr hsc ?_
    rw [hrun, hp1]
    simp [V.real]
  · rw [if_neg hp1] at hv
    by_cases hlt : p.1 < p.2
    · rw [if_pos hlt] at hv
      simp only [ok, Option.some.injEq, Prod.mk.injEq] at hv
      obtain ⟨rfl, rfl⟩ := hv
      refine Good.same hr hsc ?_
      rw [hrun, if_neg (by omega)]
      simp only [V.real, Nat.add_assoc]
      have : ((ι l).size - o) / s - p.1 = ((ι l).size - (o + p.1 * s)) / s := by
        rw [← Nat.sub_sub, Nat.mul_comm, Nat.sub_mul_div]
      rw [this]
    · rw [if_neg hlt] at hv
      simp only [ok, Option.some.injEq, Prod.mk.injEq] at hv
      obtain ⟨rfl, rfl⟩ := hv
      have hpe : p.2 - p.1 = 0 := by omega
      refine Good.same hr hsc ?_
      rw [hrun, hpe]
      simp only [V.real]
      split <;> rfl

theorem good_slNil (hr : HR ι h.o w) (hs : SR ι S n a.tmps h.o.length) {d : Option Nat} {t ty e s : Nat} {pos : String} {af : Array Edge} {g : Option (Nat × Bool)} {x : Operand} {x' : Opd} {lo hi : Option Operand} {lo' hi' : Option Opd} (hx : trOpd x = some x') (hlo : trOpt lo = some lo') (hhi : trOpt hi = some hi')
    (hu : P.underlying t = some (.slice e)) (hsz : szOf P e = some s) (he : x'.ev S = .nils) {p : Nat × Nat} (hp : boundsA 0 0 (lo'.map (Opd.ev S)) (hi'.map (Opd.ev S)) = some p) :
    Good P a ⟨d, .slice t x lo hi none, ty, pos, af, g⟩ ι h w .nils none := by
  obtain ⟨h1, h2, h3⟩ := bounds_ok (P := P) (ι := ι) (isSlice := true) (Nat.le_refl 0) hp w
  have e2 : p.2 = 0 := by simpa using h3
  have e1 : p.1 = 0 := by omega
  refine Good.same hr trivial ?_
  simp only [execOp, Instr.sliceAt, Sem.run_bind, run_underlying hu, Result.andThen_ok, ev_ok hs hx, he, V.real, opt_ok hs hlo, opt_ok hs hhi, Option.map_none, Instr.slice, h1, sizeOf_run hsz, Sem.run_pure, Option.map_none, e1, e2, if_true, Nat.sub_zero]

theorem good_slZero (hr : HR ι h.o w) (hs : SR ι S n a.tmps h.o.length) {d : Option Nat} {t ty e s : Nat} {pos : String} {af : Array Edge} {g : Option (Nat × Bool)} {x : Operand} {x' : Opd} {lo hi : Option Operand} {lo' hi' : Option Opd} (hx : trOpd x = some x') (hlo : trOpt lo = some lo') (hhi : trOpt hi = some hi')
    (hu : P.underlying t = some (.slice e)) (hsz : szOf P e = some s) {za : Addr} (he : x'.ev S = .zsl za) {p : Nat × Nat} (hp : boundsA 0 0 (lo'.map (Opd.ev S)) (hi'.map (Opd.ev S)) = some p) :
    Good P a ⟨d, .slice t x lo hi none, ty, pos, af, g⟩ ι h w (.zsl za) none := by
  obtain ⟨h1, h2, h3⟩ := bounds_ok (P := P) (ι := ι) (isSlice := true) (Nat.le_refl 0) hp w
  have e2 : p.2 = 0 := by simpa using h3
  have e1 : p.1 = 0 := by omega
  refine Good.same hr trivial ?_
  simp only [execOp, Instr.sliceAt, Sem.run_bind, run_underlying hu, Result.andThen_ok, ev_ok hs hx, he, V.real, opt_ok hs hlo, opt_ok hs hhi, Option.map_none, Instr.slice, h1, sizeOf_run hsz, Sem.run_pure, Option.map_some, e1, e2, if_true, Nat.sub_zero]

theorem exact_ok (hr : HR ι h.o w) {l : Nat} {cs : List V} (hx : h.exact l = true) (hc : h.cellsAt l = some cs) : (ι l).size = cs.length := by
  unfold Heap.exact at hx
  unfold Heap.cellsAt at hc
  split at hx
  · rename_i t fz cs' hq
    rw [hq] at hc
    simp only [Option.some.injEq] at hc
    subst hc
    obtain ⟨arr, t', lo, hi, _, _, _, _, h5, _⟩ := hr.obj l _ hq
    exact h5 rfl
  · simp at hx

theorem good_slA (hr : HR ι h.o w) (hs : SR ι S n a.tmps h.o.length) {d : Option Nat} {t ty len e s : Nat} {pos : String} {af : Array Edge} {g : Option (Nat × Bool)} {x : Operand} {x' : Opd} {lo hi : Option Operand} {lo' hi' : Option Opd} (hx : trOpd x = some x') (hlo : trOpt lo = some lo') (hhi : trOpt hi = some hi')
    (hu : P.underlying t = some (.array len e) ∨ ∃ q, P.underlying t = some (.pointer q) ∧ P.underlying q = some (.array len e)) (hsz : szOf P e = some s) (h0 : 0 < s) {l : Nat} (he : x'.ev S = .ptr l 0) {cs : List V} (hx2 : h.exact l = true) (hc : h.cellsAt l = some cs) (hlen : cs.length = len * s)
    {p : Nat × Nat} (hp : boundsA len len (lo'.map (Opd.ev S)) (hi'.map (Opd.ev S)) = some p)
    {v : V} (hv : (if p.1 = 0 then ok (.slice l 0 p.2 s) else if p.1 < len then ok (.slice l (p.1 * s) (p.2 - p.1) s) else none) = some (v, none)) :
    Good P a ⟨d, .slice t x lo hi none, ty, pos, af, g⟩ ι h w v none := by
  have hsc := ev_sc hs hx
  rw [he] at hsc
  have hsize := exact_ok hr hx2 hc
  obtain ⟨h1, h2, h3⟩ := bounds_ok (P := P) (ι := ι) (isSlice := false) (Nat.le_refl len) hp w
  have hrun : (execOp a.eval ⟨d, .slice t x lo hi none, ty, pos, af, g⟩).run P w =
      .ok (.value (.slice (some (if len = p.1 then ⟨(ι l).blk, (ι l).base, none⟩ else ⟨(ι l).blk, (ι l).base + p.1 * s, none⟩)) (p.2 - p.1) (len - p.1))) w := by
    rcases hu with hu | ⟨q, hu, hu2⟩
    · simp only [execOp, Instr.sliceAt, Sem.run_bind, run_underlying hu, Result.andThen_ok, ev_ok hs hx, he, V.real, Instr.sureAddr, opt_ok hs hlo, opt_ok hs hhi, Option.map_none, h1, sizeOf_run hsz, Sem.run_pure, Addr_add, Nat.add_zero]
    · simp only [execOp, Instr.sliceAt, Instr.slice, Sem.run_bind, run_underlying hu, run_underlying hu2, Result.andThen_ok, ev_ok hs hx, he, V.real, asAddr, opt_ok hs hlo, opt_ok hs hhi, Option.map_none, h1, sizeOf_run hsz, Sem.run_pure, Addr_add, Nat.add_zero]
  have hd : ∀ q, (len * s - q * s) / s = len - q := by
    intro q
    rw [← Nat.sub_mul, Nat.mul_div_cancel _ h0]
  by_cases hp1 : p.1 = 0
  · rw [if_pos hp1] at hv
    simp only [ok, Option.some.injEq, Prod.mk.injEq] at hv
    obtain ⟨rfl, _⟩ := hv
    refine Good.same hr hsc ?_
    rw [hrun, hp1]
    have := hd 0
    simp only [Nat.zero_mul, Nat.sub_zero] at this
    simp [V.real, hsize, hlen, this]
  · rw [if_neg hp1] at hv
    split at hv
    · rename_i hlt
      simp only [ok, Option.some.injEq, Prod.mk.injEq] at hv
      obtain ⟨rfl, _⟩ := hv
      refine Good.same hr hsc ?_
      rw [hrun, if_neg (by omega)]
      simp only [V.real, hsize, hlen, hd]
    · simp at hv

/-- An array that lies within a row, from its head on. -/
theorem good_slAs (hr : HR ι h.o w) (hs : SR ι S n a.tmps h.o.length) {d : Option Nat} {t ty len e s : Nat} {pos : String} {af : Array Edge} {g : Option (Nat × Bool)} {x : Operand} {x' : Opd} {lo hi : Option Operand} {lo' hi' : Option Opd} (hx : trOpd x = some x') (hlo : trOpt lo = some lo') (hhi : trOpt hi = some hi')
    (hu : P.underlying t = some (.array len e) ∨ ∃ q, P.underlying t = some (.pointer q) ∧ P.underlying q = some (.array len e)) (hsz : szOf P e = some s) {l o : Nat} (he : x'.ev S = .ptr l o)
    {p : Nat × Nat} (hp : boundsA len len (lo'.map (Opd.ev S)) (hi'.map (Opd.ev S)) = some p) {v : V} (hv : (if p.1 = 0 then ok (.ssl l o p.2 len s) else if p.1 < len then ok (.ssl l (o + p.1 * s) (p.2 - p.1) (len - p.1) s) else none) = some (v, none)) :
    Good P a ⟨d, .slice t x lo hi none, ty, pos, af, g⟩ ι h w v none := by
  have hsc := ev_sc hs hx
  rw [he] at hsc
  obtain ⟨h1, h2, h3⟩ := bounds_ok (P := P) (ι := ι) (isSlice := false) (Nat.le_refl len) hp w
  have hrun : (execOp a.eval ⟨d, .slice t x lo hi none, ty, pos, af, g⟩).run P w =
      .ok (.value (.slice (some (if len = p.1 then ⟨(ι l).blk, (ι l).base + o, none⟩ else ⟨(ι l).blk, (ι l).base + o + p.1 * s, none⟩)) (p.2 - p.1) (len - p.1))) w := by
    rcases hu with hu | ⟨q, hu, hu2⟩
    · simp only [execOp, Instr.sliceAt, Sem.run_bind, run_underlying hu, Result.andThen_ok, ev_ok hs hx, he, V.real, Instr.sureAddr, opt_ok hs hlo, opt_ok hs hhi, Option.map_none, h1, sizeOf_run hsz, Sem.run_pure, Addr_add]
    · simp only [execOp, Instr.sliceAt, Instr.slice, Sem.run_bind, run_underlying hu, run_underlying hu2, Result.andThen_ok, ev_ok hs hx, he, V.real, asAddr, opt_ok hs hlo, opt_ok hs hhi, Option.map_none, h1, sizeOf_run hsz, Sem.run_pure, Addr_add]
  by_cases hp1 : p.1 = 0
  · rw [if_pos hp1] at hv
    simp only [ok, Option.some.injEq, Prod.mk.injEq] at hv
    obtain ⟨rfl, _⟩ := hv
    refine Good.same hr hsc ?_
    rw [hrun, hp1]
    simp [V.real]
  · rw [if_neg hp1] at hv
    split at hv
    · rename_i hlt
      simp only [ok, Option.some.injEq, Prod.mk.injEq] at hv
      obtain ⟨rfl, _⟩ := hv
      refine Good.same hr hsc ?_
      rw [hrun, if_neg (by omega)]
      simp only [V.real, Nat.add_assoc]
    · simp at hv

theorem good_toInt (hr : HR ι h.o w) (hs : SR ι S n a.tmps h.o.length) {d : Option Nat} {t u ty : Nat} {pos : String} {af : Array Edge} {g : Option (Nat × Bool)} {x : Operand} {x' : Opd} (hx : trOpd x = some x')
    {k0 k k1 : IntKind} (h1 : P.underlying t = some (.int k0)) (h2 : P.underlying u = some (.int k)) {i : Int} (he : x'.ev S = .int k1 i) :
    Good P a ⟨d, .convert t u x, ty, pos, af, g⟩ ι h w (.int k (k.wrap i)) none := by
  refine Good.same hr trivial ?_
  simp only [execOp, convert, Sem.run_bind, run_underlying h1, run_underlying h2, Result.andThen_ok, ev_ok hs hx, he, V.real, Conv.intToInt, Sem.run_pure]

theorem good_strStr (hr : HR ι h.o w) (hs : SR ι S n a.tmps h.o.length) {d : Option Nat} {t u ty : Nat} {pos : String} {af : Array Edge} {g : Option (Nat × Bool)} {x : Operand} {x' : Opd} (hx : trOpd x = some x')
    (h1 : P.underlying t = some .string) (h2 : P.underlying u = some .string) {s : List UInt8} (he : x'.ev S = .str s) :
    Good P a ⟨d, .convert t u x, ty, pos, af, g⟩ ι h w (.str s) none := by
  refine Good.same hr trivial ?_
  simp only [execOp, convert, Sem.run_bind, run_underlying h1, run_underlying h2, Result.andThen_ok, ev_ok hs hx, he, V.real, Sem.run_pure]

theorem isByte_ok {e : Nat} (h : isByte P e = true) : P.underlying e = some (.int .u8) := by
  unfold isByte at h
  split at h
  · assumption
  · simp at h

theorem pushes (w : World) (f : Value → ByteArray → Sem (ForInStep ByteArray)) (hf : ∀ b r, f (.int .u8 b) r = pure (ForInStep.yield (r.push (UInt8.ofNat b.toNat)))) : ∀ (cs : List V) (s : List UInt8) (acc : ByteArray), strOf cs = some s →
    (forIn (V.reals ι cs) acc f : Sem ByteArray).run P w = .ok (acc ++ ⟨s.toArray⟩) w
  | [], s, acc, h => by
    simp only [strOf, Option.some.injEq] at h
    subst h
    simp only [V.reals, List.forIn_nil, Sem.run_pure]
    congr 1
    apply ByteArray.ext
    simp
  | c :: r, s, acc, h => by
    unfold strOf at h
    split at h
    · simp_all
    · rename_i b r' hc
      simp only [List.cons.injEq] at hc
      obtain ⟨rfl, rfl⟩ := hc
      split at h
      · rename_i s' hs'
        simp only [Option.some.injEq] at h
        subst h
        have := pushes w f hf r s' (acc.push (UInt8.ofNat b.toNat)) hs'
        simp only [V.reals, V.real, List.forIn_cons, hf, Sem.run_bind, Sem.run_pure, Result.andThen_ok, this]
        congr 1
        apply ByteArray.ext
        simp [ByteArray.data_append, ByteArray.data_push]
      · simp at h
    · simp at h

theorem good_toStr (hr : HR ι h.o w) (hs : SR ι S n a.tmps h.o.length) {d : Option Nat} {t u e ty : Nat} {pos : String} {af : Array Edge} {g : Option (Nat × Bool)} {x : Operand} {x' : Opd} (hx : trOpd x = some x')
    (h1 : P.underlying t = some (.slice e)) (h2 : P.underlying u = some .string) (h3 : isByte P e = true) {l o m : Nat} (he : x'.ev S = .slice l o m 1) {cs : List V} (hg : h.gets l o m = some cs) {s : List UInt8} (hst : strOf cs = some s) :
    Good P a ⟨d, .convert t u x, ty, pos, af, g⟩ ι h w (.str s) none := by
  refine Good.same hr trivial ?_
  simp only [execOp, convert, Sem.run_bind, run_underlying h1, run_underlying h2, run_underlying (isByte_ok h3), Result.andThen_ok, ev_ok hs hx, he, V.real, Conv.bytesToString, run_loadCells_gets hr hg, List.forIn_toArray]
  rw [pushes (P := P) (ι := ι) w _ (fun _ _ => rfl) cs s ByteArray.empty hst]
  simp only [Result.andThen_ok, Sem.run_pure]
  congr 3

theorem good_toStrNil (hr : HR ι h.o w) (hs : SR ι S n a.tmps h.o.length) {d : Option Nat} {t u e ty : Nat} {pos : String} {af : Array Edge} {g : Option (Nat × Bool)} {x : Operand} {x' : Opd} (hx : trOpd x = some x')
    (h1 : P.underlying t = some (.slice e)) (h2 : P.underlying u = some .string) (h3 : isByte P e = true) (he : x'.ev S = .nils) :
    Good P a ⟨d, .convert t u x, ty, pos, af, g⟩ ι h w (.str []) none := by
  refine Good.same hr trivial ?_
  simp only [execOp, convert, Sem.run_bind, run_underlying h1, run_underlying h2, run_underlying (isByte_ok h3), Result.andThen_ok, ev_ok hs hx, he, V.real, Conv.bytesToString, Sem.run_pure]
  rfl

theorem freeze_new (w : World) (arr : Array Value) (t : Nat) : (w.alloc (.cells arr t (0, 0))).freeze { block := w.heap.size, off := arr.size } 1 = w.alloc (.cells arr t (arr.size, arr.size + 1)) := by
  have : ((w.heap.push (.cells arr t (0, 0))).modify w.heap.size fun
      | .cells c elem (lo, hi) => .cells c elem (if lo == hi then (arr.size, arr.size + 1) else (min lo arr.size, max hi (arr.size + 1)))
      | o => o) = w.heap.push (.cells arr t (arr.size, arr.size + 1)) := by
    apply Array.ext
    · simp
    · intro i h1 h2
      rw [Array.getElem_modify]
      simp only [Array.getElem_push]
      split
      · rename_i hi
        subst hi
        simp
      · rename_i hi
        split
        · rfl
        · simp at h2; omega
  unfold World.freeze
  rw [if_neg (show ¬ ((1 : Nat) = 0) by omega)]
  exact congrArg (fun hp => ({ w with heap := hp } : World)) this

theorem good_toBytes (hr : HR ι h.o w) (hs : SR ι S n a.tmps h.o.length) {d : Option Nat} {t u e ty : Nat} {pos : String} {af : Array Edge} {g : Option (Nat × Bool)} {x : Operand} {x' : Opd} (hx : trOpd x = some x')
    (h1 : P.underlying t = some .string) (h2 : P.underlying u = some (.slice e)) (h3 : isByte P e = true) {s : List UInt8} (he : x'.ev S = .str s) :
    Good P a ⟨d, .convert t u x, ty, pos, af, g⟩ ι h w (.slice h.o.length 0 s.length 1) (some (h.new (.cells .gr e 0 (bytesA s)))) := by
  let q := Question.appendCap s.length 0 e
  let c := q.cut (w.tape w.drawn q)
  let w1 : World := { w with drawn := w.drawn + 1 }
  have hc : s.length ≤ c := by show s.length ≤ s.length + _; omega
  let rest : List Value := List.replicate (c - s.length) (.int .u8 0)
  have hbl : (bytesA s).length = s.length := by simp [bytesA]
  have hn1 : Nx ι h w ι h w1 := Nx.drew hr rfl rfl rfl rfl
  have hbp : V.plains (bytesA s) = true := by rw [V.plains_iff]; intro v hv; simp only [bytesA, List.mem_map] at hv; obtain ⟨b, _, rfl⟩ := hv; rfl
  let arr : Array Value := (V.reals (ι.upd h.o.length ⟨w1.heap.size, 0, (bytesA s).length + rest.length⟩) (bytesA s) ++ rest).toArray
  have hn2 := newCells_sound hn1.hr .gr (by simp) e (bytesA s) rest (V.scs_of_plains _ _ hbp) (arr.size, arr.size + 1) (by
    intro i hi
    simp only [arr, List.size_toArray, List.length_append, V.reals_eq, List.length_map]
    omega) (by simp)
  simp only at hn2
  have harr : (V.reals ι (bytesA s) : List Value) = s.map fun b => .int .u8 b.toNat := by
    rw [V.reals_eq, bytesA, List.map_map]
    rfl
  have harr2 : arr = (⟨s.toArray⟩ : ByteArray).data.map (fun b => Value.int .u8 (b.toNat : Int)) ++ Array.replicate (c - s.length) (.int .u8 0) := by
    simp only [arr]
    rw [V.reals_agree (Map.agree_upd ι h.o.length _) (bytesA s) (V.scs_of_plains _ _ hbp), harr]
    apply Array.ext'
    simp [rest]
  refine ⟨_, _, _, ?_, .inl rfl, hn1.trans hn2, by simp [Heap.new, V.sc], fun h => by simp at h⟩
  have hfz := freeze_new w1 arr e
  have hsh : (w1.alloc (.cells arr e (0, 0))).shape? w1.heap.size = some (e, arr.size) := by
    show (match (w1.heap.push _)[w1.heap.size]? with | some (.cells c elem _) => some (elem, c.size) | _ => none) = _
    simp [Array.getElem?_push]
  have hsize : arr.size = c := by
    simp only [arr, List.size_toArray, List.length_append, V.reals_eq, List.length_map, hbl, rest, List.length_replicate]; omega
  simp only [execOp, convert, Sem.run_bind, run_underlying h1, run_underlying h2, run_underlying (isByte_ok h3), Result.andThen_ok, ev_ok hs hx, he, V.real, Conv.stringToBytes, run_choose, size_mk]
  rw [if_neg (by simp [Question.forced])]
  simp only [Result.andThen_ok, newRow, Sem.run_bind, run_newObj, Sem.run_pure, markStringish, run_shape]
  rw [← harr2]
  show Result.andThen (Result.andThen (Sem.run P (match (w1.alloc (.cells arr e (0, 0))).shape? w1.heap.size with | some (_, n) => freeze { block := w1.heap.size, off := n } 1 | _ => pure ()) (w1.alloc (.cells arr e (0, 0)))) _) _ = _
  rw [hsh]
  simp only [run_freeze, Result.andThen_ok, hfz, Map.upd_same, hbl, rest, List.length_replicate, Nat.add_zero, Nat.sub_zero, Nat.div_one]
  have hcc : s.length + (c - s.length) = c := by omega
  have harr3 : arr = (V.reals (ι.upd h.o.length ⟨w1.heap.size, 0, c⟩) (bytesA s) ++ List.replicate (c - s.length) (Value.int .u8 0)).toArray := by
    simp only [arr, rest, List.length_replicate, hbl, hcc]
  rw [hcc, ← harr3]

end
end AM

/- AM, part 10: lengths, copies, maps. -/
namespace AM
open Go
set_option linter.unusedVariables false
set_option linter.unusedSimpArgs false
set_option linter.unusedSectionVars false

section
variable {P : Program} {ι : Map} {σ : Type} [Slots σ] {h : Heap} {w : World} {S : σ} {n : Nat} {a : Act}

/-- What a builtin comes to. -/
theorem good_builtin {b : Builtin} {d : Option Nat} {args : Array Operand} {ats : Array Nat} {ty : Nat} {pos : String} {af : Array Edge} {g : Option (Nat × Bool)} {v : V} {oh : Option Heap} {κ : Map} {w' : World}
    (hn : Nx ι h w κ (oh.getD h) w') (hsc : v.sc (oh.getD h).o.length) (hk : oh = none → κ = ι ∧ w' = w)
    (hrun : (builtin b ats ty (args.map fun | .const _ => true | _ => false) (args.map a.eval)).run P w = .ok (.value (v.real κ)) w') :
    Good P a ⟨d, .call ⟨.builtin b, args, ats⟩, ty, pos, af, g⟩ ι h w v oh := by
  refine ⟨κ, w', _, ?_, .inl rfl, hn, hsc, hk⟩
  simp only [execOp, resolve, Sem.run_bind, Sem.run_pure, Result.andThen_ok, invoke]
  exact hrun

theorem run_len {ats : Array Nat} {t ty : Nat} (ha : ats[0]? = some t) {args : Array Value} {x : Value} (hx : args[0]? = some x) {r : Value} (cs : Array Bool)
    (hr : (match P.underlying t, x with
      | some .string, .string s => r = goInt s.size
      | some (.array n _), _ => r = goInt n
      | some (.slice _), .slice _ n _ => r = goInt n
      | some (.pointer e), _ => (match P.underlying e with | some (.array n _) => r = goInt n | _ => False)
      | _, _ => False)) (w : World) : (builtin .len ats ty cs args).run P w = .ok (.value r) w := by
  simp only [builtin, Builtin.len_, ha, hx, Sem.run_bind]
  split at hr
  · rename_i s hu; subst hr; simp [run_underlying hu]
  · rename_i n e hu; subst hr; simp [run_underlying hu]
  · rename_i e n c hu; subst hr; simp [run_underlying hu]
  · rename_i e hu
    split at hr
    · rename_i n q hu2; subst hr; simp [run_underlying hu, run_underlying hu2]
    · exact hr.elim
  · exact hr.elim

theorem first_cells_str (s : List UInt8) (k m : Nat) (w : World) : (Builtin.firstCells k m (.string ⟨s.toArray⟩)).run P w = .ok (V.reals ι (bytesA (s.take m))).toArray w := by
  simp only [Builtin.firstCells, Sem.run_pure]
  congr 1
  rw [extract_mk]
  apply Array.ext'
  simp only [Array.toList_map, V.reals_eq, bytesA, List.map_map, List.drop_zero]
  rfl

theorem bytesA_len (s : List UInt8) : (bytesA s).length = s.length := by simp [bytesA]

theorem bytesA_plains (s : List UInt8) : V.plains (bytesA s) = true := by
  rw [V.plains_iff]; intro v hv; simp only [bytesA, List.mem_map] at hv; obtain ⟨b, _, rfl⟩ := hv; rfl

theorem run_copyS (hr : HR ι h.o w) {ats : Array Nat} {t u e ty : Nat} (ha : ats[0]? = some t) (ha1 : ats[1]? = some u) (hu : P.underlying t = some (.slice e)) (hsz : szOf P e = some 1) {args : Array Value}
    {l o m : Nat} {s : List UInt8} (h0 : args[0]? = some ((V.slice l o m 1).real ι)) (h1 : args[1]? = some ((V.str s).real ι)) (cs : Array Bool) {h' : Heap} (hs : h.sets l o (bytesA (s.take m)) = some h') :
    ∃ w', (builtin .copy ats ty cs args).run P w = .ok (.value ((V.int .i64 ((min s.length m : Nat) : Int)).real ι)) w' ∧ Nx ι h w ι h' w' := by
  obtain ⟨w', k1, k2⟩ := sets_sound hr hs (V.scs_of_plains _ _ (bytesA_plains _))
  refine ⟨w', ?_, k2⟩
  have ht : s.take (Nat.min s.length m) = s.take m := by
    rcases Nat.le_total s.length m with hm | hm
    · rw [show Nat.min s.length m = s.length from Nat.min_eq_left hm, List.take_of_length_le (Nat.le_refl _), List.take_of_length_le hm]
    · rw [show Nat.min s.length m = m from Nat.min_eq_right hm]
  simp only [builtin, Builtin.copy_, ha, h0, h1, Sem.run_bind, run_underlying hu, Result.andThen_ok, V.real, Builtin.lenOf, Sem.run_pure, sizeOf_run hsz, size_mk, first_cells_str (ι := ι), ht, k1 P]
  rfl

theorem run_copyL (hr : HR ι h.o w) {ats : Array Nat} {t e s ty : Nat} (ha : ats[0]? = some t) (hu : P.underlying t = some (.slice e)) (hsz : szOf P e = some s) {args : Array Value}
    {l o m l' o' m' : Nat} (h0 : args[0]? = some ((V.slice l o m s).real ι)) (h1 : args[1]? = some ((V.slice l' o' m' s).real ι)) (bs : Array Bool) {cs : List V} (hg : h.gets l' o' (min m' m * s) = some cs) {h' : Heap} (hs : h.sets l o cs = some h') :
    ∃ w', (builtin .copy ats ty bs args).run P w = .ok (.value ((V.int .i64 ((min m' m : Nat) : Int)).real ι)) w' ∧ Nx ι h w ι h' w' := by
  obtain ⟨w', k1, k2⟩ := sets_sound hr hs (gets_sc hr hg)
  refine ⟨w', ?_, k2⟩
  have hmin : Nat.min m' m = min m' m := rfl
  simp only [builtin, Builtin.copy_, ha, h0, h1, Sem.run_bind, run_underlying hu, Result.andThen_ok, V.real, Builtin.lenOf, Builtin.firstCells, Sem.run_pure, sizeOf_run hsz, hmin, run_loadCells_gets hr hg, k1 P]
  rfl

theorem run_copyLs (hr : HR ι h.o w) {ats : Array Nat} {t e s ty : Nat} (ha : ats[0]? = some t) (hu : P.underlying t = some (.slice e)) (hsz : szOf P e = some s) {args : Array Value}
    {l o m c l' o' m' : Nat} (h0 : args[0]? = some ((V.ssl l o m c s).real ι)) (h1 : args[1]? = some ((V.slice l' o' m' s).real ι)) (bs : Array Bool) {cs : List V} (hg : h.gets l' o' (min m' m * s) = some cs) {h' : Heap} (hs : h.sets l o cs = some h') :
    ∃ w', (builtin .copy ats ty bs args).run P w = .ok (.value ((V.int .i64 ((min m' m : Nat) : Int)).real ι)) w' ∧ Nx ι h w ι h' w' := by
  obtain ⟨w', k1, k2⟩ := sets_sound hr hs (gets_sc hr hg)
  refine ⟨w', ?_, k2⟩
  have hmin : Nat.min m' m = min m' m := rfl
  simp only [builtin, Builtin.copy_, ha, h0, h1, Sem.run_bind, run_underlying hu, Result.andThen_ok, V.real, Builtin.lenOf, Builtin.firstCells, Sem.run_pure, sizeOf_run hsz, hmin, run_loadCells_gets hr hg, k1 P]
  rfl

theorem run_copyNil (hr : HR ι h.o w) {ats : Array Nat} {t e s ty : Nat} (ha : ats[0]? = some t) (hu : P.underlying t = some (.slice e)) (hsz : szOf P e = some s) {args : Array Value} {x y : V}
    (hxy : (∃ l o m e', x = .slice l o m e' ∧ y = .nils) ∨ (x = .nils ∧ (y = .nils ∨ ∃ l o m e', y = .slice l o m e')))
    (h0 : args[0]? = some (x.real ι)) (h1 : args[1]? = some (y.real ι)) (bs : Array Bool) :
    (builtin .copy ats ty bs args).run P w = .ok (.value ((V.int .i64 0).real ι)) w := by
  rcases hxy with ⟨l, o, m, e', rfl, rfl⟩ | ⟨rfl, rfl | ⟨l, o, m, e', rfl⟩⟩ <;>
    simp [builtin, Builtin.copy_, ha, h0, h1, Sem.run_bind, run_underlying hu, Result.andThen_ok, V.real, Builtin.lenOf, Builtin.firstCells, Sem.run_pure, sizeOf_run hsz, loadCells, loadCellsFrom, storeCells, goInt]

theorem zeroCells_eq (z : List V) (k : Nat) (hz : 0 < z.length) : Builtin.zeroCells (V.reals ι z).toArray k = (V.reals ι (reps z k)).toArray := by
  have := zeros_eq (ι := ι) z k hz
  unfold Builtin.zeroCells
  rw [show (V.reals ι z).toArray.size = z.length by simp [V.reals_eq]] at this ⊢
  exact this

theorem run_clearL (hr : HR ι h.o w) {ats : Array Nat} {t e s ty : Nat} (ha : ats[0]? = some t) (hu : P.underlying t = some (.slice e)) {z : V} (hz : zeroOf P e = some z) (hzl : z.cells.length = s) (h0s : 0 < s) {args : Array Value}
    {l o m : Nat} (h0 : args[0]? = some ((V.slice l o m s).real ι)) (bs : Array Bool) (hm : m ≠ 0) {h' : Heap} (hs : h.sets l o (reps z.cells m) = some h') :
    ∃ w', (builtin .clear ats ty bs args).run P w = .ok (.value (undefV.real ι)) w' ∧ Nx ι h w ι h' w' := by
  obtain ⟨z1, z2⟩ := zero_run (ι := ι) hz w
  obtain ⟨w', k1, k2⟩ := sets_sound hr hs (V.scs_of_plains _ _ (reps_plains _ (V.cells_plains _ z2) m))
  refine ⟨w', ?_, k2⟩
  obtain ⟨q, rfl⟩ : ∃ q, m = q + 1 := ⟨m - 1, by omega⟩
  simp only [builtin, Builtin.clear_, ha, h0, Sem.run_bind, run_underlying hu, Result.andThen_ok, V.real, z1, V.cells_real, zeroCells_eq (ι := ι) z.cells (q + 1) (by omega), k1 P, Sem.run_pure]
  rfl

theorem run_clearSs (hr : HR ι h.o w) {ats : Array Nat} {t e s ty : Nat} (ha : ats[0]? = some t) (hu : P.underlying t = some (.slice e)) {z : V} (hz : zeroOf P e = some z) (hzl : z.cells.length = s) (h0s : 0 < s) {args : Array Value}
    {l o m c : Nat} (h0 : args[0]? = some ((V.ssl l o m c s).real ι)) (bs : Array Bool) (hm : m ≠ 0) {h' : Heap} (hs : h.sets l o (reps z.cells m) = some h') :
    ∃ w', (builtin .clear ats ty bs args).run P w = .ok (.value (undefV.real ι)) w' ∧ Nx ι h w ι h' w' := by
  obtain ⟨z1, z2⟩ := zero_run (ι := ι) hz w
  obtain ⟨w', k1, k2⟩ := sets_sound hr hs (V.scs_of_plains _ _ (reps_plains _ (V.cells_plains _ z2) m))
  refine ⟨w', ?_, k2⟩
  obtain ⟨q, rfl⟩ : ∃ q, m = q + 1 := ⟨m - 1, by omega⟩
  simp only [builtin, Builtin.clear_, ha, h0, Sem.run_bind, run_underlying hu, Result.andThen_ok, V.real, z1, V.cells_real, zeroCells_eq (ι := ι) z.cells (q + 1) (by omega), k1 P, Sem.run_pure]
  rfl

theorem run_clearNo {ats : Array Nat} {t e ty : Nat} (ha : ats[0]? = some t) (hu : P.underlying t = some (.slice e)) {args : Array Value} {x : V} (hx : x = .nils ∨ ∃ l o e', x = .slice l o 0 e') (h0 : args[0]? = some (x.real ι)) (bs : Array Bool) :
    (builtin .clear ats ty bs args).run P w = .ok (.value (undefV.real ι)) w := by
  rcases hx with rfl | ⟨l, o, e', rfl⟩ <;>
    (simp only [builtin, Builtin.clear_, ha, h0, Sem.run_bind, run_underlying hu, Result.andThen_ok, V.real, Sem.run_pure]; rfl)

theorem minmax_ok (mx : Bool) (w : World) : ∀ (r : List V) (x v : V), minmaxA mx x r = some v → v.plain = true ∧
    (((V.reals ι r).foldlM (if mx = true then Builtin.max2 else Builtin.min2) (x.real ι) : Sem Value)).run P w = .ok (v.real ι) w ∨ (r = [] ∧ v = x)
  | [], x, v, h => by simp only [minmaxA, Option.some.injEq] at h; exact .inr ⟨rfl, h.symm⟩
  | y :: r, x, v, h => by
    left
    simp only [minmaxA] at h
    split at h
    · rename_i k a k' b
      split at h
      · rename_i hk
        subst hk
        have hstep : ((if mx = true then Builtin.max2 else Builtin.min2) ((V.int k a).real ι) ((V.int k b).real ι)).run P w = .ok ((V.int k (maxi mx a b)).real ι) w := by
          cases mx <;> simp [Builtin.max2, Builtin.min2, V.real, maxi]
        rcases minmax_ok mx w r _ v h with ⟨h1, h2⟩ | ⟨rfl, rfl⟩
        · refine ⟨h1, ?_⟩
          simp only [V.reals, List.foldlM_cons, Sem.run_bind, hstep, Result.andThen_ok, h2]
        · refine ⟨rfl, ?_⟩
          simp only [V.reals, List.foldlM_cons, List.foldlM_nil, Sem.run_bind, hstep, Result.andThen_ok, Sem.run_pure]
      · simp at h
    · simp at h

/-! Maps -/

theorem eqK_scal {P : Program} {kt : Nat} {kd : Kd} (h : keyOk P kt = some kd) : ∃ dd, P.underlying kt = some dd ∧ okKd kd dd = true ∧ okT P kt kd ∧ (kd = .b ∨ kd = .i ∨ kd = .s) := by
  unfold keyOk at h
  split at h <;> simp only [Option.some.injEq, reduceCtorEq] at h <;> subst h
  · rename_i hu; exact ⟨_, hu, rfl, hu, .inl rfl⟩
  · rename_i k hu; exact ⟨_, hu, rfl, ⟨_, hu⟩, .inr (.inl rfl)⟩
  · rename_i hu; exact ⟨_, hu, rfl, hu, .inr (.inr rfl)⟩

theorem sameNow_ok {kd : Kd} {dd : TypeDesc} (hd : okKd kd dd = true) {x y : V} {b : Bool} (hk : eqK kd x y = some b) : Instr.sameNow dd (x.real ι) (y.real ι) = some b := by
  cases kd <;> cases dd <;> simp [okKd] at hd <;> simp only [eqK] at hk <;> split at hk <;> first
    | (simp at hk; done)
    | (simp only [Option.some.injEq] at hk; subst hk
       first
       | rfl
       | (simp only [V.real, Instr.sameNow]; rw [beq_toListBytes, toList_mk, toList_mk]))
    | (split at hk
       · rename_i hkk; simp only [Option.some.injEq] at hk; subst hk; simp only [V.real, Instr.sameNow, if_pos hkk]
       · simp at hk)

/-- Where a key stands. -/
def mapIdx (kd : Kd) (k : V) : List (V × V) → Option (Option Nat)
  | [] => some none
  | (k', v) :: r => match eqK kd k k' with
    | some true => if loneK kd k r = true then some (some 0) else none
    | some false => (mapIdx kd k r).map (Option.map (· + 1))
    | none => none

theorem mapFind_idx (kd : Kd) (k : V) : ∀ es : List (V × V), mapFind kd k es = (mapIdx kd k es).map (fun r => r.bind fun i => (es[i]?).map (·.2))
  | [] => rfl
  | (k', v) :: r => by
    simp only [mapFind, mapIdx]
    split <;> rename_i hk <;> try simp only [hk]
    · split <;> rfl
    · rw [mapFind_idx kd k r]
      cases mapIdx kd k r with
      | none => rfl
      | some q => cases q <;> rfl
    · rfl

theorem mapPut_idx (kd : Kd) (k x : V) : ∀ es : List (V × V), mapPut kd k x es = (mapIdx kd k es).map (fun r => match r with | some i => es.set i (k, x) | none => es ++ [(k, x)])
  | [] => rfl
  | (k', v) :: r => by
    simp only [mapPut, mapIdx]
    split <;> rename_i hk <;> try simp only [hk]
    · split <;> rfl
    · rw [mapPut_idx kd k x r]
      cases mapIdx kd k r with
      | none => rfl
      | some q => cases q <;> rfl
    · rfl

theorem mapDrop_idx (kd : Kd) (k : V) : ∀ es : List (V × V), mapDrop kd k es = (mapIdx kd k es).map (fun r => match r with | some i => es.eraseIdx i | none => es)
  | [] => rfl
  | (k', v) :: r => by
    simp only [mapDrop, mapIdx]
    split <;> rename_i hk <;> try simp only [hk]
    · split <;> rfl
    · rw [mapDrop_idx kd k r]
      cases mapIdx kd k r with
      | none => rfl
      | some q => cases q <;> rfl
    · rfl

theorem mapIdx_lt {kd : Kd} {k : V} : ∀ {es : List (V × V)} {i : Nat}, mapIdx kd k es = some (some i) → i < es.length ∧ ∃ e, es[i]? = some e ∧ eqK kd k e.1 = some true
  | [], i, h => by simp [mapIdx] at h
  | (k', v) :: r, i, h => by
    simp only [mapIdx] at h
    split at h
    · rename_i hk
      split at h
      · simp only [Option.some.injEq] at h
        subst h
        exact ⟨by simp, (k', v), rfl, hk⟩
      · cases h
    · cases hq : mapIdx kd k r with
      | none => simp [hq] at h
      | some q =>
        cases q with
        | none => simp [hq] at h
        | some j =>
          simp only [hq, Option.map_some, Option.some.injEq] at h
          subst h
          obtain ⟨h1, e, h2, h3⟩ := mapIdx_lt hq
          exact ⟨by simp; omega, e, by simpa using h2, h3⟩
    · simp at h

/-! Maps up to the order of their entries -/
def sureK (kd : Kd) (k : V) (es : List (V × V)) : Bool := es.all fun e => (eqK kd k e.1).isSome
def hitK (kd : Kd) (k : V) (e : V × V) : Bool := match eqK kd k e.1 with
  | some true => true
  | _ => false
def hits (kd : Kd) (k : V) (es : List (V × V)) : List (V × V) := es.filter (hitK kd k)
def miss (kd : Kd) (k : V) (es : List (V × V)) : List (V × V) := es.filter fun e => !hitK kd k e
def okM (kd : Kd) (k : V) (es : List (V × V)) : Prop := sureK kd k es = true ∧ (hits kd k es).length ≤ 1
theorem eqK3 (kd : Kd) (k y : V) : eqK kd k y = none ∨ eqK kd k y = some false ∨ eqK kd k y = some true := by
  rcases eqK kd k y with _ | _ | _ <;> simp
theorem lone_iff {kd : Kd} {k : V} : ∀ {r : List (V × V)}, loneK kd k r = true ↔ sureK kd k r = true ∧ hits kd k r = []
  | [] => by simp [loneK, sureK, hits]
  | e :: r => by
    have ih := lone_iff (kd := kd) (k := k) (r := r)
    unfold loneK sureK hits at ih ⊢
    rcases eqK3 kd k e.1 with hq | hq | hq
    · simp [hq]
    · simp only [List.all_cons, hq, Option.isSome_some, Bool.true_and, List.filter_cons, hitK, Bool.false_eq_true, if_false]
      exact ih
    · simp [hq, hitK]
theorem miss_of_lone {kd : Kd} {k : V} {r : List (V × V)} (h : hits kd k r = []) : miss kd k r = r := by
  unfold miss
  refine List.filter_eq_self.2 fun x hx => ?_
  have := List.filter_eq_nil_iff.1 h x hx
  simpa using this
theorem okM_cons {kd : Kd} {k : V} {e : V × V} {r : List (V × V)} : okM kd k (e :: r) ↔ (eqK kd k e.1 = some false ∧ okM kd k r) ∨ (eqK kd k e.1 = some true ∧ loneK kd k r = true) := by
  unfold okM
  rw [lone_iff]
  unfold sureK hits
  rcases eqK3 kd k e.1 with hq | hq | hq
  · simp [hq]
  · simp [hq, hitK]
  · simp only [List.all_cons, hq, Option.isSome_some, Bool.true_and, List.filter_cons, hitK, if_true, List.length_cons, Option.some.injEq, reduceCtorEq, Bool.true_eq_false, false_and, false_or, true_and]
    constructor
    · rintro ⟨h1, h2⟩
      exact ⟨h1, List.length_eq_zero_iff.1 (by omega)⟩
    · rintro ⟨h1, h2⟩
      rw [h2]; exact ⟨h1, by simp⟩
theorem mapFind_spec {kd : Kd} {k : V} : ∀ {es : List (V × V)} {r : Option V}, mapFind kd k es = some r ↔ okM kd k es ∧ r = (hits kd k es).head?.map (·.2)
  | [], r => by simp [mapFind, okM, sureK, hits, eq_comm]
  | (k', v) :: es, r => by
    have ih := mapFind_spec (kd := kd) (k := k) (es := es) (r := r)
    rw [okM_cons]
    simp only [mapFind]
    rcases eqK3 kd k k' with hq | hq | hq
    · simp [hq]
    · have : hits kd k ((k', v) :: es) = hits kd k es := by simp [hits, hitK, hq]
      rw [this]; simpa [hq] using ih
    · have : hits kd k ((k', v) :: es) = (k', v) :: hits kd k es := by simp [hits, hitK, hq]
      rw [this]
      by_cases hl : loneK kd k es = true
      · simp [hq, hl, eq_comm]
      · simp [hq, hl]
theorem mapPut_spec {kd : Kd} {k x : V} : ∀ {es es2 : List (V × V)}, mapPut kd k x es = some es2 → okM kd k es ∧ es2.Perm ((k, x) :: miss kd k es)
  | [], es2, h => by
    simp only [mapPut, Option.some.injEq] at h
    subst h
    exact ⟨⟨rfl, by simp [hits]⟩, List.Perm.refl _⟩
  | (k', v) :: es, es2, h => by
    rw [okM_cons]
    simp only [mapPut] at h
    cases hq : eqK kd k k' with
    | none => simp [hq] at h
    | some b =>
      cases b
      · simp only [hq] at h
        cases hp : mapPut kd k x es with
        | none => simp [hp] at h
        | some r' =>
          simp only [hp, Option.some.injEq] at h
          subst h
          obtain ⟨h1, h2⟩ := mapPut_spec hp
          refine ⟨.inl ⟨rfl, h1⟩, ?_⟩
          have : miss kd k ((k', v) :: es) = (k', v) :: miss kd k es := by simp [miss, hitK, hq]
          rw [this]
          exact (h2.cons _).trans (List.Perm.swap _ _ _)
      · simp only [hq] at h
        split at h
        · rename_i hl
          simp only [Option.some.injEq] at h
          subst h
          refine ⟨.inr ⟨rfl, hl⟩, ?_⟩
          have : miss kd k ((k', v) :: es) = miss kd k es := by simp [miss, hitK, hq]
          rw [this, miss_of_lone (lone_iff.1 hl).2]
        · cases h
theorem mapPut_ex {kd : Kd} {k x : V} : ∀ {es : List (V × V)}, okM kd k es → ∃ es2, mapPut kd k x es = some es2
  | [], h => ⟨_, rfl⟩
  | (k', v) :: es, h => by
    rcases okM_cons.1 h with ⟨hq, h1⟩ | ⟨hq, hl⟩
    · obtain ⟨es2, h2⟩ := mapPut_ex (x := x) h1
      exact ⟨(k', v) :: es2, by simp only at hq; simp only [mapPut, hq, h2]⟩
    · exact ⟨(k, x) :: es, by simp only at hq; simp only [mapPut, hq, hl, if_true]⟩
theorem mapDrop_spec {kd : Kd} {k : V} : ∀ {es es2 : List (V × V)}, mapDrop kd k es = some es2 → okM kd k es ∧ es2 = miss kd k es
  | [], es2, h => by
    simp only [mapDrop, Option.some.injEq] at h
    subst h
    exact ⟨⟨rfl, by simp [hits]⟩, rfl⟩
  | (k', v) :: es, es2, h => by
    rw [okM_cons]
    simp only [mapDrop] at h
    cases hq : eqK kd k k' with
    | none => simp [hq] at h
    | some b =>
      cases b
      · simp only [hq] at h
        cases hp : mapDrop kd k es with
        | none => simp [hp] at h
        | some r' =>
          simp only [hp, Option.some.injEq] at h
          subst h
          obtain ⟨h1, rfl⟩ := mapDrop_spec hp
          exact ⟨.inl ⟨rfl, h1⟩, by simp [miss, hitK, hq]⟩
      · simp only [hq] at h
        split at h
        · rename_i hl
          simp only [Option.some.injEq] at h
          subst h
          refine ⟨.inr ⟨rfl, hl⟩, ?_⟩
          have : miss kd k ((k', v) :: es) = miss kd k es := by simp [miss, hitK, hq]
          rw [this, miss_of_lone (lone_iff.1 hl).2]
        · cases h
theorem mapDrop_ex {kd : Kd} {k : V} : ∀ {es : List (V × V)}, okM kd k es → ∃ es2, mapDrop kd k es = some es2
  | [], h => ⟨_, rfl⟩
  | (k', v) :: es, h => by
    rcases okM_cons.1 h with ⟨hq, h1⟩ | ⟨hq, hl⟩
    · obtain ⟨es2, h2⟩ := mapDrop_ex h1
      exact ⟨(k', v) :: es2, by simp only at hq; simp only [mapDrop, hq, h2]⟩
    · exact ⟨es, by simp only at hq; simp only [mapDrop, hq, hl, if_true]⟩
theorem okM_perm {kd : Kd} {k : V} {es eq : List (V × V)} (hp : eq.Perm es) (h : okM kd k es) : okM kd k eq := by
  obtain ⟨h1, h2⟩ := h
  refine ⟨List.all_eq_true.2 fun x hx => List.all_eq_true.1 h1 x (hp.mem_iff.1 hx), ?_⟩
  have := (hp.filter (hitK kd k)).length_eq
  unfold hits at h2 ⊢
  omega
theorem perm_small {α : Type} {l m : List α} (hp : l.Perm m) (h : m.length ≤ 1) : l = m := by
  match m, h with
  | [], _ => exact hp.eq_nil
  | [a], _ => exact List.perm_singleton.1 hp
  | a :: b :: r, h => simp at h
theorem mapFind_perm {kd : Kd} {k : V} {es eq : List (V × V)} {r : Option V} (hp : eq.Perm es) (h : mapFind kd k es = some r) : mapFind kd k eq = some r := by
  obtain ⟨h1, h2⟩ := mapFind_spec.1 h
  refine mapFind_spec.2 ⟨okM_perm hp h1, ?_⟩
  rw [h2, show hits kd k eq = hits kd k es from perm_small (hp.filter _) h1.2]
theorem mapPut_perm {kd : Kd} {k x : V} {es eq es2 : List (V × V)} (hp : eq.Perm es) (h : mapPut kd k x es = some es2) : ∃ eq2, mapPut kd k x eq = some eq2 ∧ eq2.Perm es2 := by
  obtain ⟨h1, h2⟩ := mapPut_spec h
  obtain ⟨eq2, h3⟩ := mapPut_ex (x := x) (okM_perm hp h1)
  obtain ⟨_, h4⟩ := mapPut_spec h3
  exact ⟨eq2, h3, h4.trans (((hp.filter _).cons _).trans h2.symm)⟩
theorem mapDrop_perm {kd : Kd} {k : V} {es eq es2 : List (V × V)} (hp : eq.Perm es) (h : mapDrop kd k es = some es2) : ∃ eq2, mapDrop kd k eq = some eq2 ∧ eq2.Perm es2 := by
  obtain ⟨h1, rfl⟩ := mapDrop_spec h
  obtain ⟨eq2, h3⟩ := mapDrop_ex (okM_perm hp h1)
  obtain ⟨_, rfl⟩ := mapDrop_spec h3
  exact ⟨_, h3, hp.filter _⟩
theorem sc_perm {es eq : List (V × V)} {m : Nat} (hp : eq.Perm es) (h : ∀ e ∈ es, e.1.sc m ∧ e.2.sc m) : ∀ e ∈ eq, e.1.sc m ∧ e.2.sc m := fun e he => h e (hp.mem_iff.1 he)

theorem findNow_ok {kd : Kd} {dd : TypeDesc} (hd : okKd kd dd = true) {k : V} : ∀ {es : List (V × V)} {ents : List MapEntry} {r : Option Nat} (j : Nat), ents.map (fun e => (e.key, e.val)) = es.map (fun e => (e.1.real ι, e.2.real ι)) → mapIdx kd k es = some r →
    Instr.findNow dd (k.real ι) ents j = some (r.bind fun i => (es[i]?).map fun e => (j + i, e.2.real ι))
  | [], ents, r, j, he, hi => by
    cases ents with
    | nil => simp only [mapIdx, Option.some.injEq] at hi; subst hi; rfl
    | cons e r => simp at he
  | (k', v) :: es, ents, r, j, he, hi => by
    cases ents with
    | nil => simp at he
    | cons e ents =>
      simp only [List.map_cons, List.cons.injEq, Prod.mk.injEq] at he
      obtain ⟨⟨he1, he2⟩, he3⟩ := he
      simp only [mapIdx] at hi
      split at hi
      · rename_i hk
        split at hi
        · simp only [Option.some.injEq] at hi
          subst hi
          simp only [Instr.findNow, he1, sameNow_ok hd hk, he2]
          rfl
        · cases hi
      · rename_i hk
        cases hq : mapIdx kd k es with
        | none => simp [hq] at hi
        | some q =>
          simp only [hq, Option.map_some, Option.some.injEq] at hi
          subst hi
          simp only [Instr.findNow, he1, sameNow_ok hd hk]
          rw [findNow_ok hd (j + 1) he3 hq]
          cases q with
          | none => rfl
          | some i => simp only [Option.map_some, Option.bind_some, List.getElem?_cons_succ]; rw [show j + 1 + i = j + (i + 1) by omega]
      · simp at hi

theorem run_checkKey {kt : Nat} {dd : TypeDesc} {kd : Kd} (hu : P.underlying kt = some dd) (hd : okKd kd dd = true) (b : Bool) (v : V) (m : Nat) : (Instr.checkKey b (m + 1) kt (v.real ι)).run P w = .ok () w := by
  cases kd <;> cases dd <;> simp [okKd] at hd <;> simp [Instr.checkKey, run_underlying hu]

theorem run_findKey {kt : Nat} {dd : TypeDesc} {kd : Kd} (hu : P.underlying kt = some dd) (hd : okKd kd dd = true) {k : V} {es : List (V × V)} {ents : List MapEntry} {r : Option Nat} (he : ents.map (fun e => (e.key, e.val)) = es.map (fun e => (e.1.real ι, e.2.real ι))) (hi : mapIdx kd k es = some r) :
    (Instr.findKey kt (k.real ι) ents).run P w = .ok (r.bind fun i => (es[i]?).map fun e => (i, e.2.real ι)) w := by
  have := findNow_ok hd (ι := ι) 0 he hi
  simp only [Nat.zero_add] at this
  simp only [Instr.findKey, Sem.run_bind, run_underlying hu, Result.andThen_ok, this, Sem.run_pure]

theorem map_obj (hr : HR ι h.o w) {l : Nat} {es : List (V × V)} (hl : h.o[l]? = some (.map es)) : ∃ (ents : Array MapEntry) (clock : Nat) (eq : List (V × V)), w.heap[(ι l).blk]? = some (.map ents clock) ∧ eq.Perm es ∧
    ents.toList.map (fun e => (e.key, e.val)) = eq.map (fun e => (e.1.real ι, e.2.real ι)) ∧ (∀ e ∈ ents.toList, e.born < clock) ∧ (ents.toList.map (·.born)).Nodup := hr.obj l _ hl

theorem run_getMap {b : Nat} {ents : Array MapEntry} {clock : Nat} (hb : w.heap[b]? = some (.map ents clock)) : (getObj b).run P w = .ok (.map ents clock) w := by
  simp [getObj, Sem.run, hb]

theorem run_setMap {b : Nat} {ents : Array MapEntry} {clock : Nat} (hb : w.heap[b]? = some (.map ents clock)) (o : Go.Obj) : (setObj b o).run P w = .ok () { w with heap := w.heap.setIfInBounds b o } := by
  simp [setObj, Sem.run, hb]

/-- A map is another one now. -/
theorem setMap_nx (hr : HR ι h.o w) {l : Nat} {es es' eq : List (V × V)} (hl : h.o[l]? = some (.map es)) {ents : Array MapEntry} {clock : Nat} (hp : eq.Perm es') (he : ents.toList.map (fun e => (e.key, e.val)) = eq.map (fun e => (e.1.real ι, e.2.real ι)))
    (hb : ∀ e ∈ ents.toList, e.born < clock) (hnd : (ents.toList.map (·.born)).Nodup) (hsc : ∀ e ∈ es', e.1.sc h.o.length ∧ e.2.sc h.o.length) (pl : Bool) (hpl : pl = true → ∀ m, (∀ e ∈ es, e.1.sc m ∧ e.2.sc m) → ∀ e ∈ es', e.1.sc m ∧ e.2.sc m) :
    Nx ι h w ι (h.setMap l es' pl) { w with heap := w.heap.setIfInBounds (ι l).blk (.map ents clock) } := by
  obtain ⟨en0, c0, _, hw, _⟩ := map_obj hr hl
  have hlt : (ι l).blk < w.heap.size := (Array.getElem?_eq_some_iff.1 hw).1
  refine Nx.upd hr hl rfl (o' := .map es') rfl _ _ rfl rfl rfl (by simp) (fun b hb => ?_) ⟨ents, clock, eq, ?_, hp, he, hb, hnd⟩ hsc ?_ (Nat.min_le_left _ _) (Nat.min_le_right _ _) ?_
  · show (w.heap.setIfInBounds _ _)[b]? = _
    rw [Array.getElem?_setIfInBounds, if_neg (fun e => hb e.symm)]
  · show (w.heap.setIfInBounds _ _)[_]? = _
    rw [Array.getElem?_setIfInBounds, if_pos rfl, if_pos hlt]
  · split <;> omega
  · cases pl with
    | true => exact .inr fun m hm => hpl rfl m hm
    | false => exact .inl (Nat.min_le_right _ _)

end
end AM

/- AM, part 11: maps' operations; new slices; appends. -/
namespace AM
open Go
set_option linter.unusedVariables false
set_option linter.unusedSimpArgs false
set_option linter.unusedSectionVars false

section
variable {P : Program} {ι : Map} {σ : Type} [Slots σ] {h : Heap} {w : World} {S : σ} {n : Nat} {a : Act}

theorem eraseIdx_map' {α β : Type} (f : α → β) : ∀ (l : List α) (i : Nat), (l.map f).eraseIdx i = (l.eraseIdx i).map f
  | [], _ => rfl
  | _ :: _, 0 => rfl
  | a :: l, i + 1 => by simp [eraseIdx_map' f l i]

theorem good_lookup (hr : HR ι h.o w) (hs : SR ι S n a.tmps h.o.length) {d : Option Nat} {t kt e ty : Nat} {pos : String} {af : Array Edge} {g : Option (Nat × Bool)} {m k : Operand} {m' k' : Opd} {cok : Bool} (hm : trOpd m = some m') (hk : trOpd k = some k')
    (hu : P.underlying t = some (.map kt e)) {z : V} (hz : zeroOf P e = some z) {kd : Kd} (hkd : keyOk P kt = some kd) {r : Option V}
    (hv : (m'.ev S = .nilm ∧ r = none) ∨ ∃ l es, m'.ev S = .map l ∧ h.o[l]? = some (.map es) ∧ mapFind kd (k'.ev S) es = some r) :
    Good P a ⟨d, .lookup t m k cok, ty, pos, af, g⟩ ι h w (if cok = true then .tuple [r.getD z, .bool r.isSome] else r.getD z) none := by
  obtain ⟨dd, hdu, hdd, _, _⟩ := eqK_scal hkd
  obtain ⟨z1, z2⟩ := zero_run (ι := ι) hz w
  have ck := fun b => run_checkKey (ι := ι) (w := w) hdu hdd b (k'.ev S) 9999
  rcases hv with ⟨he, rfl⟩ | ⟨l, es, he, hl, hf⟩
  · have hzs := V.sc_of_plain h.o.length z z2
    refine Good.same hr ?_ ?_
    · split
      · exact ⟨hzs, trivial, trivial⟩
      · exact hzs
    · have hfk := run_findKey (ι := ι) (w := w) hdu hdd (k := k'.ev S) (es := []) (ents := []) rfl rfl
      simp only [execOp, Instr.lookup, Sem.run_bind, run_underlying hu, Result.andThen_ok, ev_ok hs hm, he, V.real, Sem.run_pure, ev_ok hs hk, ck, hfk, z1, Option.bind_none]
      cases cok <;> simp [V.real, V.reals]
  · obtain ⟨ents, clock, eq, h1, hpm, h2, h3, h4⟩ := map_obj hr hl
    replace hf := mapFind_perm hpm hf
    have hsc := sc_perm hpm (hr.sc l _ hl)
    rw [mapFind_idx] at hf
    cases hi : mapIdx kd (k'.ev S) eq with
    | none => simp [hi] at hf
    | some q =>
      have hfk := run_findKey (ι := ι) (w := w) hdu hdd h2 hi
      simp only [hi, Option.map_some, Option.some.injEq] at hf
      cases q with
      | none =>
        simp only [Option.bind_none] at hf
        subst hf
        have hzs := V.sc_of_plain h.o.length z z2
        refine Good.same hr ?_ ?_
        · split
          · exact ⟨hzs, trivial, trivial⟩
          · exact hzs
        · simp only [execOp, Instr.lookup, Sem.run_bind, run_underlying hu, Result.andThen_ok, ev_ok hs hm, he, V.real, run_getMap h1, Sem.run_pure, ev_ok hs hk, ck, hfk, z1, Option.bind_none]
          cases cok <;> simp [V.real, V.reals]
      | some i =>
        obtain ⟨hlt, e0, he0, _⟩ := mapIdx_lt hi
        simp only [Option.bind_some, he0, Option.map_some] at hf
        subst hf
        have hes := (hsc e0 (List.mem_of_getElem? he0)).2
        refine Good.same hr ?_ ?_
        · split
          · exact ⟨hes, trivial, trivial⟩
          · exact hes
        · simp only [execOp, Instr.lookup, Sem.run_bind, run_underlying hu, Result.andThen_ok, ev_ok hs hm, he, V.real, run_getMap h1, Sem.run_pure, ev_ok hs hk, ck, hfk, Option.bind_some, he0, Option.map_some]
          cases cok <;> simp [V.real, V.reals]

theorem sameBits_eq {kd : Kd} {x y : V} (hx : x.key kd = true) (hk : eqK kd x y = some true) : Instr.sameBits 10000 (y.real ι) (x.real ι) = true := by
  cases kd <;> simp only [eqK] at hk <;> split at hk <;> simp [V.key] at hx <;> first
    | (simp at hk; done)
    | (simp only [Option.some.injEq, beq_iff_eq] at hk; subst hk; simp [V.real, Instr.sameBits]; done)
    | (split at hk
       · rename_i hkk
         simp only [Option.some.injEq, beq_iff_eq] at hk; subst hk; subst hkk; simp [V.real, Instr.sameBits]
       · simp at hk)
    | (simp only [Option.some.injEq, beq_iff_eq] at hk; subst hk; simp only [V.real, Instr.sameBits]; rw [beq_toListBytes]; simp)

theorem good_mapSet (hr : HR ι h.o w) (hs : SR ι S n a.tmps h.o.length) {d : Option Nat} {t kt e ty : Nat} {pos : String} {af : Array Edge} {g : Option (Nat × Bool)} {m k x : Operand} {m' k' x' : Opd} (hm : trOpd m = some m') (hk : trOpd k = some k') (hx : trOpd x = some x')
    (hu : P.underlying t = some (.map kt e)) {kd : Kd} (hkd : keyOk P kt = some kd) (hkey : (k'.ev S).key kd = true) {l : Nat} {es es' : List (V × V)} (he : m'.ev S = .map l) (hl : h.o[l]? = some (.map es)) (hp : mapPut kd (k'.ev S) (x'.ev S) es = some es') :
    Good P a ⟨d, .mapUpdate t m k x, ty, pos, af, g⟩ ι h w undefV (some (h.setMap l es' (x'.ev S).plain)) := by
  obtain ⟨dd, hdu, hdd, _, _⟩ := eqK_scal hkd
  have ck := fun b => run_checkKey (ι := ι) (w := w) hdu hdd b (k'.ev S) 9999
  obtain ⟨ents, clock, eq, h1, hpm, h2, h3, h4⟩ := map_obj hr hl
  have hsc := hr.sc l _ hl
  obtain ⟨eq2, hp, hp2⟩ := mapPut_perm hpm hp
  have ksc := ev_sc hs hk
  have xsc := ev_sc hs hx
  have kpl : (k'.ev S).plain = true := by cases hq : k'.ev S <;> simp_all [V.key, V.plain]
  rw [mapPut_idx] at hp
  cases hi : mapIdx kd (k'.ev S) eq with
  | none => simp [hi] at hp
  | some q =>
    have hfk := run_findKey (ι := ι) (w := w) hdu hdd h2 hi
    simp only [hi, Option.map_some, Option.some.injEq] at hp
    have hlen : ents.size = eq.length := by have := congrArg List.length h2; simpa using this
    cases q with
    | none =>
      simp only at hp
      subst hp
      have hnx := setMap_nx hr hl (ents := ents.push { key := (k'.ev S).real ι, val := (x'.ev S).real ι, born := clock }) (clock := clock + 1) (es' := es') (eq := eq ++ [(k'.ev S, x'.ev S)]) hp2
        (by simp [h2]) (by intro e0 he0; simp at he0; rcases he0 with he0 | rfl; exact Nat.lt_succ_of_lt (h3 e0 (by simpa using he0)); simp)
        (by
          simp only [Array.toList_push, List.map_append, List.map_cons, List.map_nil]
          rw [List.nodup_append]
          refine ⟨h4, by simp, ?_⟩
          intro x hx y hy
          simp only [List.mem_map] at hx
          obtain ⟨e0, he0, rfl⟩ := hx
          simp only [List.mem_singleton] at hy
          subst hy
          have := h3 e0 he0
          omega)
        (sc_perm hp2.symm (by intro e0 he0; simp at he0; rcases he0 with he0 | rfl; exact sc_perm hpm hsc e0 he0; exact ⟨ksc, xsc⟩)) (x'.ev S).plain
        (fun hpl m hm' => sc_perm hp2.symm (by intro e0 he0; simp at he0; rcases he0 with he0 | rfl; exact sc_perm hpm hm' e0 he0; exact ⟨V.sc_of_plain _ _ kpl, V.sc_of_plain _ _ hpl⟩))
      refine ⟨ι, _, .skip, ?_, .inr ⟨rfl, rfl⟩, hnx, trivial, fun h => by simp at h⟩
      simp only [execOp, Instr.mapUpdate, Sem.run_bind, run_underlying hu, Result.andThen_ok, ev_ok hs hm, he, V.real, run_getMap h1, ev_ok hs hk, ck, hfk, Option.bind_none, ev_ok hs hx, run_setMap h1, Sem.run_pure]
    | some i =>
      simp only at hp
      subst hp
      obtain ⟨hlt, e0, he0, heq⟩ := mapIdx_lt hi
      have hki : ents[i]? = some ents[i] := by rw [Array.getElem?_eq_getElem (by omega)]
      have hkv : ents[i].key = e0.1.real ι := by
        have := congrArg (fun l => l[i]?) h2
        simp only [List.getElem?_map, he0, Option.map_some] at this
        rw [List.getElem?_eq_getElem (by simpa using (by omega : i < ents.size))] at this
        simp at this
        exact this.1
      have hst : (Instr.keyThatStays ((ents[i]?.map (·.key)).getD ((k'.ev S).real ι)) ((k'.ev S).real ι)).run P w = .ok ((k'.ev S).real ι) w := by
        simp only [hki, Option.map_some, Option.getD_some, hkv, Instr.keyThatStays, sameBits_eq hkey heq, if_true, Sem.run_pure]
      have hmod : ∀ (f : MapEntry → MapEntry), (ents.modify i f).toList = ents.toList.set i (f ents[i]) := by
        intro f
        apply List.ext_getElem?
        intro j
        rw [Array.getElem?_toList, Array.getElem?_modify, List.getElem?_set]
        by_cases hij : i = j
        · subst hij; simp [(by omega : i < ents.size)]
        · simp [hij]
      have hnx := setMap_nx hr hl (ents := ents.modify i fun e => { e with key := (k'.ev S).real ι, val := (x'.ev S).real ι }) (clock := clock) (es' := es') (eq := eq.set i (k'.ev S, x'.ev S)) hp2
        (by rw [hmod, List.map_set, List.map_set, h2])
        (by intro y hy; rw [hmod] at hy; rcases List.mem_or_eq_of_mem_set hy with hy | rfl; exact h3 y hy; exact h3 ents[i] (by simp))
        (by
          rw [hmod, List.map_set]
          have : (ents.toList.map (·.born)).set i ents[i].born = ents.toList.map (·.born) := by
            apply List.ext_getElem?
            intro j
            rw [List.getElem?_set]
            by_cases hij : i = j
            · subst hij; simp [(by omega : i < ents.size)]
            · simp [hij]
          rw [this]
          exact h4)
        (sc_perm hp2.symm (by intro y hy; rcases List.mem_or_eq_of_mem_set hy with hy | rfl; exact sc_perm hpm hsc y hy; exact ⟨ksc, xsc⟩)) (x'.ev S).plain
        (fun hpl m hm' => sc_perm hp2.symm (by intro y hy; rcases List.mem_or_eq_of_mem_set hy with hy | rfl; exact sc_perm hpm hm' y hy; exact ⟨V.sc_of_plain _ _ kpl, V.sc_of_plain _ _ hpl⟩))
      refine ⟨ι, _, .skip, ?_, .inr ⟨rfl, rfl⟩, hnx, trivial, fun h => by simp at h⟩
      simp only [execOp, Instr.mapUpdate, Sem.run_bind, run_underlying hu, Result.andThen_ok, ev_ok hs hm, he, V.real, run_getMap h1, ev_ok hs hk, ck, hfk, Option.bind_some, he0, Option.map_some, ev_ok hs hx, hst, run_setMap h1, Sem.run_pure]

theorem run_mapDel (hr : HR ι h.o w) {ats : Array Nat} {t kt e ty : Nat} (ha : ats[0]? = some t) (hu : P.underlying t = some (.map kt e)) {kd : Kd} (hkd : keyOk P kt = some kd) {args : Array Value} {k : V} {l : Nat} {es es' : List (V × V)}
    (h0 : args[0]? = some ((V.map l).real ι)) (h1' : args[1]? = some (k.real ι)) (hl : h.o[l]? = some (.map es)) (hp : mapDrop kd k es = some es') (bs : Array Bool) :
    ∃ w', (builtin .delete ats ty bs args).run P w = .ok (.value (undefV.real ι)) w' ∧ Nx ι h w ι (h.setMap l es' true) w' := by
  obtain ⟨dd, hdu, hdd, _, _⟩ := eqK_scal hkd
  have ck := fun b => run_checkKey (ι := ι) (w := w) hdu hdd b k 9999
  obtain ⟨ents, clock, eq, h1, hpm, h2, h3, h4⟩ := map_obj hr hl
  have hsc := hr.sc l _ hl
  obtain ⟨eq2, hp, hp2⟩ := mapDrop_perm hpm hp
  rw [mapDrop_idx] at hp
  cases hi : mapIdx kd k eq with
  | none => simp [hi] at hp
  | some q =>
    have hfk := run_findKey (ι := ι) (w := w) hdu hdd h2 hi
    simp only [hi, Option.map_some, Option.some.injEq] at hp
    have hlen : ents.size = eq.length := by have := congrArg List.length h2; simpa using this
    cases q with
    | none =>
      simp only at hp
      subst hp
      have hnx := setMap_nx hr hl (ents := ents) (clock := clock) (es' := es') hp2 h2 h3 h4 (sc_perm hp2.symm (sc_perm hpm hsc)) true (fun _ m h => sc_perm hp2.symm (sc_perm hpm h))
      refine ⟨_, ?_, hnx⟩
      simp only [builtin, Builtin.delete_, ha, h0, h1', Sem.run_bind, run_underlying hu, Result.andThen_ok, V.real, run_getMap h1, ck, hfk, Option.bind_none, run_setMap h1, Sem.run_pure]
      rfl
    | some i =>
      simp only at hp
      subst hp
      obtain ⟨hlt, e0, he0, heq⟩ := mapIdx_lt hi
      have her : (ents.eraseIdxIfInBounds i).toList = ents.toList.eraseIdx i := by
        simp [Array.eraseIdxIfInBounds, (by omega : i < ents.size)]
      have hnx := setMap_nx hr hl (ents := ents.eraseIdxIfInBounds i) (clock := clock) (es' := es') (eq := eq.eraseIdx i) hp2
        (by rw [her]; rw [← eraseIdx_map', ← eraseIdx_map', h2])
        (by intro y hy; rw [her] at hy; exact h3 y (List.mem_of_mem_eraseIdx hy))
        (by rw [her, ← eraseIdx_map']; exact h4.sublist (List.eraseIdx_sublist _ _))
        (sc_perm hp2.symm (by intro y hy; exact sc_perm hpm hsc y (List.mem_of_mem_eraseIdx hy))) true (fun _ m hm' => sc_perm hp2.symm (by intro y hy; exact sc_perm hpm hm' y (List.mem_of_mem_eraseIdx hy)))
      refine ⟨_, ?_, hnx⟩
      simp only [builtin, Builtin.delete_, ha, h0, h1', Sem.run_bind, run_underlying hu, Result.andThen_ok, V.real, run_getMap h1, ck, hfk, Option.bind_some, he0, Option.map_some, run_setMap h1, Sem.run_pure]
      rfl

theorem run_mapDelNil {ats : Array Nat} {t kt e ty : Nat} (ha : ats[0]? = some t) (hu : P.underlying t = some (.map kt e)) {kd : Kd} (hkd : keyOk P kt = some kd) {args : Array Value} {k : V}
    (h0 : args[0]? = some (V.nilm.real ι)) (h1' : args[1]? = some (k.real ι)) (bs : Array Bool) :
    (builtin .delete ats ty bs args).run P w = .ok (.value (undefV.real ι)) w := by
  obtain ⟨dd, hdu, hdd, _, _⟩ := eqK_scal hkd
  have ck := fun b => run_checkKey (ι := ι) (w := w) hdu hdd b k 9999
  simp only [builtin, Builtin.delete_, ha, h0, h1', Sem.run_bind, run_underlying hu, Result.andThen_ok, V.real, ck, Sem.run_pure]
  rfl

theorem run_lenM (hr : HR ι h.o w) {ats : Array Nat} {t kt e ty : Nat} (ha : ats[0]? = some t) (hu : P.underlying t = some (.map kt e)) {args : Array Value} {x : V} {r : Nat} (h0 : args[0]? = some (x.real ι))
    (hx : (x = .nilm ∧ r = 0) ∨ ∃ l es, x = .map l ∧ h.o[l]? = some (.map es) ∧ r = es.length) (bs : Array Bool) :
    (builtin .len ats ty bs args).run P w = .ok (.value ((V.int .i64 (r : Int)).real ι)) w := by
  rcases hx with ⟨rfl, rfl⟩ | ⟨l, es, rfl, hl, rfl⟩
  · simp only [builtin, Builtin.len_, ha, h0, Sem.run_bind, run_underlying hu, Result.andThen_ok, V.real, Sem.run_pure]
    rfl
  · obtain ⟨ents, clock, eq, h1, hpm, h2, h3, h4⟩ := map_obj hr hl
    have hlen : ents.size = es.length := by have := congrArg List.length h2; rw [← hpm.length_eq]; simpa using this
    simp only [builtin, Builtin.len_, ha, h0, Sem.run_bind, run_underlying hu, Result.andThen_ok, V.real, run_getMap h1, Sem.run_pure, hlen]
    rfl

theorem run_clearM (hr : HR ι h.o w) {ats : Array Nat} {t kt e ty : Nat} (ha : ats[0]? = some t) (hu : P.underlying t = some (.map kt e)) {args : Array Value} {l : Nat} {es : List (V × V)} (h0 : args[0]? = some ((V.map l).real ι)) (hl : h.o[l]? = some (.map es)) (bs : Array Bool) :
    ∃ w', (builtin .clear ats ty bs args).run P w = .ok (.value (undefV.real ι)) w' ∧ Nx ι h w ι (h.setMap l [] true) w' := by
  obtain ⟨ents, clock, eq, h1, hpm, h2, h3, h4⟩ := map_obj hr hl
  have hnx := setMap_nx hr hl (ents := #[]) (clock := clock) (es' := []) (eq := []) (List.Perm.refl _) rfl (by simp) (by simp) (by simp) true (by simp)
  refine ⟨_, ?_, hnx⟩
  simp only [builtin, Builtin.clear_, ha, h0, Sem.run_bind, run_underlying hu, Result.andThen_ok, V.real, run_getMap h1, run_setMap h1, Sem.run_pure]
  rfl

theorem run_clearMNil {ats : Array Nat} {t kt e ty : Nat} (ha : ats[0]? = some t) (hu : P.underlying t = some (.map kt e)) {args : Array Value} (h0 : args[0]? = some (V.nilm.real ι)) (bs : Array Bool) :
    (builtin .clear ats ty bs args).run P w = .ok (.value (undefV.real ι)) w := by
  simp only [builtin, Builtin.clear_, ha, h0, Sem.run_bind, run_underlying hu, Result.andThen_ok, V.real, Sem.run_pure]
  rfl

theorem good_mkMap (hr : HR ι h.o w) {d : Option Nat} {t ty : Nat} {pos : String} {af : Array Edge} {g : Option (Nat × Bool)} :
    Good P a ⟨d, .makeMap t none, ty, pos, af, g⟩ ι h w (.map h.o.length) (some (h.new (.map []))) := by
  have hn := Nx.new hr (.map #[] 0) (.map []) ⟨w.heap.size, 0, 0⟩ rfl ⟨#[], 0, [], by show (w.heap.push _)[w.heap.size]? = _; simp, List.Perm.refl _, by simp, by simp, by simp⟩ (by intro e he; simp at he) rfl
  refine ⟨_, _, _, ?_, .inl rfl, hn, by simp [Heap.new, V.sc], fun h => by simp at h⟩
  simp only [execOp, Instr.makeMap, Option.map_none, Sem.run_bind, Sem.run_pure, Result.andThen_ok, run_newObj, V.real, Map.upd_same]
  rfl

end
end AM

/- AM, part 12: new slices; appends. -/
namespace AM
open Go
set_option linter.unusedVariables false
set_option linter.unusedSimpArgs false
set_option linter.unusedSectionVars false

section
variable {P : Program} {ι : Map} {σ : Type} [Slots σ] {h : Heap} {w : World} {S : σ} {n : Nat} {a : Act}

theorem info_bytes {e b : Nat} (hb : bytesOf P e = some b) : ∃ i, P.info? e = some i ∧ i.bytes = b := by
  unfold bytesOf at hb
  cases hi : P.info? e with
  | none => simp [hi] at hb
  | some i => simp only [hi, Option.map_some, Option.some.injEq] at hb; exact ⟨i, rfl, hb⟩

theorem wrap_i64_in {x : Int} (h0 : 0 ≤ x) (h1 : x ≤ (ok1 : Int)) : IntKind.i64.wrap x = x := by
  rw [IntKind.wrap_i64]
  have : (ok1 : Int) = 281474976710656 := rfl
  omega

theorem good_mkSlice (hr : HR ι h.o w) (hs : SR ι S n a.tmps h.o.length) {d : Option Nat} {t e s b ty : Nat} {pos : String} {af : Array Edge} {g : Option (Nat × Bool)} {x y : Operand} {x' y' : Opd} (hx : trOpd x = some x') (hy : trOpd y = some y')
    (hu : P.underlying t = some (.slice e)) (hsz : szOf P e = some s) (hb : bytesOf P e = some b) {z : V} (hz : zeroOf P e = some z) (h0 : 0 < s) (hzl : z.cells.length = s)
    {k1 k2 : IntKind} {ln cp : Int} (hl : x'.ev S = .int k1 ln) (hc : y'.ev S = .int k2 cp) (c1 : 0 ≤ ln) (c2 : ln ≤ cp) (c3 : cp * b ≤ ok1) (c4 : cp ≤ ok1) :
    Good P a ⟨d, .makeSlice t x y, ty, pos, af, g⟩ ι h w (.slice h.o.length 0 ln.toNat s) (some (h.new (.cells .ex e 0 (reps z.cells cp.toNat)))) := by
  obtain ⟨z1, z2⟩ := zero_run (ι := ι) hz w
  obtain ⟨i, hi, rfl⟩ := info_bytes hb
  obtain ⟨m, rfl⟩ := Int.eq_ofNat_of_zero_le (show 0 ≤ cp by omega)
  obtain ⟨q, rfl⟩ := Int.eq_ofNat_of_zero_le c1
  have e1 : IntKind.i64.wrap (Int.ofNat m) = Int.ofNat m := wrap_i64_in (by simp) c4
  simp only [Int.ofNat_eq_natCast] at e1 c3 c4 c2 hl hc
  have e2 : IntKind.i64.wrap (q : Int) = (q : Int) := wrap_i64_in (by simp) (by omega)
  have hpz := reps_plains z.cells (V.cells_plains _ z2) m
  obtain ⟨κ, w', k1, k2, k3⟩ := newRow_ok (P := P) hr e (reps z.cells m) (V.scs_of_plains _ _ hpz)
  simp only [Int.toNat_natCast]
  have hbig : ¬ (((m : Int) < 0 || decide ((i.bytes : Int) * m > 2 ^ 48)) || decide ((q : Int) < 0) || decide ((q : Int) > m)) = true := by
    have : (i.bytes : Int) * m = m * i.bytes := Int.mul_comm _ _
    have h48 : (ok1 : Int) = 2 ^ 48 := rfl
    simp
    omega
  refine ⟨κ, w', _, ?_, .inl rfl, k2, by simp [Heap.new, V.sc], fun h => by simp at h⟩
  have hti : (typeInfo e).run P w = .ok i w := by simp [typeInfo, hi]
  have hval : (V.slice h.o.length 0 q s).real κ = .slice (some ⟨(κ h.o.length).blk, (κ h.o.length).base, none⟩) q m := by
    simp only [V.real, Nat.add_zero, Nat.sub_zero, k3, reps_length, hzl, Nat.mul_div_cancel _ h0]
  rw [hval]
  by_cases hm0 : m * s = 0
  · have hm : m = 0 := by rcases Nat.mul_eq_zero.1 hm0 with h | h <;> omega
    subst hm
    have hz2 : (Array.map (fun x => (#[] : Array Value)[x % (#[] : Array Value).size]!) (Array.range (0 * s))) = (V.reals ι (reps z.cells 0)).toArray := by simp [reps, V.reals]
    simp only [execOp, Instr.makeSlice, Sem.run_bind, run_underlying hu, Result.andThen_ok, ev_ok hs hx, ev_ok hs hy, hl, hc, V.real, asInt, asIntOf, Sem.run_pure, hti, e1, e2, if_neg hbig, run_askRoom, sizeOf_run hsz, Int.toNat_natCast, if_pos hm0, hz2, k1]
  · have hz2 := zeros_eq (ι := ι) z.cells m (by omega)
    rw [hzl] at hz2
    simp only [execOp, Instr.makeSlice, Sem.run_bind, run_underlying hu, Result.andThen_ok, ev_ok hs hx, ev_ok hs hy, hl, hc, V.real, asInt, asIntOf, Sem.run_pure, hti, e1, e2, if_neg hbig, run_askRoom, sizeOf_run hsz, Int.toNat_natCast, if_neg hm0, z1, V.cells_real, hz2, k1]

theorem growBy_le (m : Nat) : ∀ (r c : Nat), c ≤ 2 * m + 1024 → Builtin.growBy m r c ≤ 2 * m + 1024
  | 0, c, h => h
  | r + 1, c, h => by
    unfold Builtin.growBy
    split
    · exact h
    · exact growBy_le m r _ (by omega)

theorem nextcap_le (m c : Nat) (h : c < m) : Builtin.nextslicecap m c ≤ 2 * m + 1024 := by
  unfold Builtin.nextslicecap
  split
  · omega
  · split
    · omega
    · exact growBy_le m 4 c (by omega)

/-- The growing road of append, as it runs. -/
theorem run_append_grow {e s b ty : Nat} {t u : Nat} {ats : Array Nat} (ha : ats[0]? = some t) (hu : P.underlying t = some (.slice e)) (hsz : szOf P e = some s) (hb : bytesOf P e = some b) {z : V} (hz : zeroOf P e = some z)
    (ha1 : ats[1]? = some u) (hnz : P.underlying u = some .string ∨ ∃ e', P.underlying u = some (.slice e')) {args : Array Value} {base : Option Addr} {sl sc k : Nat} {y : Value} (h0 : args[0]? = some (.slice base sl sc)) (h1 : args[1]? = some y)
    (hlen : ∀ w, (Builtin.lenOf y).run P w = .ok k w) {old new : List V} (hold : ∀ w', w'.heap = w.heap → (Builtin.firstCells s sl (.slice base sl sc)).run P w' = .ok (V.reals ι old).toArray w') (hnew : ∀ w', w'.heap = w.heap → (Builtin.firstCells s k y).run P w' = .ok (V.reals ι new).toArray w')
    (hcap : sc < sl + k) (hroom : roomOk (sl + k) b = true) (hol : old.length = sl * s) (hnl : new.length = k * s) (hr : HR ι h.o w) (hos : V.scs h.o.length old) (hns : V.scs h.o.length new) (bs : Array Bool) :
    ∃ κ w' c, (builtin .append ats ty bs args).run P w = .ok (.value (.slice (some ⟨(κ h.o.length).blk, 0, none⟩) (sl + k) c)) w' ∧ Nx ι h w κ (h.new (.cells .gr e 0 (old ++ new))) w' ∧ (κ h.o.length).base = 0 ∧
      (κ h.o.length).size = (old ++ new).length + (c - (sl + k)) * z.cells.length ∧ sl + k ≤ c ∧ (κ h.o.length).blk = w.heap.size := by
  obtain ⟨i, hi, rfl⟩ := info_bytes hb
  have hti : ∀ w, (typeInfo e).run P w = .ok i w := fun w => by simp [typeInfo, hi]
  let q := Question.appendCap (sl + k) sc e
  let c := q.cut (w.tape w.drawn q)
  let w1 : World := { w with drawn := w.drawn + 1 }
  have hc : sl + k ≤ c := by show sl + k ≤ sl + k + _; omega
  have hn1 : Nx ι h w ι h w1 := Nx.drew hr rfl rfl rfl rfl
  obtain ⟨z1, z2⟩ := zero_run (ι := ι) hz w1
  let rest : List Value := V.reals ι (reps z.cells (c - (sl + k)))
  have hsc2 : V.scs (h.o.length + 1) (old ++ new) := V.scs_mono (Nat.le_succ _) _ (scs_append.2 ⟨hos, hns⟩)
  have hn2 := newCells_sound hn1.hr .gr (by simp) e (old ++ new) rest hsc2 (0, 0) (by simp) (by simp)
  simp only at hn2
  rw [V.reals_agree (Map.agree_upd ι h.o.length _) (old ++ new) (scs_append.2 ⟨hos, hns⟩)] at hn2
  have hbound : ¬ (Builtin.nextslicecap (sl + k) sc * i.bytes > 2 ^ 48) := by
    have h1 := nextcap_le (sl + k) sc hcap
    have h2 : (2 * (sl + k) + 1024) * i.bytes ≤ ok1 := (of_decide_eq_true hroom).1
    have h3 := Nat.mul_le_mul_right i.bytes h1
    have : ok1 = 2 ^ 48 := rfl
    omega
  refine ⟨_, _, c, ?_, hn1.trans hn2, by rw [Map.upd_same], ?_, hc, by rw [Map.upd_same]⟩
  · have hnb : ¬ (sl + k ≤ sc) := by omega
    have hi64 : ¬ (((sl + k : Nat) : Int) > IntKind.i64.max) := by
      have h2 : sl + k ≤ ok1 := (of_decide_eq_true hroom).2
      have h3 : IntKind.i64.max = 9223372036854775807 := by decide
      have h4 : ok1 = 281474976710656 := rfl
      omega
    have hz3 : Builtin.zeroCells (V.reals ι z.cells).toArray (c - (sl + k)) = rest.toArray := by
      by_cases hzl : 0 < z.cells.length
      · exact zeroCells_eq z.cells _ hzl
      · have hz0 : z.cells = [] := List.eq_nil_of_length_eq_zero (by omega)
        have : ∀ k, reps ([] : List V) k = [] := by intro k; induction k with | zero => rfl | succ k ih => simp [reps, ih]
        simp only [rest, hz0, this, V.reals, Builtin.zeroCells]
        simp
    have hsum : ¬ (((sl + k : Nat) : Int) > IntKind.i64.max ∧ (False ∨ i.bytes = 0)) := fun hx => hi64 hx.1
    have hw1 : w1.heap = w.heap := rfl
    have hfin : (V.reals ι old).toArray ++ (V.reals ι new).toArray ++ rest.toArray = (V.reals ι (old ++ new) ++ rest).toArray := by
      simp only [V.reals_eq, List.map_append]
      apply Array.ext'
      simp
    rcases hnz with hd | ⟨e', hd⟩ <;>
    · simp only [builtin, Builtin.append_, ha, h0, h1, ha1, Sem.run_bind, run_underlying hu, run_underlying hd, Result.andThen_ok, sizeOf_run hsz, Sem.run_pure, Bool.false_eq_true, if_false, hlen, if_neg hnb, hti, if_neg hsum, if_neg hbound, run_choose]
      rw [if_neg (by simp [Question.forced])]
      simp only [Result.andThen_ok, run_askRoom, Bool.not_false, if_true]
      rw [hold w1 hw1]
      simp only [Result.andThen_ok]
      rw [hnew w1 hw1]
      simp only [Result.andThen_ok]
      rw [z1]
      simp only [Result.andThen_ok, V.cells_real, newRow, Sem.run_bind, run_newObj, Sem.run_pure]
      rw [hz3, hfin, Map.upd_same]
      rfl
  · rw [Map.upd_same]
    simp only [rest, V.reals_eq, List.length_map, reps_length]

end
end AM

