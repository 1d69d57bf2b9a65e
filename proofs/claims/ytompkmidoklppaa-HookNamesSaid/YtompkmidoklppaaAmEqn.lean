/- AM, part 20: code as equations. -/
import Derived.Test.YtompkmidoklppaaAmRow
namespace AM
open Go
set_option linter.unusedVariables false
set_option linter.unusedSimpArgs false
set_option linter.unusedSectionVars false

section
variable {F : Nat → Option AF} {ext : ExtF}

theorem ext_eq {α : Type} {o o' : Option α} (h1 : ∀ r, o = some r → o' = some r) (h2 : ∀ r, o' = some r → o = some r) : o = o' := by
  cases o with
  | some r => exact (h1 r rfl).symm
  | none => cases o' with
    | none => rfl
    | some r => exact h2 r rfl

variable (hx : ExtMono ext) (S : Nat → V) (h : Heap)
include hx

theorem eq_skip : Run F ext .skip S h = some (.norm, S, h) := Run_skip hx S h
theorem eq_label (l : Nat) : Run F ext (.label l) S h = some (.norm, S, h) := Run_label hx S h l
theorem eq_ret : Run F ext .ret S h = some (.ret, S, h) := Run_ret hx S h
theorem eq_exit (id : Nat) : Run F ext (.exit id) S h = some (.exit id, S, h) := Run_exit hx S h id

theorem eq_region (ops : List AO) : Run F ext (.region ops false) S h = execOps (Den F ext) ops S h := by
  refine ext_eq (fun r hr => ?_) (fun r hr => Run_region hx S h ops hr)
  obtain ⟨k, e⟩ := of_Run hr
  cases k with
  | zero => simp [exec] at e
  | succ k => simp only [exec, Bool.false_eq_true, if_false] at e; exact execOps_mono (le_Den hx _) e

theorem eq_regionQ (ops : List AO) : Run F ext (.region ops true) S h = execQ (Den F ext) ops S h := by
  refine ext_eq (fun r hr => ?_) (fun r hr => Run_regionQ hx S h ops hr)
  obtain ⟨k, e⟩ := of_Run hr
  cases k with
  | zero => simp [exec] at e
  | succ k => simp only [exec, if_true] at e; exact execQ_mono (le_Den hx _) e

theorem eq_seq (a b : AC) : Run F ext (.seq a b) S h = match Run F ext a S h with
    | some (.norm, S', h') => Run F ext b S' h'
    | r => r := by
  refine ext_eq (fun r hr => ?_) (fun r hr => ?_)
  · obtain ⟨k, e⟩ := of_Run hr
    cases k with
    | zero => simp [exec] at e
    | succ k =>
      simp only [exec] at e
      cases ha : exec (callN F ext (k + 1)) k a S h with
      | none => rw [ha] at e; simp at e
      | some q =>
        have ha' := Run_of hx (exec_mono (Le.refl _) (Nat.le_succ k) ha)
        rw [ha] at e
        rw [ha']
        obtain ⟨x, S', h'⟩ := q
        cases x with
        | norm => exact Run_of hx (exec_mono (Le.refl _) (Nat.le_succ k) e)
        | _ => exact e
  · cases ha : Run F ext a S h with
    | none => rw [ha] at hr; simp at hr
    | some q =>
      obtain ⟨x, S', h'⟩ := q
      rw [ha] at hr
      cases x with
      | norm => exact Run_seq hx S h a b ha hr
      | _ => simp only [Option.some.injEq] at hr; subst hr; exact Run_seq_out hx S h a b (by simp) ha

theorem eq_cond (o : Opd) (a b : AC) : Run F ext (.cond o a b) S h = match o.ev S with
    | .bool true => Run F ext a S h
    | .bool false => Run F ext b S h
    | _ => none := by
  split
  · rename_i ho; rw [Run_cond hx S h o a b ho]; rfl
  · rename_i ho; rw [Run_cond hx S h o a b ho]; rfl
  · rename_i h1 h2
    cases hr : Run F ext (.cond o a b) S h with
    | none => rfl
    | some r =>
      obtain ⟨k, e⟩ := of_Run hr
      cases k with
      | zero => simp [exec] at e
      | succ k =>
        simp only [exec] at e
        simp at e

theorem eq_block (id : Nat) (c : AC) : Run F ext (.block id c) S h = match Run F ext c S h with
    | some (.exit i, S', h') => if i = id then some (.norm, S', h') else some (.exit i, S', h')
    | r => r := by
  refine ext_eq (fun r hr => ?_) (fun r hr => ?_)
  · obtain ⟨k, e⟩ := of_Run hr
    cases k with
    | zero => simp [exec] at e
    | succ k =>
      simp only [exec] at e
      cases ha : exec (callN F ext (k + 1)) k c S h with
      | none => rw [ha] at e; simp at e
      | some q =>
        have ha' := Run_of hx (exec_mono (Le.refl _) (Nat.le_succ k) ha)
        rw [ha] at e
        rw [ha']
        obtain ⟨x, S', h'⟩ := q
        cases x <;> exact e
  · cases ha : Run F ext c S h with
    | none => rw [ha] at hr; simp at hr
    | some q =>
      obtain ⟨x, S', h'⟩ := q
      rw [ha] at hr
      rw [Run_block hx S h id c ha]
      rw [← hr]
      cases x with
      | exit i => by_cases hi : i = id <;> simp [hi]
      | _ => rfl

theorem eq_scope (c : AC) : Run F ext (.scope c) S h = Run F ext c S h := by
  refine ext_eq (fun r hr => ?_) (fun r hr => Run_scope hx S h c hr)
  obtain ⟨k, e⟩ := of_Run hr
  cases k with
  | zero => simp [exec] at e
  | succ k => simp only [exec] at e; exact Run_of hx (exec_mono (Le.refl _) (Nat.le_succ k) e)

theorem eq_loop (c : AC) : Run F ext (.loop c) S h = match Run F ext c S h with
    | some (.norm, S', h') => Run F ext (.loop c) S' h'
    | r => r := by
  refine ext_eq (fun r hr => ?_) (fun r hr => ?_)
  · obtain ⟨k, e⟩ := of_Run hr
    cases k with
    | zero => simp [exec] at e
    | succ k =>
      simp only [exec] at e
      cases ha : exec (callN F ext (k + 1)) k c S h with
      | none => rw [ha] at e; simp at e
      | some q =>
        have ha' := Run_of hx (exec_mono (Le.refl _) (Nat.le_succ k) ha)
        rw [ha] at e
        rw [ha']
        obtain ⟨x, S', h'⟩ := q
        cases x with
        | norm => exact Run_of hx (exec_mono (Le.refl _) (Nat.le_succ k) e)
        | _ => exact e
  · cases ha : Run F ext c S h with
    | none => rw [ha] at hr; simp at hr
    | some q =>
      obtain ⟨x, S', h'⟩ := q
      rw [ha] at hr
      cases x with
      | norm => exact Run_loop hx S h c ha hr
      | _ => simp only [Option.some.injEq] at hr; subst hr; exact Run_loop_out hx S h c (by simp) ha

omit S in
theorem eq_den {f : Nat} {a : AF} (hF : F f = some a) (hE : ∀ c, ext c f = none) (args : List V) (hn : args.length ≤ a.n) :
    Den F ext f args h = finish a h (Run F ext a.body (initS args) (enter h)) := by
  refine ext_eq (fun r hr => ?_) (fun r hr => ?_)
  · obtain ⟨k, e⟩ := of_Den hr
    cases k with
    | zero => simp [callN] at e
    | succ k =>
      simp only [callN, hE, hF, if_pos hn] at e
      cases hq : exec (callN F ext k) k a.body (initS args) (enter h) with
      | none => rw [hq] at e; simp [finish] at e
      | some q => rw [Run_of hx hq]; rw [hq] at e; exact e
  · cases hq : Run F ext a.body (initS args) (enter h) with
    | none => rw [hq] at hr; simp [finish] at hr
    | some q => rw [hq] at hr; exact Den_call hx h hF hE hn hq hr
end

section
variable {call : CallF} {S : Nat → V} {h : Heap} {r : List AO} {d : Option Nat}

/-- One operation: a panic's value, if it panics; the slots; the heap, if it has turned. -/
def execO (call : CallF) (o : AO) (S : Nat → V) (h : Heap) : Option (Option V × (Nat → V) × Option Heap) :=
  if wantedA S o.g = true then
    match stepA call o.op S h with
    | some (.val v, oh) => some (none, putO S o.d v, oh)
    | some (.pan v, oh) => some (some v, S, oh)
    | none => none
  else some (none, putO S o.d undefV, none)

theorem ops_nil : execOps call [] S h = some (.norm, S, h) := rfl
theorem ops_cons (o : AO) : execOps call (o :: r) S h = match execO call o S h with
    | some (none, S', none) => execOps call r S' h
    | some (none, S', some h') => execOps call r S' h'
    | some (some v, S', none) => some (.pan v, S', h)
    | some (some v, S', some h') => some (.pan v, S', h')
    | none => none := by
  unfold execO
  simp only [execOps]
  split
  · cases stepA call o.op S h with
    | none => rfl
    | some q => obtain ⟨out, oh⟩ := q; cases out <;> cases oh <;> rfl
  · rfl
theorem q_nil : execQ call [] S h = some (.norm, S, h) := rfl
theorem q_cons (o : AO) : execQ call (o :: r) S h = match execO call o S h with
    | some (none, S', none) => execQ call r S' h
    | _ => none := by
  unfold execO
  simp only [execQ]
  split
  · cases stepA call o.op S h with
    | none => rfl
    | some q => obtain ⟨out, oh⟩ := q; cases out <;> cases oh <;> rfl
  · rfl
theorem o_guard (op : AOp) (j : Nat) (w : Bool) : execO call ⟨d, op, some (j, w)⟩ S h = match S j with
    | .bool b => if b = w then execO call ⟨d, op, none⟩ S h else some (none, putO S d undefV, none)
    | _ => some (none, putO S d undefV, none) := by
  unfold execO
  simp only [wantedA, if_true]
  show (if (match S j with | .bool b => b == w | _ => false) = true then _ else _) = _
  cases S j with
  | bool b => simp only [beq_iff_eq]
  | _ => rfl
theorem o_mv (x : Opd) : execO call ⟨d, .mv x, none⟩ S h = some (none, putO S d (x.ev S), none) := rfl
theorem o_bin (o : BinOp) (x y : Opd) : execO call ⟨d, .bin o x y, none⟩ S h = match binA o (x.ev S) (y.ev S) with
    | some v => some (none, putO S d v, none)
    | none => none := by
  simp only [execO, wantedA, if_true, stepA, stepV]
  cases binA o (x.ev S) (y.ev S) <;> rfl
theorem o_eqf (neg agg : Bool) (ks : List (Nat × Kd)) (x y : Opd) : execO call ⟨d, .eqf neg agg ks x y, none⟩ S h = match eqA agg ks (x.ev S) (y.ev S) with
    | some b => some (none, putO S d (.bool (if neg = true then !b else b)), none)
    | none => none := by
  simp only [execO, wantedA, if_true, stepA, stepV]
  cases eqA agg ks (x.ev S) (y.ev S) <;> rfl
theorem o_un (o : UnOp) (x : Opd) : execO call ⟨d, .un o x, none⟩ S h = match unA o (x.ev S) with
    | some v => some (none, putO S d v, none)
    | none => none := by
  simp only [execO, wantedA, if_true, stepA, stepV]
  cases unA o (x.ev S) <;> rfl
theorem o_pick (c a b : Opd) : execO call ⟨d, .pick c a b, none⟩ S h = match c.ev S with
    | .bool t => some (none, putO S d (if t = true then a.ev S else b.ev S), none)
    | _ => none := by
  simp only [execO, wantedA, if_true, stepA, stepV]
  cases c.ev S <;> rfl
theorem o_call (f : Nat) (args : List Opd) : execO call ⟨d, .call f args, none⟩ S h = match call f (evs S args) h with
    | some (.val v, oh) => some (none, putO S d v, oh)
    | some (.pan v, oh) => some (some v, S, oh)
    | none => none := rfl
theorem o_callv (x : Opd) (args : List Opd) : execO call ⟨d, .callv x args, none⟩ S h = match x.ev S with
    | .fn f first caps => match call f (first ++ evs S args ++ caps) h with
      | some (.val v, oh) => some (none, putO S d v, oh)
      | some (.pan v, oh) => some (some v, S, oh)
      | none => none
    | _ => none := by
  simp only [execO, wantedA, if_true, stepA]
  cases x.ev S <;> rfl
theorem o_panic (x : Opd) : execO call ⟨d, .panic x, none⟩ S h = match x.ev S with
    | .iface t v => some (some (.iface t v), S, none)
    | _ => none := by
  simp only [execO, wantedA, if_true, stepA]
  cases x.ev S <;> rfl
/-- The other operations. -/
theorem o_V (op : AOp) (h1 : ∀ f l, op ≠ .call f l) (h2 : ∀ x l, op ≠ .callv x l) (h3 : ∀ x, op ≠ .panic x) : execO call ⟨d, op, none⟩ S h = match stepV op S h with
    | some (v, oh) => some (none, putO S d v, oh)
    | none => none := by
  have hs : stepA call op S h = match stepV op S h with | some (v, oh) => some (.val v, oh) | none => none := by
    cases op <;> first | rfl | exact absurd rfl (h1 _ _) | exact absurd rfl (h2 _ _) | exact absurd rfl (h3 _)
  simp only [execO, wantedA, if_true, hs]
  cases stepV op S h with
  | none => rfl
  | some q => obtain ⟨v, oh⟩ := q; rfl
theorem o_nck (x : Opd) : execO call ⟨d, .nck x, none⟩ S h = match stepV (.nck x) S h with | some (v, oh) => some (none, putO S d v, oh) | none => none := o_V _ (fun _ _ => by simp) (fun _ _ => by simp) (fun _ => by simp)
theorem o_load (n : Option Nat) (x : Opd) : execO call ⟨d, .load n x, none⟩ S h = match stepV (.load n x) S h with | some (v, oh) => some (none, putO S d v, oh) | none => none := o_V _ (fun _ _ => by simp) (fun _ _ => by simp) (fun _ => by simp)
theorem o_store (n : Nat) (x v : Opd) : execO call ⟨d, .store n x v, none⟩ S h = match stepV (.store n x v) S h with | some (v, oh) => some (none, putO S d v, oh) | none => none := o_V _ (fun _ _ => by simp) (fun _ _ => by simp) (fun _ => by simp)
theorem o_alloc (t : Nat) (z : List V) : execO call ⟨d, .alloc t z, none⟩ S h = match stepV (.alloc t z) S h with | some (v, oh) => some (none, putO S d v, oh) | none => none := o_V _ (fun _ _ => by simp) (fun _ _ => by simp) (fun _ => by simp)
theorem o_box (t : Nat) (x : Opd) : execO call ⟨d, .box t x, none⟩ S h = match stepV (.box t x) S h with | some (v, oh) => some (none, putO S d v, oh) | none => none := o_V _ (fun _ _ => by simp) (fun _ _ => by simp) (fun _ => by simp)
theorem o_build (z : List V) (ps : List (Nat × Nat × Opd)) : execO call ⟨d, .build z ps, none⟩ S h = match stepV (.build z ps) S h with | some (v, oh) => some (none, putO S d v, oh) | none => none := o_V _ (fun _ _ => by simp) (fun _ _ => by simp) (fun _ => by simp)
theorem o_bslice (t e : Nat) (z : List V) (ps : List (Nat × Nat × Opd)) : execO call ⟨d, .bslice t e z ps, none⟩ S h = match stepV (.bslice t e z ps) S h with | some (v, oh) => some (none, putO S d v, oh) | none => none := o_V _ (fun _ _ => by simp) (fun _ _ => by simp) (fun _ => by simp)
theorem o_faddr (off : Nat) (x : Opd) : execO call ⟨d, .faddr off x, none⟩ S h = match stepV (.faddr off x) S h with | some (v, oh) => some (none, putO S d v, oh) | none => none := o_V _ (fun _ _ => by simp) (fun _ _ => by simp) (fun _ => by simp)
theorem o_field (off : Nat) (n : Option Nat) (x : Opd) : execO call ⟨d, .field off n x, none⟩ S h = match stepV (.field off n x) S h with | some (v, oh) => some (none, putO S d v, oh) | none => none := o_V _ (fun _ _ => by simp) (fun _ _ => by simp) (fun _ => by simp)
theorem o_iaddrA (len e : Nat) (x i : Opd) : execO call ⟨d, .iaddrA len e x i, none⟩ S h = match stepV (.iaddrA len e x i) S h with | some (v, oh) => some (none, putO S d v, oh) | none => none := o_V _ (fun _ _ => by simp) (fun _ _ => by simp) (fun _ => by simp)
theorem o_iaddrS (e : Nat) (x i : Opd) : execO call ⟨d, .iaddrS e x i, none⟩ S h = match stepV (.iaddrS e x i) S h with | some (v, oh) => some (none, putO S d v, oh) | none => none := o_V _ (fun _ _ => by simp) (fun _ _ => by simp) (fun _ => by simp)
theorem o_idxA (len e : Nat) (n : Option Nat) (x i : Opd) : execO call ⟨d, .idxA len e n x i, none⟩ S h = match stepV (.idxA len e n x i) S h with | some (v, oh) => some (none, putO S d v, oh) | none => none := o_V _ (fun _ _ => by simp) (fun _ _ => by simp) (fun _ => by simp)
theorem o_idxS (x i : Opd) : execO call ⟨d, .idxS x i, none⟩ S h = match stepV (.idxS x i) S h with | some (v, oh) => some (none, putO S d v, oh) | none => none := o_V _ (fun _ _ => by simp) (fun _ _ => by simp) (fun _ => by simp)
theorem o_slS (x : Opd) (lo hi : Option Opd) : execO call ⟨d, .slS x lo hi, none⟩ S h = match stepV (.slS x lo hi) S h with | some (v, oh) => some (none, putO S d v, oh) | none => none := o_V _ (fun _ _ => by simp) (fun _ _ => by simp) (fun _ => by simp)
theorem o_slL (e : Nat) (x : Opd) (lo hi : Option Opd) : execO call ⟨d, .slL e x lo hi, none⟩ S h = match stepV (.slL e x lo hi) S h with | some (v, oh) => some (none, putO S d v, oh) | none => none := o_V _ (fun _ _ => by simp) (fun _ _ => by simp) (fun _ => by simp)
theorem o_slA (len e : Nat) (x : Opd) (lo hi : Option Opd) : execO call ⟨d, .slA len e x lo hi, none⟩ S h = match stepV (.slA len e x lo hi) S h with | some (v, oh) => some (none, putO S d v, oh) | none => none := o_V _ (fun _ _ => by simp) (fun _ _ => by simp) (fun _ => by simp)
theorem o_toInt (k : IntKind) (x : Opd) : execO call ⟨d, .toInt k x, none⟩ S h = match stepV (.toInt k x) S h with | some (v, oh) => some (none, putO S d v, oh) | none => none := o_V _ (fun _ _ => by simp) (fun _ _ => by simp) (fun _ => by simp)
theorem o_toStr (x : Opd) : execO call ⟨d, .toStr x, none⟩ S h = match stepV (.toStr x) S h with | some (v, oh) => some (none, putO S d v, oh) | none => none := o_V _ (fun _ _ => by simp) (fun _ _ => by simp) (fun _ => by simp)
theorem o_cpS (x : Opd) : execO call ⟨d, .cpS x, none⟩ S h = match stepV (.cpS x) S h with | some (v, oh) => some (none, putO S d v, oh) | none => none := o_V _ (fun _ _ => by simp) (fun _ _ => by simp) (fun _ => by simp)
theorem o_toBytes (t : Nat) (x : Opd) : execO call ⟨d, .toBytes t x, none⟩ S h = match stepV (.toBytes t x) S h with | some (v, oh) => some (none, putO S d v, oh) | none => none := o_V _ (fun _ _ => by simp) (fun _ _ => by simp) (fun _ => by simp)
theorem o_extract (x : Opd) (i : Nat) : execO call ⟨d, .extract x i, none⟩ S h = match stepV (.extract x i) S h with | some (v, oh) => some (none, putO S d v, oh) | none => none := o_V _ (fun _ _ => by simp) (fun _ _ => by simp) (fun _ => by simp)
theorem o_mkf (f : Nat) (a b : List Opd) : execO call ⟨d, .mkf f a b, none⟩ S h = match stepV (.mkf f a b) S h with | some (v, oh) => some (none, putO S d v, oh) | none => none := o_V _ (fun _ _ => by simp) (fun _ _ => by simp) (fun _ => by simp)
theorem o_mki (t : Nat) (x : Opd) : execO call ⟨d, .mki t x, none⟩ S h = match stepV (.mki t x) S h with | some (v, oh) => some (none, putO S d v, oh) | none => none := o_V _ (fun _ _ => by simp) (fun _ _ => by simp) (fun _ => by simp)
theorem o_lenS (x : Opd) : execO call ⟨d, .lenS x, none⟩ S h = match stepV (.lenS x) S h with | some (v, oh) => some (none, putO S d v, oh) | none => none := o_V _ (fun _ _ => by simp) (fun _ _ => by simp) (fun _ => by simp)
theorem o_lenL (x : Opd) : execO call ⟨d, .lenL x, none⟩ S h = match stepV (.lenL x) S h with | some (v, oh) => some (none, putO S d v, oh) | none => none := o_V _ (fun _ _ => by simp) (fun _ _ => by simp) (fun _ => by simp)
theorem o_lenA (n : Nat) : execO call ⟨d, .lenA n, none⟩ S h = match stepV (.lenA n) S h with | some (v, oh) => some (none, putO S d v, oh) | none => none := o_V _ (fun _ _ => by simp) (fun _ _ => by simp) (fun _ => by simp)
theorem o_copyS (x y : Opd) : execO call ⟨d, .copyS x y, none⟩ S h = match stepV (.copyS x y) S h with | some (v, oh) => some (none, putO S d v, oh) | none => none := o_V _ (fun _ _ => by simp) (fun _ _ => by simp) (fun _ => by simp)
theorem o_copyL (e : Nat) (x y : Opd) : execO call ⟨d, .copyL e x y, none⟩ S h = match stepV (.copyL e x y) S h with | some (v, oh) => some (none, putO S d v, oh) | none => none := o_V _ (fun _ _ => by simp) (fun _ _ => by simp) (fun _ => by simp)
theorem o_clearL (e : Nat) (z : List V) (x : Opd) : execO call ⟨d, .clearL e z x, none⟩ S h = match stepV (.clearL e z x) S h with | some (v, oh) => some (none, putO S d v, oh) | none => none := o_V _ (fun _ _ => by simp) (fun _ _ => by simp) (fun _ => by simp)
theorem o_minmax (mx : Bool) (xs : List Opd) : execO call ⟨d, .minmax mx xs, none⟩ S h = match stepV (.minmax mx xs) S h with | some (v, oh) => some (none, putO S d v, oh) | none => none := o_V _ (fun _ _ => by simp) (fun _ _ => by simp) (fun _ => by simp)
theorem o_app (t e bytes : Nat) (z : List V) (x y : Opd) : execO call ⟨d, .app t e bytes z x y, none⟩ S h = match stepV (.app t e bytes z x y) S h with | some (v, oh) => some (none, putO S d v, oh) | none => none := o_V _ (fun _ _ => by simp) (fun _ _ => by simp) (fun _ => by simp)
theorem o_appS (t bytes : Nat) (z : List V) (x y : Opd) : execO call ⟨d, .appS t bytes z x y, none⟩ S h = match stepV (.appS t bytes z x y) S h with | some (v, oh) => some (none, putO S d v, oh) | none => none := o_V _ (fun _ _ => by simp) (fun _ _ => by simp) (fun _ => by simp)
theorem o_mkSlice (t e bytes : Nat) (z : List V) (l c : Opd) : execO call ⟨d, .mkSlice t e bytes z l c, none⟩ S h = match stepV (.mkSlice t e bytes z l c) S h with | some (v, oh) => some (none, putO S d v, oh) | none => none := o_V _ (fun _ _ => by simp) (fun _ _ => by simp) (fun _ => by simp)
theorem o_mkMap  : execO call ⟨d, .mkMap , none⟩ S h = match stepV (.mkMap ) S h with | some (v, oh) => some (none, putO S d v, oh) | none => none := o_V _ (fun _ _ => by simp) (fun _ _ => by simp) (fun _ => by simp)
theorem o_lookup (kd : Kd) (z : V) (ok : Bool) (m k : Opd) : execO call ⟨d, .lookup kd z ok m k, none⟩ S h = match stepV (.lookup kd z ok m k) S h with | some (v, oh) => some (none, putO S d v, oh) | none => none := o_V _ (fun _ _ => by simp) (fun _ _ => by simp) (fun _ => by simp)
theorem o_mapSet (kd : Kd) (m k x : Opd) : execO call ⟨d, .mapSet kd m k x, none⟩ S h = match stepV (.mapSet kd m k x) S h with | some (v, oh) => some (none, putO S d v, oh) | none => none := o_V _ (fun _ _ => by simp) (fun _ _ => by simp) (fun _ => by simp)
theorem o_mapDel (kd : Kd) (m k : Opd) : execO call ⟨d, .mapDel kd m k, none⟩ S h = match stepV (.mapDel kd m k) S h with | some (v, oh) => some (none, putO S d v, oh) | none => none := o_V _ (fun _ _ => by simp) (fun _ _ => by simp) (fun _ => by simp)
theorem o_lenM (m : Opd) : execO call ⟨d, .lenM m, none⟩ S h = match stepV (.lenM m) S h with | some (v, oh) => some (none, putO S d v, oh) | none => none := o_V _ (fun _ _ => by simp) (fun _ _ => by simp) (fun _ => by simp)
theorem o_clearM (m : Opd) : execO call ⟨d, .clearM m, none⟩ S h = match stepV (.clearM m) S h with | some (v, oh) => some (none, putO S d v, oh) | none => none := o_V _ (fun _ _ => by simp) (fun _ _ => by simp) (fun _ => by simp)

theorem put_some (i : Nat) (v : V) : putO S (some i) v = fput S i v := rfl
theorem put_none (v : V) : putO S none v = S := rfl
theorem ev_t (i : Nat) : Opd.ev S (.t i) = S i := rfl
theorem ev_k (v : V) : Opd.ev S (.k v) = v := rfl
theorem ev_f (n : Nat) : Opd.ev S (.f n) = .fn n [] [] := rfl
theorem evs_nil : evs S [] = [] := rfl
theorem evs_cons (x : Opd) (l : List Opd) : evs S (x :: l) = x.ev S :: evs S l := rfl
theorem get_fput (i j : Nat) (v : V) : fput S i v j = if j = i then v else S j := rfl
theorem get_init (l : List V) (i : Nat) : initS l i = l.getD i undefV := rfl
theorem get_slots (i : Nat) : Slots.get S i = S i := rfl
theorem enter_o : (enter h).o = h.o := rfl
theorem enter_e : (enter h).e = h.o.length := rfl
theorem enter_d : (enter h).d = h.o.length := rfl
end

/-- What answers for some functions answers rightly. -/
def ExtSound (P : Program) (ext : ExtF) : Prop :=
  ∀ call, CallOk P call → ∀ f g args h out oh, ext call f = some g → g args h = some (out, oh) → callOk P f = true ∧ ∀ ι w, HR ι h.o w → V.scs h.o.length args →
    Calls P f (V.reals ι args).toArray w fun e w' => ∃ κ, Nx ι h w κ (oh.getD h) w' ∧ OutOk κ (oh.getD h).o.length e out

def FOk (P : Program) (F : Nat → Option AF) : Prop := ∀ f af, F f = some af → trProg P f = some af

def H0 : Heap := ⟨[], 0, 0⟩
theorem hr0 (ι : Map) (w : World) : HR ι H0.o w := ⟨fun l o h => by simp [H0] at h, fun l l' o o' _ h => by simp [H0] at h, fun l o h => by simp [H0] at h⟩
theorem noOwn0 : NoOwn H0 := fun l o h => by simp [H0] at h
def noMap : Map := fun _ => ⟨0, 0, 0⟩

/-- A law of plain arguments. -/
theorem law0 {P : Program} (hm : P.follows .mixedOrders = true) {F : Nat → Option AF} (hF : FOk P F) {ext : ExtF} (hE : ExtSound P ext) {f : Nat} {args : List V} {v : V} {oh : Option Heap}
    (hd : Den F ext f args H0 = some (.val v, oh)) (hv : v.plain = true) (ha : V.plains args = true) (w : World) :
    Calls P f (V.reals noMap args).toArray w fun e w' => e = .returned (v.real noMap) ∧ Kept w w' :=
  calls_of_den hm hF hE hd noOwn0 hv (hr0 _ _) (V.scs_of_plains _ _ ha)

theorem real_str (ι : Map) (s : ByteArray) : V.real ι (.str s.data.toList) = .string s := rfl
end AM
