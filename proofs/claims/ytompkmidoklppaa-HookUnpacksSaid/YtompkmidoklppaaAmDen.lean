/- AM, part 18: what calls and code come to, without depths. -/
import Derived.Test.YtompkmidoklppaaAmRun
namespace AM
open Go
set_option linter.unusedVariables false
set_option linter.unusedSimpArgs false
set_option linter.unusedSectionVars false

/-- One partial function tells no more than another one. -/
def Le (c c' : CallF) : Prop := ∀ f a h r, c f a h = some r → c' f a h = some r

theorem Le.refl (c : CallF) : Le c c := fun _ _ _ _ h => h

section
variable {σ : Type} [Slots σ]

theorem stepA_mono {c c' : CallF} (hc : Le c c') {op : AOp} {S : σ} {h : Heap} {r : Out × Option Heap} (he : stepA c op S h = some r) : stepA c' op S h = some r := by
  cases op with
  | call f l => simp only [stepA] at he ⊢; exact hc _ _ _ _ he
  | callv x l =>
    simp only [stepA] at he ⊢
    split at he
    · exact hc _ _ _ _ he
    · simp at he
  | _ => exact he

theorem execOps_mono {c c' : CallF} (hc : Le c c') : ∀ {l : List AO} {S : σ} {h : Heap} {r : Ex × σ × Heap}, execOps c l S h = some r → execOps c' l S h = some r
  | [], S, h, r, he => he
  | o :: l, S, h, r, he => by
    simp only [execOps] at he ⊢
    split at he
    · rename_i hw
      rw [if_pos hw]
      cases hs : stepA c o.op S h with
      | none => rw [hs] at he; simp at he
      | some q =>
        rw [stepA_mono hc hs]
        rw [hs] at he
        obtain ⟨out, oh⟩ := q
        cases out <;> cases oh <;> first
          | exact execOps_mono hc he
          | exact he
    · rename_i hw
      rw [if_neg hw]
      exact execOps_mono hc he

theorem execQ_mono {c c' : CallF} (hc : Le c c') : ∀ {l : List AO} {S : σ} {h : Heap} {r : Ex × σ × Heap}, execQ c l S h = some r → execQ c' l S h = some r
  | [], S, h, r, he => he
  | o :: l, S, h, r, he => by
    simp only [execQ] at he ⊢
    split at he
    · rename_i hw
      rw [if_pos hw]
      cases hs : stepA c o.op S h with
      | none => rw [hs] at he; simp at he
      | some q =>
        rw [stepA_mono hc hs]
        rw [hs] at he
        obtain ⟨out, oh⟩ := q
        cases out <;> cases oh <;> first
          | exact execQ_mono hc he
          | (simp at he; done)
    · rename_i hw
      rw [if_neg hw]
      exact execQ_mono hc he

theorem exec_mono {c c' : CallF} (hc : Le c c') : ∀ {n n' : Nat} {ac : AC} {S : σ} {h : Heap} {r : Ex × σ × Heap}, n ≤ n' → exec c n ac S h = some r → exec c' n' ac S h = some r
  | 0, n', ac, S, h, r, hn, he => by simp [exec] at he
  | n + 1, 0, ac, S, h, r, hn, he => by omega
  | n + 1, n' + 1, ac, S, h, r, hn, he => by
    have hn' : n ≤ n' := by omega
    cases ac with
    | skip => exact he
    | label l => exact he
    | exit id => exact he
    | ret => exact he
    | region ops d =>
      simp only [exec] at he ⊢
      split at he
      · rename_i hd; rw [if_pos hd]; exact execQ_mono hc he
      · rename_i hd; rw [if_neg hd]; exact execOps_mono hc he
    | seq a b =>
      simp only [exec] at he ⊢
      cases ha : exec c n a S h with
      | none => rw [ha] at he; simp at he
      | some q =>
        rw [exec_mono hc hn' ha]
        rw [ha] at he
        obtain ⟨x, S1, h1⟩ := q
        cases x with
        | norm => exact exec_mono hc hn' he
        | _ => exact he
    | cond o a b =>
      simp only [exec] at he ⊢
      split at he
      · exact exec_mono hc hn' he
      · exact exec_mono hc hn' he
      · simp at he
    | block id a =>
      simp only [exec] at he ⊢
      cases ha : exec c n a S h with
      | none => rw [ha] at he; simp at he
      | some q => rw [exec_mono hc hn' ha]; rw [ha] at he; exact he
    | loop a =>
      simp only [exec] at he ⊢
      cases ha : exec c n a S h with
      | none => rw [ha] at he; simp at he
      | some q =>
        rw [exec_mono hc hn' ha]
        rw [ha] at he
        obtain ⟨x, S1, h1⟩ := q
        cases x with
        | norm => exact exec_mono hc hn' he
        | _ => exact he
    | scope a => simp only [exec] at he ⊢; exact exec_mono hc hn' he

theorem finish_mono {f : AF} {h : Heap} {r : Ex × σ × Heap} {o o' : Option (Ex × σ × Heap)} {q : Out × Option Heap} (ho : ∀ r, o = some r → o' = some r) (he : finish f h o = some q) : finish f h o' = some q := by
  cases o with
  | none => simp [finish] at he
  | some r => rw [ho r rfl]; exact he
end

abbrev ExtF := CallF → Nat → Option (List V → Heap → Option (Out × Option Heap))

/-- What answers for some functions answers no less where more is known of calls. -/
def ExtMono (ext : ExtF) : Prop := ∀ c c', Le c c' → ∀ f, (ext c f = none → ext c' f = none) ∧ ∀ g, ext c f = some g → ∃ g', ext c' f = some g' ∧ ∀ a h r, g a h = some r → g' a h = some r

section
variable (F : Nat → Option AF) (ext : ExtF)

theorem callN_succ (hx : ExtMono ext) : ∀ k, Le (callN F ext k) (callN F ext (k + 1))
  | 0 => fun f a h r he => by simp [callN] at he
  | k + 1 => fun f a h r he => by
    have ih := callN_succ hx k
    obtain ⟨h1, h2⟩ := hx _ _ ih f
    rw [callN] at he ⊢
    cases hg : ext (callN F ext k) f with
    | some g =>
      obtain ⟨g', hg', hgg⟩ := h2 g hg
      rw [hg] at he
      rw [hg']
      exact hgg a h r he
    | none =>
      rw [hg] at he
      rw [h1 hg]
      simp only at he ⊢
      cases hf : F f with
      | none => rw [hf] at he; simp at he
      | some af =>
        rw [hf] at he
        simp only at he ⊢
        split at he
        · rename_i hle
          rw [if_pos hle]
          cases hq : exec (callN F ext k) k af.body (initS a) (enter h) with
          | none => rw [hq] at he; simp [finish] at he
          | some q => rw [exec_mono ih (Nat.le_succ k) hq]; rw [hq] at he; exact he
        · simp at he

theorem callN_mono (hx : ExtMono ext) {k k' : Nat} (h : k ≤ k') : Le (callN F ext k) (callN F ext k') := by
  induction h with
  | refl => exact Le.refl _
  | step h ih => exact fun f a hp r he => callN_succ F ext hx _ f a hp r (ih f a hp r he)

open Classical in
/-- What a call comes to. -/
noncomputable def Den : CallF := fun f a h => if hk : ∃ k r, callN F ext k f a h = some r then some hk.choose_spec.choose else none

open Classical in
/-- What code comes to. -/
noncomputable def Run (c : AC) (S : Nat → V) (h : Heap) : Option (Ex × (Nat → V) × Heap) :=
  if hk : ∃ k r, exec (callN F ext k) k c S h = some r then some hk.choose_spec.choose else none

variable {F ext}

theorem Den_of (hx : ExtMono ext) {k f : Nat} {a : List V} {h : Heap} {r : Out × Option Heap} (he : callN F ext k f a h = some r) : Den F ext f a h = some r := by
  have hk : ∃ k r, callN F ext k f a h = some r := ⟨k, r, he⟩
  unfold Den
  rw [dif_pos hk]
  have h1 := hk.choose_spec.choose_spec
  have h2 := callN_mono F ext hx (Nat.le_max_left k hk.choose) _ _ _ _ he
  have h3 := callN_mono F ext hx (Nat.le_max_right k hk.choose) _ _ _ _ h1
  rw [h2] at h3
  exact h3.symm

theorem of_Den {f : Nat} {a : List V} {h : Heap} {r : Out × Option Heap} (he : Den F ext f a h = some r) : ∃ k, callN F ext k f a h = some r := by
  unfold Den at he
  split at he
  · rename_i hk
    simp only [Option.some.injEq] at he
    exact ⟨hk.choose, by rw [← he]; exact hk.choose_spec.choose_spec⟩
  · simp at he

theorem Run_of (hx : ExtMono ext) {k : Nat} {c : AC} {S : Nat → V} {h : Heap} {r : Ex × (Nat → V) × Heap} (he : exec (callN F ext k) k c S h = some r) : Run F ext c S h = some r := by
  have hk : ∃ k r, exec (callN F ext k) k c S h = some r := ⟨k, r, he⟩
  unfold Run
  rw [dif_pos hk]
  have h1 := hk.choose_spec.choose_spec
  have h2 := exec_mono (callN_mono F ext hx (Nat.le_max_left k hk.choose)) (Nat.le_max_left k hk.choose) he
  have h3 := exec_mono (callN_mono F ext hx (Nat.le_max_right k hk.choose)) (Nat.le_max_right k hk.choose) h1
  rw [h2] at h3
  exact h3.symm

theorem of_Run {c : AC} {S : Nat → V} {h : Heap} {r : Ex × (Nat → V) × Heap} (he : Run F ext c S h = some r) : ∃ k, exec (callN F ext k) k c S h = some r := by
  unfold Run at he
  split at he
  · rename_i hk
    simp only [Option.some.injEq] at he
    exact ⟨hk.choose, by rw [← he]; exact hk.choose_spec.choose_spec⟩
  · simp at he

theorem Run_none {c : AC} {S : Nat → V} {h : Heap} (he : Run F ext c S h = none) (k : Nat) : exec (callN F ext k) k c S h = none := by
  unfold Run at he
  split at he
  · simp at he
  · rename_i hk
    cases hq : exec (callN F ext k) k c S h with
    | none => rfl
    | some r => exact absurd ⟨k, r, hq⟩ hk

theorem le_Den (hx : ExtMono ext) (k : Nat) : Le (callN F ext k) (Den F ext) := fun _ _ _ _ h => Den_of hx h

theorem step_fin (hx : ExtMono ext) {op : AOp} {S : Nat → V} {h : Heap} {r : Out × Option Heap} (he : stepA (Den F ext) op S h = some r) : ∃ k, stepA (callN F ext k) op S h = some r := by
  cases op with
  | call f l => simp only [stepA] at he ⊢; exact of_Den he
  | callv x l =>
    simp only [stepA] at he ⊢
    split at he
    · exact of_Den he
    · simp at he
  | _ => exact ⟨0, he⟩

theorem ops_fin (hx : ExtMono ext) : ∀ {l : List AO} {S : Nat → V} {h : Heap} {r : Ex × (Nat → V) × Heap}, execOps (Den F ext) l S h = some r → ∃ k, execOps (callN F ext k) l S h = some r
  | [], S, h, r, he => ⟨0, he⟩
  | o :: l, S, h, r, he => by
    simp only [execOps] at he ⊢
    split at he
    · rename_i hw
      cases hs : stepA (Den F ext) o.op S h with
      | none => rw [hs] at he; simp at he
      | some q =>
        obtain ⟨k1, hk1⟩ := step_fin hx hs
        rw [hs] at he
        obtain ⟨out, oh⟩ := q
        have hrec : ∀ {S' : Nat → V} {h' : Heap}, execOps (Den F ext) l S' h' = some r → ∃ k, k1 ≤ k ∧ execOps (callN F ext k) l S' h' = some r := by
          intro S' h' he
          obtain ⟨k2, hk2⟩ := ops_fin hx he
          exact ⟨max k1 k2, Nat.le_max_left _ _, execOps_mono (callN_mono F ext hx (Nat.le_max_right _ _)) hk2⟩
        cases out with
        | val v =>
          cases oh with
          | none => obtain ⟨k, hk, hr⟩ := hrec he; exact ⟨k, by rw [if_pos hw, stepA_mono (callN_mono F ext hx hk) hk1]; exact hr⟩
          | some h' => obtain ⟨k, hk, hr⟩ := hrec he; exact ⟨k, by rw [if_pos hw, stepA_mono (callN_mono F ext hx hk) hk1]; exact hr⟩
        | pan v => cases oh <;> exact ⟨k1, by rw [if_pos hw, hk1]; exact he⟩
    · rename_i hw
      obtain ⟨k, hk⟩ := ops_fin hx he
      exact ⟨k, by rw [if_neg hw]; exact hk⟩

theorem q_fin (hx : ExtMono ext) : ∀ {l : List AO} {S : Nat → V} {h : Heap} {r : Ex × (Nat → V) × Heap}, execQ (Den F ext) l S h = some r → ∃ k, execQ (callN F ext k) l S h = some r
  | [], S, h, r, he => ⟨0, he⟩
  | o :: l, S, h, r, he => by
    simp only [execQ] at he ⊢
    split at he
    · rename_i hw
      cases hs : stepA (Den F ext) o.op S h with
      | none => rw [hs] at he; simp at he
      | some q =>
        obtain ⟨k1, hk1⟩ := step_fin hx hs
        rw [hs] at he
        obtain ⟨out, oh⟩ := q
        cases out with
        | val v =>
          cases oh with
          | none =>
            obtain ⟨k2, hk2⟩ := q_fin hx he
            refine ⟨max k1 k2, ?_⟩
            rw [if_pos hw, stepA_mono (callN_mono F ext hx (Nat.le_max_left k1 k2)) hk1]
            exact execQ_mono (callN_mono F ext hx (Nat.le_max_right k1 k2)) hk2
          | some h' => simp at he
        | pan v => cases oh <;> simp at he
    · rename_i hw
      obtain ⟨k, hk⟩ := q_fin hx he
      exact ⟨k, by rw [if_neg hw]; exact hk⟩

variable (hx : ExtMono ext) (S : Nat → V) (h : Heap)
include hx

theorem Run_skip : Run F ext .skip S h = some (.norm, S, h) := Run_of hx (k := 1) rfl
theorem Run_label (l : Nat) : Run F ext (.label l) S h = some (.norm, S, h) := Run_of hx (k := 1) rfl
theorem Run_ret : Run F ext .ret S h = some (.ret, S, h) := Run_of hx (k := 1) rfl
theorem Run_exit (id : Nat) : Run F ext (.exit id) S h = some (.exit id, S, h) := Run_of hx (k := 1) rfl

theorem Run_region (ops : List AO) {r : Ex × (Nat → V) × Heap} (he : execOps (Den F ext) ops S h = some r) : Run F ext (.region ops false) S h = some r := by
  obtain ⟨k, hk⟩ := ops_fin hx he
  exact Run_of hx (k := k + 1) (by simp only [exec, Bool.false_eq_true, if_false]; exact execOps_mono (callN_succ F ext hx k) hk)

theorem Run_regionQ (ops : List AO) {r : Ex × (Nat → V) × Heap} (he : execQ (Den F ext) ops S h = some r) : Run F ext (.region ops true) S h = some r := by
  obtain ⟨k, hk⟩ := q_fin hx he
  exact Run_of hx (k := k + 1) (by simp only [exec, if_true]; exact execQ_mono (callN_succ F ext hx k) hk)

theorem up {k m : Nat} {c : AC} {S : Nat → V} {h : Heap} {r : Ex × (Nat → V) × Heap} (he : exec (callN F ext k) k c S h = some r) (hm : k ≤ m) : exec (callN F ext (m + 1)) m c S h = some r :=
  exec_mono (callN_mono F ext hx (by omega)) hm he

theorem Run_seq (a b : AC) {S' : Nat → V} {h' : Heap} {r : Ex × (Nat → V) × Heap} (ha : Run F ext a S h = some (.norm, S', h')) (hb : Run F ext b S' h' = some r) : Run F ext (.seq a b) S h = some r := by
  obtain ⟨k1, e1⟩ := of_Run ha
  obtain ⟨k2, e2⟩ := of_Run hb
  refine Run_of hx (k := max k1 k2 + 1) ?_
  simp only [exec, up hx e1 (Nat.le_max_left k1 k2)]
  exact up hx e2 (Nat.le_max_right k1 k2)

theorem Run_seq_out (a b : AC) {x : Ex} {S' : Nat → V} {h' : Heap} (hne : x ≠ .norm) (ha : Run F ext a S h = some (x, S', h')) : Run F ext (.seq a b) S h = some (x, S', h') := by
  obtain ⟨k1, e1⟩ := of_Run ha
  refine Run_of hx (k := k1 + 1) ?_
  simp only [exec, up hx e1 (Nat.le_refl k1)]
  cases x with
  | norm => exact absurd rfl hne
  | _ => rfl

theorem Run_cond (o : Opd) (a b : AC) {t : Bool} (ho : o.ev S = .bool t) : Run F ext (.cond o a b) S h = Run F ext (if t = true then a else b) S h := by
  cases hr : Run F ext (if t = true then a else b) S h with
  | some r =>
    obtain ⟨k, e⟩ := of_Run hr
    refine Run_of hx (k := k + 1) ?_
    cases t <;> simp only [exec, ho] <;> exact up hx e (Nat.le_refl k)
  | none =>
    cases hq : Run F ext (.cond o a b) S h with
    | none => rfl
    | some r =>
      obtain ⟨k, e⟩ := of_Run hq
      cases k with
      | zero => simp [exec] at e
      | succ k =>
        have : Run F ext (if t = true then a else b) S h = some r := by
          refine Run_of hx (k := k + 1) ?_
          cases t <;> simp only [exec, ho] at e <;> exact exec_mono (Le.refl _) (Nat.le_succ k) e
        rw [hr] at this
        exact this.symm

theorem Run_block (id : Nat) (c : AC) {x : Ex} {S' : Nat → V} {h' : Heap} (hc : Run F ext c S h = some (x, S', h')) :
    Run F ext (.block id c) S h = some ((match x with | .exit i => if i = id then .norm else .exit i | x => x), S', h') := by
  obtain ⟨k, e⟩ := of_Run hc
  refine Run_of hx (k := k + 1) ?_
  simp only [exec, up hx e (Nat.le_refl k)]
  cases x with
  | exit i => by_cases hi : i = id <;> simp [hi]
  | _ => rfl

theorem Run_scope (c : AC) {r : Ex × (Nat → V) × Heap} (hc : Run F ext c S h = some r) : Run F ext (.scope c) S h = some r := by
  obtain ⟨k, e⟩ := of_Run hc
  exact Run_of hx (k := k + 1) (by simp only [exec]; exact up hx e (Nat.le_refl k))

theorem Run_loop (c : AC) {S' : Nat → V} {h' : Heap} {r : Ex × (Nat → V) × Heap} (hc : Run F ext c S h = some (.norm, S', h')) (hl : Run F ext (.loop c) S' h' = some r) : Run F ext (.loop c) S h = some r := by
  obtain ⟨k1, e1⟩ := of_Run hc
  obtain ⟨k2, e2⟩ := of_Run hl
  refine Run_of hx (k := max k1 k2 + 1) ?_
  simp only [exec, up hx e1 (Nat.le_max_left k1 k2)]
  exact up hx e2 (Nat.le_max_right k1 k2)

theorem Run_loop_out (c : AC) {x : Ex} {S' : Nat → V} {h' : Heap} (hne : x ≠ .norm) (hc : Run F ext c S h = some (x, S', h')) : Run F ext (.loop c) S h = some (x, S', h') := by
  obtain ⟨k1, e1⟩ := of_Run hc
  refine Run_of hx (k := k1 + 1) ?_
  simp only [exec, up hx e1 (Nat.le_refl k1)]
  cases x with
  | norm => exact absurd rfl hne
  | _ => rfl

omit S in
/-- A call. -/
theorem Den_call {f : Nat} {a : AF} {args : List V} (hF : F f = some a) (hE : ∀ c, ext c f = none) (hn : args.length ≤ a.n) {r : Ex × (Nat → V) × Heap} (hr : Run F ext a.body (initS args) (enter h) = some r) {q : Out × Option Heap} (hq : finish a h (some r) = some q) :
    Den F ext f args h = some q := by
  obtain ⟨k, e⟩ := of_Run hr
  refine Den_of hx (k := k + 1) ?_
  simp only [callN, hE, hF, if_pos hn, e, hq]

end
end AM
