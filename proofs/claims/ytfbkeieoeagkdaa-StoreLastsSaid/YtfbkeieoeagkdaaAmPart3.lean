/- Own texts, joined: AmDen, AmRow, AmEqn, AmBits, AmWp, AmExt, AmExt2, AmSim, AmPlain, AmRange, AmHand, AmBits2, AmSym, AmLaw, AmLaw2, AmLaw3, AmLaw4, AmLaw5, AmSet, AmGrow, AmFlat. -/
import Derived.ChangeSame
import Derived.RowKit3
import Derived.KernelRfl
import Derived.Laws.IdiomRangeMap
import Derived.Deep.Slices
import Derived.OpenShut
import Derived.ProofKit
import Derived.DataShut
import Derived.Attr
import Derived.Test.YtfbkeieoeagkdaaAmPart2
/- AM, part 18: what calls and code come to, without depths. -/
namespace AM
open Go
set_option linter.unusedVariables false
set_option linter.unusedSimpArgs false
set_option linter.unusedSectionVars false

/-- One partial function tells no more than another one. -/
def Le (c c' : CallF) : Prop := ∀ f a h r, c f a h = some r → c' f a h = some r

theorem Le.refl (c : CallF) : Le c c := fun _ _ _ _ h => h

section
variable {σ : Type} [Slots σ]

theorem stepA_mono {c c' : CallF} (hc : Le c c') {op : AOp} {S : σ} {h : Heap} {r : Out × Option Heap} (he : stepA c op S h = some r) : stepA c' op S h = some r := by
  cases op with
  | call f l => simp only [stepA] at he ⊢; exact hc _ _ _ _ he
  | callv x l =>
    simp only [stepA] at he ⊢
    split at he
    · exact hc _ _ _ _ he
    · simp at he
  | _ => exact he

theorem execOps_mono {c c' : CallF} (hc : Le c c') : ∀ {l : List AO} {S : σ} {h : Heap} {r : Ex × σ × Heap}, execOps c l S h = some r → execOps c' l S h = some r
  | [], S, h, r, he => he
  | o :: l, S, h, r, he => by
    simp only [execOps] at he ⊢
    split at he
    · rename_i hw
      rw [if_pos hw]
      cases hs : stepA c o.op S h with
      | none => rw [hs] at he; simp at he
      | some q =>
        rw [stepA_mono hc hs]
        rw [hs] at he
        obtain ⟨out, oh⟩ := q
        cases out <;> cases oh <;> first
          | exact execOps_mono hc he
          | exact he
    · rename_i hw
      rw [if_neg hw]
      exact execOps_mono hc he

theorem execQ_mono {c c' : CallF} (hc : Le c c') : ∀ {l : List AO} {S : σ} {h : Heap} {r : Ex × σ × Heap}, execQ c l S h = some r → execQ c' l S h = some r
  | [], S, h, r, he => he
  | o :: l, S, h, r, he => by
    simp only [execQ] at he ⊢
    split at he
    · rename_i hw
      rw [if_pos hw]
      cases hs : stepA c o.op S h with
      | none => rw [hs] at he; simp at he
      | some q =>
        rw [stepA_mono hc hs]
        rw [hs] at he
        obtain ⟨out, oh⟩ := q
        cases out <;> cases oh <;> first
          | exact execQ_mono hc he
          | (simp at he; done)
    · rename_i hw
      rw [if_neg hw]
      exact execQ_mono hc he

theorem lookA_mono {c c' : CallF} (hc : Le c c') {S : σ} {h : Heap} {y : AO} (he : lookA c S h y = true) : lookA c' S h y = true := by
  unfold lookA at he ⊢
  split at he
  · rename_i hw
    rw [if_pos hw]
    split at he
    · rename_i v hs
      rw [stepA_mono hc hs]
      exact he
    · cases he
  · rename_i hw
    rw [if_neg hw]

theorem outD_mono {c c' : CallF} (hc : Le c c') {N m : Nat} {x : DO} {S : σ} {h : Heap} {r : V × KD} (he : outD c N m x S h = some r) : outD c' N m x S h = some r := by
  unfold outD at he ⊢
  split at he
  · rename_i hw
    rw [if_pos hw]
    split at he
    · rename_i k hk
      exact he
    · rename_i hk
      split at he
      · rename_i v hs
        simp only [stepA_mono hc hs]
        exact he
      · rename_i v h' hs
        simp only [stepA_mono hc hs]
        split at he
        · rename_i hcd
          rw [if_pos ⟨hcd.1, hcd.2.1, List.all_eq_true.2 fun y hy => lookA_mono hc (List.all_eq_true.1 hcd.2.2 y hy)⟩]
          exact he
        · cases he
      · cases he
  · rename_i hw
    rw [if_neg hw]
    exact he

theorem execD_mono {c c' : CallF} (hc : Le c c') {N m : Nat} : ∀ {l : List DO} {S : σ} {h : Heap} {r : σ × Heap}, execD c N m l S h = some r → execD c' N m l S h = some r
  | [], S, h, r, he => he
  | x :: l, S, h, r, he => by
    simp only [execD] at he ⊢
    split at he
    · rename_i v k ho
      rw [outD_mono hc ho]
      exact execD_mono hc he
    · cases he

theorem drawA_mono {c c' : CallF} (hc : Le c c') {m : Nat} {l : List DO} {S : σ} {h : Heap} {r : Ex × σ × Heap} (he : drawA c m l S h = some r) : drawA c' m l S h = some r := by
  unfold drawA at he ⊢
  split at he
  · rename_i hm
    rw [if_pos hm]
    split at he
    · rename_i S' h' hx
      rw [execD_mono hc hx]
      exact he
    · cases he
  · rename_i hm
    rw [if_neg hm]
    split at he
    · rename_i S' h' hx
      rw [execD_mono hc hx]
      exact he
    · cases he

theorem exec_mono {c c' : CallF} (hc : Le c c') : ∀ {n n' : Nat} {ac : AC} {S : σ} {h : Heap} {r : Ex × σ × Heap}, n ≤ n' → exec c n ac S h = some r → exec c' n' ac S h = some r
  | 0, n', ac, S, h, r, hn, he => by simp [exec] at he
  | n + 1, 0, ac, S, h, r, hn, he => by omega
  | n + 1, n' + 1, ac, S, h, r, hn, he => by
    have hn' : n ≤ n' := by omega
    cases ac with
    | skip => exact he
    | draw m l => simp only [exec] at he ⊢; exact drawA_mono hc he
    | sel d snd ch z ops =>
      simp only [exec] at he ⊢
      split at he
      · exact execOps_mono hc he
      · cases he
    | label l => exact he
    | exit id => exact he
    | ret => exact he
    | region ops d =>
      simp only [exec] at he ⊢
      split at he
      · rename_i hd; rw [if_pos hd]; exact execQ_mono hc he
      · rename_i hd; rw [if_neg hd]; exact execOps_mono hc he
    | seq a b =>
      simp only [exec] at he ⊢
      cases ha : exec c n a S h with
      | none => rw [ha] at he; simp at he
      | some q =>
        rw [exec_mono hc hn' ha]
        rw [ha] at he
        obtain ⟨x, S1, h1⟩ := q
        cases x with
        | norm => exact exec_mono hc hn' he
        | _ => exact he
    | cond o a b =>
      simp only [exec] at he ⊢
      split at he
      · exact exec_mono hc hn' he
      · exact exec_mono hc hn' he
      · simp at he
    | block id a =>
      simp only [exec] at he ⊢
      cases ha : exec c n a S h with
      | none => rw [ha] at he; simp at he
      | some q => rw [exec_mono hc hn' ha]; rw [ha] at he; exact he
    | loop a =>
      simp only [exec] at he ⊢
      cases ha : exec c n a S h with
      | none => rw [ha] at he; simp at he
      | some q =>
        rw [exec_mono hc hn' ha]
        rw [ha] at he
        obtain ⟨x, S1, h1⟩ := q
        cases x with
        | norm => exact exec_mono hc hn' he
        | _ => exact he
    | scope a => simp only [exec] at he ⊢; exact exec_mono hc hn' he

end

abbrev ExtF := CallF → Nat → Option (List V → Heap → Option (Out × Option Heap))

/-- What answers for some functions answers no less where more is known of calls. -/
def ExtMono (ext : ExtF) : Prop := ∀ c c', Le c c' → ∀ f, (ext c f = none → ext c' f = none) ∧ ∀ g, ext c f = some g → ∃ g', ext c' f = some g' ∧ ∀ a h r, g a h = some r → g' a h = some r

section
variable (F : Nat → Option AF) (ext : ExtF)

theorem callN_succ (hx : ExtMono ext) : ∀ k, Le (callN F ext k) (callN F ext (k + 1))
  | 0 => fun f a h r he => by simp [callN] at he
  | k + 1 => fun f a h r he => by
    have ih := callN_succ hx k
    obtain ⟨h1, h2⟩ := hx _ _ ih f
    rw [callN] at he ⊢
    cases hg : ext (callN F ext k) f with
    | some g =>
      obtain ⟨g', hg', hgg⟩ := h2 g hg
      rw [hg] at he
      rw [hg']
      exact hgg a h r he
    | none =>
      rw [hg] at he
      rw [h1 hg]
      simp only at he ⊢
      cases hf : F f with
      | none => rw [hf] at he; simp at he
      | some af =>
        rw [hf] at he
        simp only at he ⊢
        split at he
        · rename_i hle
          rw [if_pos hle]
          cases hq : exec (callN F ext k) k af.body (initS a) (enter h) with
          | none => rw [hq] at he; simp [finish] at he
          | some q => rw [exec_mono ih (Nat.le_succ k) hq]; rw [hq] at he; exact he
        · simp at he

theorem callN_mono (hx : ExtMono ext) {k k' : Nat} (h : k ≤ k') : Le (callN F ext k) (callN F ext k') := by
  induction h with
  | refl => exact Le.refl _
  | step h ih => exact fun f a hp r he => callN_succ F ext hx _ f a hp r (ih f a hp r he)

open Classical in
/-- What a call comes to. -/
noncomputable def Den : CallF := fun f a h => if hk : ∃ k r, callN F ext k f a h = some r then some hk.choose_spec.choose else none

open Classical in
/-- What code comes to. -/
noncomputable def Run (c : AC) (S : Nat → V) (h : Heap) : Option (Ex × (Nat → V) × Heap) :=
  if hk : ∃ k r, exec (callN F ext k) k c S h = some r then some hk.choose_spec.choose else none

variable {F ext}

theorem Den_of (hx : ExtMono ext) {k f : Nat} {a : List V} {h : Heap} {r : Out × Option Heap} (he : callN F ext k f a h = some r) : Den F ext f a h = some r := by
  have hk : ∃ k r, callN F ext k f a h = some r := ⟨k, r, he⟩
  unfold Den
  rw [dif_pos hk]
  have h1 := hk.choose_spec.choose_spec
  have h2 := callN_mono F ext hx (Nat.le_max_left k hk.choose) _ _ _ _ he
  have h3 := callN_mono F ext hx (Nat.le_max_right k hk.choose) _ _ _ _ h1
  rw [h2] at h3
  exact h3.symm

theorem of_Den {f : Nat} {a : List V} {h : Heap} {r : Out × Option Heap} (he : Den F ext f a h = some r) : ∃ k, callN F ext k f a h = some r := by
  unfold Den at he
  split at he
  · rename_i hk
    simp only [Option.some.injEq] at he
    exact ⟨hk.choose, by rw [← he]; exact hk.choose_spec.choose_spec⟩
  · simp at he

theorem Run_of (hx : ExtMono ext) {k : Nat} {c : AC} {S : Nat → V} {h : Heap} {r : Ex × (Nat → V) × Heap} (he : exec (callN F ext k) k c S h = some r) : Run F ext c S h = some r := by
  have hk : ∃ k r, exec (callN F ext k) k c S h = some r := ⟨k, r, he⟩
  unfold Run
  rw [dif_pos hk]
  have h1 := hk.choose_spec.choose_spec
  have h2 := exec_mono (callN_mono F ext hx (Nat.le_max_left k hk.choose)) (Nat.le_max_left k hk.choose) he
  have h3 := exec_mono (callN_mono F ext hx (Nat.le_max_right k hk.choose)) (Nat.le_max_right k hk.choose) h1
  rw [h2] at h3
  exact h3.symm

theorem of_Run {c : AC} {S : Nat → V} {h : Heap} {r : Ex × (Nat → V) × Heap} (he : Run F ext c S h = some r) : ∃ k, exec (callN F ext k) k c S h = some r := by
  unfold Run at he
  split at he
  · rename_i hk
    simp only [Option.some.injEq] at he
    exact ⟨hk.choose, by rw [← he]; exact hk.choose_spec.choose_spec⟩
  · simp at he

theorem le_Den (hx : ExtMono ext) (k : Nat) : Le (callN F ext k) (Den F ext) := fun _ _ _ _ h => Den_of hx h

theorem step_fin (hx : ExtMono ext) {op : AOp} {S : Nat → V} {h : Heap} {r : Out × Option Heap} (he : stepA (Den F ext) op S h = some r) : ∃ k, stepA (callN F ext k) op S h = some r := by
  cases op with
  | call f l => simp only [stepA] at he ⊢; exact of_Den he
  | callv x l =>
    simp only [stepA] at he ⊢
    split at he
    · exact of_Den he
    · simp at he
  | _ => exact ⟨0, he⟩

theorem ops_fin (hx : ExtMono ext) : ∀ {l : List AO} {S : Nat → V} {h : Heap} {r : Ex × (Nat → V) × Heap}, execOps (Den F ext) l S h = some r → ∃ k, execOps (callN F ext k) l S h = some r
  | [], S, h, r, he => ⟨0, he⟩
  | o :: l, S, h, r, he => by
    simp only [execOps] at he ⊢
    split at he
    · rename_i hw
      cases hs : stepA (Den F ext) o.op S h with
      | none => rw [hs] at he; simp at he
      | some q =>
        obtain ⟨k1, hk1⟩ := step_fin hx hs
        rw [hs] at he
        obtain ⟨out, oh⟩ := q
        have hrec : ∀ {S' : Nat → V} {h' : Heap}, execOps (Den F ext) l S' h' = some r → ∃ k, k1 ≤ k ∧ execOps (callN F ext k) l S' h' = some r := by
          intro S' h' he
          obtain ⟨k2, hk2⟩ := ops_fin hx he
          exact ⟨max k1 k2, Nat.le_max_left _ _, execOps_mono (callN_mono F ext hx (Nat.le_max_right _ _)) hk2⟩
        cases out with
        | val v =>
          cases oh with
          | none => obtain ⟨k, hk, hr⟩ := hrec he; exact ⟨k, by rw [if_pos hw, stepA_mono (callN_mono F ext hx hk) hk1]; exact hr⟩
          | some h' => obtain ⟨k, hk, hr⟩ := hrec he; exact ⟨k, by rw [if_pos hw, stepA_mono (callN_mono F ext hx hk) hk1]; exact hr⟩
        | pan v => cases oh <;> exact ⟨k1, by rw [if_pos hw, hk1]; exact he⟩
    · rename_i hw
      obtain ⟨k, hk⟩ := ops_fin hx he
      exact ⟨k, by rw [if_neg hw]; exact hk⟩

theorem q_fin (hx : ExtMono ext) : ∀ {l : List AO} {S : Nat → V} {h : Heap} {r : Ex × (Nat → V) × Heap}, execQ (Den F ext) l S h = some r → ∃ k, execQ (callN F ext k) l S h = some r
  | [], S, h, r, he => ⟨0, he⟩
  | o :: l, S, h, r, he => by
    simp only [execQ] at he ⊢
    split at he
    · rename_i hw
      cases hs : stepA (Den F ext) o.op S h with
      | none => rw [hs] at he; simp at he
      | some q =>
        obtain ⟨k1, hk1⟩ := step_fin hx hs
        rw [hs] at he
        obtain ⟨out, oh⟩ := q
        cases out with
        | val v =>
          cases oh with
          | none =>
            obtain ⟨k2, hk2⟩ := q_fin hx he
            refine ⟨max k1 k2, ?_⟩
            rw [if_pos hw, stepA_mono (callN_mono F ext hx (Nat.le_max_left k1 k2)) hk1]
            exact execQ_mono (callN_mono F ext hx (Nat.le_max_right k1 k2)) hk2
          | some h' => simp at he
        | pan v => cases oh <;> simp at he
    · rename_i hw
      obtain ⟨k, hk⟩ := q_fin hx he
      exact ⟨k, by rw [if_neg hw]; exact hk⟩

theorem look_fin (hx : ExtMono ext) {S : Nat → V} {h : Heap} {y : AO} (he : lookA (Den F ext) S h y = true) : ∃ k, lookA (callN F ext k) S h y = true := by
  unfold lookA at he ⊢
  split at he
  · rename_i hw
    split at he
    · rename_i v hs
      obtain ⟨k, hk⟩ := step_fin hx hs
      refine ⟨k, ?_⟩
      rw [if_pos hw, hk]
      exact he
    · cases he
  · rename_i hw
    exact ⟨0, by rw [if_neg hw]⟩

theorem looks_fin (hx : ExtMono ext) {S : Nat → V} {h : Heap} : ∀ {l : List AO}, l.all (lookA (Den F ext) S h) = true → ∃ k, l.all (lookA (callN F ext k) S h) = true
  | [], _ => ⟨0, rfl⟩
  | y :: l, he => by
    simp only [List.all_cons, Bool.and_eq_true] at he ⊢
    obtain ⟨k1, h1⟩ := look_fin hx he.1
    obtain ⟨k2, h2⟩ := looks_fin hx he.2
    refine ⟨max k1 k2, lookA_mono (callN_mono F ext hx (Nat.le_max_left _ _)) h1, ?_⟩
    exact List.all_eq_true.2 fun y hy => lookA_mono (callN_mono F ext hx (Nat.le_max_right _ _)) (List.all_eq_true.1 h2 y hy)

theorem outD_fin (hx : ExtMono ext) {N m : Nat} {x : DO} {S : Nat → V} {h : Heap} {r : V × KD} (he : outD (Den F ext) N m x S h = some r) : ∃ k, outD (callN F ext k) N m x S h = some r := by
  unfold outD at he ⊢
  split at he
  · rename_i hw
    split at he
    · rename_i k hk
      exact ⟨0, by rw [if_pos hw]; exact he⟩
    · rename_i hk
      split at he
      · rename_i v hs
        obtain ⟨k, hs'⟩ := step_fin hx hs
        exact ⟨k, by rw [if_pos hw]; simp only [hs']; exact he⟩
      · rename_i v h' hs
        split at he
        · rename_i hcd
          obtain ⟨k1, hs'⟩ := step_fin hx hs
          obtain ⟨k2, hl⟩ := looks_fin hx hcd.2.2
          refine ⟨max k1 k2, ?_⟩
          rw [if_pos hw]
          simp only [stepA_mono (callN_mono F ext hx (Nat.le_max_left k1 k2)) hs']
          rw [if_pos ⟨hcd.1, hcd.2.1, List.all_eq_true.2 fun y hy => lookA_mono (callN_mono F ext hx (Nat.le_max_right _ _)) (List.all_eq_true.1 hl y hy)⟩]
          exact he
        · cases he
      · cases he
  · rename_i hw
    exact ⟨0, by rw [if_neg hw]; exact he⟩

theorem execD_fin (hx : ExtMono ext) {N m : Nat} : ∀ {l : List DO} {S : Nat → V} {h : Heap} {r : (Nat → V) × Heap}, execD (Den F ext) N m l S h = some r → ∃ k, execD (callN F ext k) N m l S h = some r
  | [], S, h, r, he => ⟨0, he⟩
  | x :: l, S, h, r, he => by
    simp only [execD] at he ⊢
    split at he
    · rename_i v kd ho
      obtain ⟨k1, h1⟩ := outD_fin hx ho
      obtain ⟨k2, h2⟩ := execD_fin hx he
      refine ⟨max k1 k2, ?_⟩
      rw [outD_mono (callN_mono F ext hx (Nat.le_max_left k1 k2)) h1]
      exact execD_mono (callN_mono F ext hx (Nat.le_max_right k1 k2)) h2
    · cases he

theorem drawA_fin (hx : ExtMono ext) {m : Nat} {l : List DO} {S : Nat → V} {h : Heap} {r : Ex × (Nat → V) × Heap} (he : drawA (Den F ext) m l S h = some r) : ∃ k, drawA (callN F ext k) m l S h = some r := by
  unfold drawA at he ⊢
  split at he
  · rename_i hm
    split at he
    · rename_i S' h' hq
      obtain ⟨k, hk⟩ := execD_fin hx hq
      exact ⟨k, by rw [if_pos hm, hk]; exact he⟩
    · cases he
  · rename_i hm
    split at he
    · rename_i S' h' hq
      obtain ⟨k, hk⟩ := execD_fin hx hq
      exact ⟨k, by rw [if_neg hm, hk]; exact he⟩
    · cases he

variable (hx : ExtMono ext) (S : Nat → V) (h : Heap)
include hx

theorem Run_draw (m : Nat) (l : List DO) {r : Ex × (Nat → V) × Heap} (he : drawA (Den F ext) m l S h = some r) : Run F ext (.draw m l) S h = some r := by
  obtain ⟨k, hk⟩ := drawA_fin hx he
  exact Run_of hx (k := k + 1) (by simp only [exec]; exact drawA_mono (callN_succ F ext hx k) hk)

theorem Run_skip : Run F ext .skip S h = some (.norm, S, h) := Run_of hx (k := 1) rfl
theorem Run_label (l : Nat) : Run F ext (.label l) S h = some (.norm, S, h) := Run_of hx (k := 1) rfl
theorem Run_ret : Run F ext .ret S h = some (.ret, S, h) := Run_of hx (k := 1) rfl
theorem Run_exit (id : Nat) : Run F ext (.exit id) S h = some (.exit id, S, h) := Run_of hx (k := 1) rfl

theorem Run_region (ops : List AO) {r : Ex × (Nat → V) × Heap} (he : execOps (Den F ext) ops S h = some r) : Run F ext (.region ops false) S h = some r := by
  obtain ⟨k, hk⟩ := ops_fin hx he
  exact Run_of hx (k := k + 1) (by simp only [exec, Bool.false_eq_true, if_false]; exact execOps_mono (callN_succ F ext hx k) hk)

theorem Run_regionQ (ops : List AO) {r : Ex × (Nat → V) × Heap} (he : execQ (Den F ext) ops S h = some r) : Run F ext (.region ops true) S h = some r := by
  obtain ⟨k, hk⟩ := q_fin hx he
  exact Run_of hx (k := k + 1) (by simp only [exec, if_true]; exact execQ_mono (callN_succ F ext hx k) hk)

theorem up {k m : Nat} {c : AC} {S : Nat → V} {h : Heap} {r : Ex × (Nat → V) × Heap} (he : exec (callN F ext k) k c S h = some r) (hm : k ≤ m) : exec (callN F ext (m + 1)) m c S h = some r :=
  exec_mono (callN_mono F ext hx (by omega)) hm he

theorem Run_seq (a b : AC) {S' : Nat → V} {h' : Heap} {r : Ex × (Nat → V) × Heap} (ha : Run F ext a S h = some (.norm, S', h')) (hb : Run F ext b S' h' = some r) : Run F ext (.seq a b) S h = some r := by
  obtain ⟨k1, e1⟩ := of_Run ha
  obtain ⟨k2, e2⟩ := of_Run hb
  refine Run_of hx (k := max k1 k2 + 1) ?_
  simp only [exec, up hx e1 (Nat.le_max_left k1 k2)]
  exact up hx e2 (Nat.le_max_right k1 k2)

theorem Run_seq_out (a b : AC) {x : Ex} {S' : Nat → V} {h' : Heap} (hne : x ≠ .norm) (ha : Run F ext a S h = some (x, S', h')) : Run F ext (.seq a b) S h = some (x, S', h') := by
  obtain ⟨k1, e1⟩ := of_Run ha
  refine Run_of hx (k := k1 + 1) ?_
  simp only [exec, up hx e1 (Nat.le_refl k1)]
  cases x with
  | norm => exact absurd rfl hne
  | _ => rfl

theorem Run_cond (o : Opd) (a b : AC) {t : Bool} (ho : o.ev S = .bool t) : Run F ext (.cond o a b) S h = Run F ext (if t = true then a else b) S h := by
  cases hr : Run F ext (if t = true then a else b) S h with
  | some r =>
    obtain ⟨k, e⟩ := of_Run hr
    refine Run_of hx (k := k + 1) ?_
    cases t <;> simp only [exec, ho] <;> exact up hx e (Nat.le_refl k)
  | none =>
    cases hq : Run F ext (.cond o a b) S h with
    | none => rfl
    | some r =>
      obtain ⟨k, e⟩ := of_Run hq
      cases k with
      | zero => simp [exec] at e
      | succ k =>
        have : Run F ext (if t = true then a else b) S h = some r := by
          refine Run_of hx (k := k + 1) ?_
          cases t <;> simp only [exec, ho] at e <;> exact exec_mono (Le.refl _) (Nat.le_succ k) e
        rw [hr] at this
        exact this.symm

theorem Run_block (id : Nat) (c : AC) {x : Ex} {S' : Nat → V} {h' : Heap} (hc : Run F ext c S h = some (x, S', h')) :
    Run F ext (.block id c) S h = some ((match x with | .exit i => if i = id then .norm else .exit i | x => x), S', h') := by
  obtain ⟨k, e⟩ := of_Run hc
  refine Run_of hx (k := k + 1) ?_
  simp only [exec, up hx e (Nat.le_refl k)]
  cases x with
  | exit i => by_cases hi : i = id <;> simp [hi]
  | _ => rfl

theorem Run_scope (c : AC) {r : Ex × (Nat → V) × Heap} (hc : Run F ext c S h = some r) : Run F ext (.scope c) S h = some r := by
  obtain ⟨k, e⟩ := of_Run hc
  exact Run_of hx (k := k + 1) (by simp only [exec]; exact up hx e (Nat.le_refl k))

theorem Run_loop (c : AC) {S' : Nat → V} {h' : Heap} {r : Ex × (Nat → V) × Heap} (hc : Run F ext c S h = some (.norm, S', h')) (hl : Run F ext (.loop c) S' h' = some r) : Run F ext (.loop c) S h = some r := by
  obtain ⟨k1, e1⟩ := of_Run hc
  obtain ⟨k2, e2⟩ := of_Run hl
  refine Run_of hx (k := max k1 k2 + 1) ?_
  simp only [exec, up hx e1 (Nat.le_max_left k1 k2)]
  exact up hx e2 (Nat.le_max_right k1 k2)

theorem Run_loop_out (c : AC) {x : Ex} {S' : Nat → V} {h' : Heap} (hne : x ≠ .norm) (hc : Run F ext c S h = some (x, S', h')) : Run F ext (.loop c) S h = some (x, S', h') := by
  obtain ⟨k1, e1⟩ := of_Run hc
  refine Run_of hx (k := k1 + 1) ?_
  simp only [exec, up hx e1 (Nat.le_refl k1)]
  cases x with
  | norm => exact absurd rfl hne
  | _ => rfl

omit S in
/-- A call. -/
theorem Den_call {f : Nat} {a : AF} {args : List V} (hF : F f = some a) (hE : ∀ c, ext c f = none) (hn : args.length ≤ a.n) {r : Ex × (Nat → V) × Heap} (hr : Run F ext a.body (initS args) (enter h) = some r) {q : Out × Option Heap} (hq : finish a h (some r) = some q) :
    Den F ext f args h = some q := by
  obtain ⟨k, e⟩ := of_Run hr
  refine Den_of hx (k := k + 1) ?_
  simp only [callN, hE, hF, if_pos hn, e, hq]

end
end AM

/- AM, part 19: from what a call comes to, to the row's own words. -/
namespace AM
open Go
open Go.RowKit (Hid)
set_option linter.unusedVariables false
set_option linter.unusedSimpArgs false
set_option linter.unusedSectionVars false

/-- Nothing of what was there has turned. -/
def Kept (w w' : World) : Prop := w'.os = w.os ∧ w'.output = w.output ∧ w.heap.size ≤ w'.heap.size ∧ ∀ b, b < w.heap.size → w'.heap[b]? = w.heap[b]?

theorem Kept.but {w w' : World} (h : Kept w w') (may : MemPlace → Prop) : w.keptBut w' may := by
  refine ⟨h.1, h.2.1, fun i hi => ?_⟩
  rw [h.2.2.2 i hi]
  split
  · rename_i e1 e2
    rw [e1] at e2
    simp only [Option.some.injEq, Go.Obj.cells.injEq] at e2
    obtain ⟨rfl, rfl, rfl⟩ := e2
    exact ⟨rfl, rfl, rfl, fun _ _ => rfl⟩
  · rename_i e1 e2
    rw [e1] at e2
    simp only [Option.some.injEq, Go.Obj.map.injEq] at e2
    obtain ⟨rfl, rfl⟩ := e2
    exact .inr ⟨rfl, rfl⟩
  · rfl

theorem Kept.frozen {w w' : World} (h : Kept w w') {a : Addr} (ha : a.block < w.heap.size) : w'.frozen? a = w.frozen? a := by
  simp only [World.frozen?, h.2.2.2 a.block ha]

section
variable {H : Type} {enc : TypeId × Value → H} {P : Program}

/-- What a function that turns nothing leaves. -/
theorem post_kept {f : Func} {s : ChangeSpec} {apart fresh handsOn again : Bool} {W W' : World} {args : Array Value} {v : Value} {ds gs : List (DataW H)} {before pa pv : List MemPlace}
    (hW : DataW.Whole enc P f.params.toList s.vars apart W args.toList ds gs before)
    (hres : ∀ (b : Nat) (sp : Nat → Bool) (hd : Bool), DataW.TrodAll enc P W' b sp hd f.resultTypes.toList (v.resultList f.resultTypes.size) (s.fn H (ds ++ gs)).results [])
    (hargs : ∀ sp : Nat → Bool, (∀ p ∈ before, sp p.block = true) → DataW.TrodAll enc P W' 0 sp true f.params.toList args.toList (s.fn H (ds ++ gs)).args pa)
    (hvars : ∀ sp : Nat → Bool, (∀ p ∈ before, sp p.block = true) → DataW.TrodVars enc P W' sp s.vars (s.fn H (ds ++ gs)).vars pv)
    (hps : before = pa ++ pv) (hk : Kept W W')
    (hok : ∀ (j : Nat) (t : TypeId) (r : Value), f.resultTypes[j]? = some t → (v.resultList f.resultTypes.size)[j]? = some r → Value.okWide P W' .any 0 t r) :
    s.post enc P f apart fresh handsOn again W args v W' := by
  have hold : ∀ p ∈ before, (fun b => decide (b < W.heap.size)) p.block = true := fun p hp => by simpa using hW.lt p hp
  have hlt : ∀ b off, MemPlace.cell b off ∈ before → b < W.heap.size := fun b off hp => by simpa [MemPlace.block] using hW.lt _ hp
  refine ⟨ds, gs, before, [], pa, pv, hW, hres _ _ _, hargs _ hold, hvars _ hold, hk.but _, fun _ => ?_⟩
  obtain ⟨_, _, _, _, _, hz, hn⟩ := hW
  refine ⟨hok, _, _, ([] ++ pa) ++ pv, ⟨[] ++ pa, pv, Go.ChangeShapes.trodAll_append (hargs _ (fun _ _ => rfl)) (hres _ _ _), hvars _ (fun _ _ => rfl), rfl, ?_, ?_⟩, ?_⟩
  · intro b off hp
    have hp' : MemPlace.cell b off ∈ before := by rw [hps]; simpa using hp
    rw [hk.frozen (a := ⟨b, off, none⟩) (hlt b off hp')]
    exact hz b off hp'
  · intro ha
    have := hn ha
    rw [hps] at this
    simpa using this
  · intro p hp _
    rw [hps]
    simpa using hp

/-- No object of one's own. -/
def NoOwn (h : Heap) : Prop := ∀ (l : Nat) (o : Obj), h.o[l]? = some o → o.own = false

theorem kept_of_nx {ι κ : Map} {h h' : Heap} {w w' : World} (hn : Nx ι h w κ h' w') (ho : NoOwn h) : Kept w w' :=
  ⟨hn.fr.os, hn.fr.output, hn.fr.size, fun b hb => hn.fr.keep b hb (fun ⟨l, o, hl, hown, _⟩ => by rw [ho l o hl] at hown; cases hown)⟩

/-- A call that comes to a plain value. -/
theorem calls_of_den (hm : P.follows .mixedOrders = true) {F : Nat → Option AF} (hF : ∀ f af, F f = some af → trProg P f = some af) {ext : ExtF}
    (hext : ∀ call, CallOk P call → ∀ f g args h out oh, ext call f = some g → g args h = some (out, oh) → callOk P f = true ∧ ∀ ι w, HR ι h.o w → V.scs h.o.length args →
      Calls P f (V.reals ι args).toArray w fun e w' => ∃ κ, Nx ι h w κ (oh.getD h) w' ∧ OutOk κ (oh.getD h).o.length e out)
    {f : Nat} {args : List V} {h : Heap} {v : V} {oh : Option Heap} (hd : Den F ext f args h = some (.val v, oh)) (ho : NoOwn h) (hv : v.plain = true) {ι : Map} {w : World} (hr : HR ι h.o w) (hs : V.scs h.o.length args) :
    Calls P f (V.reals ι args).toArray w fun e w' => e = .returned (v.real ι) ∧ Kept w w' := by
  obtain ⟨k, hk⟩ := of_Den hd
  refine ((callN_ok hm hF hext k _ _ _ _ _ hk).2 ι w hr hs).mono fun e w' ⟨κ, hn, hm⟩ => ?_
  have hm' : e = .returned (v.real κ) := hm.1
  refine ⟨?_, kept_of_nx hn ho⟩
  rw [hm']
  have h0 : v.real κ = v.real ι := V.real_agree (n := 0) (fun l hl => absurd hl (Nat.not_lt_zero l)) v (V.sc_of_plain 0 v hv)
  rw [h0]
end
end AM

/- AM, part 20: code as equations. -/
namespace AM
open Go
set_option linter.unusedVariables false
set_option linter.unusedSimpArgs false
set_option linter.unusedSectionVars false

section
variable {F : Nat → Option AF} {ext : ExtF}

theorem ext_eq {α : Type} {o o' : Option α} (h1 : ∀ r, o = some r → o' = some r) (h2 : ∀ r, o' = some r → o = some r) : o = o' := by
  cases o with
  | some r => exact (h1 r rfl).symm
  | none => cases o' with
    | none => rfl
    | some r => exact h2 r rfl

variable (hx : ExtMono ext) (S : Nat → V) (h : Heap)
include hx

theorem eq_skip : Run F ext .skip S h = some (.norm, S, h) := Run_skip hx S h
theorem eq_label (l : Nat) : Run F ext (.label l) S h = some (.norm, S, h) := Run_label hx S h l
theorem eq_ret : Run F ext .ret S h = some (.ret, S, h) := Run_ret hx S h
theorem eq_exit (id : Nat) : Run F ext (.exit id) S h = some (.exit id, S, h) := Run_exit hx S h id

theorem eq_region (ops : List AO) : Run F ext (.region ops false) S h = execOps (Den F ext) ops S h := by
  refine ext_eq (fun r hr => ?_) (fun r hr => Run_region hx S h ops hr)
  obtain ⟨k, e⟩ := of_Run hr
  cases k with
  | zero => simp [exec] at e
  | succ k => simp only [exec, Bool.false_eq_true, if_false] at e; exact execOps_mono (le_Den hx _) e

theorem eq_regionQ (ops : List AO) : Run F ext (.region ops true) S h = execQ (Den F ext) ops S h := by
  refine ext_eq (fun r hr => ?_) (fun r hr => Run_regionQ hx S h ops hr)
  obtain ⟨k, e⟩ := of_Run hr
  cases k with
  | zero => simp [exec] at e
  | succ k => simp only [exec, if_true] at e; exact execQ_mono (le_Den hx _) e

theorem eq_draw (m : Nat) (l : List DO) : Run F ext (.draw m l) S h = drawA (Den F ext) m l S h := by
  refine ext_eq (fun r hr => ?_) (fun r hr => Run_draw hx S h m l hr)
  obtain ⟨k, e⟩ := of_Run hr
  cases k with
  | zero => simp [exec] at e
  | succ k => simp only [exec] at e; exact drawA_mono (le_Den hx _) e

theorem eq_sel (d : Option Nat) (snd : Option Opd) (ch : Opd) (z : V) (ops : List AO) : Run F ext (.sel d snd ch z ops) S h = match selA snd ch z S h with
    | some (v, h') => Run F ext (.region ops false) (putO S d v) h'
    | none => none := by
  refine ext_eq (fun r hr => ?_) (fun r hr => ?_)
  · obtain ⟨k, e⟩ := of_Run hr
    cases k with
    | zero => simp [exec] at e
    | succ k =>
      simp only [exec] at e
      split at e
      · rename_i v h1 hsel
        rw [hsel]
        exact Run_region hx _ _ ops (execOps_mono (le_Den hx _) e)
      · cases e
  · split at hr
    · rename_i v h1 hsel
      obtain ⟨k, e⟩ := of_Run hr
      cases k with
      | zero => simp [exec] at e
      | succ k =>
        have e2 : exec (callN F ext (k + 1)) (k + 1) (.sel d snd ch z ops) S h = some r := by
          simp only [exec, hsel]
          simpa only [exec, Bool.false_eq_true, if_false] using e
        exact Run_of hx e2
    · cases hr

theorem eq_seq (a b : AC) : Run F ext (.seq a b) S h = match Run F ext a S h with
    | some (.norm, S', h') => Run F ext b S' h'
    | r => r := by
  refine ext_eq (fun r hr => ?_) (fun r hr => ?_)
  · obtain ⟨k, e⟩ := of_Run hr
    cases k with
    | zero => simp [exec] at e
    | succ k =>
      simp only [exec] at e
      cases ha : exec (callN F ext (k + 1)) k a S h with
      | none => rw [ha] at e; simp at e
      | some q =>
        have ha' := Run_of hx (exec_mono (Le.refl _) (Nat.le_succ k) ha)
        rw [ha] at e
        rw [ha']
        obtain ⟨x, S', h'⟩ := q
        cases x with
        | norm => exact Run_of hx (exec_mono (Le.refl _) (Nat.le_succ k) e)
        | _ => exact e
  · cases ha : Run F ext a S h with
    | none => rw [ha] at hr; simp at hr
    | some q =>
      obtain ⟨x, S', h'⟩ := q
      rw [ha] at hr
      cases x with
      | norm => exact Run_seq hx S h a b ha hr
      | _ => simp only [Option.some.injEq] at hr; subst hr; exact Run_seq_out hx S h a b (by simp) ha

theorem eq_cond (o : Opd) (a b : AC) : Run F ext (.cond o a b) S h = match o.ev S with
    | .bool true => Run F ext a S h
    | .bool false => Run F ext b S h
    | _ => none := by
  split
  · rename_i ho; rw [Run_cond hx S h o a b ho]; rfl
  · rename_i ho; rw [Run_cond hx S h o a b ho]; rfl
  · rename_i h1 h2
    cases hr : Run F ext (.cond o a b) S h with
    | none => rfl
    | some r =>
      obtain ⟨k, e⟩ := of_Run hr
      cases k with
      | zero => simp [exec] at e
      | succ k =>
        simp only [exec] at e
        simp at e

theorem eq_block (id : Nat) (c : AC) : Run F ext (.block id c) S h = match Run F ext c S h with
    | some (.exit i, S', h') => if i = id then some (.norm, S', h') else some (.exit i, S', h')
    | r => r := by
  refine ext_eq (fun r hr => ?_) (fun r hr => ?_)
  · obtain ⟨k, e⟩ := of_Run hr
    cases k with
    | zero => simp [exec] at e
    | succ k =>
      simp only [exec] at e
      cases ha : exec (callN F ext (k + 1)) k c S h with
      | none => rw [ha] at e; simp at e
      | some q =>
        have ha' := Run_of hx (exec_mono (Le.refl _) (Nat.le_succ k) ha)
        rw [ha] at e
        rw [ha']
        obtain ⟨x, S', h'⟩ := q
        cases x <;> exact e
  · cases ha : Run F ext c S h with
    | none => rw [ha] at hr; simp at hr
    | some q =>
      obtain ⟨x, S', h'⟩ := q
      rw [ha] at hr
      rw [Run_block hx S h id c ha]
      rw [← hr]
      cases x with
      | exit i => by_cases hi : i = id <;> simp [hi]
      | _ => rfl

theorem eq_scope (c : AC) : Run F ext (.scope c) S h = Run F ext c S h := by
  refine ext_eq (fun r hr => ?_) (fun r hr => Run_scope hx S h c hr)
  obtain ⟨k, e⟩ := of_Run hr
  cases k with
  | zero => simp [exec] at e
  | succ k => simp only [exec] at e; exact Run_of hx (exec_mono (Le.refl _) (Nat.le_succ k) e)

end

section
variable {call : CallF} {S : Nat → V} {h : Heap} {r : List AO} {d : Option Nat}

/-- One operation: a panic's value, if it panics; the slots; the heap, if it has turned. -/
def execO (call : CallF) (o : AO) (S : Nat → V) (h : Heap) : Option (Option V × (Nat → V) × Option Heap) :=
  if wantedA S o.g = true then
    match stepA call o.op S h with
    | some (.val v, oh) => some (none, putO S o.d v, oh)
    | some (.pan v, oh) => some (some v, S, oh)
    | none => none
  else some (none, putO S o.d undefV, none)

theorem ops_nil : execOps call [] S h = some (.norm, S, h) := rfl
theorem ops_cons (o : AO) : execOps call (o :: r) S h = match execO call o S h with
    | some (none, S', none) => execOps call r S' h
    | some (none, S', some h') => execOps call r S' h'
    | some (some v, S', none) => some (.pan v, S', h)
    | some (some v, S', some h') => some (.pan v, S', h')
    | none => none := by
  unfold execO
  simp only [execOps]
  split
  · cases stepA call o.op S h with
    | none => rfl
    | some q => obtain ⟨out, oh⟩ := q; cases out <;> cases oh <;> rfl
  · rfl
theorem q_nil : execQ call [] S h = some (.norm, S, h) := rfl
theorem q_cons (o : AO) : execQ call (o :: r) S h = match execO call o S h with
    | some (none, S', none) => execQ call r S' h
    | _ => none := by
  unfold execO
  simp only [execQ]
  split
  · cases stepA call o.op S h with
    | none => rfl
    | some q => obtain ⟨out, oh⟩ := q; cases out <;> cases oh <;> rfl
  · rfl
theorem o_guard (op : AOp) (j : Nat) (w : Bool) : execO call ⟨d, op, some (j, w)⟩ S h = match S j with
    | .bool b => if b = w then execO call ⟨d, op, none⟩ S h else some (none, putO S d undefV, none)
    | _ => some (none, putO S d undefV, none) := by
  unfold execO
  simp only [wantedA, if_true]
  show (if (match S j with | .bool b => b == w | _ => false) = true then _ else _) = _
  cases S j with
  | bool b => simp only [beq_iff_eq]
  | _ => rfl
theorem o_mv (x : Opd) : execO call ⟨d, .mv x, none⟩ S h = some (none, putO S d (x.ev S), none) := rfl
theorem o_bin (o : BinOp) (x y : Opd) : execO call ⟨d, .bin o x y, none⟩ S h = match binA o (x.ev S) (y.ev S) with
    | some v => some (none, putO S d v, none)
    | none => none := by
  simp only [execO, wantedA, if_true, stepA, stepV]
  cases binA o (x.ev S) (y.ev S) <;> rfl
theorem o_eqf (neg agg : Bool) (ks : List (Nat × Kd)) (x y : Opd) : execO call ⟨d, .eqf neg agg ks x y, none⟩ S h = match eqA agg ks (x.ev S) (y.ev S) with
    | some b => some (none, putO S d (.bool (if neg = true then !b else b)), none)
    | none => none := by
  simp only [execO, wantedA, if_true, stepA, stepV]
  cases eqA agg ks (x.ev S) (y.ev S) <;> rfl
theorem o_un (o : UnOp) (x : Opd) : execO call ⟨d, .un o x, none⟩ S h = match unA o (x.ev S) with
    | some v => some (none, putO S d v, none)
    | none => none := by
  simp only [execO, wantedA, if_true, stepA, stepV]
  cases unA o (x.ev S) <;> rfl
theorem o_pick (c a b : Opd) : execO call ⟨d, .pick c a b, none⟩ S h = match c.ev S with
    | .bool t => some (none, putO S d (if t = true then a.ev S else b.ev S), none)
    | _ => none := by
  simp only [execO, wantedA, if_true, stepA, stepV]
  cases c.ev S <;> rfl
theorem o_call (f : Nat) (args : List Opd) : execO call ⟨d, .call f args, none⟩ S h = match call f (evs S args) h with
    | some (.val v, oh) => some (none, putO S d v, oh)
    | some (.pan v, oh) => some (some v, S, oh)
    | none => none := rfl
theorem o_callv (x : Opd) (args : List Opd) : execO call ⟨d, .callv x args, none⟩ S h = match x.ev S with
    | .fn f first caps => match call f (first ++ evs S args ++ caps) h with
      | some (.val v, oh) => some (none, putO S d v, oh)
      | some (.pan v, oh) => some (some v, S, oh)
      | none => none
    | _ => none := by
  simp only [execO, wantedA, if_true, stepA]
  cases x.ev S <;> rfl
/-- The other operations. -/
theorem o_V (op : AOp) (h1 : ∀ f l, op ≠ .call f l) (h2 : ∀ x l, op ≠ .callv x l) (h3 : ∀ x, op ≠ .panic x) : execO call ⟨d, op, none⟩ S h = match stepV op S h with
    | some (v, oh) => some (none, putO S d v, oh)
    | none => none := by
  have hs : stepA call op S h = match stepV op S h with | some (v, oh) => some (.val v, oh) | none => none := by
    cases op <;> first | rfl | exact absurd rfl (h1 _ _) | exact absurd rfl (h2 _ _) | exact absurd rfl (h3 _)
  simp only [execO, wantedA, if_true, hs]
  cases stepV op S h with
  | none => rfl
  | some q => obtain ⟨v, oh⟩ := q; rfl
theorem o_nck (x : Opd) : execO call ⟨d, .nck x, none⟩ S h = match stepV (.nck x) S h with | some (v, oh) => some (none, putO S d v, oh) | none => none := o_V _ (fun _ _ => by simp) (fun _ _ => by simp) (fun _ => by simp)
theorem o_load (n : Option Nat) (x : Opd) : execO call ⟨d, .load n x, none⟩ S h = match stepV (.load n x) S h with | some (v, oh) => some (none, putO S d v, oh) | none => none := o_V _ (fun _ _ => by simp) (fun _ _ => by simp) (fun _ => by simp)
theorem o_store (n : Nat) (x v : Opd) : execO call ⟨d, .store n x v, none⟩ S h = match stepV (.store n x v) S h with | some (v, oh) => some (none, putO S d v, oh) | none => none := o_V _ (fun _ _ => by simp) (fun _ _ => by simp) (fun _ => by simp)
theorem o_alloc (t : Nat) (z : List V) : execO call ⟨d, .alloc t z, none⟩ S h = match stepV (.alloc t z) S h with | some (v, oh) => some (none, putO S d v, oh) | none => none := o_V _ (fun _ _ => by simp) (fun _ _ => by simp) (fun _ => by simp)
theorem o_box (t : Nat) (x : Opd) : execO call ⟨d, .box t x, none⟩ S h = match stepV (.box t x) S h with | some (v, oh) => some (none, putO S d v, oh) | none => none := o_V _ (fun _ _ => by simp) (fun _ _ => by simp) (fun _ => by simp)
theorem o_build (z : List V) (ps : List (Nat × Nat × Opd)) : execO call ⟨d, .build z ps, none⟩ S h = match stepV (.build z ps) S h with | some (v, oh) => some (none, putO S d v, oh) | none => none := o_V _ (fun _ _ => by simp) (fun _ _ => by simp) (fun _ => by simp)
theorem o_bslice (t e : Nat) (z : List V) (ps : List (Nat × Nat × Opd)) : execO call ⟨d, .bslice t e z ps, none⟩ S h = match stepV (.bslice t e z ps) S h with | some (v, oh) => some (none, putO S d v, oh) | none => none := o_V _ (fun _ _ => by simp) (fun _ _ => by simp) (fun _ => by simp)
theorem o_faddr (off : Nat) (x : Opd) : execO call ⟨d, .faddr off x, none⟩ S h = match stepV (.faddr off x) S h with | some (v, oh) => some (none, putO S d v, oh) | none => none := o_V _ (fun _ _ => by simp) (fun _ _ => by simp) (fun _ => by simp)
theorem o_field (off : Nat) (n : Option Nat) (x : Opd) : execO call ⟨d, .field off n x, none⟩ S h = match stepV (.field off n x) S h with | some (v, oh) => some (none, putO S d v, oh) | none => none := o_V _ (fun _ _ => by simp) (fun _ _ => by simp) (fun _ => by simp)
theorem o_iaddrA (len e : Nat) (x i : Opd) : execO call ⟨d, .iaddrA len e x i, none⟩ S h = match stepV (.iaddrA len e x i) S h with | some (v, oh) => some (none, putO S d v, oh) | none => none := o_V _ (fun _ _ => by simp) (fun _ _ => by simp) (fun _ => by simp)
theorem o_iaddrS (e : Nat) (x i : Opd) : execO call ⟨d, .iaddrS e x i, none⟩ S h = match stepV (.iaddrS e x i) S h with | some (v, oh) => some (none, putO S d v, oh) | none => none := o_V _ (fun _ _ => by simp) (fun _ _ => by simp) (fun _ => by simp)
theorem o_idxA (len e : Nat) (n : Option Nat) (x i : Opd) : execO call ⟨d, .idxA len e n x i, none⟩ S h = match stepV (.idxA len e n x i) S h with | some (v, oh) => some (none, putO S d v, oh) | none => none := o_V _ (fun _ _ => by simp) (fun _ _ => by simp) (fun _ => by simp)
theorem o_idxS (x i : Opd) : execO call ⟨d, .idxS x i, none⟩ S h = match stepV (.idxS x i) S h with | some (v, oh) => some (none, putO S d v, oh) | none => none := o_V _ (fun _ _ => by simp) (fun _ _ => by simp) (fun _ => by simp)
theorem o_slS (x : Opd) (lo hi : Option Opd) : execO call ⟨d, .slS x lo hi, none⟩ S h = match stepV (.slS x lo hi) S h with | some (v, oh) => some (none, putO S d v, oh) | none => none := o_V _ (fun _ _ => by simp) (fun _ _ => by simp) (fun _ => by simp)
theorem o_slL (e : Nat) (x : Opd) (lo hi : Option Opd) : execO call ⟨d, .slL e x lo hi, none⟩ S h = match stepV (.slL e x lo hi) S h with | some (v, oh) => some (none, putO S d v, oh) | none => none := o_V _ (fun _ _ => by simp) (fun _ _ => by simp) (fun _ => by simp)
theorem o_slA (len e : Nat) (x : Opd) (lo hi : Option Opd) : execO call ⟨d, .slA len e x lo hi, none⟩ S h = match stepV (.slA len e x lo hi) S h with | some (v, oh) => some (none, putO S d v, oh) | none => none := o_V _ (fun _ _ => by simp) (fun _ _ => by simp) (fun _ => by simp)
theorem o_toInt (k : IntKind) (x : Opd) : execO call ⟨d, .toInt k x, none⟩ S h = match stepV (.toInt k x) S h with | some (v, oh) => some (none, putO S d v, oh) | none => none := o_V _ (fun _ _ => by simp) (fun _ _ => by simp) (fun _ => by simp)
theorem o_toStr (x : Opd) : execO call ⟨d, .toStr x, none⟩ S h = match stepV (.toStr x) S h with | some (v, oh) => some (none, putO S d v, oh) | none => none := o_V _ (fun _ _ => by simp) (fun _ _ => by simp) (fun _ => by simp)
theorem o_cpS (x : Opd) : execO call ⟨d, .cpS x, none⟩ S h = match stepV (.cpS x) S h with | some (v, oh) => some (none, putO S d v, oh) | none => none := o_V _ (fun _ _ => by simp) (fun _ _ => by simp) (fun _ => by simp)
theorem o_toBytes (t : Nat) (x : Opd) : execO call ⟨d, .toBytes t x, none⟩ S h = match stepV (.toBytes t x) S h with | some (v, oh) => some (none, putO S d v, oh) | none => none := o_V _ (fun _ _ => by simp) (fun _ _ => by simp) (fun _ => by simp)
theorem o_extract (x : Opd) (i : Nat) : execO call ⟨d, .extract x i, none⟩ S h = match stepV (.extract x i) S h with | some (v, oh) => some (none, putO S d v, oh) | none => none := o_V _ (fun _ _ => by simp) (fun _ _ => by simp) (fun _ => by simp)
theorem o_mkf (f : Nat) (a b : List Opd) : execO call ⟨d, .mkf f a b, none⟩ S h = match stepV (.mkf f a b) S h with | some (v, oh) => some (none, putO S d v, oh) | none => none := o_V _ (fun _ _ => by simp) (fun _ _ => by simp) (fun _ => by simp)
theorem o_mki (t : Nat) (x : Opd) : execO call ⟨d, .mki t x, none⟩ S h = match stepV (.mki t x) S h with | some (v, oh) => some (none, putO S d v, oh) | none => none := o_V _ (fun _ _ => by simp) (fun _ _ => by simp) (fun _ => by simp)
theorem o_lenS (x : Opd) : execO call ⟨d, .lenS x, none⟩ S h = match stepV (.lenS x) S h with | some (v, oh) => some (none, putO S d v, oh) | none => none := o_V _ (fun _ _ => by simp) (fun _ _ => by simp) (fun _ => by simp)
theorem o_lenL (x : Opd) : execO call ⟨d, .lenL x, none⟩ S h = match stepV (.lenL x) S h with | some (v, oh) => some (none, putO S d v, oh) | none => none := o_V _ (fun _ _ => by simp) (fun _ _ => by simp) (fun _ => by simp)
theorem o_lenA (n : Nat) : execO call ⟨d, .lenA n, none⟩ S h = match stepV (.lenA n) S h with | some (v, oh) => some (none, putO S d v, oh) | none => none := o_V _ (fun _ _ => by simp) (fun _ _ => by simp) (fun _ => by simp)
theorem o_copyS (x y : Opd) : execO call ⟨d, .copyS x y, none⟩ S h = match stepV (.copyS x y) S h with | some (v, oh) => some (none, putO S d v, oh) | none => none := o_V _ (fun _ _ => by simp) (fun _ _ => by simp) (fun _ => by simp)
theorem o_copyL (e : Nat) (x y : Opd) : execO call ⟨d, .copyL e x y, none⟩ S h = match stepV (.copyL e x y) S h with | some (v, oh) => some (none, putO S d v, oh) | none => none := o_V _ (fun _ _ => by simp) (fun _ _ => by simp) (fun _ => by simp)
theorem o_clearL (e : Nat) (z : List V) (x : Opd) : execO call ⟨d, .clearL e z x, none⟩ S h = match stepV (.clearL e z x) S h with | some (v, oh) => some (none, putO S d v, oh) | none => none := o_V _ (fun _ _ => by simp) (fun _ _ => by simp) (fun _ => by simp)
theorem o_minmax (mx : Bool) (xs : List Opd) : execO call ⟨d, .minmax mx xs, none⟩ S h = match stepV (.minmax mx xs) S h with | some (v, oh) => some (none, putO S d v, oh) | none => none := o_V _ (fun _ _ => by simp) (fun _ _ => by simp) (fun _ => by simp)
theorem o_app (t e bytes : Nat) (z : List V) (x y : Opd) : execO call ⟨d, .app t e bytes z x y, none⟩ S h = match stepV (.app t e bytes z x y) S h with | some (v, oh) => some (none, putO S d v, oh) | none => none := o_V _ (fun _ _ => by simp) (fun _ _ => by simp) (fun _ => by simp)
theorem o_appS (t bytes : Nat) (z : List V) (x y : Opd) : execO call ⟨d, .appS t bytes z x y, none⟩ S h = match stepV (.appS t bytes z x y) S h with | some (v, oh) => some (none, putO S d v, oh) | none => none := o_V _ (fun _ _ => by simp) (fun _ _ => by simp) (fun _ => by simp)
theorem o_mkSlice (t e bytes : Nat) (z : List V) (l c : Opd) : execO call ⟨d, .mkSlice t e bytes z l c, none⟩ S h = match stepV (.mkSlice t e bytes z l c) S h with | some (v, oh) => some (none, putO S d v, oh) | none => none := o_V _ (fun _ _ => by simp) (fun _ _ => by simp) (fun _ => by simp)
theorem o_mkChan (n : Nat) : execO call ⟨d, .mkChan n, none⟩ S h = match stepV (.mkChan n) S h with | some (v, oh) => some (none, putO S d v, oh) | none => none := o_V _ (fun _ _ => by simp) (fun _ _ => by simp) (fun _ => by simp)
theorem o_lenC (x : Opd) : execO call ⟨d, .lenC x, none⟩ S h = match stepV (.lenC x) S h with | some (v, oh) => some (none, putO S d v, oh) | none => none := o_V _ (fun _ _ => by simp) (fun _ _ => by simp) (fun _ => by simp)
theorem o_sdata (x : Opd) : execO call ⟨d, .sdata x, none⟩ S h = match stepV (.sdata x) S h with | some (v, oh) => some (none, putO S d v, oh) | none => none := o_V _ (fun _ _ => by simp) (fun _ _ => by simp) (fun _ => by simp)
theorem o_ustr (e : Nat) (p n : Opd) : execO call ⟨d, .ustr e p n, none⟩ S h = match stepV (.ustr e p n) S h with | some (v, oh) => some (none, putO S d v, oh) | none => none := o_V _ (fun _ _ => by simp) (fun _ _ => by simp) (fun _ => by simp)
theorem o_cvU (x : Opd) : execO call ⟨d, .cvU x, none⟩ S h = match stepV (.cvU x) S h with | some (v, oh) => some (none, putO S d v, oh) | none => none := o_V _ (fun _ _ => by simp) (fun _ _ => by simp) (fun _ => by simp)
theorem o_cvP (tb : List (Nat × Nat)) (x : Opd) : execO call ⟨d, .cvP tb x, none⟩ S h = match stepV (.cvP tb x) S h with | some (v, oh) => some (none, putO S d v, oh) | none => none := o_V _ (fun _ _ => by simp) (fun _ _ => by simp) (fun _ => by simp)
theorem o_mkMap  : execO call ⟨d, .mkMap , none⟩ S h = match stepV (.mkMap ) S h with | some (v, oh) => some (none, putO S d v, oh) | none => none := o_V _ (fun _ _ => by simp) (fun _ _ => by simp) (fun _ => by simp)
theorem o_lookup (kd : Kd) (z : V) (ok : Bool) (m k : Opd) : execO call ⟨d, .lookup kd z ok m k, none⟩ S h = match stepV (.lookup kd z ok m k) S h with | some (v, oh) => some (none, putO S d v, oh) | none => none := o_V _ (fun _ _ => by simp) (fun _ _ => by simp) (fun _ => by simp)
theorem o_mapSet (kd : Kd) (m k x : Opd) : execO call ⟨d, .mapSet kd m k x, none⟩ S h = match stepV (.mapSet kd m k x) S h with | some (v, oh) => some (none, putO S d v, oh) | none => none := o_V _ (fun _ _ => by simp) (fun _ _ => by simp) (fun _ => by simp)
theorem o_mapDel (kd : Kd) (m k : Opd) : execO call ⟨d, .mapDel kd m k, none⟩ S h = match stepV (.mapDel kd m k) S h with | some (v, oh) => some (none, putO S d v, oh) | none => none := o_V _ (fun _ _ => by simp) (fun _ _ => by simp) (fun _ => by simp)
theorem o_lenM (m : Opd) : execO call ⟨d, .lenM m, none⟩ S h = match stepV (.lenM m) S h with | some (v, oh) => some (none, putO S d v, oh) | none => none := o_V _ (fun _ _ => by simp) (fun _ _ => by simp) (fun _ => by simp)
theorem o_clearM (m : Opd) : execO call ⟨d, .clearM m, none⟩ S h = match stepV (.clearM m) S h with | some (v, oh) => some (none, putO S d v, oh) | none => none := o_V _ (fun _ _ => by simp) (fun _ _ => by simp) (fun _ => by simp)

theorem put_some (i : Nat) (v : V) : putO S (some i) v = fput S i v := rfl
theorem put_none (v : V) : putO S none v = S := rfl
theorem ev_t (i : Nat) : Opd.ev S (.t i) = S i := rfl
theorem ev_k (v : V) : Opd.ev S (.k v) = v := rfl
theorem ev_f (n : Nat) : Opd.ev S (.f n) = .fn n [] [] := rfl
theorem evs_nil : evs S [] = [] := rfl
theorem evs_cons (x : Opd) (l : List Opd) : evs S (x :: l) = x.ev S :: evs S l := rfl
theorem get_fput (i j : Nat) (v : V) : fput S i v j = if j = i then v else S j := rfl
theorem get_init (l : List V) (i : Nat) : initS l i = l.getD i undefV := rfl
theorem get_slots (i : Nat) : Slots.get S i = S i := rfl
theorem enter_o : (enter h).o = h.o := rfl
theorem enter_e : (enter h).e = h.o.length := rfl
theorem enter_d : (enter h).d = h.o.length := rfl
end

/-- What answers for some functions answers rightly. -/
def ExtSound (P : Program) (ext : ExtF) : Prop :=
  ∀ call, CallOk P call → ∀ f g args h out oh, ext call f = some g → g args h = some (out, oh) → callOk P f = true ∧ ∀ ι w, HR ι h.o w → V.scs h.o.length args →
    Calls P f (V.reals ι args).toArray w fun e w' => ∃ κ, Nx ι h w κ (oh.getD h) w' ∧ OutOk κ (oh.getD h).o.length e out

def FOk (P : Program) (F : Nat → Option AF) : Prop := ∀ f af, F f = some af → trProg P f = some af

def H0 : Heap := ⟨[], 0, 0⟩
theorem hr0 (ι : Map) (w : World) : HR ι H0.o w := ⟨fun l o h => by simp [H0] at h, fun l l' o o' _ h => by simp [H0] at h, fun l o h => by simp [H0] at h⟩
theorem noOwn0 : NoOwn H0 := fun l o h => by simp [H0] at h
def noMap : Map := fun _ => ⟨0, 0, 0⟩

end AM

/- AM, part 21: plain laws of numbers. -/
namespace AM
open Go
set_option linter.unusedVariables false

theorem wrap_u8_mod (n : Int) : IntKind.u8.wrap n = n % 256 := by
  simp only [IntKind.wrap, IntKind.bits, IntKind.signed]
  simp
theorem wrap_i64_eq (n : Int) : IntKind.i64.wrap n = if 9223372036854775808 ≤ n % 18446744073709551616 then n % 18446744073709551616 - 18446744073709551616 else n % 18446744073709551616 := by
  simp only [IntKind.wrap, IntKind.bits, IntKind.signed]
  simp
theorem wrap_i64 {n : Int} (h0 : -9223372036854775808 ≤ n) (h1 : n < 9223372036854775808) : IntKind.i64.wrap n = n := by
  rw [wrap_i64_eq]; split <;> omega
/-- A number out of bytes, the great end first. -/
def be (l : List UInt8) : Nat := l.foldl (fun a b => a * 256 + b.toNat) 0

/-- The n lowest bytes of a number, the great end first. -/
def tobe : Nat → Nat → List UInt8
  | 0, _ => []
  | n + 1, v => tobe n (v / 256) ++ [UInt8.ofNat v]

theorem idxOf_nat {n i : Nat} {k : IntKind} (h : i < n) : idxOf n (.int k (i : Int)) = some i := by
  show (if 0 ≤ (i : Int) ∧ (i : Int) < n then some (i : Int).toNat else none) = some i
  rw [if_pos ⟨by omega, by omega⟩]
  rfl

def AC.fst : AC → AC
  | .seq a _ => a
  | c => c
def AC.snd : AC → AC
  | .seq _ b => b
  | c => c
def AC.inn : AC → AC
  | .block _ c => c
  | .loop c => c
  | .scope c => c
  | c => c

end AM

/- AM, part 22: what holds behind code. -/
namespace AM
open Go
set_option linter.unusedVariables false
set_option linter.unusedSectionVars false

section
variable {F : Nat → Option AF} {ext : ExtF}

/-- The code comes to an end, and then Q. -/
def To (F : Nat → Option AF) (ext : ExtF) (c : AC) (S : Nat → V) (h : Heap) (Q : Ex → (Nat → V) → Heap → Prop) : Prop :=
  ∃ x S' h', Run F ext c S h = some (x, S', h') ∧ Q x S' h'

theorem To.mono {c : AC} {S : Nat → V} {h : Heap} {Q Q' : Ex → (Nat → V) → Heap → Prop} (hc : To F ext c S h Q) (hQ : ∀ x S' h', Q x S' h' → Q' x S' h') : To F ext c S h Q' := by
  obtain ⟨x, S', h', e, q⟩ := hc
  exact ⟨x, S', h', e, hQ _ _ _ q⟩

theorem To.of {c : AC} {S : Nat → V} {h : Heap} {Q : Ex → (Nat → V) → Heap → Prop} {x : Ex} {S' : Nat → V} {h' : Heap} (e : Run F ext c S h = some (x, S', h')) (q : Q x S' h') : To F ext c S h Q := ⟨x, S', h', e, q⟩

/-- On with Q, where the code has come to its end in order. -/
def andThen (Q1 : (Nat → V) → Heap → Prop) (Q : Ex → (Nat → V) → Heap → Prop) : Ex → (Nat → V) → Heap → Prop
  | .norm, S, h => Q1 S h
  | x, S, h => Q x S h

theorem To.seq (hx : ExtMono ext) {a b : AC} {S : Nat → V} {h : Heap} {Q : Ex → (Nat → V) → Heap → Prop} (ha : To F ext a S h (andThen (fun S' h' => To F ext b S' h' Q) Q)) : To F ext (.seq a b) S h Q := by
  obtain ⟨x, S', h', e, q⟩ := ha
  cases x with
  | norm =>
    obtain ⟨x2, S2, h2, e2, q2⟩ := q
    exact ⟨x2, S2, h2, Run_seq hx S h a b e e2, q2⟩
  | _ => exact ⟨_, _, _, Run_seq_out hx S h a b (by simp) e, q⟩

/-- The first part is known. -/
theorem To.sq (hx : ExtMono ext) {a b : AC} {S S1 : Nat → V} {h h1 : Heap} {Q : Ex → (Nat → V) → Heap → Prop} (ha : Run F ext a S h = some (.norm, S1, h1)) (hb : To F ext b S1 h1 Q) : To F ext (.seq a b) S h Q := by
  obtain ⟨x2, S2, h2, e2, q2⟩ := hb
  exact ⟨x2, S2, h2, Run_seq hx S h a b ha e2, q2⟩

theorem To.cond (hx : ExtMono ext) {o : Opd} {a b : AC} {S : Nat → V} {h : Heap} {Q : Ex → (Nat → V) → Heap → Prop} {t : Bool} (ho : o.ev S = .bool t) (hc : To F ext (if t = true then a else b) S h Q) : To F ext (.cond o a b) S h Q := by
  obtain ⟨x2, S2, h2, e2, q2⟩ := hc
  exact ⟨x2, S2, h2, by rw [Run_cond hx S h o a b ho]; exact e2, q2⟩

/-- Out of a block. -/
def outOf (id : Nat) (Q : Ex → (Nat → V) → Heap → Prop) : Ex → (Nat → V) → Heap → Prop
  | .exit i, S, h => if i = id then Q .norm S h else Q (.exit i) S h
  | x, S, h => Q x S h

theorem To.block (hx : ExtMono ext) {id : Nat} {c : AC} {S : Nat → V} {h : Heap} {Q : Ex → (Nat → V) → Heap → Prop} (hc : To F ext c S h (outOf id Q)) : To F ext (.block id c) S h Q := by
  obtain ⟨x, S', h', e, q⟩ := hc
  refine ⟨_, S', h', Run_block hx S h id c e, ?_⟩
  cases x with
  | exit i =>
    simp only [outOf] at q
    by_cases hi : i = id
    · simp only [hi, if_true] at q ⊢; exact q
    · simp only [hi, if_false] at q ⊢; exact q
  | _ => exact q

theorem To.scope (hx : ExtMono ext) {c : AC} {S : Nat → V} {h : Heap} {Q : Ex → (Nat → V) → Heap → Prop} (hc : To F ext c S h Q) : To F ext (.scope c) S h Q := by
  obtain ⟨x, S', h', e, q⟩ := hc
  exact ⟨x, S', h', Run_scope hx S h c e, q⟩

/-- A loop, by what each round leaves and a number that falls. -/
theorem To.loop (hx : ExtMono ext) {c : AC} {Q : Ex → (Nat → V) → Heap → Prop} (I : Nat → (Nat → V) → Heap → Prop)
    (hr : ∀ k S h, I k S h → To F ext c S h (andThen (fun S' h' => ∃ j, j < k ∧ I j S' h') Q)) : ∀ k S h, I k S h → To F ext (.loop c) S h Q := by
  intro k
  induction k using Nat.strongRecOn with
  | ind k ih =>
    intro S h hI
    obtain ⟨x, S', h', e, q⟩ := hr k S h hI
    cases x with
    | norm =>
      obtain ⟨j, hj, hI'⟩ := q
      obtain ⟨x2, S2, h2, e2, q2⟩ := ih j hj S' h' hI'
      exact ⟨x2, S2, h2, Run_loop hx S h c e e2, q2⟩
    | _ => exact ⟨_, _, _, Run_loop_out hx S h c (by simp) e, q⟩

/-- A call, by what holds behind the body. -/
theorem To.den (hx : ExtMono ext) {f : Nat} {a : AF} {args : List V} {h : Heap} (hF : F f = some a) (hE : ∀ c, ext c f = none) (hn : args.length ≤ a.n) {q : Out × Option Heap}
    (hc : To F ext a.body (initS args) (enter h) fun x S' h' => finish a h (some (x, S', h')) = some q) : Den F ext f args h = some q := by
  obtain ⟨x, S', h', e, qq⟩ := hc
  exact Den_call hx h hF hE hn e qq

end
end AM

/- AM, part 23: functions of plain arguments and a plain result, answered by what was proved of them. -/
namespace AM
open Go
set_option linter.unusedVariables false
set_option linter.unusedSectionVars false

/-- Answers by tables: plain arguments, a plain value. -/
def plainExt (g : Nat → Option (List V → Option V)) : ExtF := fun _ f => (g f).map fun sp => fun args _ => if V.plains args = true then (sp args).map fun v => (.val v, none) else none

/-- The tables say no more than what the functions come to over an empty heap. -/
def PlainOk (F : Nat → Option AF) (E : ExtF) (g : Nat → Option (List V → Option V)) : Prop :=
  ∀ f sp args v, g f = some sp → sp args = some v → V.plains args = true → v.plain = true ∧ ∃ oh, Den F E f args H0 = some (.val v, oh)

theorem keep_nx {ι : Map} {h : Heap} {w w' : World} (hr : HR ι h.o w) (hk : Kept w w') (ht : w'.tape = w.tape) : Nx ι h w ι h w' := by
  refine ⟨⟨fun l o hl => ?_, hr.apart, hr.sc⟩, Agree.refl _ _, Nat.le_refl _, ⟨hk.1, ht, hk.2.1, hk.2.2.1, fun b hb _ => hk.2.2.2 b hb, fun b _ h => h⟩, fun _ _ _ _ h => h, ⟨Nat.le_refl _, Nat.le_refl _⟩, fun _ _ _ => rfl, fun _ _ h _ _ => h⟩
  have ho := hr.obj l o hl
  cases hlive : o.live with
  | false => cases o <;> simp_all [Obj.live, OR]
  | true => exact ho.of_block (hk.2.2.2 _ (ho.lt hlive))

theorem plainExt_sound {P : Program} (hm : P.follows .mixedOrders = true) {F : Nat → Option AF} (hF : FOk P F) {E : ExtF} (hE : ExtSound P E) {g : Nat → Option (List V → Option V)} (hg : PlainOk F E g) : ExtSound P (plainExt g) := by
  intro call _ f k args h out oh hk he
  unfold plainExt at hk
  cases hgf : g f with
  | none => rw [hgf] at hk; cases hk
  | some sp =>
    rw [hgf] at hk
    simp only [Option.map_some, Option.some.injEq] at hk
    subst hk
    simp only at he
    split at he
    · rename_i hp
      cases hsp : sp args with
      | none => rw [hsp] at he; cases he
      | some v =>
        rw [hsp] at he
        simp only [Option.map_some, Option.some.injEq, Prod.mk.injEq] at he
        obtain ⟨rfl, rfl⟩ := he
        obtain ⟨hv, oh, hd⟩ := hg f sp args v hgf hsp hp
        obtain ⟨n, hn⟩ := of_Den hd
        obtain ⟨hok, hcalls⟩ := callN_ok hm hF hE n _ _ _ _ _ hn
        refine ⟨hok, fun ι w hr hs => ?_⟩
        refine (hcalls ι w (hr0 ι w) (V.scs_of_plains _ _ hp)).mono fun e w' ⟨κ, hnx, ho⟩ => ?_
        refine ⟨ι, keep_nx hr (kept_of_nx hnx noOwn0) hnx.fr.tape, ?_, V.sc_of_plain _ v hv⟩
        rw [ho.1]
        have h0 : v.real κ = v.real ι := V.real_agree (n := 0) (fun l hl => absurd hl (Nat.not_lt_zero l)) v (V.sc_of_plain 0 v hv)
        rw [h0]
    · cases he

end AM

/- AM, part 24: functions that a contract of the model's own tells of. -/
namespace AM
open Go
set_option linter.unusedVariables false

/-- What contracts say of some functions: plain arguments, a plain value, and the world as it was. -/
def PlainCalls (P : Program) (g : Nat → Option (List V → Option V)) : Prop :=
  ∀ f sp args v, g f = some sp → sp args = some v → V.plains args = true → callOk P f = true ∧ v.plain = true ∧ ∀ w, Calls P f (V.reals noMap args).toArray w fun e w' => e = .returned (v.real noMap) ∧ w' = w

end AM

/- AM, part 25: single operations as equations, for regions whose order is open. -/
namespace AM
open Go
set_option linter.unusedVariables false
set_option linter.unusedSectionVars false

section
variable {σ : Type} [Slots σ] {call : CallF} {S : σ} {h : Heap}

theorem s_nck (x : Opd) : stepA call (.nck x) S h = match stepV (.nck x) S h with | some (v, oh) => some (.val v, oh) | none => none := rfl
theorem s_load (n : Option Nat) (x : Opd) : stepA call (.load n x) S h = match stepV (.load n x) S h with | some (v, oh) => some (.val v, oh) | none => none := rfl
theorem s_store (n : Nat) (x v : Opd) : stepA call (.store n x v) S h = match stepV (.store n x v) S h with | some (v, oh) => some (.val v, oh) | none => none := rfl
theorem s_alloc (t : Nat) (z : List V) : stepA call (.alloc t z) S h = match stepV (.alloc t z) S h with | some (v, oh) => some (.val v, oh) | none => none := rfl
theorem s_box (t : Nat) (x : Opd) : stepA call (.box t x) S h = match stepV (.box t x) S h with | some (v, oh) => some (.val v, oh) | none => none := rfl
theorem s_build (z : List V) (ps : List (Nat × Nat × Opd)) : stepA call (.build z ps) S h = match stepV (.build z ps) S h with | some (v, oh) => some (.val v, oh) | none => none := rfl
theorem s_bslice (t e : Nat) (z : List V) (ps : List (Nat × Nat × Opd)) : stepA call (.bslice t e z ps) S h = match stepV (.bslice t e z ps) S h with | some (v, oh) => some (.val v, oh) | none => none := rfl
theorem s_faddr (off : Nat) (x : Opd) : stepA call (.faddr off x) S h = match stepV (.faddr off x) S h with | some (v, oh) => some (.val v, oh) | none => none := rfl
theorem s_field (off : Nat) (n : Option Nat) (x : Opd) : stepA call (.field off n x) S h = match stepV (.field off n x) S h with | some (v, oh) => some (.val v, oh) | none => none := rfl
theorem s_iaddrA (len e : Nat) (x i : Opd) : stepA call (.iaddrA len e x i) S h = match stepV (.iaddrA len e x i) S h with | some (v, oh) => some (.val v, oh) | none => none := rfl
theorem s_iaddrS (e : Nat) (x i : Opd) : stepA call (.iaddrS e x i) S h = match stepV (.iaddrS e x i) S h with | some (v, oh) => some (.val v, oh) | none => none := rfl
theorem s_idxA (len e : Nat) (n : Option Nat) (x i : Opd) : stepA call (.idxA len e n x i) S h = match stepV (.idxA len e n x i) S h with | some (v, oh) => some (.val v, oh) | none => none := rfl
theorem s_idxS (x i : Opd) : stepA call (.idxS x i) S h = match stepV (.idxS x i) S h with | some (v, oh) => some (.val v, oh) | none => none := rfl
theorem s_slS (x : Opd) (lo hi : Option Opd) : stepA call (.slS x lo hi) S h = match stepV (.slS x lo hi) S h with | some (v, oh) => some (.val v, oh) | none => none := rfl
theorem s_slL (e : Nat) (x : Opd) (lo hi : Option Opd) : stepA call (.slL e x lo hi) S h = match stepV (.slL e x lo hi) S h with | some (v, oh) => some (.val v, oh) | none => none := rfl
theorem s_slA (len e : Nat) (x : Opd) (lo hi : Option Opd) : stepA call (.slA len e x lo hi) S h = match stepV (.slA len e x lo hi) S h with | some (v, oh) => some (.val v, oh) | none => none := rfl
theorem s_toInt (k : IntKind) (x : Opd) : stepA call (.toInt k x) S h = match stepV (.toInt k x) S h with | some (v, oh) => some (.val v, oh) | none => none := rfl
theorem s_toStr (x : Opd) : stepA call (.toStr x) S h = match stepV (.toStr x) S h with | some (v, oh) => some (.val v, oh) | none => none := rfl
theorem s_cpS (x : Opd) : stepA call (.cpS x) S h = match stepV (.cpS x) S h with | some (v, oh) => some (.val v, oh) | none => none := rfl
theorem s_toBytes (t : Nat) (x : Opd) : stepA call (.toBytes t x) S h = match stepV (.toBytes t x) S h with | some (v, oh) => some (.val v, oh) | none => none := rfl
theorem s_extract (x : Opd) (i : Nat) : stepA call (.extract x i) S h = match stepV (.extract x i) S h with | some (v, oh) => some (.val v, oh) | none => none := rfl
theorem s_mkf (f : Nat) (a b : List Opd) : stepA call (.mkf f a b) S h = match stepV (.mkf f a b) S h with | some (v, oh) => some (.val v, oh) | none => none := rfl
theorem s_mki (t : Nat) (x : Opd) : stepA call (.mki t x) S h = match stepV (.mki t x) S h with | some (v, oh) => some (.val v, oh) | none => none := rfl
theorem s_lenS (x : Opd) : stepA call (.lenS x) S h = match stepV (.lenS x) S h with | some (v, oh) => some (.val v, oh) | none => none := rfl
theorem s_lenL (x : Opd) : stepA call (.lenL x) S h = match stepV (.lenL x) S h with | some (v, oh) => some (.val v, oh) | none => none := rfl
theorem s_lenA (n : Nat) : stepA call (.lenA n) S h = match stepV (.lenA n) S h with | some (v, oh) => some (.val v, oh) | none => none := rfl
theorem s_copyS (x y : Opd) : stepA call (.copyS x y) S h = match stepV (.copyS x y) S h with | some (v, oh) => some (.val v, oh) | none => none := rfl
theorem s_copyL (e : Nat) (x y : Opd) : stepA call (.copyL e x y) S h = match stepV (.copyL e x y) S h with | some (v, oh) => some (.val v, oh) | none => none := rfl
theorem s_clearL (e : Nat) (z : List V) (x : Opd) : stepA call (.clearL e z x) S h = match stepV (.clearL e z x) S h with | some (v, oh) => some (.val v, oh) | none => none := rfl
theorem s_minmax (mx : Bool) (xs : List Opd) : stepA call (.minmax mx xs) S h = match stepV (.minmax mx xs) S h with | some (v, oh) => some (.val v, oh) | none => none := rfl
theorem s_app (t e bytes : Nat) (z : List V) (x y : Opd) : stepA call (.app t e bytes z x y) S h = match stepV (.app t e bytes z x y) S h with | some (v, oh) => some (.val v, oh) | none => none := rfl
theorem s_appS (t bytes : Nat) (z : List V) (x y : Opd) : stepA call (.appS t bytes z x y) S h = match stepV (.appS t bytes z x y) S h with | some (v, oh) => some (.val v, oh) | none => none := rfl
theorem s_mkSlice (t e bytes : Nat) (z : List V) (l c : Opd) : stepA call (.mkSlice t e bytes z l c) S h = match stepV (.mkSlice t e bytes z l c) S h with | some (v, oh) => some (.val v, oh) | none => none := rfl
theorem s_mkChan (n : Nat) : stepA call (.mkChan n) S h = match stepV (.mkChan n) S h with | some (v, oh) => some (.val v, oh) | none => none := rfl
theorem s_lenC (x : Opd) : stepA call (.lenC x) S h = match stepV (.lenC x) S h with | some (v, oh) => some (.val v, oh) | none => none := rfl
theorem s_sdata (x : Opd) : stepA call (.sdata x) S h = match stepV (.sdata x) S h with | some (v, oh) => some (.val v, oh) | none => none := rfl
theorem s_ustr (e : Nat) (p n : Opd) : stepA call (.ustr e p n) S h = match stepV (.ustr e p n) S h with | some (v, oh) => some (.val v, oh) | none => none := rfl
theorem s_cvU (x : Opd) : stepA call (.cvU x) S h = match stepV (.cvU x) S h with | some (v, oh) => some (.val v, oh) | none => none := rfl
theorem s_cvP (tb : List (Nat × Nat)) (x : Opd) : stepA call (.cvP tb x) S h = match stepV (.cvP tb x) S h with | some (v, oh) => some (.val v, oh) | none => none := rfl
theorem s_mkMap  : stepA call (.mkMap ) S h = match stepV (.mkMap ) S h with | some (v, oh) => some (.val v, oh) | none => none := rfl
theorem s_lookup (kd : Kd) (z : V) (ok : Bool) (m k : Opd) : stepA call (.lookup kd z ok m k) S h = match stepV (.lookup kd z ok m k) S h with | some (v, oh) => some (.val v, oh) | none => none := rfl
theorem s_mapSet (kd : Kd) (m k x : Opd) : stepA call (.mapSet kd m k x) S h = match stepV (.mapSet kd m k x) S h with | some (v, oh) => some (.val v, oh) | none => none := rfl
theorem s_mapDel (kd : Kd) (m k : Opd) : stepA call (.mapDel kd m k) S h = match stepV (.mapDel kd m k) S h with | some (v, oh) => some (.val v, oh) | none => none := rfl
theorem s_lenM (m : Opd) : stepA call (.lenM m) S h = match stepV (.lenM m) S h with | some (v, oh) => some (.val v, oh) | none => none := rfl
theorem s_clearM (m : Opd) : stepA call (.clearM m) S h = match stepV (.clearM m) S h with | some (v, oh) => some (.val v, oh) | none => none := rfl
theorem s_mv (x : Opd) : stepA call (.mv x) S h = match stepV (.mv x) S h with | some (v, oh) => some (.val v, oh) | none => none := rfl
theorem s_bin (o : BinOp) (x y : Opd) : stepA call (.bin o x y) S h = match stepV (.bin o x y) S h with | some (v, oh) => some (.val v, oh) | none => none := rfl
theorem s_eqf (neg agg : Bool) (ks : List (Nat × Kd)) (x y : Opd) : stepA call (.eqf neg agg ks x y) S h = match stepV (.eqf neg agg ks x y) S h with | some (v, oh) => some (.val v, oh) | none => none := rfl
theorem s_un (o : UnOp) (x : Opd) : stepA call (.un o x) S h = match stepV (.un o x) S h with | some (v, oh) => some (.val v, oh) | none => none := rfl
theorem s_pick (c a b : Opd) : stepA call (.pick c a b) S h = match stepV (.pick c a b) S h with | some (v, oh) => some (.val v, oh) | none => none := rfl
theorem s_call (f : Nat) (args : List Opd) : stepA call (.call f args) S h = call f (evs S args) h := rfl
theorem s_callv (x : Opd) (args : List Opd) : stepA call (.callv x args) S h = match x.ev S with | .fn f first caps => call f (first ++ evs S args ++ caps) h | _ => none := rfl
theorem w_none : wantedA S none = true := rfl
theorem w_some (j : Nat) (w : Bool) : wantedA S (some (j, w)) = match Slots.get S j with | .bool b => b == w | _ => false := rfl
theorem bft : (false == true) = false := rfl
theorem btf : (true == false) = false := rfl
end
end AM

/- AM, part 26: layers of functions that are answered by what was proved of them; bytes in cells. -/
namespace AM
open Go
set_option linter.unusedVariables false
set_option linter.unusedSectionVars false

abbrev Ans := List V → Option V

/-- What is said of a function holds, of plain arguments, over an empty heap. -/
def SpOk (F : Nat → Option AF) (E : ExtF) (f : Nat) (sp : Ans) : Prop := ∀ args v, sp args = some v → V.plains args = true → v.plain = true ∧ ∃ oh, Den F E f args H0 = some (.val v, oh)

def addG (g : Nat → Option Ans) (l : List (Nat × Ans)) : Nat → Option Ans := fun k => match l.find? (fun p => p.1 == k) with
  | some p => some p.2
  | none => g k

/-! ### Bytes -/

theorem bytesA_one (l : List UInt8) : (bytesA l).all V.one = true := by simp [bytesA, V.one]
theorem onlys_bytes (ok : Nat → Bool) (l : List UInt8) : V.onlys ok (bytesA l) = true := V.onlys_of_scs (n := 0) (fun l hl => absurd hl (Nat.not_lt_zero l)) _ (V.scs_of_plains 0 _ (bytesA_plains l))
theorem bytesA_length (l : List UInt8) : (bytesA l).length = l.length := by simp [bytesA]
theorem bytesA_take (l : List UInt8) (n : Nat) : (bytesA l).take n = bytesA (l.take n) := by simp [bytesA]
theorem bytesA_drop (l : List UInt8) (n : Nat) : (bytesA l).drop n = bytesA (l.drop n) := by simp [bytesA]
theorem bytesA_get (l : List UInt8) (n : Nat) : (bytesA l)[n]? = (l[n]?).map fun b => .int .u8 (b.toNat : Int) := by simp [bytesA]
theorem bytesA_append (l k : List UInt8) : bytesA (l ++ k) = bytesA l ++ bytesA k := by simp [bytesA]
theorem bytesA_set (l : List UInt8) (n : Nat) (b : UInt8) : (bytesA l).set n (.int .u8 (b.toNat : Int)) = bytesA (l.set n b) := by simp [bytesA, List.map_set]
/-- Bytes laid over bytes. -/
def lay (p : List UInt8) (i : Nat) (s : List UInt8) : List UInt8 := p.take i ++ s ++ p.drop (i + s.length)

/-- So many bytes 0. -/
def zs (n : Nat) : List UInt8 := List.replicate n 0
def z64 : List V := bytesA (zs 64)
def z16 : List V := bytesA (zs 16)
def rdB : List V → Option (List UInt8)
  | [] => some []
  | .int .u8 n :: r => match rdB r with
    | some s => if 0 ≤ n ∧ n < 256 then some (UInt8.ofNat n.toNat :: s) else none
    | none => none
  | _ => none

/-- An array of bytes as an argument. -/
def pageOf (n : Nat) : V → Option (List UInt8)
  | .agg cs => match rdB cs with
    | some p => if p.length = n then some p else none
    | none => none
  | _ => none
section
variable {o : List Obj} {e d : Nat}
end
end AM

/- AM, part 18b: a range over a map that the loop leaves as it is. -/
namespace AM
open Go
set_option linter.unusedVariables false
set_option linter.unusedSimpArgs false
set_option linter.unusedSectionVars false

section
variable {P : Program} {σ : Type} [Slots σ]

theorem alloc_old' (w : World) (x : Go.Obj) {b : Nat} (h : b < w.heap.size) : (w.alloc x).heap[b]? = w.heap[b]? := by
  show (w.heap.push x)[b]? = _
  rw [Array.getElem?_push, if_neg (by omega)]
theorem alloc_new' (w : World) (x : Go.Obj) : (w.alloc x).heap[w.heap.size]? = some x := by
  show (w.heap.push x)[w.heap.size]? = _
  simp

theorem wpList_val {ops : Array Oper} {Q : Exit → Act → World → Prop} {o : Oper} {rest : List Oper} {a : Act} {w w' : World} {v : Value} (hg : o.guard = none) (hrun : (execOp a.eval o).run P w = .ok (.value v) w')
    (hk : wpList P ops Q rest (a.put o.dst v) w') : wpList P ops Q (o :: rest) a w := by
  unfold wpList
  rw [if_pos (by simp [Region.wanted, hg])]
  refine .inl ?_
  unfold Oper.wp
  rw [hrun]
  exact hk

/-- The first operations of a region. -/
theorem execPre_ok {call : CallF} (hcall : CallOk P call) {n : Nat} {ops : Array Oper} {ds : List Deferred} {S' : σ} {h' : Heap} {Q : Exit → Act → World → Prop} {rest : List Oper} : ∀ {ol : List Oper} {l : List AO} {S : σ} {h : Heap} {ι : Map} {w : World} {a : Act},
    trOpers P n ops ol = some l → HR ι h.o w → SR ι S n a.tmps h.o.length → a.defers = ds → execOps call l S h = some (.norm, S', h') → (∀ κ a' w', Nx ι h w κ h' w' → SR κ S' n a'.tmps h'.o.length → a'.defers = ds → wpList P ops Q rest a' w') → wpList P ops Q (ol ++ rest) a w
  | [], l, S, h, ι, w, a, htr, hr, hs, hd, he, hQ => by
    simp only [trOpers, Option.some.injEq] at htr
    subst htr
    simp only [execOps, Option.some.injEq, Prod.mk.injEq, true_and] at he
    obtain ⟨rfl, rfl⟩ := he
    exact hQ _ _ _ (Nx.refl hr) hs hd
  | o :: ol, l, S, h, ι, w, a, htr, hr, hs, hd, he, hQ => by
    simp only [trOpers] at htr
    split at htr
    · rename_i ao l' hao hl'
      simp only [Option.some.injEq] at htr
      subst htr
      obtain ⟨h1, h2, h3, h4⟩ := trOper_inv hao
      have hw := wanted_ok hs h2
      simp only [execOps] at he
      rw [List.cons_append]
      unfold wpList
      rw [hw]
      split at he
      · rename_i hwt
        rw [if_pos hwt]
        refine .inl ?_
        cases hst : stepA call ao.op S h with
        | none => rw [hst] at he; simp at he
        | some r =>
          obtain ⟨out, oh⟩ := r
          rw [hst] at he
          refine oper_ok hcall hr hs h1 h4 hst (fun v hv κ w' hn hsr => ?_) (fun v hv κ w' hn hsc => ?_)
          · subst hv
            have he' : execOps call l' (putO S ao.d v) (oh.getD h) = some (.norm, S', h') := by
              cases oh with
              | none => exact he
              | some h2 => exact he
            rw [← h3] at he'
            exact execPre_ok hcall (ds := ds) hl' hn.hr hsr (by rw [put_defers']; exact hd) he' (fun κ' a' w' hp => hQ _ _ _ (hn.trans hp))
          · subst hv
            cases oh <;> simp at he
      · rename_i hwt
        rw [if_neg hwt]
        rw [← h3] at he
        have hsr := hs.put (v := undefV) trivial h4
        rw [undef_real] at hsr
        exact execPre_ok hcall hl' hr hsr (by rw [put_defers']; exact hd) he hQ
    · simp at htr

/-- The iterator's step, in whatever block it lies. -/
theorem next_run (w : World) (ty : TypeId) (r bm c : Nat) (seen : Array Nat) (es : Array MapEntry) (hr : w.heap[r]? = some (.mapIter (some bm) c seen c)) (hb : w.heap[bm]? = some (.map es c)) (hold : ∀ x ∈ es.toList, x.born < c) :
    ((∀ e ∈ es.toList, seen.contains e.born = true) ∧ (Instr.next (.pointer (some ⟨r, 0, none⟩)) false ty).run P w = .ok (.tuple #[.bool false]) w) ∨
    ∃ e ∈ es.toList, seen.contains e.born = false ∧ ∃ k, (Instr.next (.pointer (some ⟨r, 0, none⟩)) false ty).run P w = .ok (.tuple #[.bool true, e.key, e.val]) { w with drawn := k, heap := w.heap.setIfInBounds r (.mapIter (some bm) c (seen.push e.born) c) } := by
  simp only [Instr.next, getObj, Sem.run_bind, Sem.run, hr, hb, Result.andThen, next_test_false seen es c c hold (Nat.le_refl _), Bool.false_eq_true, if_false]
  have hin : ∀ x ∈ (Array.filter (fun e => !seen.contains e.born) es).toList, x ∈ es.toList ∧ seen.contains x.born = false := fun x hx => by simpa using hx
  have hall : (Array.filter (fun e => !seen.contains e.born) es).size = 0 → ∀ e ∈ es.toList, seen.contains e.born = true := fun h0 e he => by
    cases hc : seen.contains e.born with
    | true => rfl
    | false =>
      have : e ∈ (Array.filter (fun e => !seen.contains e.born) es) := by simp []; exact ⟨by simpa using he, by simpa using hc⟩
      rw [Array.eq_empty_of_size_eq_zero h0] at this
      simp at this
  generalize Array.filter (fun e => !seen.contains e.born) es = L at hin hall ⊢
  have e1 : L.filter (fun x => decide (x.born < c)) = L := Array.filter_eq_self.2 (fun x hx => by simpa using hold x (hin x (by simpa using hx)).1)
  have e2 : L.filter (fun x => decide (x.born ≥ c)) = #[] := by
    rw [Array.filter_eq_empty_iff]
    intro x hx
    have := hold x (hin x (by simpa using hx)).1
    simp
    omega
  simp only [e1, e2, Array.append_empty]
  by_cases h0 : L.size = 0
  · left
    refine ⟨hall h0, ?_⟩
    obtain rfl : L = #[] := Array.eq_empty_of_size_eq_zero h0
    simp [choose, Sem.run, Question.forced]
  · right
    have hne : L.isEmpty = false := by simp [Array.isEmpty, h0]
    simp only [hne, Bool.false_eq_true, if_false, Array.empty_append, Array.size_map]
    have hch : ∃ (j k : Nat), j < L.size ∧ (choose (Question.mapNext L.size)).run P w = .ok j { w with drawn := k } := by
      by_cases hf : L.size ≤ 1
      · exact ⟨0, w.drawn, by omega, by simp [choose, Sem.run, Question.forced, hf]⟩
      · exact ⟨_, w.drawn + 1, Nat.mod_lt _ (by omega), by
          simp only [choose, Sem.run, Question.forced, decide_eq_true_eq, hf, if_false, Question.cut]
          rfl⟩
    obtain ⟨j, k, hj, hrun⟩ := hch
    refine ⟨L[j], (hin _ (by simp)).1, (hin _ (by simp)).2, k, ?_⟩
    have hset : ∀ (o' : Go.Obj), (setObj r o').run P { w with drawn := k } = .ok () { w with drawn := k, heap := w.heap.setIfInBounds r o' } := fun o' => by
      simp only [setObj, Sem.run, hr]
    simp only [hrun, Array.getElem?_map, Array.getElem?_eq_getElem hj, Option.map_some, Sem.run_bind, hset, Result.andThen]
    rfl

theorem entry_run (w : World) (r bm c : Nat) (seen : Array Nat) (es : Array MapEntry) (e : MapEntry) (hr : w.heap[r]? = some (.mapIter (some bm) c (seen.push e.born) c)) (hb : w.heap[bm]? = some (.map es c)) (he : e ∈ es.toList) (hn : (es.toList.map (·.born)).Nodup) :
    (Instr.entry (.pointer (some ⟨r, 0, none⟩))).run P w = .ok (.tuple #[e.key, e.val]) w := by
  have hf : es.find? (·.born == e.born) = some e := by rw [← Array.find?_toList]; exact find_born e es.toList hn he
  simp only [Instr.entry, getObj, Sem.run_bind, Sem.run, hr, hb, Result.andThen, Array.back?_push, bne_self_eq_false, Bool.false_eq_true, if_false, hf]
  rfl

theorem ext_tr {n : Nat} {ops : Array Oper} {o : Oper} {d1 d2 : Nat} (q2 : o.op = .extract (.tmp d1) 0) (q2d : o.dst = some d2) (q2g : o.guard = none) (hd2 : d2 < n) : trOpers P n ops [o] = some [⟨some d2, .extract (.t d1) 0, none⟩] := by
  simp only [trOpers, trOper, q2, q2d, q2g, trOp, trOpd, Option.map_some, trGuard, if_pos hd2]

theorem ext_exec {call : CallF} {S : σ} {h : Heap} {d1 d2 : Nat} {b : Bool} {l : List V} : execOps call [⟨some d2, .extract (.t d1) 0, none⟩] (putO S (some d1) (.tuple (.bool b :: l))) h = some (.norm, putO (putO S (some d1) (.tuple (.bool b :: l))) (some d2) (.bool b), h) := by
  simp only [execOps, wantedA, if_true, stepA, stepV, Opd.ev, putO, Slots.law, if_true, List.getElem?_cons_zero, Option.bind_some, ok]

def todo (N : Nat) (done : List Nat) : List Nat := (List.range N).filter fun j => !done.contains j
theorem todo_lt {N i : Nat} {done : List Nat} (hi : i < N) (hn : i ∉ done) : (todo N (i :: done)).length < (todo N done).length := by
  refine filter_lt (fun j => !done.contains j) (fun j => !(i :: done).contains j) (fun x hx => ?_) i (by simpa using hn) (by simp) _ (List.mem_range.2 hi)
  simp only [List.contains_cons, Bool.not_or, Bool.and_eq_true] at hx
  exact hx.2

set_option maxHeartbeats 1000000 in
/-- A loop over a map, in whatever order the entries come. 'done': the places of those that have come. -/
theorem range_loop {call : CallF} (hcall : CallOk P call) (hm : P.follows .mixedOrders = true) {n : Nat} {ds : List Deferred}
    {it d1 d2 e1 b0 b1 iB iC : Nat} {oB1 oB2 oC1 : Oper} {opsB opsC : Array Oper} {restC : List Oper} {body : Code} {RC : List AO} {AB : AC} {k : Nat}
    (hB : opsB.toList = [oB1, oB2]) (q1 : oB1.op = .next (.tmp it) false) (q1d : oB1.dst = some d1) (q1g : oB1.guard = none)
    (q2 : oB2.op = .extract (.tmp d1) 0) (q2d : oB2.dst = some d2) (q2g : oB2.guard = none)
    (hC : opsC.toList = oC1 :: restC) (q3 : oC1.op = .entry (.tmp it)) (q3d : oC1.dst = some e1) (q3g : oC1.guard = none)
    (hRC : trOpers P n opsC restC = some RC) (hAB : trCode P n body = some AB)
    (hd1 : d1 < n) (hd2 : d2 < n) (he1 : e1 < n) (hne1 : it ≠ d1) (hne2 : it ≠ d2)
    {es : List (V × V)} {lm li : Nat} (hli : li ≠ lm) (Inv : List Nat → σ → Heap → Prop)
    (hraw : ∀ done S h x, Inv done S h → Inv done S ⟨h.o.set li (.raw x), h.e, min h.d li⟩)
    (hslot : ∀ done S h v u, Inv done S h → Inv done (putO (putO S (some d1) v) (some d2) u) h)
    (hstep : ∀ done S h i e, Inv done S h → Slots.get S it = .ptr li 0 → es[i]? = some e → i ∉ done → (∃ x, h.o[li]? = some (.raw x)) → (∃ x, h.o[lm]? = some (.raw x)) →
      ∃ S1 h1 x S2 h2, execOps call RC (putO (putO (putO S (some d1) (.tuple [.bool true, e.1, e.2])) (some d2) (.bool true)) (some e1) (.tuple [e.1, e.2])) h = some (.norm, S1, h1) ∧ exec call k AB S1 h1 = some (x, S2, h2) ∧
        (x = .norm ∨ x = .exit b1) ∧ Slots.get S2 it = .ptr li 0 ∧ h2.o[li]? = h.o[li]? ∧ h2.o[lm]? = h.o[lm]? ∧ Inv (i :: done) S2 h2)
    {ι : Map} {h : Heap} {w : World} {a : Act} {S : σ} (hr : HR ι h.o w) (hs : SR ι S n a.tmps h.o.length) (hd : a.defers = ds) (hit : Slots.get S it = .ptr li 0) (hbase : (ι li).base = 0)
    {ents : Array MapEntry} {c : Nat} (hM : h.o[lm]? = some (.raw (.map ents c))) (hI : h.o[li]? = some (.raw (.mapIter (some (ι lm).blk) c #[] c)))
    (hes : ents.toList.map (fun e => (e.key, e.val)) = es.map (fun e => (e.1.real ι, e.2.real ι))) (hpl : ∀ e ∈ es, e.1.plain = true ∧ e.2.plain = true) (hborn : ∀ e ∈ ents.toList, e.born < c) (hnd : (ents.toList.map (·.born)).Nodup)
    (h0 : Inv [] S h) {Q : Exit → Act → World → Prop}
    (hQ : ∀ κ a' w' S' h' done, Nx ι h w κ h' w' → SR κ S' n a'.tmps h'.o.length → a'.defers = ds → Inv done S' h' → (∀ i, i < es.length → i ∈ done) → h'.o[lm]? = some (.raw (.map ents c)) → Q (.exit b0) a' w') :
    (Code.loop (.seq (.region iB opsB false) (.seq (.cond (.tmp d2) .skip (.exit b0)) (.block b1 (.seq (.region iC opsC false) body))))).wp P Q a w := by
  have hlil : li < h.o.length := (List.getElem?_eq_some_iff.1 hI).1
  have hlml : lm < h.o.length := (List.getElem?_eq_some_iff.1 hM).1
  have hlen : ents.toList.length = es.length := by have := congrArg List.length hes; simpa using this
  refine wp_loop_ghost (fun m a' w' => ∃ done S' h' κ seen, m = (todo es.length done).length ∧ Nx ι h w κ h' w' ∧ SR κ S' n a'.tmps h'.o.length ∧ a'.defers = ds ∧ Slots.get S' it = .ptr li 0 ∧ h'.o[lm]? = some (.raw (.map ents c)) ∧
    h'.o[li]? = some (.raw (.mapIter (some (ι lm).blk) c seen c)) ∧ (∀ b, seen.contains b = true ↔ ∃ j ∈ done, ∃ e, ents.toList[j]? = some e ∧ e.born = b) ∧ Inv done S' h') _ ⟨[], S, h, ι, #[], rfl, Nx.refl hr, hs, hd, hit, hM, hI, by simp, h0⟩ ?_
  rintro m a1 w1 ⟨done, S1, h1, κ, seen, rfl, hn, hs1, hd1', hit1, hM1, hI1, hseen, hinv⟩
  have hκi : κ li = ι li := hn.ag li hlil
  have hκm : κ lm = ι lm := hn.ag lm hlml
  have hb1 : w1.heap[(ι li).blk]? = some (.mapIter (some (ι lm).blk) c seen c) := by have := hn.hr.obj li _ hI1; rwa [hκi] at this
  have hb2 : w1.heap[(ι lm).blk]? = some (.map ents c) := by have := hn.hr.obj lm _ hM1; rwa [hκm] at this
  have hev : a1.eval (.tmp it) = .pointer (some ⟨(ι li).blk, 0, none⟩) := by
    have := hs1.val it
    rw [hit1] at this
    simp only [V.real, hκi, hbase] at this
    exact this
  apply wp_seq
  apply wp_region_list
  rw [hB]
  rcases next_run (P := P) w1 oB1.type (ι li).blk (ι lm).blk c seen ents hb1 hb2 hborn with ⟨hall, hrun⟩ | ⟨e, he, hes', kd, hrun⟩
  · refine wpList_val q1g (w' := w1) (v := (V.tuple [.bool false]).real κ) (by simp only [execOp, q1, hev, Sem.run_bind, hrun, Result.andThen, V.real, V.reals]; rfl) ?_
    rw [q1d]
    have hs2 := hs1.put (v := V.tuple [.bool false]) ⟨trivial, trivial⟩ (d := some d1) (fun i hi => by cases hi; exact hd1)
    refine execOps_ok hcall (ds := ds) (ext_tr q2 q2d q2g hd2) hn.hr hs2 (by rw [put_defers']; exact hd1') ext_exec ?_
    rintro ex a2 w2 ⟨κ2, hn2, hs3, hd3, rfl⟩
    apply wp_seq
    refine wp_cond (t := false) ?_ (wp_exit ?_)
    · have := hs3.val d2
      simp only [putO, Slots.law, if_true, V.real] at this
      exact this
    · refine hQ κ2 a2 w2 _ h1 done (hn.trans hn2) hs3 hd3 ?_ (fun i hi => ?_) hM1
      · exact hslot _ _ _ _ _ hinv
      · have hil : i < ents.toList.length := by omega
        obtain ⟨j, hj, e, hej, hb⟩ := (hseen (ents.toList[i]).born).1 (hall _ (List.getElem_mem hil))
        have hjl : j < ents.toList.length := (List.getElem?_eq_some_iff.1 hej).1
        have : i = j := by
          refine (List.getElem_inj (h₀ := by simpa using hil) (h₁ := by simpa using hjl) hnd).1 ?_
          rw [List.getElem_map, List.getElem_map, ← hb]
          rw [List.getElem?_eq_getElem hjl] at hej
          cases hej; rfl
        rw [this]; exact hj
  · obtain ⟨i, hi, hie⟩ := List.getElem_of_mem he
    have hi' : i < es.length := by omega
    obtain ⟨p, hp⟩ : ∃ p, es[i]? = some p := ⟨es[i], List.getElem?_eq_getElem hi'⟩
    have hnot : i ∉ done := fun hc => by
      have := (hseen e.born).2 ⟨i, hc, e, by rw [List.getElem?_eq_getElem hi, hie], rfl⟩
      rw [hes'] at this; cases this
    have hkv : e.key = p.1.real ι ∧ e.val = p.2.real ι := by
      have h1 := congrArg (fun l => l[i]?) hes
      simp only [List.getElem?_map, hp, List.getElem?_eq_getElem hi, hie, Option.map_some, Option.some.injEq, Prod.mk.injEq] at h1
      exact h1
    have hpp := hpl p (List.mem_of_getElem? hp)
    have hre : ∀ (v : V) (μ : Map), v.plain = true → v.real μ = v.real ι := fun v μ hv => V.real_agree (n := 0) (fun l hl => absurd hl (Nat.not_lt_zero l)) v (V.sc_of_plain 0 v hv)
    have hn2 : Nx κ h1 w1 κ ⟨h1.o.set li (.raw (.mapIter (some (ι lm).blk) c (seen.push e.born) c)), h1.e, min h1.d li⟩ { w1 with drawn := kd, heap := w1.heap.setIfInBounds (ι li).blk (.mapIter (some (ι lm).blk) c (seen.push e.born) c) } := by
      refine Nx.upd hn.hr hI1 rfl rfl _ _ rfl rfl rfl (by simp) (fun b hb => ?_) ?_ trivial (Nat.le_refl _) (Nat.min_le_left _ _) (Nat.min_le_right _ _) (.inr fun _ _ => trivial)
      · rw [hκi] at hb
        exact Array.getElem?_setIfInBounds_ne (Ne.symm hb)
      · show (w1.heap.setIfInBounds (ι li).blk _)[(κ li).blk]? = _
        rw [hκi, Array.getElem?_setIfInBounds_self_of_lt (Array.getElem?_eq_some_iff.1 hb1).1]
    refine wpList_val q1g (w' := { w1 with drawn := kd, heap := w1.heap.setIfInBounds (ι li).blk (.mapIter (some (ι lm).blk) c (seen.push e.born) c) }) (v := (V.tuple [.bool true, p.1, p.2]).real κ) (by simp only [execOp, q1, hev, Sem.run_bind, hrun, Result.andThen, V.real, V.reals, hkv.1, hkv.2, hre p.1 κ hpp.1, hre p.2 κ hpp.2]; rfl) ?_
    rw [q1d]
    have hI2 : (h1.o.set li (.raw (.mapIter (some (ι lm).blk) c (seen.push e.born) c)))[li]? = some (.raw (.mapIter (some (ι lm).blk) c (seen.push e.born) c)) := by
      rw [List.getElem?_set_self (List.getElem?_eq_some_iff.1 hI1).1]
    have hM2 : (h1.o.set li (.raw (.mapIter (some (ι lm).blk) c (seen.push e.born) c)))[lm]? = some (.raw (.map ents c)) := by
      rw [List.getElem?_set_ne hli]; exact hM1
    have hsc2 : ∀ N, V.scs N [.bool true, p.1, p.2] := fun N => ⟨trivial, V.sc_of_plain _ _ hpp.1, V.sc_of_plain _ _ hpp.2, trivial⟩
    have hs2 := (hs1.mono hn2.ag hn2.len).put (v := V.tuple [.bool true, p.1, p.2]) (hsc2 _) (d := some d1) (fun i hi => by cases hi; exact hd1)
    obtain ⟨S3, h3, x3, S4, h4, ex1, ex2, hx3, hit4, hI4, hM4, hinv4⟩ := hstep done S1 _ i p (hraw _ _ _ _ hinv) hit1 hp hnot ⟨_, hI2⟩ ⟨_, hM2⟩
    refine execOps_ok hcall (ds := ds) (ext_tr q2 q2d q2g hd2) hn2.hr hs2 (by rw [put_defers']; exact hd1') ext_exec ?_
    rintro ex a2 w2 ⟨κ2, hn3, hs3, hd3, rfl⟩
    apply wp_seq
    refine wp_cond (t := true) ?_ (wp_skip ?_)
    · have := hs3.val d2
      simp only [putO, Slots.law, if_true, V.real] at this
      exact this
    apply wp_block
    apply wp_seq
    apply wp_region_list
    rw [hC]
    have hκi2 : κ2 li = ι li := (hn3.ag li (by simpa using Nat.lt_of_lt_of_le hlil hn.len)).trans hκi
    have hκm2 : κ2 lm = ι lm := (hn3.ag lm (by simpa using Nat.lt_of_lt_of_le hlml hn.len)).trans hκm
    have hev2 : a2.eval (.tmp it) = .pointer (some ⟨(ι li).blk, 0, none⟩) := by
      have := hs3.val it
      simp only [putO, Slots.law, if_neg hne1, if_neg hne2, hit1, V.real, hκi2, hbase] at this
      exact this
    have hb3 : w2.heap[(ι li).blk]? = some (.mapIter (some (ι lm).blk) c (seen.push e.born) c) := by have := hn3.hr.obj li _ hI2; rwa [hκi2] at this
    have hb4 : w2.heap[(ι lm).blk]? = some (.map ents c) := by have := hn3.hr.obj lm _ hM2; rwa [hκm2] at this
    refine wpList_val q3g (w' := w2) (v := (V.tuple [p.1, p.2]).real κ2) (by simp only [execOp, q3, hev2, Sem.run_bind, entry_run w2 (ι li).blk (ι lm).blk c seen ents e hb3 hb4 he hnd, Result.andThen, V.real, V.reals, hkv.1, hkv.2, hre p.1 κ2 hpp.1, hre p.2 κ2 hpp.2]; rfl) ?_
    rw [q3d]
    have hs4 := hs3.put (v := V.tuple [p.1, p.2]) ⟨V.sc_of_plain _ _ hpp.1, V.sc_of_plain _ _ hpp.2, trivial⟩ (d := some e1) (fun i hi => by cases hi; exact he1)
    refine execOps_ok hcall (ds := ds) hRC hn3.hr hs4 (by rw [put_defers']; exact hd3) ex1 ?_
    rintro ex a3 w3 ⟨κ3, hn4, hs5, hd4, rfl⟩
    refine wp_mono (exec_ok hcall hm k hAB hn4.hr hs5 hd4 ex2) ?_
    rintro ex a4 w4 ⟨κ4, hn5, hs6, hd5, hx⟩
    have fin : Exit.then (fun a' w' => ∃ n', n' < (todo es.length done).length ∧ ∃ done S' h' κ seen, n' = (todo es.length done).length ∧ Nx ι h w κ h' w' ∧ SR κ S' n a'.tmps h'.o.length ∧ a'.defers = ds ∧ Slots.get S' it = .ptr li 0 ∧ h'.o[lm]? = some (.raw (.map ents c)) ∧
        h'.o[li]? = some (.raw (.mapIter (some (ι lm).blk) c seen c)) ∧ (∀ b, seen.contains b = true ↔ ∃ j ∈ done, ∃ e, ents.toList[j]? = some e ∧ e.born = b) ∧ Inv done S' h') Q .normal a4 w4 := by
      refine ⟨_, todo_lt hi' hnot, i :: done, S4, h4, κ4, seen.push e.born, rfl, hn.trans (hn2.trans (hn3.trans (hn4.trans hn5))), hs6, hd5, hit4, hM4.trans hM2, hI4.trans hI2, fun b => ?_, hinv4⟩
      rw [contains_push, Bool.or_eq_true, hseen b, beq_iff_eq]
      constructor
      · rintro (⟨j, hj, e', he', hb'⟩ | rfl)
        · exact ⟨j, List.mem_cons_of_mem _ hj, e', he', hb'⟩
        · exact ⟨i, List.mem_cons_self, e, by rw [List.getElem?_eq_getElem hi, hie], rfl⟩
      · rintro ⟨j, hj, e', he', hb'⟩
        rcases List.mem_cons.1 hj with rfl | hj
        · right
          rw [List.getElem?_eq_getElem hi, hie] at he'
          cases he'; exact hb'.symm
        · exact .inl ⟨j, hj, e', he', hb'⟩
    rcases hx3 with rfl | rfl
    · subst hx; exact fin
    · subst hx
      simp only [Exit.inBlock, if_true]
      exact fin

set_option maxHeartbeats 1000000 in
/-- 'for k, v := range m', whole: the region that reads m, and the loop. -/
theorem range_block {call : CallF} (hcall : CallOk P call) (hm : P.follows .mixedOrders = true) {n : Nat} {ds : List Deferred}
    {x it d1 d2 e1 b0 b1 iA iB iC tm kt vt : Nat} {oA oB1 oB2 oC1 : Oper} {opsA opsB opsC : Array Oper} {preA restC : List Oper} {body : Code} {PA RC : List AO} {AB : AC} {k : Nat}
    (hA1 : opsA.toList.dropLast = preA) (hA2 : opsA.toList.getLast? = some oA) (q0 : oA.op = .range tm (.tmp x)) (q0d : oA.dst = some it) (q0g : oA.guard = none) (hPA : trOpers P n opsA preA = some PA) (ht : P.underlying tm = some (.map kt vt)) (hitn : it < n)
    (hB : opsB.toList = [oB1, oB2]) (q1 : oB1.op = .next (.tmp it) false) (q1d : oB1.dst = some d1) (q1g : oB1.guard = none)
    (q2 : oB2.op = .extract (.tmp d1) 0) (q2d : oB2.dst = some d2) (q2g : oB2.guard = none)
    (hC : opsC.toList = oC1 :: restC) (q3 : oC1.op = .entry (.tmp it)) (q3d : oC1.dst = some e1) (q3g : oC1.guard = none)
    (hRC : trOpers P n opsC restC = some RC) (hAB : trCode P n body = some AB)
    (hd1 : d1 < n) (hd2 : d2 < n) (he1 : e1 < n) (hne1 : it ≠ d1) (hne2 : it ≠ d2)
    {ι : Map} {h h1 : Heap} {w : World} {a : Act} {S S1 : σ} (hr : HR ι h.o w) (hs : SR ι S n a.tmps h.o.length) (hd : a.defers = ds) (hpre : execOps call PA S h = some (.norm, S1, h1))
    {es : List (V × V)} {lm : Nat} (hx : Slots.get S1 x = .map lm) (hes : h1.o[lm]? = some (.map es)) (hpl : ∀ e ∈ es, e.1.plain = true ∧ e.2.plain = true)
    (Inv : List (V × V) → List Nat → σ → Heap → Prop)
    (hraw : ∀ eq done S h x, Inv eq done S h → Inv eq done S ⟨h.o.set h1.o.length (.raw x), h.e, min h.d h1.o.length⟩)
    (hslot : ∀ eq done S h v u, Inv eq done S h → Inv eq done (putO (putO S (some d1) v) (some d2) u) h)
    (hstep : ∀ eq, eq.Perm es → ∀ done S h i e, Inv eq done S h → Slots.get S it = .ptr h1.o.length 0 → eq[i]? = some e → i ∉ done → (∃ x, h.o[h1.o.length]? = some (.raw x)) → (∃ x, h.o[lm]? = some (.raw x)) →
      ∃ S1 h2 x S2 h3, execOps call RC (putO (putO (putO S (some d1) (.tuple [.bool true, e.1, e.2])) (some d2) (.bool true)) (some e1) (.tuple [e.1, e.2])) h = some (.norm, S1, h2) ∧ exec call k AB S1 h2 = some (x, S2, h3) ∧
        (x = .norm ∨ x = .exit b1) ∧ Slots.get S2 it = .ptr h1.o.length 0 ∧ h3.o[h1.o.length]? = h.o[h1.o.length]? ∧ h3.o[lm]? = h.o[lm]? ∧ Inv eq (i :: done) S2 h3)
    (h0 : ∀ eq, eq.Perm es → ∀ xi xm, Inv eq [] (putO S1 (some it) (.ptr h1.o.length 0)) ⟨(h1.o ++ [Obj.raw xi]).set lm (Obj.raw xm), h1.e, min h1.d lm⟩) {Q : Exit → Act → World → Prop}
    (hQ : ∀ eq, eq.Perm es → ∀ κ a' w' S' h' done, Nx ι h w κ ⟨h'.o.set lm (.map es), h'.e, min h'.d lm⟩ w' → SR κ S' n a'.tmps h'.o.length → a'.defers = ds → Inv eq done S' h' → (∀ i, i < eq.length → i ∈ done) → (∃ x, h'.o[lm]? = some (.raw x)) → Q .normal a' w') :
    (Code.seq (.region iA opsA false) (.block b0 (.loop (.seq (.region iB opsB false) (.seq (.cond (.tmp d2) .skip (.exit b0)) (.block b1 (.seq (.region iC opsC false) body))))))).wp P Q a w := by
  have hre : ∀ (v : V) (μ ν : Map), v.plain = true → v.real μ = v.real ν := fun v μ ν hv => V.real_agree (n := 0) (fun l hl => absurd hl (Nat.not_lt_zero l)) v (V.sc_of_plain 0 v hv)
  have hlm : lm < h1.o.length := (List.getElem?_eq_some_iff.1 hes).1
  have hA : opsA.toList = preA ++ [oA] := by
    obtain ⟨l, hl⟩ := List.getLast?_eq_some_iff.1 hA2
    rw [← hA1, hl, List.dropLast_concat]
  apply wp_seq
  apply wp_region_list
  rw [hA]
  refine execPre_ok hcall hPA hr hs hd hpre fun κ a1 w1 hn hs1 hd1' => ?_
  obtain ⟨ents, c, eq, hb, hpm, hents, hborn, hnd⟩ := hn.hr.obj lm _ hes
  have hple : ∀ e ∈ eq, e.1.plain = true ∧ e.2.plain = true := fun e he => hpl e (hpm.mem_iff.1 he)
  have hree : ∀ μ ν : Map, eq.map (fun e => (e.1.real μ, e.2.real μ)) = eq.map (fun e => (e.1.real ν, e.2.real ν)) := fun μ ν => List.map_congr_left fun e he => by rw [hre _ μ ν (hple e he).1, hre _ μ ν (hple e he).2]
  have hev : a1.eval (.tmp x) = .map (some (κ lm).blk) := by
    have := hs1.val x
    rw [hx] at this
    exact this
  refine wpList_val q0g (by simp only [execOp, q0, hev, Sem.run_bind, run_range_map w1 tm kt vt _ ents c ht hb, Result.andThen]; rfl) ?_
  rw [q0d]
  let p : Place := ⟨w1.heap.size, 0, 0⟩
  let it0 : Go.Obj := .mapIter (some (κ lm).blk) c #[] c
  have hn2 := Nx.new hn.hr it0 (.raw it0) p rfl (alloc_new' w1 it0) trivial rfl
  have hag : (κ.upd h1.o.length p) lm = κ lm := Map.agree_upd κ _ p lm hlm
  have hes2 : (h1.o ++ [Obj.raw it0])[lm]? = some (.map es) := by rw [List.getElem?_append_left hlm]; exact hes
  have hn3 : Nx (κ.upd h1.o.length p) ⟨h1.o ++ [Obj.raw it0], h1.e, h1.d⟩ (w1.alloc it0) (κ.upd h1.o.length p) ⟨(h1.o ++ [Obj.raw it0]).set lm (Obj.raw (.map ents c)), h1.e, min h1.d lm⟩ (w1.alloc it0) := by
    refine Nx.upd hn2.hr hes2 rfl rfl _ _ rfl rfl rfl rfl (fun _ _ => rfl) ?_ trivial (Nat.le_refl _) (Nat.min_le_left _ _) (Nat.min_le_right _ _) (.inr fun _ _ => trivial)
    show (w1.alloc it0).heap[((κ.upd h1.o.length p) lm).blk]? = _
    rw [hag, alloc_old' w1 it0 (Array.getElem?_eq_some_iff.1 hb).1]
    exact hb
  have hs2 : SR (κ.upd h1.o.length p) S1 n a1.tmps ((h1.o ++ [Obj.raw it0]).set lm (Obj.raw (.map ents c))).length := hs1.mono hn2.ag (by simp)
  have hs3 := hs2.put (v := .ptr h1.o.length 0) (show h1.o.length < _ by simp) (d := some it) (fun i hi => by cases hi; exact hitn)
  have hval : (V.ptr h1.o.length 0).real (κ.upd h1.o.length p) = .pointer (some ⟨w1.heap.size, 0, none⟩) := by simp [V.real, Map.upd_same, p]
  rw [hval] at hs3
  show Exit.then _ Q .normal _ _
  apply wp_block
  refine range_loop hcall hm (ds := ds) hB q1 q1d q1g q2 q2d q2g hC q3 q3d q3g hRC hAB hd1 hd2 he1 hne1 hne2 (es := eq) (lm := lm) (li := h1.o.length) (Nat.ne_of_gt hlm) (Inv eq) (hraw eq) (hslot eq) (hstep eq hpm) (hn3.hr) hs3 (by rw [put_defers']; exact hd1') (by simp [putO, Slots.law]) (by rw [Map.upd_same]) (ents := ents) (c := c) ?_ ?_ ?_ hple hborn hnd (h0 eq hpm _ _) ?_
  · rw [List.getElem?_set_self (by simp; omega)]
  · rw [List.getElem?_set_ne (Nat.ne_of_lt hlm), List.getElem?_append_right (Nat.le_refl _), Nat.sub_self, hag]; rfl
  · rw [hents]; exact hree _ _
  · intro κ' a' w' S' h' done hn4 hs4 hd4 hI hall hM
    show Exit.inBlock b0 Q (.exit b0) a' w'
    simp only [Exit.inBlock, if_true]
    have hlen' : lm < h'.o.length := (List.getElem?_eq_some_iff.1 hM).1
    have hb' : w'.heap[(κ' lm).blk]? = some (.map ents c) := hn4.hr.obj lm _ hM
    have hn5 : Nx κ' h' w' κ' ⟨h'.o.set lm (.map es), h'.e, min h'.d lm⟩ w' := by
      refine Nx.upd hn4.hr hM rfl rfl _ _ rfl rfl rfl rfl (fun _ _ => rfl) ⟨ents, c, eq, hb', hpm, by rw [hents]; exact hree _ _, hborn, hnd⟩ (fun e he => ⟨V.sc_of_plain _ _ (hpl e he).1, V.sc_of_plain _ _ (hpl e he).2⟩) (Nat.le_refl _) (Nat.min_le_left _ _) (Nat.min_le_right _ _) (.inr fun N _ e he => ⟨V.sc_of_plain _ _ (hpl e he).1, V.sc_of_plain _ _ (hpl e he).2⟩)
    exact hQ eq hpm κ' a' w' S' h' done (hn.trans (hn2.trans (hn3.trans (hn4.trans hn5)))) hs4 hd4 hI hall ⟨_, hM⟩
end
end AM

/- AM, part 26b: functions that are answered by hand: what was proved of them in the model's own terms. -/
namespace AM
open Go
set_option linter.unusedVariables false
set_option linter.unusedSectionVars false

abbrev HandT := Nat → Option (List V → Heap → Option (Out × Option Heap))

/-- What is said of functions by hand holds. -/
def HandOk (P : Program) (t : HandT) : Prop := ∀ f k args h out oh, t f = some k → k args h = some (out, oh) → callOk P f = true ∧ ∀ ι w, HR ι h.o w → V.scs h.o.length args →
  Calls P f (V.reals ι args).toArray w fun e w' => ∃ κ, Nx ι h w κ (oh.getD h) w' ∧ OutOk κ (oh.getD h).o.length e out

/-- Tables of plain functions, and behind them those by hand. -/
def extH (g : Nat → Option Ans) (t : HandT) : ExtF := fun c f => match plainExt g c f with
  | some k => some k
  | none => t f

theorem extH_mono (g : Nat → Option Ans) (t : HandT) : ExtMono (extH g t) := by
  intro c c' _ f
  exact ⟨fun h => h, fun k h => ⟨k, h, fun a hp r e => e⟩⟩

theorem extH_none {g : Nat → Option Ans} {t : HandT} {f : Nat} (h : g f = none) (ht : t f = none) (c : CallF) : extH g t c f = none := by simp [extH, plainExt, h, ht]

theorem extH_sound {P : Program} {g : Nat → Option Ans} {t : HandT} (hg : ExtSound P (plainExt g)) (ht : HandOk P t) : ExtSound P (extH g t) := by
  intro call hcall f k args h out oh hk he
  unfold extH at hk
  split at hk
  · rename_i k' hk'
    cases hk
    exact hg call hcall f k args h out oh hk' he
  · exact ht f k args h out oh hk he

theorem plain0_sound {P : Program} : ExtSound P (plainExt fun _ => none) := by
  intro call hcall f k args h out oh hk he
  simp [plainExt] at hk

theorem addH_sound {P : Program} (hm : P.follows .mixedOrders = true) {F : Nat → Option AF} (hF : FOk P F) {g : Nat → Option Ans} {t : HandT} (hE : ExtSound P (extH g t)) (hg0 : ExtSound P (plainExt g)) {l : List (Nat × Ans)} (hl : ∀ p ∈ l, SpOk F (extH g t) p.1 p.2) : ExtSound P (plainExt (addG g l)) := by
  intro call hcall f k args h out oh hk he
  cases hf : l.find? (fun p => p.1 == f) with
  | none =>
    have hg : addG g l f = g f := by simp only [addG, hf]
    have hk' : plainExt g call f = some k := by
      rw [← hk]; simp only [plainExt, hg]
    exact hg0 call hcall f k args h out oh hk' he
  | some p =>
    have hp := List.mem_of_find?_eq_some hf
    have hpf : p.1 = f := by simpa using List.find?_some hf
    have hsp := hl p hp
    let g1 : Nat → Option Ans := fun j => if j = p.1 then some p.2 else none
    have h1 : PlainOk F (extH g t) g1 := by
      intro f' sp args v hg' hs hpl
      simp only [g1] at hg'
      split at hg'
      · rename_i e
        cases hg'
        rw [e]
        exact hsp args v hs hpl
      · cases hg'
    have h2 := plainExt_sound hm hF hE h1
    refine h2 call hcall f k args h out oh ?_ he
    rw [← hk]
    simp only [plainExt, g1, addG, hf, hpf, if_true]

theorem denH_plain {F : Nat → Option AF} {g : Nat → Option Ans} {t : HandT} {f : Nat} {sp : Ans} {args : List V} {v : V} (h : Heap) (hg : g f = some sp) (hs : sp args = some v) (hp : V.plains args = true) :
    Den F (extH g t) f args h = some (.val v, none) := by
  refine Den_of (extH_mono g t) (k := 1) ?_
  simp only [callN, extH, plainExt, hg, Option.map_some, if_pos hp, hs]

/-- A function by hand. -/
theorem den_hand {F : Nat → Option AF} {g : Nat → Option Ans} {t : HandT} {f : Nat} {k : List V → Heap → Option (Out × Option Heap)} {args : List V} {h : Heap} {r : Out × Option Heap} (hg : g f = none) (ht : t f = some k) (hr : k args h = some r) : Den F (extH g t) f args h = some r := by
  refine Den_of (extH_mono g t) (k := 1) ?_
  simp only [callN, extH, plainExt, hg, Option.map_none, ht, hr]

/-- What calls come to is so. -/
theorem callOk_den {P : Program} (hm : P.follows .mixedOrders = true) {F : Nat → Option AF} (hF : FOk P F) {E : ExtF} (hE : ExtSound P E) : CallOk P (Den F E) := fun f args h out oh he => by
  obtain ⟨k, hk⟩ := of_Den he
  exact callN_ok hm hF hE k f args h out oh hk

theorem Nx.low {ι κ : Map} {h : Heap} {w w' : World} {o : List Obj} {e d d' : Nat} (hn : Nx ι h w κ ⟨o, e, d⟩ w') (hd : d' ≤ d) : Nx ι h w κ ⟨o, e, d'⟩ w' :=
  ⟨hn.hr, hn.ag, hn.len, hn.fr, hn.cl, ⟨hn.ed.1, Nat.le_trans hd hn.ed.2⟩, fun l hl hl' => hn.un l hl (Nat.lt_of_lt_of_le hl' hd), hn.ro⟩

/-- A function's body, and what it leaves. -/
theorem calls_body {P : Program} {f : Nat} {fn : Func} {c : Code} {res : List RV} (hfn : P.funcs[f]? = some fn) (hb : fn.body = some c) (hres : trRes P fn.results.toList = some res) {ι : Map} {h : Heap} {w : World} {args : List V} (hr : HR ι h.o w) (hsc : V.scs h.o.length args) (hle : args.length ≤ fn.ntmps) {v : V} {h2 : Heap}
    (hwp : ∀ a : Act, SR ι (initS args) fn.ntmps a.tmps h.o.length → a.defers = [] → c.wp P (fun e a' w' => (e = .normal ∨ e = .ret) ∧ ∃ κ S' h', Nx ι (enter h) w κ h' w' ∧ SR κ (S' : Nat → V) fn.ntmps a'.tmps h'.o.length ∧ a'.defers = [] ∧ ∃ vs, resAll S' h' res = some vs ∧ v = resV vs ∧
      ((leave h h' v).getD h).o = h2.o ∧ ((leave h h' v).getD h).e = h2.e ∧ h2.d ≤ ((leave h h' v).getD h).d) a w) :
    Calls P f (V.reals ι args).toArray w fun e w' => ∃ κ, Nx ι h w κ h2 w' ∧ OutOk κ h2.o.length e (.val v) := by
  refine calls_of_wp hfn hb (wp_mono (hwp _ (initS_SR hsc hle) rfl) ?_)
  rintro e a' w' ⟨he, κ, S', h', hn, hs, hd, vs, hvs, rfl, e1, e2, e3⟩
  obtain ⟨q1, q2⟩ := results_run hn.hr hs hres hvs
  obtain ⟨q3, q4⟩ := leave_ok hr hn q2
  have key : bodyPost P fn (fun e w' => ∃ κ, Nx ι h w κ h2 w' ∧ OutOk κ h2.o.length e (.val (resV vs))) .normal a' w' := by
    refine ⟨hd, _, q1, κ, ?_, rfl, ?_⟩
    · generalize (leave h h' (resV vs)).getD h = hl at q3 e1 e2 e3
      obtain ⟨o1, e1', d1⟩ := hl
      obtain ⟨o2, e2', d2⟩ := h2
      simp only at e1 e2 e3
      subst e1; subst e2
      exact q3.low e3
    · rw [← e1]; exact q4
  rcases he with rfl | rfl <;> exact key
end AM

/- AM, part 27: words and bytes, once more. -/
namespace AM
open Go
set_option linter.unusedVariables false
set_option linter.unusedSimpArgs false

/-- The byte of a number that stands so many bytes from its end. -/
def byteAt (n : Int) (j : Nat) : UInt8 := UInt8.ofNat ((n.fdiv (2 ^ (8 * j))) % 256).toNat
def tobeI (s : Nat) (n : Int) : List UInt8 := (List.range s).map fun j => byteAt n (s - 1 - j)
/-- Two byte arrays alike. -/
theorem eqKs_bytes : ∀ {n : Nat} {p q : List UInt8}, p.length = n → q.length = n → eqKs (List.replicate n .i) (bytesA p) (bytesA q) = some (p == q)
  | 0, [], [], _, _ => rfl
  | n + 1, b :: p, c :: q, hp, hq => by
    have ih := eqKs_bytes (n := n) (p := p) (q := q) (by simpa using hp) (by simpa using hq)
    simp only [bytesA, List.map_cons, List.replicate_succ, eqKs, eqK] at ih ⊢
    have hbc : ((b.toNat : Int) == (c.toNat : Int)) = (b == c) := by
      rw [Bool.eq_iff_iff]
      simp only [beq_iff_eq]
      constructor
      · intro h; exact UInt8.toNat_inj.1 (by omega)
      · rintro rfl; rfl
    simp only [hbc] at *
    rw [ih]
    cases h : (b == c) <;> simp_all
end AM

/- AM, part 28: code step by step. -/
namespace AM
open Go
set_option linter.unusedVariables false
set_option linter.unusedSectionVars false

section
variable {F : Nat → Option AF} {ext : ExtF} (hx : ExtMono ext)
include hx

/-- One operation of a region in order. -/
theorem To.op {o : AO} {r : List AO} {S S' : Nat → V} {h : Heap} {oh : Option Heap} {Q : Ex → (Nat → V) → Heap → Prop} (he : execO (Den F ext) o S h = some (none, S', oh)) (hk : To F ext (.region r false) S' (oh.getD h) Q) : To F ext (.region (o :: r) false) S h Q := by
  obtain ⟨x, S2, h2, e, q⟩ := hk
  refine ⟨x, S2, h2, ?_, q⟩
  rw [eq_region hx] at e ⊢
  rw [ops_cons, he]
  cases oh <;> exact e

theorem To.op0 {o : AO} {r : List AO} {S S' : Nat → V} {h : Heap} {Q : Ex → (Nat → V) → Heap → Prop} (he : execO (Den F ext) o S h = some (none, S', none)) (hk : To F ext (.region r false) S' h Q) : To F ext (.region (o :: r) false) S h Q := To.op hx he hk
theorem To.op1 {o : AO} {r : List AO} {S S' : Nat → V} {h h' : Heap} {Q : Ex → (Nat → V) → Heap → Prop} (he : execO (Den F ext) o S h = some (none, S', some h')) (hk : To F ext (.region r false) S' h' Q) : To F ext (.region (o :: r) false) S h Q := To.op hx he hk

theorem To.nop {S : Nat → V} {h : Heap} {Q : Ex → (Nat → V) → Heap → Prop} (hk : Q .norm S h) : To F ext (.region [] false) S h Q := ⟨_, _, _, eq_region hx S h [], hk⟩
theorem To.skip {S : Nat → V} {h : Heap} {Q : Ex → (Nat → V) → Heap → Prop} (hk : Q .norm S h) : To F ext .skip S h Q := ⟨_, _, _, Run_skip hx S h, hk⟩
theorem To.label {l : Nat} {S : Nat → V} {h : Heap} {Q : Ex → (Nat → V) → Heap → Prop} (hk : Q .norm S h) : To F ext (.label l) S h Q := ⟨_, _, _, Run_label hx S h l, hk⟩
theorem To.ret {S : Nat → V} {h : Heap} {Q : Ex → (Nat → V) → Heap → Prop} (hk : Q .ret S h) : To F ext .ret S h Q := ⟨_, _, _, Run_ret hx S h, hk⟩
theorem To.exit {id : Nat} {S : Nat → V} {h : Heap} {Q : Ex → (Nat → V) → Heap → Prop} (hk : Q (.exit id) S h) : To F ext (.exit id) S h Q := ⟨_, _, _, Run_exit hx S h id, hk⟩
theorem To.condT {o : Opd} {a b : AC} {S : Nat → V} {h : Heap} {Q : Ex → (Nat → V) → Heap → Prop} (ho : o.ev S = .bool true) (hc : To F ext a S h Q) : To F ext (.cond o a b) S h Q := To.cond hx ho hc
theorem To.condF {o : Opd} {a b : AC} {S : Nat → V} {h : Heap} {Q : Ex → (Nat → V) → Heap → Prop} (ho : o.ev S = .bool false) (hc : To F ext b S h Q) : To F ext (.cond o a b) S h Q := To.cond hx ho hc

/-- What is left of a region whose order is open. -/
def ToD (F : Nat → Option AF) (ext : ExtF) (N m : Nat) (l : List DO) (S : Nat → V) (h : Heap) (Q : (Nat → V) → Heap → Prop) : Prop := ∃ S' h', execD (Den F ext) N m l S h = some (S', h') ∧ Q S' h'

theorem To.draw0 {l : List DO} {S : Nat → V} {h : Heap} {Q : Ex → (Nat → V) → Heap → Prop} (hd : ToD F ext h.o.length 0 l S h (Q .norm)) : To F ext (.draw 0 l) S h Q := by
  obtain ⟨S', h', e, q⟩ := hd
  refine ⟨_, _, _, ?_, q⟩
  rw [eq_draw hx]
  simp only [drawA, if_true, e]

theorem To.draw {m : Nat} {l : List DO} {S : Nat → V} {h : Heap} {Q : Ex → (Nat → V) → Heap → Prop} (hm : m ≠ 0) (hd : ToD F ext h.o.length m l S ⟨h.o ++ List.replicate m .dead, h.o.length, h.o.length⟩ (fun S' h' => Q .norm S' ⟨h'.o, min h.e h'.e, min h.d h'.d⟩)) : To F ext (.draw m l) S h Q := by
  obtain ⟨S', h', e, q⟩ := hd
  refine ⟨_, _, _, ?_, q⟩
  rw [eq_draw hx]
  simp only [drawA, if_neg hm, e]

omit hx
theorem ToD.op {N m : Nat} {x : DO} {l : List DO} {S : Nat → V} {h : Heap} {v : V} {k : KD} {Q : (Nat → V) → Heap → Prop} (he : outD (Den F ext) N m x S h = some (v, k)) (hk : ToD F ext N m l (putO S x.o.d v) (k.app h) Q) : ToD F ext N m (x :: l) S h Q := by
  obtain ⟨S', h', e, q⟩ := hk
  exact ⟨S', h', by simp only [execD, he, e], q⟩
theorem ToD.op0 {N m : Nat} {x : DO} {l : List DO} {S S' : Nat → V} {h : Heap} {v : V} {Q : (Nat → V) → Heap → Prop} (he : outD (Den F ext) N m x S h = some (v, .q)) (hs : putO S x.o.d v = S') (hk : ToD F ext N m l S' h Q) : ToD F ext N m (x :: l) S h Q := ToD.op he (hs ▸ hk)
theorem ToD.op1 {N m : Nat} {x : DO} {l : List DO} {S S' : Nat → V} {h h' : Heap} {v : V} {k : KD} {Q : (Nat → V) → Heap → Prop} (he : outD (Den F ext) N m x S h = some (v, k)) (hs : putO S x.o.d v = S') (hh : k.app h = h') (hk : ToD F ext N m l S' h' Q) : ToD F ext N m (x :: l) S h Q := ToD.op he (hs ▸ hh ▸ hk)
theorem ToD.nop {N m : Nat} {S : Nat → V} {h : Heap} {Q : (Nat → V) → Heap → Prop} (hk : Q S h) : ToD F ext N m [] S h Q := ⟨S, h, rfl, hk⟩
end
end AM

/- AM, part 29: the arguments of a law, whatever they are, as abstract values; from what a law comes to, to its row. -/
namespace AM
open Go
set_option linter.unusedVariables false
set_option linter.unusedSimpArgs false
set_option linter.unusedSectionVars false

/-- The types of arguments. -/
inductive Ty where
  | bool
  | int (k : IntKind)
  | str
  | slice (t : Ty)
  | arr (n : Nat) (t : Ty)
  | struct (ts : List Ty)

mutual
/-- How many cells. -/
def Ty.size : Ty → Nat
  | .arr n t => n * t.size
  | .struct ts => Ty.sizes ts
  | .bool | .int _ | .str | .slice _ => 1
def Ty.sizes : List Ty → Nat
  | [] => 0
  | t :: ts => t.size + Ty.sizes ts
end

mutual
/-- Cells of a type; slices are rows that are never written. -/
def Ty.has (o : List Obj) : Ty → List V → Prop
  | .bool, cs => ∃ b, cs = [.bool b]
  | .int k, cs => ∃ n, cs = [.int k n] ∧ k.min ≤ n ∧ n ≤ k.max
  | .str, cs => ∃ s, cs = [.str s] ∧ s.length ≤ maxLen
  | .slice t, cs => cs = [.nils] ∨ (∃ a, cs = [.zsl a]) ∨ ∃ l n, cs = [.slice l 0 n t.size] ∧ n ≤ maxLen ∧ ∃ u xs, o[l]? = some (.cells .ro u 0 (List.flatten xs)) ∧ xs.length = n ∧ ∀ x ∈ xs, Ty.has o t x
  | .arr n t, cs => ∃ xs, cs = List.flatten xs ∧ xs.length = n ∧ ∀ x ∈ xs, Ty.has o t x
  | .struct ts, cs => Ty.hass o ts cs
def Ty.hass (o : List Obj) : List Ty → List V → Prop
  | [], cs => cs = []
  | t :: ts, cs => ∃ a b, cs = a ++ b ∧ Ty.has o t a ∧ Ty.hass o ts b
end

/-- Never written, all of them. -/
def AllRo (o : List Obj) : Prop := ∀ (l : Nat) (x : Obj), o[l]? = some x → x.own = false

def Ext (o o' : List Obj) : Prop := ∃ r, o' = o ++ r
theorem Ext.refl (o : List Obj) : Ext o o := ⟨[], by simp⟩
theorem Ext.trans {a b c : List Obj} : Ext a b → Ext b c → Ext a c := by
  rintro ⟨r, rfl⟩ ⟨s, rfl⟩
  exact ⟨r ++ s, by simp⟩
theorem Ext.get {a b : List Obj} (h : Ext a b) {l : Nat} {x : Obj} (hx : a[l]? = some x) : b[l]? = some x := by
  obtain ⟨r, rfl⟩ := h
  rw [List.getElem?_append_left (List.getElem?_eq_some_iff.1 hx).1]
  exact hx
theorem Ext.len {a b : List Obj} (h : Ext a b) : a.length ≤ b.length := by
  obtain ⟨r, rfl⟩ := h
  simp

mutual
theorem Ty.has_ext {o o' : List Obj} (he : Ext o o') : ∀ (t : Ty) (cs : List V), Ty.has o t cs → Ty.has o' t cs
  | .bool, cs, h => h
  | .int _, cs, h => h
  | .str, cs, h => h
  | .slice t, cs, h => by
    rcases h with h | h | ⟨l, n, h1, h2, u, xs, h5, h6, h7⟩
    · exact .inl h
    · exact .inr (.inl h)
    · exact .inr (.inr ⟨l, n, h1, h2, u, xs, he.get h5, h6, fun x hx => Ty.has_ext he t x (h7 x hx)⟩)
  | .arr n t, cs, h => by
    obtain ⟨xs, h1, h2, h3⟩ := h
    exact ⟨xs, h1, h2, fun x hx => Ty.has_ext he t x (h3 x hx)⟩
  | .struct ts, cs, h => Ty.hass_ext he ts cs h
theorem Ty.hass_ext {o o' : List Obj} (he : Ext o o') : ∀ (ts : List Ty) (cs : List V), Ty.hass o ts cs → Ty.hass o' ts cs
  | [], cs, h => h
  | t :: ts, cs, h => by
    obtain ⟨a, b, h1, h2, h3⟩ := h
    exact ⟨a, b, h1, Ty.has_ext he t a h2, Ty.hass_ext he ts b h3⟩
end

section
variable {W : World}

/-- Cells of the world that can be read as abstract ones, behind any row of such. -/
def Opens (W : World) (k : List Obj → List V → Prop) (cs : List Value) : Prop :=
  ∀ (ι : Map) (o : List Obj), HR ι o W → AllRo o → ∃ κ o' cs', HR κ o' W ∧ AllRo o' ∧ Ext o o' ∧ Agree ι κ o.length ∧ V.reals κ cs' = cs ∧ V.scs o'.length cs' ∧ k o' cs'

theorem Opens.plain {k : List Obj → List V → Prop} {cs : List Value} {cs' : List V} (h1 : ∀ κ, V.reals κ cs' = cs) (h2 : V.plains cs' = true) (h3 : ∀ o, k o cs') : Opens W k cs :=
  fun ι o hr ha => ⟨ι, o, cs', hr, ha, Ext.refl o, Agree.refl _ _, h1 ι, V.scs_of_plains _ _ h2, h3 o⟩

theorem Opens.mono {k k' : List Obj → List V → Prop} {cs : List Value} (h : Opens W k cs) (hk : ∀ o x, k o x → k' o x) : Opens W k' cs := by
  intro ι o hr ha
  obtain ⟨κ, o', cs', h1, h2, h3, h4, h5, h6, h7⟩ := h ι o hr ha
  exact ⟨κ, o', cs', h1, h2, h3, h4, h5, h6, hk _ _ h7⟩

theorem reals_append (κ : Map) (a b : List V) : V.reals κ (a ++ b) = V.reals κ a ++ V.reals κ b := by simp only [V.reals_eq, List.map_append]

theorem Opens.append {k k' : List Obj → List V → Prop} {a b : List Value} (ha : Opens W k a) (hb : Opens W k' b) (hm : ∀ o o' x, Ext o o' → k o x → k o' x) :
    Opens W (fun o cs => ∃ x y, cs = x ++ y ∧ k o x ∧ k' o y) (a ++ b) := by
  intro ι o hr hro
  obtain ⟨κ, o1, x, h1, h2, h3, h4, h5, h6, h7⟩ := ha ι o hr hro
  obtain ⟨μ, o2, y, g1, g2, g3, g4, g5, g6, g7⟩ := hb κ o1 h1 h2
  refine ⟨μ, o2, x ++ y, g1, g2, h3.trans g3, h4.trans g4 h3.len, ?_, ?_, x, y, rfl, hm _ _ _ g3 h7, g7⟩
  · rw [reals_append, g5, V.reals_agree g4 x h6, h5]
  · exact scs_append.2 ⟨V.scs_mono g3.len x h6, g6⟩

/-- Rows of one kind. -/
theorem Opens.rows {k : List Obj → List V → Prop} (hm : ∀ o o' x, Ext o o' → k o x → k o' x) : ∀ (css : List (List Value)), (∀ c ∈ css, Opens W k c) → Opens W (fun o cs => ∃ xs, cs = List.flatten xs ∧ xs.length = css.length ∧ ∀ x ∈ xs, k o x) css.flatten
  | [], _ => Opens.plain (cs' := []) (fun _ => rfl) rfl fun o => ⟨[], rfl, rfl, by simp⟩
  | c :: r, h => by
    have ih := Opens.rows hm r fun x hx => h x (List.mem_cons_of_mem _ hx)
    rw [List.flatten_cons]
    refine (Opens.append (h c List.mem_cons_self) ih hm).mono ?_
    rintro o cs ⟨x, y, rfl, hx, xs, rfl, hl, hxs⟩
    exact ⟨x :: xs, rfl, by simp [hl], fun z hz => by
      rcases List.mem_cons.1 hz with rfl | hz
      · exact hx
      · exact hxs z hz⟩

/-- One more row that is never written. -/
theorem hr_add {ι : Map} {o : List Obj} (hr : HR ι o W) (ha : AllRo o) {x : Obj} (hx : x.own = false) {p : Place} (hor : OR ι W p x) (hs : x.sc o.length) :
    HR (ι.upd o.length p) (o ++ [x]) W ∧ AllRo (o ++ [x]) := by
  have ag := Map.agree_upd ι o.length p
  have look : ∀ (k : Nat) (y : Obj), (o ++ [x])[k]? = some y → (k = o.length ∧ y = x) ∨ (k < o.length ∧ o[k]? = some y) := by
    intro k y hy
    rw [List.getElem?_append] at hy
    split at hy
    · exact .inr ⟨by assumption, hy⟩
    · have hk : k - o.length = 0 := by
        rcases Nat.eq_zero_or_pos (k - o.length) with h0 | h0
        · exact h0
        · rw [List.getElem?_eq_none (by simp; omega)] at hy; simp at hy
      rw [hk] at hy
      simp at hy
      exact .inl ⟨by omega, hy.symm⟩
  have hro : AllRo (o ++ [x]) := by
    intro k y hy
    rcases look k y hy with ⟨_, rfl⟩ | ⟨_, hy'⟩
    · exact hx
    · exact ha k y hy'
  refine ⟨⟨fun k y hy => ?_, fun k k' y y' hkk hy hy' hyo => ?_, fun k y hy => ?_⟩, hro⟩
  · rcases look k y hy with ⟨rfl, rfl⟩ | ⟨hk, hy'⟩
    · rw [Map.upd_same]
      exact hor.agree ag hs
    · rw [ag k hk]
      exact (hr.obj k y hy').agree ag (hr.sc k y hy')
  · rw [hro k y hy] at hyo
    cases hyo
  · simp only [List.length_append, List.length_cons, List.length_nil]
    rcases look k y hy with ⟨rfl, rfl⟩ | ⟨hk, hy'⟩
    · exact Obj.sc_mono (by omega) hs
    · exact Obj.sc_mono (by omega) (hr.sc k y hy')

/-- The cells of a slice, one behind the other. -/
theorem cells_chunks {w : World} {base : Nat} {a : Addr} {e : Nat} : ∀ {n : Nat} {f : Nat → List Value}, (∀ i, i < n → w.cells? base (a.add (i * e)) e = some (f i)) → ∀ j, j < n * e → ∃ v, ((List.range n).map f).flatten[j]? = some v ∧ w.cell? (a.add j) = some v
  | 0, f, h, j, hj => by simp at hj
  | n + 1, f, h, j, hj => by
    have ih := cells_chunks (n := n) (f := f) fun i hi => h i (by omega)
    have hlen : ∀ m, m ≤ n + 1 → ((List.range m).map f).flatten.length = m * e := by
      intro m
      induction m with
      | zero => simp
      | succ m ihm =>
        intro hm
        obtain ⟨_, hl, _⟩ := World.cells?_some (h m (by omega))
        rw [List.range_succ, List.map_append, List.flatten_append, List.length_append, ihm (by omega)]
        simp [hl, Nat.succ_mul]
    by_cases hj' : j < n * e
    · obtain ⟨v, h1, h2⟩ := ih j hj'
      refine ⟨v, ?_, h2⟩
      rw [List.range_succ, List.map_append, List.flatten_append, List.getElem?_append_left (by rw [hlen n (by omega)]; exact hj')]
      exact h1
    · obtain ⟨_, hl, hc⟩ := World.cells?_some (h n (by omega))
      have hjn : j - n * e < e := by rw [Nat.succ_mul] at hj; omega
      have h2 := hc (j - n * e) hjn
      rw [List.getElem?_eq_getElem (by omega)] at h2
      refine ⟨(f n)[j - n * e]'(by omega), ?_, ?_⟩
      · rw [List.range_succ, List.map_append, List.flatten_append, List.getElem?_append_right (by rw [hlen n (by omega)]; omega), hlen n (by omega)]
        simp [List.getElem?_eq_getElem (show j - n * e < (f n).length by omega)]
      · rw [← h2]
        congr 1
        unfold Addr.add
        by_cases h0 : n * e = 0
        · simp only [h0, if_true, Nat.sub_zero]
        · by_cases h1 : j - n * e = 0
          · have : j = n * e := by omega
            simp [this, h0]
          · have : j ≠ 0 := by omega
            simp only [if_neg h0, if_neg h1, if_neg this]
            congr 1
            omega

end
end AM

/- AM, part 30: what a law's arguments are, by their types. -/
namespace AM
open Go
set_option linter.unusedVariables false
set_option linter.unusedSimpArgs false
set_option linter.unusedSectionVars false

def fieldsOf (P : Program) (r : TypeId → Option Ty) : Nat → List Field → Option (List Ty)
  | _, [] => some []
  | off, f :: fs =>
    if f.offset = off then
      match r f.type with
      | some u => if P.cellsOf f.type = u.size then (match fieldsOf P r (off + u.size) fs with | some us => some (u :: us) | none => none) else none
      | none => none
    else none

def tyOf (P : Program) : Nat → TypeId → Option Ty
  | 0, _ => none
  | n + 1, t =>
    match P.underlying t with
    | some .bool => some .bool
    | some (.int k) => some (.int k)
    | some .string => some .str
    | some (.slice e) => match tyOf P n e with
      | some u => if 0 < u.size ∧ P.cellsOf e = u.size then some (.slice u) else none
      | none => none
    | some (.array m e) => match tyOf P n e with
      | some u => if P.cellsOf t = m * u.size ∧ P.cellsOf e = u.size then some (.arr m u) else none
      | none => none
    | some (.struct fs) => match fieldsOf P (tyOf P n) 0 fs.toList with
      | some us => if P.cellsOf t = Ty.sizes us then some (.struct us) else none
      | none => none
    | _ => none

theorem flatten_chunks {α : Type} (sz : Nat) : ∀ (n : Nat) (cs : List α), cs.length = n * sz → ((List.range n).map fun i => (cs.drop (i * sz)).take sz).flatten = cs
  | 0, cs, h => by
    have : cs = [] := List.length_eq_zero_iff.1 (by simpa using h)
    subst this; rfl
  | n + 1, cs, h => by
    have ih := flatten_chunks sz n (cs.drop sz) (by rw [List.length_drop, h, Nat.succ_mul]; omega)
    rw [List.range_succ_eq_map, List.map_cons, List.flatten_cons, Nat.zero_mul, List.drop_zero, List.map_map]
    have : ((fun i => (cs.drop (i * sz)).take sz) ∘ Nat.succ) = fun i => ((cs.drop sz).drop (i * sz)).take sz := by
      funext i
      simp only [Function.comp, List.drop_drop]
      congr 2
      rw [Nat.succ_mul]; omega
    rw [this, ih, List.take_append_drop]

section
variable {H : Type} {enc : TypeId × Value → H} {P : Program} {W : World} {held : Bool}

theorem opens_fields {r : TypeId → Option Ty} {cs : List Value} : ∀ (fs : List Field) (off : Nat) (us : List Ty), fieldsOf P r off fs = some us →
    (∀ f ∈ fs, ∀ u, r f.type = some u → Opens W (fun o c => Ty.has o u c) ((cs.drop f.offset).take (P.cellsOf f.type))) → (cs.drop off).length = Ty.sizes us → Opens W (fun o c => Ty.hass o us c) (cs.drop off)
  | [], off, us, h, _, hl => by
    simp only [fieldsOf, Option.some.injEq] at h
    subst h
    have : cs.drop off = [] := List.length_eq_zero_iff.1 (by simpa [Ty.sizes] using hl)
    rw [this]
    exact Opens.plain (cs' := []) (fun _ => rfl) rfl fun o => rfl
  | f :: fs, off, us, h, hf, hl => by
    unfold fieldsOf at h
    split at h
    · rename_i hoff
      split at h
      · rename_i u hu
        split at h
        · rename_i hc
          split at h
          · rename_i us' hus
            simp only [Option.some.injEq] at h
            subst h
            have h1 := hf f List.mem_cons_self u hu
            have e1 : cs.drop off = (cs.drop f.offset).take (P.cellsOf f.type) ++ cs.drop (off + u.size) := by
              rw [hoff, hc, ← List.drop_drop, List.take_append_drop]
            have ih := opens_fields fs (off + u.size) us' hus (fun g hg u' hu' => hf g (List.mem_cons_of_mem _ hg) u' hu') (by
              rw [← List.drop_drop, List.length_drop, hl]
              simp [Ty.sizes])
            rw [e1]
            refine (Opens.append h1 ih (fun o o' x he hx => Ty.has_ext he u x hx)).mono ?_
            rintro o c ⟨x, y, rfl, hx, hy⟩
            exact ⟨x, y, rfl, hx, hy⟩
          · cases h
        · cases h
      · cases h
    · cases h

theorem opens : ∀ (n : Nat) (t : TypeId) (ty : Ty), tyOf P n t = some ty → ∀ (fuel : Nat) (cs : List Value) (x : DataW H × List MemPlace), DataW.trod enc P W 0 (fun _ => true) held fuel t cs = some x → Opens W (fun o c => Ty.has o ty c) cs
  | 0, t, ty, h => by simp [tyOf] at h
  | n + 1, t, ty, h => by
    intro fuel cs x ht
    unfold tyOf at h
    split at h
    · rename_i hu
      simp only [Option.some.injEq] at h; subst h
      obtain ⟨b, rfl, _⟩ := DataW.trod_bool hu ht
      exact Opens.plain (cs' := [.bool b]) (fun _ => rfl) rfl fun o => ⟨b, rfl⟩
    · rename_i k hu
      simp only [Option.some.injEq] at h; subst h
      obtain ⟨m, rfl, _, hw⟩ := DataW.trod_int hu ht
      refine Opens.plain (cs' := [.int k m]) (fun _ => rfl) rfl fun o => ⟨m, rfl, ?_⟩
      simpa [Lit.wf] using hw
    · rename_i hu
      simp only [Option.some.injEq] at h; subst h
      obtain ⟨s, rfl, _, hs⟩ := DataW.trod_string hu ht
      exact Opens.plain (cs' := [.str s.data.toList]) (fun _ => rfl) rfl fun o => ⟨_, rfl, by simpa using hs⟩
    · rename_i e hu
      split at h
      · rename_i u hue
        split at h
        · rename_i hsz
          obtain ⟨h0, hce⟩ := hsz
          simp only [Option.some.injEq] at h; subst h
          rcases Go.Deep.open_slice hu ht with ⟨rfl, _⟩ | ⟨a, len, cap, m, n', D, Pl, rfl, _, hlc, hcm, hm, _, hel⟩
          · exact Opens.plain (cs' := [.nils]) (fun _ => rfl) rfl fun o => .inl rfl
          · simp only [if_true] at hm
            subst hm
            by_cases hc0 : m = 0
            · subst hc0
              have hl0 : len = 0 := by omega
              subst hl0
              exact Opens.plain (cs' := [.zsl a]) (fun _ => rfl) rfl fun o => .inr (.inl ⟨a, rfl⟩)
            · have hch : ∀ i, ∃ c, i < m → W.cells? 0 (a.add (i * u.size)) u.size = some c ∧ DataW.trod enc P W 0 (fun _ => true) held n' e c = some (D i, Pl i) := by
                intro i
                by_cases hi : i < m
                · obtain ⟨c, h1, h2⟩ := hel i hi
                  rw [hce] at h1
                  exact ⟨c, fun _ => ⟨h1, h2⟩⟩
                · exact ⟨[], fun h => absurd h hi⟩
              obtain ⟨f, hf⟩ := Classical.axiomOfChoice hch
              have hall := cells_chunks (w := W) (base := 0) (a := a) (e := u.size) (n := m) (f := f) fun i hi => (hf i hi).1
              have hlen := cells_chunks (w := W) (base := 0) (a := a) (e := u.size) (n := len) (f := f) fun i hi => (hf i (by omega)).1
              have hm0 : 0 < m * u.size := Nat.mul_pos (by omega) h0
              obtain ⟨v0, _, hv0⟩ := hall 0 hm0
              have ha0 : a.add 0 = a := rfl
              rw [ha0] at hv0
              obtain ⟨arr, t', fr, hblk, hsp⟩ : ∃ arr t' fr, W.heap[a.block]? = some (.cells arr t' fr) ∧ a.spot = none := by
                unfold World.cell? at hv0
                split at hv0
                · rename_i arr t' fr hb
                  split at hv0
                  · cases hv0
                  · rename_i hs
                    exact ⟨arr, t', fr, hb, by simpa using hs⟩
                · cases hv0
              obtain ⟨lo, hi⟩ := fr
              have hcell : ∀ j v, W.cell? (a.add j) = some v → arr[a.off + j]? = some v := by
                intro j v hv
                unfold Addr.add at hv
                split at hv
                · rename_i hj; subst hj
                  simpa [World.cell?, hblk, hsp] using hv
                · simpa [World.cell?, hblk] using hv
              have hrows := Opens.rows (W := W) (k := fun o c => Ty.has o u c) (fun o o' x he hx => Ty.has_ext he u x hx) ((List.range len).map f) (by
                intro c hc
                obtain ⟨i, hi, rfl⟩ := List.mem_map.1 hc
                have hi' : i < len := List.mem_range.1 hi
                exact opens n e u hue n' (f i) _ (hf i (by omega)).2)
              intro ι o hr ha
              obtain ⟨κ, o', cs', h1, h2, h3, h4, h5, h6, xs, rfl, hxl, hxs⟩ := hrows ι o hr ha
              have hcl : xs.flatten.length = len * u.size := by
                have e1 : xs.flatten.length = (V.reals κ xs.flatten).length := by rw [V.reals_eq, List.length_map]
                rw [e1, h5]
                have key : ∀ k, k ≤ len → ((List.range k).map f).flatten.length = k * u.size := by
                  intro k
                  induction k with
                  | zero => simp
                  | succ k ihk =>
                    intro hk
                    obtain ⟨_, hl, _⟩ := World.cells?_some (hf k (by omega)).1
                    rw [List.range_succ, List.map_append, List.flatten_append, List.length_append, ihk (by omega)]
                    simp [hl, Nat.succ_mul]
                exact key len (Nat.le_refl _)
              have hle : len * u.size ≤ m * u.size := Nat.mul_le_mul_right _ hlc
              have hor : OR κ W ⟨a.block, a.off, m * u.size⟩ (.cells .ro 0 0 xs.flatten) := by
                refine ⟨arr, t', lo, hi, hblk, ?_, by rw [hcl]; exact hle, ?_, by simp, by simp⟩
                · obtain ⟨v, _, hv⟩ := hall (m * u.size - 1) (by omega)
                  have := (Array.getElem?_eq_some_iff.1 (hcell _ _ hv)).1
                  show a.off + m * u.size ≤ arr.size
                  omega
                · intro i c hi
                  have hil := (List.getElem?_eq_some_iff.1 hi).1
                  rw [hcl] at hil
                  obtain ⟨v, hv1, hv2⟩ := hlen i hil
                  have e1 : (V.reals κ xs.flatten)[i]? = some (c.real κ) := by rw [V.reals_eq, List.getElem?_map, hi]; rfl
                  rw [h5, hv1] at e1
                  cases e1
                  exact hcell _ _ hv2
              obtain ⟨k1, k2⟩ := hr_add h1 h2 (x := .cells .ro 0 0 xs.flatten) rfl (p := ⟨a.block, a.off, m * u.size⟩) hor h6
              have he2 : Ext o' (o' ++ [.cells .ro 0 0 xs.flatten]) := ⟨_, rfl⟩
              refine ⟨_, _, [.slice o'.length 0 len u.size], k1, k2, h3.trans he2, h4.trans (Map.agree_upd κ o'.length _) h3.len, ?_, ?_, .inr (.inr ⟨_, _, rfl, by omega, 0, xs, ?_, by simpa using hxl, fun x hx => Ty.has_ext he2 u x (hxs x hx)⟩)⟩
              · simp only [V.reals, V.real, Map.upd_same, Nat.add_zero, Nat.sub_zero]
                rw [Nat.mul_div_cancel _ h0]
                have : a = ⟨a.block, a.off, none⟩ := by rw [← hsp]
                rw [← this]
              · simp [V.scs, V.sc]
              · rw [List.getElem?_append_right (Nat.le_refl _), Nat.sub_self]; rfl
        · cases h
      · cases h
    · rename_i m e hu
      split at h
      · rename_i u hue
        split at h
        · rename_i hsz
          obtain ⟨hct, hce⟩ := hsz
          simp only [Option.some.injEq] at h; subst h
          obtain ⟨xs, k, _, _, hl, hxl, hx⟩ := DataW.trod_array hu ht
          rw [hct] at hl
          have hcs := flatten_chunks u.size m cs hl
          have := Opens.rows (W := W) (k := fun o c => Ty.has o u c) (fun o o' x he hx => Ty.has_ext he u x hx) ((List.range m).map fun i => (cs.drop (i * u.size)).take u.size) (by
            intro c hc
            obtain ⟨i, hi, rfl⟩ := List.mem_map.1 hc
            have hi' : i < m := List.mem_range.1 hi
            have h1 := hx i hi'
            rw [hce, List.getElem?_eq_getElem (by omega)] at h1
            exact opens n e u hue k _ _ h1)
          rw [hcs] at this
          refine this.mono ?_
          rintro o c ⟨ys, rfl, hyl, hys⟩
          exact ⟨ys, rfl, by simpa using hyl, hys⟩
        · cases h
      · cases h
    · rename_i fs hu
      split at h
      · rename_i us hus
        split at h
        · rename_i hct
          simp only [Option.some.injEq] at h; subst h
          obtain ⟨xs, k, _, _, hl, hxl, hx⟩ := DataW.trod_struct hu ht
          have := opens_fields (P := P) (W := W) (r := tyOf P n) (cs := cs) fs.toList 0 us hus (by
            intro f hf u hue
            obtain ⟨i, hi⟩ := List.getElem?_of_mem hf
            have hif : fs[i]? = some f := by simpa using hi
            have hil := (Array.getElem?_eq_some_iff.1 hif).1
            have h1 := hx i f hif
            rw [List.getElem?_eq_getElem (by omega)] at h1
            exact opens n f.type u hue k _ _ h1) (by
            rw [List.drop_zero, hl, hct])
          rw [List.drop_zero] at this
          exact this
        · cases h
      · cases h
    · cases h
end
end AM

/- AM, part 31: what was read of the arguments is read behind the call, too; from what a law comes to, to its row. -/
namespace AM
open Go
open Go.ChangeShapes Go.WideShapes Go.ChangeAt Go.RowKit
set_option linter.unusedVariables false
set_option linter.unusedSimpArgs false
set_option linter.unusedSectionVars false

theorem mapM_keep {α β : Type} {f g : α → Option β} : ∀ {l : List α} {r : List β}, l.mapM f = some r → (∀ a ∈ l, ∀ y ∈ r, f a = some y → g a = some y) → l.mapM g = some r
  | [], r, h, _ => by simpa using h
  | a :: l, r, h, hk => by
    rw [List.mapM_cons] at h ⊢
    cases ha : f a with
    | none => simp [ha] at h
    | some y =>
      cases hl : l.mapM f with
      | none => simp [ha, hl] at h
      | some ys =>
        simp [ha, hl] at h
        subst h
        have h1 := hk a List.mem_cons_self y List.mem_cons_self ha
        have h2 := mapM_keep hl fun b hb z hz => hk b (List.mem_cons_of_mem _ hb) z (List.mem_cons_of_mem _ hz)
        simp [h1, h2]

section
variable {H : Type} {enc : TypeId × Value → H} {P : Program} {W W' : World} {held : Bool} {sp : Nat → Bool}

theorem cell?_kept (hk : Kept W W') {a : Addr} {v : Value} (h : W.cell? a = some v) : W'.cell? a = some v := by
  unfold World.cell? at h ⊢
  split at h
  · rename_i c t fr hb
    have hl : a.block < W.heap.size := (Array.getElem?_eq_some_iff.1 hb).1
    rw [hk.2.2.2 _ hl, hb]
    exact h
  · cases h

theorem cells?_kept (hk : Kept W W') {a : Addr} {n : Nat} {cs : List Value} (h : W.cells? 0 a n = some cs) : W'.cells? 0 a n = some cs := by
  unfold World.cells? at h ⊢
  rw [if_pos (Nat.zero_le _)] at h ⊢
  exact mapM_keep h fun i _ y _ hy => cell?_kept hk hy

theorem mem_row0 {a : Addr} {n : Nat} (h : 0 < n) : MemPlace.cell a.block a.off ∈ MemPlace.row a n := by
  unfold MemPlace.row
  exact List.mem_map.2 ⟨0, List.mem_range.2 h, rfl⟩

theorem fieldsOf_mem {r : TypeId → Option Ty} : ∀ (fs : List Field) (off : Nat) (us : List Ty), fieldsOf P r off fs = some us → ∀ f ∈ fs, ∃ u, r f.type = some u
  | [], _, _, _, f, hf => by simp at hf
  | f :: fs, off, us, h, g, hg => by
    unfold fieldsOf at h
    split at h
    · split at h
      · rename_i u hu
        split at h
        · split at h
          · rename_i us' hus
            rcases List.mem_cons.1 hg with rfl | hg
            · exact ⟨u, hu⟩
            · exact fieldsOf_mem fs _ _ hus g hg
          · cases h
        · cases h
      · cases h
    · cases h

theorem trod_kept (hk : Kept W W') : ∀ (n : Nat) (t : TypeId) (ty : Ty), tyOf P n t = some ty → ∀ (fuel : Nat) (cs : List Value) (x : DataW H × List MemPlace), DataW.trod enc P W 0 (fun _ => true) held fuel t cs = some x →
    (∀ p ∈ x.2, sp p.block = true) → DataW.trod enc P W' 0 sp held fuel t cs = some x
  | 0, t, ty, h => by simp [tyOf] at h
  | n + 1, t, ty, h => by
    intro fuel cs x ht hsp
    cases fuel with
    | zero => simp [DataW.trod] at ht
    | succ m =>
      unfold tyOf at h
      split at h
      · rename_i hu
        obtain ⟨b, rfl, rfl⟩ := DataW.trod_bool hu ht
        unfold DataW.trod
        simp only [hu]
      · rename_i k hu
        obtain ⟨b, rfl, rfl, hw⟩ := DataW.trod_int hu ht
        unfold DataW.trod
        simp only [hu]
        rw [if_pos ⟨trivial, hw⟩]
      · rename_i hu
        obtain ⟨b, rfl, rfl, hw⟩ := DataW.trod_string hu ht
        unfold DataW.trod
        simp only [hu]
        rw [if_pos hw]
      · rename_i e hu
        split at h
        · rename_i u hue
          split at h
          · rename_i hsz
            obtain ⟨h0, hce⟩ := hsz
            rcases DataW.trod_slice hu ht with ⟨rfl, rfl⟩ | ⟨a, len, cap, elems, rest, n', hn', rfl, rfl, hb, hlc, hcm, hel, he1, he2, _⟩
            · unfold DataW.trod
              simp only [hu]
            · cases hn'
              obtain ⟨hrl, he2⟩ := he2 rfl
              have hk1 : ∀ i, ∀ y ∈ elems ++ rest, (W.cells? 0 (a.add (i * P.cellsOf e)) (P.cellsOf e)).bind (DataW.trod enc P W 0 (fun _ => true) held m e) = some y →
                  (W'.cells? 0 (a.add (i * P.cellsOf e)) (P.cellsOf e)).bind (DataW.trod enc P W' 0 sp held m e) = some y := by
                intro i y hy hyy
                obtain ⟨c, h1, h2⟩ := Option.bind_eq_some_iff.1 hyy
                rw [cells?_kept hk h1, Option.bind_some]
                exact trod_kept hk n e u hue m c y h2 fun p hp => hsp p (List.mem_append.2 (.inr (List.mem_flatMap.2 ⟨y, hy, hp⟩)))
              have hel' : (List.range len).mapM (fun i => (W'.cells? 0 (a.add (i * P.cellsOf e)) (P.cellsOf e)).bind (DataW.trod enc P W' 0 sp held m e)) = some elems := by
                refine mapM_some_of_get _ _ (by simpa using hel) fun i x hx => ?_
                obtain ⟨hi, hxi⟩ := List.getElem?_eq_some_iff.1 hx
                rw [List.length_range] at hi
                rw [List.getElem_range] at hxi
                subst hxi
                have h1 := he1 i hi
                have hi' : i < elems.length := by omega
                rw [List.getElem?_eq_getElem hi'] at h1 ⊢
                exact hk1 i _ (List.mem_append.2 (.inl (List.getElem_mem hi'))) h1
              have hre' : (List.range (cap - len)).mapM (fun j => (W'.cells? 0 (a.add ((len + j) * P.cellsOf e)) (P.cellsOf e)).bind (DataW.trod enc P W' 0 sp held m e)) = some rest := by
                refine mapM_some_of_get _ _ (by simpa using hrl) fun i x hx => ?_
                obtain ⟨hi, hxi⟩ := List.getElem?_eq_some_iff.1 hx
                rw [List.length_range] at hi
                rw [List.getElem_range] at hxi
                subst hxi
                have h1 := he2 i hi
                have hi' : i < rest.length := by omega
                rw [List.getElem?_eq_getElem hi'] at h1 ⊢
                exact hk1 _ _ (List.mem_append.2 (.inr (List.getElem_mem hi'))) h1
              unfold DataW.trod
              simp only [hu]
              rw [if_pos ⟨hb, hlc, hcm⟩, hel', Option.bind_some]
              by_cases hc0 : cap = 0
              · have hr0 : rest = [] := List.length_eq_zero_iff.1 (by omega)
                subst hc0
                subst hr0
                cases sp a.block <;> simp
              · have hpos : 0 < (elems.length + rest.length) * P.cellsOf e := by
                  rw [hce]
                  exact Nat.mul_pos (by omega) h0
                have := hsp _ (List.mem_append.2 (.inl (mem_row0 (a := a) hpos)))
                simp only [MemPlace.block] at this
                rw [this, if_pos rfl, hre', Option.map_some]
          · cases h
        · cases h
      · rename_i k e hu
        split at h
        · rename_i u hue
          unfold DataW.trod at ht ⊢
          rw [hu] at ht ⊢
          simp only at ht ⊢
          split at ht
          · rename_i hl
            rw [if_pos hl]
            obtain ⟨xs, h1, rfl⟩ := Option.map_eq_some_iff.1 ht
            rw [mapM_keep h1 fun i _ y hy hyy => trod_kept hk n e u hue m _ y hyy fun p hp => hsp p (List.mem_flatMap.2 ⟨y, hy, hp⟩), Option.map_some]
          · cases ht
        · cases h
      · rename_i fs hu
        split at h
        · rename_i us hus
          unfold DataW.trod at ht ⊢
          rw [hu] at ht ⊢
          simp only at ht ⊢
          split at ht
          · rename_i hl
            rw [if_pos hl]
            obtain ⟨xs, h1, rfl⟩ := Option.map_eq_some_iff.1 ht
            rw [mapM_keep h1 fun f hf y hy hyy => by
              obtain ⟨u, hue⟩ := fieldsOf_mem _ _ _ hus f hf
              exact trod_kept hk n f.type u hue m _ y hyy fun p hp => hsp p (List.mem_flatMap.2 ⟨y, hy, hp⟩), Option.map_some]
          · cases ht
        · cases h
      · cases h
end
end AM

/- AM, part 32: from what a law comes to, whatever its arguments, to its row. -/
namespace AM
open Go
open Go.ChangeShapes Go.WideShapes Go.ChangeAt Go.RowKit
set_option linter.unusedVariables false
set_option linter.unusedSimpArgs false
set_option linter.unusedSectionVars false

def Ty.isAgg : Ty → Bool
  | .arr .. | .struct _ => true
  | _ => false
/-- One argument. -/
def Ty.arg (o : List Obj) (t : Ty) (v : V) : Prop := (t.isAgg = true ∧ ∃ cs, v = .agg cs ∧ t.has o cs) ∨ (t.isAgg = false ∧ t.has o [v])
def Ty.args (o : List Obj) : List Ty → List V → Prop
  | [], vs => vs = []
  | t :: ts, vs => ∃ v r, vs = v :: r ∧ t.arg o v ∧ Ty.args o ts r

section
variable {H : Type} {enc : TypeId × Value → H} {P : Program} {W W' : World} {held : Bool} {sp : Nat → Bool}

theorem tyOf_agg {n : Nat} {t : TypeId} {ty : Ty} (h : tyOf P n t = some ty) : ty.isAgg = true ↔ (∃ fs, P.underlying t = some (.struct fs)) ∨ ∃ m e, P.underlying t = some (.array m e) := by
  cases n with
  | zero => simp [tyOf] at h
  | succ n =>
    unfold tyOf at h
    split at h
    · rename_i hu
      simp only [Option.some.injEq] at h; subst h
      simp [Ty.isAgg, hu]
    · rename_i k hu
      simp only [Option.some.injEq] at h; subst h
      simp [Ty.isAgg, hu]
    · rename_i hu
      simp only [Option.some.injEq] at h; subst h
      simp [Ty.isAgg, hu]
    · rename_i e hu
      split at h
      · split at h
        · simp only [Option.some.injEq] at h; subst h
          simp [Ty.isAgg, hu]
        · cases h
      · cases h
    · rename_i m e hu
      split at h
      · split at h
        · simp only [Option.some.injEq] at h; subst h
          simp [Ty.isAgg, hu]
        · cases h
      · cases h
    · rename_i fs hu
      split at h
      · split at h
        · simp only [Option.some.injEq] at h; subst h
          simp [Ty.isAgg, hu]
        · cases h
      · cases h
    · cases h

theorem cells_of_single {b : Nat} {t : TypeId} {v : Value} (h : Cell.okWide P W .any b t v) : v.cells = #[v] := by
  unfold Cell.okWide at h
  split at h
  all_goals try rfl
  unfold Cell.ok at h
  split at h
  all_goals first | rfl | exact h.elim

theorem open_arg {n : Nat} {t : TypeId} {ty : Ty} (hty : tyOf P n t = some ty) {b : Nat} {v : Value} (hv : Value.okWide P W .any b t v) {d : DataW H} {ps : List MemPlace}
    (ht : DataW.Trod enc P W 0 (fun _ => true) held t v d ps) : Opens W (fun o c => ∃ a, c = [a] ∧ Ty.arg o ty a) [v] := by
  obtain ⟨fuel, ht⟩ := ht
  by_cases ha : ty.isAgg = true
  · have hcs : ∃ cs, v = .agg cs ∧ Row.okWide P W .any b t cs := by
      rcases (tyOf_agg hty).1 ha with ⟨fs, hu⟩ | ⟨m, e, hu⟩
      · simp only [Value.okWide, hu] at hv
        obtain ⟨cs, h1, _, h2⟩ := hv
        exact ⟨cs, h1, h2⟩
      · simp only [Value.okWide, hu] at hv
        obtain ⟨cs, h1, _, h2⟩ := hv
        exact ⟨cs, h1, h2⟩
    obtain ⟨cs, rfl, hrow⟩ := hcs
    have := opens n t ty hty fuel cs.toList _ ht
    intro ι o hr hro
    obtain ⟨κ, o', cs', h1, h2, h3, h4, h5, h6, h7⟩ := this ι o hr hro
    refine ⟨κ, o', [.agg cs'], h1, h2, h3, h4, ?_, ⟨h6, trivial⟩, .agg cs', rfl, .inl ⟨ha, cs', rfl, h7⟩⟩
    simp only [V.reals, V.real, h5]
  · have hc : Cell.okWide P W .any b t v := by
      have hna : ¬ ((∃ fs, P.underlying t = some (.struct fs)) ∨ ∃ m e, P.underlying t = some (.array m e)) := fun h => ha ((tyOf_agg hty).2 h)
      unfold Value.okWide at hv
      split at hv
      · rename_i fs hu; exact absurd (.inl ⟨fs, hu⟩) hna
      · rename_i m e hu; exact absurd (.inr ⟨m, e, hu⟩) hna
      · exact hv
    have hcell := cells_of_single hc
    rw [hcell] at ht
    have := opens n t ty hty fuel [v] _ ht
    intro ι o hr hro
    obtain ⟨κ, o', cs', h1, h2, h3, h4, h5, h6, h7⟩ := this ι o hr hro
    have hl : cs'.length = 1 := by
      have : (V.reals κ cs').length = 1 := by rw [h5]; rfl
      rwa [V.reals_eq, List.length_map] at this
    obtain ⟨a, rfl⟩ := List.length_eq_one_iff.1 hl
    exact ⟨κ, o', [a], h1, h2, h3, h4, h5, h6, a, rfl, .inr ⟨by simpa using ha, h7⟩⟩

theorem Ty.arg_ext {o o' : List Obj} (he : Ext o o') {t : Ty} {v : V} (h : t.arg o v) : t.arg o' v := by
  rcases h with ⟨h1, cs, h2, h3⟩ | ⟨h1, h2⟩
  · exact .inl ⟨h1, cs, h2, Ty.has_ext he t cs h3⟩
  · exact .inr ⟨h1, Ty.has_ext he t _ h2⟩

theorem open_args {n b : Nat} : ∀ {ts : List TypeId} {tys : List Ty} {vs : List Value} {ds : List (DataW H)} {ps : List MemPlace}, ts.map (tyOf P n) = tys.map some →
    (∀ (j : Nat) t v, ts[j]? = some t → vs[j]? = some v → Value.okWide P W .any b t v) → DataW.TrodAll enc P W 0 (fun _ => true) held ts vs ds ps → Opens W (fun o c => Ty.args o tys c) vs
  | [], [], vs, ds, ps, _, _, h => by
    obtain ⟨rfl, rfl, rfl⟩ := trodAll_nil h
    exact Opens.plain (cs' := []) (fun _ => rfl) rfl fun o => rfl
  | [], _ :: _, _, _, _, h, _, _ => by simp at h
  | _ :: _, [], _, _, _, h, _, _ => by simp at h
  | t :: ts, ty :: tys, vs, ds, ps, hm, hv, h => by
    obtain ⟨v, vs1, d, ds1, a, c, rfl, rfl, rfl, h1, h2⟩ := trodAll_cons h
    simp only [List.map_cons, List.cons.injEq] at hm
    have ha := open_arg hm.1 (hv 0 t v rfl rfl) h1
    have ih := open_args (n := n) (b := b) hm.2 (fun j t' v' h1 h2 => hv (j + 1) t' v' (by simpa using h1) (by simpa using h2)) h2
    have := Opens.append ha ih (by
      rintro o o' x he ⟨a, rfl, hx⟩
      exact ⟨a, rfl, Ty.arg_ext he hx⟩)
    refine this.mono ?_
    rintro o x ⟨y, z, rfl, ⟨a, rfl, hy⟩, hz⟩
    exact ⟨a, z, rfl, hy, hz⟩

theorem trodAll_kept (hk : Kept W W') {n : Nat} : ∀ {ts : List TypeId} {tys : List Ty} {vs : List Value} {ds : List (DataW H)} {ps : List MemPlace}, ts.map (tyOf P n) = tys.map some →
    DataW.TrodAll enc P W 0 (fun _ => true) held ts vs ds ps → (∀ p ∈ ps, sp p.block = true) → DataW.TrodAll enc P W' 0 sp held ts vs ds ps
  | [], [], vs, ds, ps, _, h, _ => by
    obtain ⟨rfl, rfl, rfl⟩ := trodAll_nil h
    exact trodAll_mk0
  | [], _ :: _, _, _, _, h, _, _ => by simp at h
  | _ :: _, [], _, _, _, h, _, _ => by simp at h
  | t :: ts, ty :: tys, vs, ds, ps, hm, h, hp => by
    obtain ⟨v, vs1, d, ds1, a, c, rfl, rfl, rfl, h1, h2⟩ := trodAll_cons h
    simp only [List.map_cons, List.cons.injEq] at hm
    obtain ⟨fuel, h1⟩ := h1
    exact trodAll_cons_mk ⟨fuel, trod_kept hk n t ty hm.1 fuel _ _ h1 fun p hp' => hp p (List.mem_append.2 (.inl hp'))⟩ (trodAll_kept hk hm.2 h2 fun p hp' => hp p (List.mem_append.2 (.inr hp')))

theorem trodAll_len : ∀ {ts : List TypeId} {vs : List Value} {ds : List (DataW H)} {ps : List MemPlace}, DataW.TrodAll enc P W 0 (fun _ => true) held ts vs ds ps → ds.length = ts.length
  | [], vs, ds, ps, h => by
    obtain ⟨rfl, rfl, rfl⟩ := trodAll_nil h
    rfl
  | t :: ts, vs, ds, ps, h => by
    obtain ⟨v, vs1, d, ds1, a, c, rfl, rfl, rfl, h1, h2⟩ := trodAll_cons h
    simp [trodAll_len h2]

/-- A law: what its row asks. -/
theorem law {fn : Func} {s : ChangeSpec} {tys : List Ty} {n f : Nat} {tb : TypeId} (hm : P.follows .mixedOrders = true) {F : Nat → Option AF} (hF : FOk P F) {E : ExtF} (hE : ExtSound P E)
    (hvars : s.vars = []) (hty : fn.params.toList.map (tyOf P n) = tys.map some) (hres : fn.resultTypes = #[tb]) (htb : P.underlying tb = some .bool)
    (hfn : ∀ (H : Type) (ds : List (DataW H)), ds.length = tys.length → s.fn H ds = { results := [.lit (.bool true)], args := ds })
    (hden : ∀ (o : List Obj) (args : List V), AllRo o → Ty.args o tys args → ∃ oh, Den F E f args ⟨o, 0, 0⟩ = some (.val (.bool true), oh))
    {apart fresh handsOn again : Bool} {b : Nat} {args : Array Value} {ds gs : List (DataW H)} {before : List MemPlace}
    (hval : ∀ (j : Nat) t v, fn.params[j]? = some t → args[j]? = some v → Value.okWide P W .any b t v) (hW : DataW.Whole enc P fn.params.toList s.vars apart W args.toList ds gs before) :
    Calls P f args W fun e W' => ∃ v, e = .returned v ∧ s.post enc P fn apart fresh handsOn again W args v W' := by
  have hW' := hW
  obtain ⟨p, q, hA, hV, rfl, hfz, hnd⟩ := hW
  rw [hvars] at hV
  obtain ⟨rfl, rfl⟩ := trodVars_none hV
  obtain ⟨κ, o, avs, h1, h2, _, _, h5, h6, h7⟩ := open_args (n := n) (b := b) hty (fun j t v h1 h2 => hval j t v (by simpa using h1) (by simpa using h2)) hA noMap [] ⟨fun l o h => by simp at h, fun l l' o o' _ h => by simp at h, fun l o h => by simp at h⟩ (fun l o h => by simp at h)
  obtain ⟨oh, hd⟩ := hden o avs h2 h7
  have hargs : args = (V.reals κ avs).toArray := by rw [h5]
  have hlen : ds.length = tys.length := by
    have := trodAll_len hA
    rw [this, ← List.length_map (tyOf P n), hty, List.length_map]
  have hc := calls_of_den hm hF hE hd (fun l x hx => h2 l x hx) rfl h1 h6
  rw [← hargs] at hc
  refine hc.mono fun e W' ⟨he, hk⟩ => ⟨_, he, ?_⟩
  have hs : s.fn H (ds ++ []) = { results := [.lit (.bool true)], args := ds } := by rw [List.append_nil]; exact hfn H ds hlen
  refine post_kept (pa := p) (pv := []) hW' (fun _ _ _ => ?_) (fun sp hsp => ?_) (fun _ _ => ?_) rfl hk (ok_one hres rfl (okWide_bool_mk htb _))
  · rw [hs, hres]
    exact trodAll_cons_mk (shut_bool htb _) trodAll_mk0
  · rw [hs]
    exact trodAll_kept hk hty hA fun x hx => hsp x (by simpa using hx)
  · rw [hs, hvars]
    rfl
end
end AM

/- AM, part 33: arguments read by their types. -/
namespace AM
open Go
set_option linter.unusedVariables false
set_option linter.unusedSimpArgs false

theorem u8_min : IntKind.min .u8 = 0 := by decide
theorem u8_max : IntKind.max .u8 = 255 := by decide

theorem u8_byte {n : Int} (h0 : IntKind.min .u8 ≤ n) (h1 : n ≤ IntKind.max .u8) : ∃ b : UInt8, n = (b.toNat : Int) := by
  rw [u8_min] at h0
  rw [u8_max] at h1
  refine ⟨UInt8.ofNat n.toNat, ?_⟩
  simp
  omega

theorem bytes_of_chunks {o : List Obj} : ∀ (xs : List (List V)), (∀ x ∈ xs, Ty.has o (.int .u8) x) → ∃ p : List UInt8, List.flatten xs = bytesA p ∧ p.length = xs.length
  | [], _ => ⟨[], rfl, rfl⟩
  | x :: xs, h => by
    obtain ⟨p, h1, h2⟩ := bytes_of_chunks xs fun y hy => h y (List.mem_cons_of_mem _ hy)
    obtain ⟨n, rfl, h3, h4⟩ := h x List.mem_cons_self
    obtain ⟨b, rfl⟩ := u8_byte h3 h4
    exact ⟨b :: p, by rw [List.flatten_cons, h1]; rfl, by simp [h2]⟩

theorem has_bytes {o : List Obj} {n : Nat} {cs : List V} (h : Ty.has o (.arr n (.int .u8)) cs) : ∃ p : List UInt8, cs = bytesA p ∧ p.length = n := by
  obtain ⟨xs, rfl, hl, hx⟩ := h
  obtain ⟨p, h1, h2⟩ := bytes_of_chunks xs hx
  exact ⟨p, h1, h2.trans hl⟩

theorem arg_int {o : List Obj} {k : IntKind} {v : V} (h : Ty.arg o (.int k) v) : ∃ n, v = .int k n ∧ k.min ≤ n ∧ n ≤ k.max := by
  rcases h with ⟨h, _⟩ | ⟨_, n, h, h2⟩
  · cases h
  · cases h
    exact ⟨n, rfl, h2⟩

theorem arg_slice {o : List Obj} {t : Ty} {v : V} (h : Ty.arg o (.slice t) v) : v = .nils ∨ (∃ a, v = .zsl a) ∨ ∃ l n, v = .slice l 0 n t.size ∧ n ≤ maxLen ∧ ∃ u xs, o[l]? = some (.cells .ro u 0 (List.flatten xs)) ∧ xs.length = n ∧ ∀ x ∈ xs, Ty.has o t x := by
  rcases h with ⟨h, _⟩ | ⟨_, h⟩
  · cases h
  · rcases h with h | ⟨a, h⟩ | ⟨l, n, h, h2⟩
    · cases h; exact .inl rfl
    · cases h; exact .inr (.inl ⟨a, rfl⟩)
    · cases h; exact .inr (.inr ⟨l, n, rfl, h2⟩)

end AM

/- AM, part 34: the rows of a walk, in one set. -/
set_option linter.defProp false
namespace AM
open Go
def eqs {F : Nat → Option AF} {ext : ExtF} (hx : ExtMono ext) := And.intro (@eq_skip F ext hx) (And.intro (@eq_ret F ext hx) (And.intro (@eq_exit F ext hx) (And.intro (@eq_label F ext hx) (And.intro (@eq_seq F ext hx) (And.intro (@eq_region F ext hx) (And.intro (@eq_regionQ F ext hx) (And.intro (@eq_cond F ext hx) (And.intro (@eq_block F ext hx) (And.intro (@eq_scope F ext hx) (And.intro (@eq_sel F ext hx) (@eq_draw F ext hx)))))))))))
attribute [go_sem] ops_nil ops_cons q_nil q_cons o_guard o_mv o_bin o_eqf o_un o_pick o_call o_nck o_load o_store o_alloc o_box o_build o_bslice o_faddr o_field o_iaddrA o_iaddrS o_idxA o_idxS o_slS o_slL o_slA o_toInt o_toStr o_cpS o_toBytes o_extract o_lenS o_lenL lenLV_slice lenLV_nils lenLV_zsl lenLV_esl o_lenA o_copyS o_copyL stepV ok okh Option.bind_some Option.bind_none Option.map_some Option.map_none put_some put_none ev_t ev_k ev_f evs_nil evs_cons get_fput get_init get_slots enter_o enter_e enter_d List.getD_cons_zero List.getD_cons_succ finish resAll resOne resV leave V.plain V.plains binA intA strA unA eqA eqK Bool.and_true Bool.true_and Nat.le_refl and_self decide_true decide_false Bool.false_eq_true Bool.true_eq_false List.length_cons List.length_nil List.map_cons List.map_nil fillA V.cells splice List.take_succ_cons List.take_zero List.take_nil List.drop_succ_cons List.drop_zero List.drop_nil List.nil_append List.cons_append List.append_nil true_and and_true Nat.zero_add H0 enter partA Heap.new beq_self_eq_true List.getElem?_cons_zero List.getElem?_cons_succ List.getElem?_nil Heap.cellsAt zslOf Heap.exact Heap.holds Int.cast_ofNat_Int Nat.one_mul Nat.mul_one Nat.sub_zero drawA execD outD w_none w_some s_call s_callv s_nck s_load s_store s_alloc s_box s_build s_bslice s_faddr s_field s_iaddrA s_iaddrS s_idxA s_idxS s_slS s_slL s_slA s_toInt s_toStr s_cpS s_toBytes s_extract s_mkf s_mki s_lenS s_lenL s_lenA s_copyS s_copyL s_clearL s_minmax s_app s_appS s_mkSlice s_mkMap s_lookup s_mapSet s_mapDel s_lenM s_clearM s_mv s_bin s_eqf s_un s_pick KD.app newA V.only V.onlys Obj.only okL Heap.only deadKept isDead lookA V.beq V.beqs List.all_cons List.all_nil List.replicate_succ List.replicate_zero List.set_cons_zero List.set_cons_succ true_or or_true false_or or_false AOp.cls bytesA_plains bytesA_one Nat.zero_min Nat.min_zero Nat.min_self Nat.zero_le o_clearL o_minmax o_app o_appS o_mkSlice o_mkMap o_mkChan o_lenC o_sdata o_ustr o_cvU o_cvP s_mkChan s_lenC s_sdata s_ustr s_cvU s_cvP selA Heap.ownT Heap.tyIn o_lookup o_mapSet o_mapDel o_lenM o_clearM o_mkf o_mki o_callv minmaxA maxi undefV onlys_bytes List.contains_nil Bool.or_true Bool.true_or Bool.or_false Bool.false_or Bool.not_true Bool.not_false false_and and_false Option.getD_some bft btf
end AM

/- AM, part 35: heaps that grow. -/
namespace AM
open Go
set_option linter.unusedVariables false
set_option linter.unusedSimpArgs false

section
variable {α : Type}
theorem app_get0 (o : List α) (a : α) (r : List α) : (o ++ a :: r)[o.length]? = some a := by simp
theorem app_getk (o r : List α) (k : Nat) : (o ++ r)[o.length + k]? = r[k]? := by simp [List.getElem?_append_right]
theorem app_set0 (o : List α) (a b : α) (r : List α) : (o ++ a :: r).set o.length b = o ++ b :: r := by simp
theorem app_setk (o r : List α) (k : Nat) (b : α) : (o ++ r).set (o.length + k) b = o ++ r.set k b := by
  rw [List.set_append_right _ _ (by omega)]
  simp
theorem app_old {o : List α} {l : Nat} {x : α} (h : o[l]? = some x) (r : List α) : (o ++ r)[l]? = some x := by
  rw [List.getElem?_append_left (List.getElem?_eq_some_iff.1 h).1]
  exact h
theorem get_lt {o : List α} {l : Nat} {x : α} (h : o[l]? = some x) : l < o.length := (List.getElem?_eq_some_iff.1 h).1
end
attribute [go_sem] app_get0 app_getk app_set0 app_setk List.append_assoc List.length_append

theorem app_gr {o : List Obj} {e d t s b m k j : Nat} {cs new : List V} (h : o[m]? = some (.cells .gr t 0 cs)) (hl : cs.length = k * s) (hj : 0 < j) (hs : 0 < s) (hr : roomOk (k + j) b = true) :
    appendA ⟨o, e, d⟩ t s b (.slice m 0 k s) j new = some (.slice o.length 0 (k + j) s, some ⟨o.set m .dead ++ [.cells .gr t 0 (cs ++ new)], e, min d m⟩) := by
  have h1 : ¬ (k + j) * s ≤ k * s := by
    have : k * s + 0 < k * s + j * s := Nat.add_lt_add_left (Nat.mul_pos hj hs) _
    rw [Nat.add_mul]
    omega
  simp only [appendA, h, if_true, hl, Nat.zero_add, Nat.le_refl, if_neg (Nat.ne_of_gt hj), if_neg h1, hr, and_self, Nat.zero_le]

theorem app_nil {o : List Obj} {e d t s b j : Nat} {new : List V} (hj : 0 < j) (hr : roomOk j b = true) :
    appendA ⟨o, e, d⟩ t s b .nils j new = some (.slice o.length 0 j s, some ⟨o ++ [.cells .gr t 0 new], e, d⟩) := by
  simp only [appendA, if_neg (Nat.ne_of_gt hj), hr, if_true, Heap.new]

/-- What was there is there. -/
structure Kp (h h' : Heap) : Prop where
  len : h.o.length ≤ h'.o.length
  get : ∀ x, x < h.o.length → h'.o[x]? = h.o[x]?
  e : h.o.length ≤ h'.e
  d : h.o.length ≤ h'.d

theorem Kp.enter (h : Heap) : Kp h (enter h) := ⟨Nat.le_refl _, fun _ _ => rfl, Nat.le_refl _, Nat.le_refl _⟩
theorem Kp.enter' (h : Heap) : Kp h ⟨h.o, h.o.length, h.o.length⟩ := Kp.enter h
theorem Kp.app {h : Heap} {o : List Obj} {e d : Nat} (k : Kp h ⟨o, e, d⟩) (r : List Obj) {e' d' : Nat} (he : h.o.length ≤ e') (hd : h.o.length ≤ d') : Kp h ⟨o ++ r, e', d'⟩ := by
  refine ⟨?_, fun x hx => ?_, he, hd⟩
  · have := k.len
    simp only [List.length_append] at *
    omega
  · have := k.len
    simp only at this ⊢
    rw [List.getElem?_append_left (by omega)]
    exact k.get x hx
theorem Kp.set {h : Heap} {o : List Obj} {e d : Nat} (k : Kp h ⟨o, e, d⟩) {l : Nat} {x : Obj} (hl : h.o.length ≤ l) {e' d' : Nat} (he : h.o.length ≤ e') (hd : h.o.length ≤ d') : Kp h ⟨o.set l x, e', d'⟩ := by
  refine ⟨by simpa using k.len, fun y hy => ?_, he, hd⟩
  simp only
  rw [List.getElem?_set_ne (by omega)]
  exact k.get y hy
theorem Kp.old {h : Heap} {o : List Obj} {e d : Nat} (k : Kp h ⟨o, e, d⟩) {l : Nat} {x : Obj} (hl : h.o[l]? = some x) : o[l]? = some x := by
  rw [← hl]
  exact k.get l (get_lt hl)

/-- What a call leaves that gives a plain value, and has turned nothing. -/
theorem leave_plain {h h' : Heap} {v : V} (k : Kp h h') (hv : v.plain = true) : leave h h' v = none := by
  unfold leave
  rw [if_pos ⟨k.e, hv⟩, if_pos k.d]
theorem leave_some {h h' : Heap} {v : V} (hv : v.plain = false) : leave h h' v = some ⟨h'.o, min h.e h'.e, min h.d h'.d⟩ := by
  unfold leave
  rw [if_neg (by simp [hv])]

theorem fin1 {a : AF} {h : Heap} {S : Nat → V} {h' : Heap} {i : Nat} (hr : a.res = [.t i]) : finish a h (some (.ret, S, h')) = some (.val (S i), leave h h' (S i)) := by
  simp only [finish, hr, resAll, resOne, resV]; rfl
theorem fin2 {a : AF} {h : Heap} {S : Nat → V} {h' : Heap} {i j : Nat} (hr : a.res = [.t i, .t j]) : finish a h (some (.ret, S, h')) = some (.val (.tuple [S i, S j]), leave h h' (.tuple [S i, S j])) := by
  simp only [finish, hr, resAll, resOne, resV]; rfl
theorem fin0n {a : AF} {h : Heap} {S : Nat → V} {h' : Heap} (hr : a.res = []) : finish a h (some (.norm, S, h')) = some (.val (.tuple []), leave h h' (.tuple [])) := by
  simp only [finish, hr, resAll, resV]

/-- A call, by what holds behind the body, whatever it gives. -/
theorem To.denE {F : Nat → Option AF} {ext : ExtF} (hx : ExtMono ext) {f : Nat} {a : AF} {args : List V} {h : Heap} (hF : F f = some a) (hE : ∀ c, ext c f = none) (hn : args.length ≤ a.n) {R : Out → Option Heap → Prop}
    (hc : To F ext a.body (initS args) (AM.enter h) fun x S' h' => ∃ v oh, finish a h (some (x, S', h')) = some (v, oh) ∧ R v oh) : ∃ v oh, Den F ext f args h = some (v, oh) ∧ R v oh := by
  obtain ⟨x, S', h', e, v, oh, hf, hr⟩ := hc
  exact ⟨v, oh, Den_call hx h hF hE hn e hf, hr⟩

end AM

/- AM, part 36: slices of structs, read by rows of cells. -/
namespace AM
open Go
set_option linter.unusedVariables false
set_option linter.unusedSimpArgs false

theorem flat_drop {α : Type} {e : Nat} : ∀ {xs : List (List α)}, (∀ x ∈ xs, x.length = e) → ∀ {k : Nat} {c : List α}, xs[k]? = some c → ((xs.flatten).drop (k * e)).take e = c ∧ k * e + e ≤ xs.flatten.length
  | [], _, k, c, h => by simp at h
  | x :: r, hl, 0, c, h => by
    simp only [List.getElem?_cons_zero, Option.some.injEq] at h
    subst h
    have hx := hl x List.mem_cons_self
    rw [List.flatten_cons, Nat.zero_mul, List.drop_zero, List.take_left' hx, List.length_append]
    exact ⟨rfl, by omega⟩
  | x :: r, hl, k + 1, c, h => by
    have hx := hl x List.mem_cons_self
    have ih := flat_drop (fun y hy => hl y (List.mem_cons_of_mem _ hy)) (by simpa using h : r[k]? = some c)
    rw [List.flatten_cons, Nat.succ_mul, Nat.add_comm (k * e) e, ← List.drop_drop, List.drop_left' hx, List.length_append]
    exact ⟨ih.1, by omega⟩

/-- A slice whose elements are these rows of cells. -/
def SliceOf (o : List Obj) (v : V) (e : Nat) (xs : List (List V)) : Prop :=
  (∀ x ∈ xs, x.length = e) ∧ 0 < e ∧ ((v = .nils ∧ xs = []) ∨ ((∃ a, v = .zsl a) ∧ xs = []) ∨ ∃ l ck t, v = .slice l 0 xs.length e ∧ o[l]? = some (.cells ck t 0 xs.flatten))

theorem SliceOf.len {o : List Obj} {v : V} {e : Nat} {xs : List (List V)} (h : SliceOf o v e xs) : lenLV v = some (.int .i64 (xs.length : Int), none) := by
  obtain ⟨_, _, ⟨rfl, rfl⟩ | ⟨⟨a, rfl⟩, rfl⟩ | ⟨l, ck, t, rfl, _⟩⟩ := h <;> rfl

theorem SliceOf.ext {o o' : List Obj} {v : V} {e : Nat} {xs : List (List V)} (h : SliceOf o v e xs) (hk : ∀ (l : Nat) (x : Obj), o[l]? = some x → o'[l]? = some x) : SliceOf o' v e xs := by
  obtain ⟨h1, h0, h2 | h2 | ⟨l, ck, t, rfl, ho⟩⟩ := h
  · exact ⟨h1, h0, .inl h2⟩
  · exact ⟨h1, h0, .inr (.inl h2)⟩
  · exact ⟨h1, h0, .inr (.inr ⟨l, ck, t, rfl, hk _ _ ho⟩)⟩

theorem Kp.all {h : Heap} {o : List Obj} {e d : Nat} (k : Kp h ⟨o, e, d⟩) : ∀ (l : Nat) (x : Obj), h.o[l]? = some x → o[l]? = some x := fun l x hx => k.old hx

theorem SliceOf.one {o : List Obj} {v : V} {e : Nat} {xs : List (List V)} (h : SliceOf o v e xs) : v.one = true := by
  obtain ⟨_, _, ⟨rfl, _⟩ | ⟨⟨a, rfl⟩, _⟩ | ⟨l, ck, t, rfl, _⟩⟩ := h <;> rfl
end AM

