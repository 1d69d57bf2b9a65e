/- Own texts, joined: TwA, TwB, TwC, TwD, TwE, TwF, TwG. -/
import Derived.Test.YtjeaaoohokkgmaaGreatTwPart1
/- Verdicts: the functions that defer, and the tables. -/
namespace Go.Proofs.YtjeaaoohokkgmaaGreat
open Go AM
set_option linter.unusedSimpArgs false
set_option linter.unusedVariables false
set_option maxRecDepth 100000

def df16 : DFn := .mk 6 [.c 2 (some 5)] (.region [⟨some 2, .alloc 30 [.int .i64 0, .int .i64 0, .int .i64 0, .int .i64 0, .nils], none⟩] false) [⟨some 3, .mv (.t 0), none⟩] (.f 24) [.t 3, .t 2] (.block 0 (.loop (.block 1 (.region [⟨some 4, .mv (.t 0), none⟩, ⟨some 5, .call 25 [.t 4], none⟩] false))))
def df19 : DFn := .mk 23 [.c 2 none] (.region [⟨some 2, .alloc 26 [.int .i64 0], none⟩] false) [⟨some 4, .mkf 27 [] [.t 2], none⟩] (.t 4) [] (.seq (.region [⟨some 5, .mv (.t 0), none⟩, ⟨some 6, .nck (.t 5), none⟩, ⟨some 7, .faddr 3 (.t 6), none⟩, ⟨some 8, .load none (.t 7), none⟩, ⟨some 9, .iaddrS 49 (.t 8) (.k (.int .i64 0)), none⟩, ⟨some 10, .faddr 0 (.t 9), none⟩, ⟨none, .store 1 (.t 10) (.k (.bool true)), none⟩] false) (.seq (.seq (.region [⟨some 11, .mv (.t 0), none⟩, ⟨some 12, .nck (.t 11), none⟩, ⟨some 13, .faddr 2 (.t 12), none⟩, ⟨some 14, .load none (.t 13), none⟩, ⟨some 15, .lenL (.t 14), none⟩, ⟨some 16, .mv (.k (.int .i64 0)), none⟩] false) (.block 0 (.loop (.seq (.region [⟨some 17, .bin .lss (.t 16) (.t 15), none⟩] false) (.seq (.cond (.t 17) .skip (.exit 0)) (.seq (.block 1 (.seq (.region [⟨some 18, .mv (.t 16), none⟩, ⟨some 3, .mv (.t 18), none⟩] false) (.region [⟨some 19, .mv (.t 0), none⟩, ⟨some 20, .mv (.t 3), none⟩, ⟨some 21, .call 28 [.t 19, .t 20], none⟩] false))) (.region [⟨some 22, .bin .add (.t 16) (.k (.int .i64 1)), none⟩, ⟨some 16, .mv (.t 22), none⟩] false))))))) (.seq (.region [⟨none, .store 1 (.t 2) (.k (.int .i64 0)), none⟩] false) .ret)))
def rf24 : RFn := .mk 50 7 (.seq (.seq .skip (.block 0 (.seq (.region [⟨some 9, .tassert 85 (.int .i64 0) (.t 7), none⟩, ⟨some 10, .extract (.t 9) 1, none⟩, ⟨some 11, .extract (.t 9) 0, none⟩] false) (.cond (.t 10) (.seq (.region [⟨some 4, .mv (.t 11), none⟩] false) (.region [⟨some 12, .mv (.t 1), none⟩, ⟨some 13, .mv (.t 1), none⟩, ⟨some 14, .mv (.t 4), none⟩, ⟨some 15, .nck (.t 12), none⟩, ⟨some 16, .faddr 0 (.t 15), none⟩, ⟨none, .store 1 (.t 16) (.k (.int .i64 2)), none⟩, ⟨some 17, .nck (.t 13), none⟩, ⟨some 18, .faddr 1 (.t 17), none⟩, ⟨none, .store 1 (.t 18) (.t 14), none⟩] false)) (.seq (.region [⟨some 19, .tassert 86 (.int .i64 0) (.t 7), none⟩, ⟨some 20, .extract (.t 19) 1, none⟩, ⟨some 21, .extract (.t 19) 0, none⟩] false) (.cond (.t 20) (.seq (.region [⟨some 5, .mv (.t 21), none⟩] false) (.region [⟨some 22, .mv (.t 1), none⟩, ⟨some 23, .mv (.t 1), none⟩, ⟨some 24, .mv (.t 5), none⟩, ⟨some 25, .nck (.t 22), none⟩, ⟨some 26, .faddr 0 (.t 25), none⟩, ⟨none, .store 1 (.t 26) (.k (.int .i64 1)), none⟩, ⟨some 27, .nck (.t 23), none⟩, ⟨some 28, .faddr 2 (.t 27), none⟩, ⟨none, .store 1 (.t 28) (.t 24), none⟩] false)) (.seq (.region [⟨some 6, .mv (.t 7), none⟩] false) (.region [⟨some 8, .mv (.t 6), none⟩, ⟨none, .panic (.t 8), none⟩] false)))))))) (.seq (.region [⟨some 29, .mv (.t 1), none⟩, ⟨some 30, .mv (.t 0), none⟩, ⟨some 31, .nck (.t 30), none⟩, ⟨some 32, .faddr 69 (.t 31), none⟩, ⟨some 33, .load none (.t 32), none⟩, ⟨some 34, .nck (.t 29), none⟩, ⟨some 35, .faddr 3 (.t 34), none⟩, ⟨none, .store 1 (.t 35) (.t 33), none⟩] false) (.draw 0 [⟨0, ⟨some 36, .mv (.t 1), none⟩, [], none, []⟩, ⟨1, ⟨some 37, .mv (.t 0), none⟩, [], none, []⟩, ⟨2, ⟨some 38, .nck (.t 37), none⟩, [], none, []⟩, ⟨3, ⟨some 39, .faddr 2 (.t 38), none⟩, [], none, []⟩, ⟨4, ⟨some 40, .load none (.t 39), none⟩, [], none, []⟩, ⟨5, ⟨some 41, .mv (.t 0), none⟩, [], none, []⟩, ⟨6, ⟨some 42, .nck (.t 41), none⟩, [], none, []⟩, ⟨7, ⟨some 43, .faddr 0 (.t 42), none⟩, [], none, []⟩, ⟨8, ⟨some 44, .load none (.t 43), none⟩, [], none, []⟩, ⟨9, ⟨some 45, .call 11 [.t 44], none⟩, [], none, [⟨some 40, .load none (.t 39), none⟩]⟩, ⟨10, ⟨some 46, .slL 1 (.t 40) (some (.t 45)) none, none⟩, [], none, []⟩, ⟨11, ⟨some 47, .call 13 [.t 46], none⟩, [], none, []⟩, ⟨12, ⟨some 48, .nck (.t 36), none⟩, [], none, []⟩, ⟨13, ⟨some 49, .faddr 4 (.t 48), none⟩, [], none, []⟩, ⟨14, ⟨none, .store 1 (.t 49) (.t 47), none⟩, [], none, []⟩])))
def rf27 : RFn := .mk 10 4 (.seq .skip (.block 0 (.seq (.region [⟨some 6, .inil false (.t 4), none⟩] false) (.cond (.t 6) (.region [⟨some 1, .mv (.t 4), none⟩] false) (.seq (.region [⟨some 7, .tassert 68 (.agg []) (.t 4), none⟩, ⟨some 8, .extract (.t 7) 1, none⟩, ⟨some 9, .extract (.t 7) 0, none⟩] false) (.cond (.t 8) (.seq (.region [⟨some 2, .alloc 68 [], none⟩, ⟨none, .store 0 (.t 2) (.t 9), none⟩] false) (.region [⟨none, .store 1 (.t 0) (.k (.int .i64 22)), none⟩] false)) (.seq (.region [⟨some 3, .mv (.t 4), none⟩] false) (.region [⟨some 5, .mv (.t 3), none⟩, ⟨none, .panic (.t 5), none⟩] false))))))))
theorem td16 : trDef Tryz.prog 16 = some df16 := by kernel_rfl
theorem td19 : trDef Tryz.prog 19 = some df19 := by kernel_rfl
theorem tq24 : trRecF Tryz.prog 24 = some rf24 := by kernel_rfl
theorem tq27 : trRecF Tryz.prog 27 = some rf27 := by kernel_rfl
def DD : Nat → Option DFn
  | 16 => some df16
  | 19 => some df19
  | _ => none
def RR : Nat → Option RFn
  | 24 => some rf24
  | 27 => some rf27
  | _ => none
theorem DD_ok : ∀ f df, DD f = some df → trDef Tryz.prog f = some df := by
  intro f df h
  unfold DD at h
  split at h
  · cases h; exact td16
  · cases h; exact td19
  · cases h
theorem RR_ok : ∀ f rf, RR f = some rf → trRecF Tryz.prog f = some rf := by
  intro f rf h
  unfold RR at h
  split at h
  · cases h; exact tq24
  · cases h; exact tq27
  · cases h

def gA : Nat → Option Ans := fun _ => none
def EA : ExtF := plainExt gA
theorem hxEA : ExtMono EA := plainExt_mono gA
theorem sndEA : ExtSound Tryz.prog EA := by
  refine plainExt_calls ?_
  intro f sp args v hg hs hp
  cases hg
theorem EA_none (f : Nat) (c : CallF) : EA c f = none := plainExt_none (g := gA) rfl c

/- Which fields the Ops at hand use. -/
def shOf (op : Int) : Option V :=
  if op = 2 then some (.agg [.bool true, .bool false, .bool false, .bool true])
  else if op = 80 then some (.agg [.bool false, .bool false, .bool false, .bool false])
  else if op = 64 then some (.agg [.bool false, .bool false, .bool false, .bool true])
  else if op = 37 then some (.agg [.bool true, .bool false, .bool true, .bool true])
  else if op = 55 then some (.agg [.bool true, .bool true, .bool true, .bool false])
  else none
def spShape : Ans := fun args => match args with
  | [.int .i64 op] => (shOf op).map fun a => .tuple [a, .bool true]
  | _ => none
theorem spShape_ok : SpOk FF EA 31 spShape := by
  intro args v h hp
  unfold spShape at h
  split at h
  · rename_i op
    unfold shOf at h
    have fin : ∀ (n : Int) (x : V), op = n → (some x).map (fun a => V.tuple [a, .bool true]) = some v → V.plain (.tuple [x, .bool true]) = true → (∃ oh, Den FF EA 31 [.int .i64 n] H0 = some (.val (.tuple [x, .bool true]), oh)) → v.plain = true ∧ ∃ oh, Den FF EA 31 [.int .i64 op] H0 = some (.val v, oh) := by
      intro n x hn hv hpl hd
      subst hn
      simp only [Option.map_some, Option.some.injEq] at hv
      subst hv
      exact ⟨hpl, hd⟩
    split at h
    · exact fin 2 _ ‹_› h rfl ⟨none, Den_of hxEA (k := 90) (by kernel_rfl)⟩
    · split at h
      · exact fin 80 _ ‹_› h rfl ⟨none, Den_of hxEA (k := 90) (by kernel_rfl)⟩
      · split at h
        · exact fin 64 _ ‹_› h rfl ⟨none, Den_of hxEA (k := 90) (by kernel_rfl)⟩
        · split at h
          · exact fin 37 _ ‹_› h rfl ⟨none, Den_of hxEA (k := 90) (by kernel_rfl)⟩
          · split at h
            · exact fin 55 _ ‹_› h rfl ⟨none, Den_of hxEA (k := 90) (by kernel_rfl)⟩
            · cases h
  · cases h
def spField : Ans := fun args => match args with
  | [.int .i64 n, .bool used, .int .i64 lo, .int .i64 hi] => some (.bool (if used = true then decide (n ≥ lo) && decide (n < hi) else decide (n = 0)))
  | _ => none
theorem spField_ok : SpOk FF EA 32 spField := by
  intro args v h hp
  unfold spField at h
  split at h
  · rename_i n used lo hi
    simp only [Option.some.injEq] at h
    subst h
    refine ⟨rfl, none, ?_⟩
    cases used with
    | false =>
      refine To.den hxEA (a := af32) rfl (EA_none _) (Nat.le_of_ble_eq_true rfl) ?_
      (repeat' (first | refine To.seq hxEA ?_ | refine To.op0 hxEA (by simp only [go_sem, eqs hxEA, reduceIte, seval]; rfl) ?_ | refine To.op1 hxEA (by simp only [go_sem, eqs hxEA, reduceIte, seval]; rfl) ?_ | refine To.nop hxEA ?_ | (refine To.condT hxEA ?_ ?_; focus (simp only [go_sem, eqs hxEA, reduceIte, seval]; done)) | (refine To.condF hxEA ?_ ?_; focus (simp only [go_sem, eqs hxEA, reduceIte, seval]; done)) | refine To.block hxEA ?_ | refine To.scope hxEA ?_ | refine To.ret hxEA ?_ | refine To.exit hxEA ?_ | refine To.skip hxEA ?_ | refine To.label hxEA ?_))
      first | (simp only [andThen, outOf, go_sem, eqs hxEA, reduceIte, seval]; done) | rfl | trace_state
    | true =>
      cases hlo : decide (n ≥ lo) with
      | false =>
        refine To.den hxEA (a := af32) rfl (EA_none _) (Nat.le_of_ble_eq_true rfl) ?_
        (repeat' (first | refine To.seq hxEA ?_ | refine To.op0 hxEA (by simp only [go_sem, eqs hxEA, reduceIte, seval, hlo]; rfl) ?_ | refine To.op1 hxEA (by simp only [go_sem, eqs hxEA, reduceIte, seval, hlo]; rfl) ?_ | refine To.nop hxEA ?_ | (refine To.condT hxEA ?_ ?_; focus (simp only [go_sem, eqs hxEA, reduceIte, seval, hlo]; done)) | (refine To.condF hxEA ?_ ?_; focus (simp only [go_sem, eqs hxEA, reduceIte, seval, hlo]; done)) | refine To.block hxEA ?_ | refine To.scope hxEA ?_ | refine To.ret hxEA ?_ | refine To.exit hxEA ?_ | refine To.skip hxEA ?_ | refine To.label hxEA ?_))
        first | (simp only [andThen, outOf, go_sem, eqs hxEA, reduceIte, seval]; done) | rfl | trace_state
      | true =>
        refine To.den hxEA (a := af32) rfl (EA_none _) (Nat.le_of_ble_eq_true rfl) ?_
        (repeat' (first | refine To.seq hxEA ?_ | refine To.op0 hxEA (by simp only [go_sem, eqs hxEA, reduceIte, seval, hlo]; rfl) ?_ | refine To.op1 hxEA (by simp only [go_sem, eqs hxEA, reduceIte, seval, hlo]; rfl) ?_ | refine To.nop hxEA ?_ | (refine To.condT hxEA ?_ ?_; focus (simp only [go_sem, eqs hxEA, reduceIte, seval, hlo]; done)) | (refine To.condF hxEA ?_ ?_; focus (simp only [go_sem, eqs hxEA, reduceIte, seval, hlo]; done)) | refine To.block hxEA ?_ | refine To.scope hxEA ?_ | refine To.ret hxEA ?_ | refine To.exit hxEA ?_ | refine To.skip hxEA ?_ | refine To.label hxEA ?_))
        first | (simp only [andThen, outOf, go_sem, eqs hxEA, reduceIte, seval]; done) | rfl | trace_state
  · cases h
def g1 : Nat → Option Ans := addG gA [(31, spShape), (32, spField)]
def E1 : ExtF := plainExt g1
theorem hxE1 : ExtMono E1 := plainExt_mono g1
theorem sndE1 : ExtSound Tryz.prog E1 := addG_sound mixed ffok sndEA (by
  intro p hp
  simp only [List.mem_cons, List.not_mem_nil, or_false] at hp
  rcases hp with rfl | rfl
  · exact spShape_ok
  · exact spField_ok)
theorem E1_none {f : Nat} (h : g1 f = none) (c : CallF) : E1 c f = none := plainExt_none h c
end Go.Proofs.YtjeaaoohokkgmaaGreat

/- Verdicts: right instructions; the tables that hold the functions that defer. -/
namespace Go.Proofs.YtjeaaoohokkgmaaGreat
open Go AM
set_option linter.unusedSimpArgs false
set_option linter.unusedVariables false
set_option maxRecDepth 100000

theorem shape_1 {op : Int} {a : V} (ha : shOf op = some a) (hp : a.plain = true := by rfl) (h : Heap) : Den FF E1 31 [.int .i64 op] h = some (.val (.tuple [a, .bool true]), none) := by
  refine den_plain (sp := spShape) h rfl ?_ rfl
  simp only [spShape, ha, Option.map_some]
theorem field_1 (n : Int) (u : Bool) (lo hi : Int) (h : Heap) : Den FF E1 32 [.int .i64 n, .bool u, .int .i64 lo, .int .i64 hi] h = some (.val (.bool (if u = true then decide (n ≥ lo) && decide (n < hi) else decide (n = 0))), none) := by
  exact den_plain (sp := spField) h rfl rfl rfl
def okInsn (op d s o v : Int) : Bool :=
  (decide (op = 2) && (decide (d = 0) || decide (d = 1) || decide (d = 2) || decide (d = 3)) && decide (s = 0) && decide (o = 0) && decide (-2147483648 ≤ v) && decide (v < 2147483648))
  || (decide (d = 0) && decide (s = 0) && ((decide (op = 80) && decide (o = 0) && decide (v = 0)) || (decide (op = 64) && decide (o = 0) && decide (v = 1)) || (decide (op = 37) && decide (o = 1) && decide (v = 0)) || (decide (op = 55) && decide (o = 0) && decide (v = 0))))
def spRight : Ans := fun args => match args with
  | [.agg [.int .i64 op, .int .i64 d, .int .i64 s, .int .i64 o, .int .i64 v]] => if okInsn op d s o v = true then some (.bool true) else none
  | _ => none
theorem right_mov {d v : Int} (hd : decide (d ≥ 0) = true ∧ decide (d < 8) = true) (hv : decide (v ≥ -2147483648) = true ∧ decide (v < 2147483648) = true) : Den FF E1 23 [.agg [.int .i64 2, .int .i64 d, .int .i64 0, .int .i64 0, .int .i64 v]] H0 = some (.val (.bool true), none) := by
  refine To.den hxE1 (a := af23) rfl (E1_none rfl) (Nat.le_of_ble_eq_true rfl) ?_
  have k := fun h => shape_1 (op := 2) (a := .agg [.bool true, .bool false, .bool false, .bool true]) rfl rfl h
  (repeat' (first | refine To.seq hxE1 ?_ | refine To.op0 hxE1 (by simp only [go_sem, eqs hxE1, reduceIte, seval, k, field_1, hd.1, hd.2, hv.1, hv.2, Heap.gets, Heap.sets, Heap.get, bytesA_length, bytesA_one, bytesA_plains, List.take_of_length_le, List.drop_of_length_le, Nat.add_zero, V.one, Nat.reduceLeDiff, List.all_cons, List.all_nil, ne_eq, not_false_eq_true, Nat.zero_le]; rfl) ?_ | refine To.op1 hxE1 (by simp only [go_sem, eqs hxE1, reduceIte, seval, k, field_1, hd.1, hd.2, hv.1, hv.2, Heap.gets, Heap.sets, Heap.get, bytesA_length, bytesA_one, bytesA_plains, List.take_of_length_le, List.drop_of_length_le, Nat.add_zero, V.one, Nat.reduceLeDiff, List.all_cons, List.all_nil, ne_eq, not_false_eq_true, Nat.zero_le]; rfl) ?_ | refine To.nop hxE1 ?_ | (refine To.condT hxE1 ?_ ?_; focus (simp only [go_sem, eqs hxE1, reduceIte, seval, k, field_1, hd.1, hd.2, hv.1, hv.2, Heap.gets, Heap.sets, Heap.get, bytesA_length, bytesA_one, bytesA_plains, List.take_of_length_le, List.drop_of_length_le, Nat.add_zero, V.one, Nat.reduceLeDiff, List.all_cons, List.all_nil, ne_eq, not_false_eq_true, Nat.zero_le]; done)) | (refine To.condF hxE1 ?_ ?_; focus (simp only [go_sem, eqs hxE1, reduceIte, seval, k, field_1, hd.1, hd.2, hv.1, hv.2, Heap.gets, Heap.sets, Heap.get, bytesA_length, bytesA_one, bytesA_plains, List.take_of_length_le, List.drop_of_length_le, Nat.add_zero, V.one, Nat.reduceLeDiff, List.all_cons, List.all_nil, ne_eq, not_false_eq_true, Nat.zero_le]; done)) | refine To.block hxE1 ?_ | refine To.scope hxE1 ?_ | refine To.ret hxE1 ?_ | refine To.exit hxE1 ?_ | refine To.skip hxE1 ?_ | refine To.label hxE1 ?_))
  rw [fin1 (a := af23) (i := 2) rfl]
  simp only [go_sem, eqs hxE1, reduceIte, seval]
theorem spRight_ok : SpOk FF E1 23 spRight := by
  intro args x h hp
  unfold spRight at h
  split at h
  · rename_i op d s o v
    split at h
    · rename_i hok
      simp only [Option.some.injEq] at h
      subst h
      refine ⟨rfl, none, ?_⟩
      simp only [okInsn, Bool.or_eq_true, Bool.and_eq_true, decide_eq_true_eq] at hok
      rcases hok with ⟨⟨⟨⟨⟨rfl, hd⟩, rfl⟩, rfl⟩, h1⟩, h2⟩ | ⟨⟨rfl, rfl⟩, ((⟨⟨rfl, rfl⟩, rfl⟩ | ⟨⟨rfl, rfl⟩, rfl⟩) | ⟨⟨rfl, rfl⟩, rfl⟩) | ⟨⟨rfl, rfl⟩, rfl⟩⟩
      · exact right_mov ⟨by simp; omega, by simp; omega⟩ ⟨by simp; omega, by simp; omega⟩
      · exact Den_of hxE1 (k := 90) (by kernel_rfl)
      · exact Den_of hxE1 (k := 90) (by kernel_rfl)
      · exact Den_of hxE1 (k := 90) (by kernel_rfl)
      · exact Den_of hxE1 (k := 90) (by kernel_rfl)
    · cases h
  · cases h
def gB : Nat → Option Ans := addG g1 [(23, spRight)]
def EB : ExtF := plainExt gB
theorem hxEB : ExtMono EB := plainExt_mono gB
theorem sndEB : ExtSound Tryz.prog EB := addG_sound mixed ffok sndE1 (by
  intro p hp
  simp only [List.mem_cons, List.not_mem_nil, or_false] at hp
  rcases hp with rfl
  exact spRight_ok)
noncomputable def E0 : ExtF := extD DD RR EB
theorem hxE0 : ExtMono E0 := extD_mono hxEB
theorem sndE0 : ExtSound Tryz.prog E0 := extD_sound mixed sndEB DD_ok RR_ok
def EK : ExtF := extDK DD RR EB
theorem E0_none {f : Nat} (h : DD f = none) (hg : gB f = none) (c : CallF) : E0 c f = none := by
  unfold E0 extD
  rw [h]
  exact plainExt_none hg c
theorem denK {k f : Nat} {a : List V} {h : Heap} {r : Out × Option Heap} (he : callN FF EK k f a h = some r) : Den FF E0 f a h = some r := Den_ofK hxEB he
theorem toFinK {a : AF} {h0 : Heap} {c : AC} {S : Nat → V} {h : Heap} (k : Nat) {q : Out × Option Heap} (he : finish a h0 (exec (callN FF EK k) k c S h) = some q) : To FF E0 c S h (fun x S' h' => finish a h0 (some (x, S', h')) = some q) := by
  cases hx : exec (callN FF EK k) k c S h with
  | none => rw [hx] at he; cases he
  | some r =>
    obtain ⟨x, S', h'⟩ := r
    rw [hx] at he
    exact ⟨x, S', h', Run_of hxE0 (k := k) (exec_mono (callN_ext_le (extDK_le hxEB) k) (Nat.le_refl k) hx), he⟩
theorem den_p {f : Nat} {sp : Ans} {args : List V} {v : V} (h : Heap) (hd : DD f = none) (hg : gB f = some sp) (hs : sp args = some v) (hp : V.plains args = true) : Den FF E0 f args h = some (.val v, none) := by
  refine Den_of hxE0 (k := 1) ?_
  simp only [callN, E0, extD, hd, EB, plainExt, hg, Option.map_some, if_pos hp, hs]
theorem awake_den : Den FF E0 4 [] H0 = some (.val (.bool true), none) := denK (k := 400) (by kernel_rfl)
theorem right_0 {op d s o v : Int} (hk : okInsn op d s o v = true) (h : Heap) : Den FF E0 23 [.agg [.int .i64 op, .int .i64 d, .int .i64 s, .int .i64 o, .int .i64 v]] h = some (.val (.bool true), none) :=
  den_p h rfl rfl (by simp only [spRight, hk, if_true]) rfl
theorem isNot_0 {op d s o v : Int} (hk : okInsn op d s o v = true) (h : Heap) : Den FF E0 22 [.agg [.int .i64 op, .int .i64 d, .int .i64 s, .int .i64 o, .int .i64 v]] h = some (.val (.bool false), none) := by
  refine To.den hxE0 (a := af22) rfl (E0_none rfl rfl) (Nat.le_of_ble_eq_true rfl) ?_
  (repeat' (first | refine To.seq hxE0 ?_ | refine To.op0 hxE0 (by simp only [go_sem, eqs hxE0, reduceIte, seval, right_0 hk, Heap.gets, Heap.sets, Heap.get, bytesA_length, bytesA_one, bytesA_plains, List.take_of_length_le, List.drop_of_length_le, Nat.add_zero, V.one, Nat.reduceLeDiff, List.all_cons, List.all_nil, ne_eq, not_false_eq_true, Nat.zero_le]; rfl) ?_ | refine To.op1 hxE0 (by simp only [go_sem, eqs hxE0, reduceIte, seval, right_0 hk, Heap.gets, Heap.sets, Heap.get, bytesA_length, bytesA_one, bytesA_plains, List.take_of_length_le, List.drop_of_length_le, Nat.add_zero, V.one, Nat.reduceLeDiff, List.all_cons, List.all_nil, ne_eq, not_false_eq_true, Nat.zero_le]; rfl) ?_ | refine To.nop hxE0 ?_ | (refine To.condT hxE0 ?_ ?_; focus (simp only [go_sem, eqs hxE0, reduceIte, seval, right_0 hk, Heap.gets, Heap.sets, Heap.get, bytesA_length, bytesA_one, bytesA_plains, List.take_of_length_le, List.drop_of_length_le, Nat.add_zero, V.one, Nat.reduceLeDiff, List.all_cons, List.all_nil, ne_eq, not_false_eq_true, Nat.zero_le]; done)) | (refine To.condF hxE0 ?_ ?_; focus (simp only [go_sem, eqs hxE0, reduceIte, seval, right_0 hk, Heap.gets, Heap.sets, Heap.get, bytesA_length, bytesA_one, bytesA_plains, List.take_of_length_le, List.drop_of_length_le, Nat.add_zero, V.one, Nat.reduceLeDiff, List.all_cons, List.all_nil, ne_eq, not_false_eq_true, Nat.zero_le]; done)) | refine To.block hxE0 ?_ | refine To.scope hxE0 ?_ | refine To.ret hxE0 ?_ | refine To.exit hxE0 ?_ | refine To.skip hxE0 ?_ | refine To.label hxE0 ?_))
  rw [fin1 (a := af22) (i := 2) rfl]
  simp only [go_sem, eqs hxE0, reduceIte, seval]
  trace_state
end Go.Proofs.YtjeaaoohokkgmaaGreat

/- Verdicts: a program of two instructions is right. -/
namespace Go.Proofs.YtjeaaoohokkgmaaGreat
open Go AM
set_option linter.unusedSimpArgs false
set_option linter.unusedVariables false
set_option maxRecDepth 100000

theorem To.round {F : Nat → Option AF} {ext : ExtF} (hx : ExtMono ext) {c : AC} {S : Nat → V} {h : Heap} {Q : Ex → (Nat → V) → Heap → Prop} (hc : To F ext c S h (andThen (fun S' h' => To F ext (.loop c) S' h' Q) Q)) : To F ext (.loop c) S h Q := by
  obtain ⟨x, S', h', e, q⟩ := hc
  cases x with
  | norm =>
    obtain ⟨x2, S2, h2, e2, q2⟩ := q
    exact ⟨x2, S2, h2, Run_loop hx S h c e e2, q2⟩
  | _ => exact ⟨_, _, _, Run_loop_out hx S h c (by simp) e, q⟩

theorem index_0 {h : Heap} {l : Nat} {v : Int} (hv : okInsn 2 0 0 0 v = true)
    (h0 : ∀ e d, (⟨h.o, e, d⟩ : Heap).gets l 0 5 = some [.int .i64 2, .int .i64 0, .int .i64 0, .int .i64 0, .int .i64 v])
    (h1 : ∀ e d, (⟨h.o, e, d⟩ : Heap).gets l 5 5 = some [.int .i64 80, .int .i64 0, .int .i64 0, .int .i64 0, .int .i64 0]) :
    Den FF E0 30 [.slice l 0 2 5, .fn 22 [] []] h = some (.val (.int .i64 (-1)), none) := by
  refine To.den hxE0 (a := af30) rfl (E0_none rfl rfl) (Nat.le_of_ble_eq_true rfl) ?_
  have n2 := fun h => isNot_0 hv h
  have n80 := fun h => isNot_0 (op := 80) (d := 0) (s := 0) (o := 0) (v := 0) (by decide) h
  (repeat' (first | refine To.seq hxE0 ?_ | refine To.op0 hxE0 (by simp only [go_sem, eqs hxE0, reduceIte, seval]; rfl) ?_ | refine To.op1 hxE0 (by simp only [go_sem, eqs hxE0, reduceIte, seval]; rfl) ?_ | refine To.nop hxE0 ?_ | (refine To.condT hxE0 ?_ ?_; focus (simp only [go_sem, eqs hxE0, reduceIte, seval]; done)) | (refine To.condF hxE0 ?_ ?_; focus (simp only [go_sem, eqs hxE0, reduceIte, seval]; done)) | refine To.block hxE0 ?_ | refine To.scope hxE0 ?_ | refine To.ret hxE0 ?_ | refine To.exit hxE0 ?_ | refine To.skip hxE0 ?_ | refine To.label hxE0 ?_))
  refine To.round hxE0 ?_
  have w1 : IntKind.i64.wrap 1 = 1 := by decide
  have w2 : IntKind.i64.wrap 2 = 2 := by decide
  have e1 : decide ((0 : Int) < 2) = true := by decide
  have e2 : decide ((1 : Int) < 2) = true := by decide
  have e3 : decide ((2 : Int) < 2) = false := by decide
  (repeat' (first | refine To.seq hxE0 ?_ | refine To.op0 hxE0 (by simp only [go_sem, eqs hxE0, reduceIte, seval, n2, h0, w1, w2, e1, e2, e3]; rfl) ?_ | refine To.op1 hxE0 (by simp only [go_sem, eqs hxE0, reduceIte, seval, n2, h0, w1, w2, e1, e2, e3]; rfl) ?_ | refine To.nop hxE0 ?_ | (refine To.condT hxE0 ?_ ?_; focus (simp only [go_sem, eqs hxE0, reduceIte, seval, n2, h0, w1, w2, e1, e2, e3]; done)) | (refine To.condF hxE0 ?_ ?_; focus (simp only [go_sem, eqs hxE0, reduceIte, seval, n2, h0, w1, w2, e1, e2, e3]; done)) | refine To.block hxE0 ?_ | refine To.scope hxE0 ?_ | refine To.ret hxE0 ?_ | refine To.exit hxE0 ?_ | refine To.skip hxE0 ?_ | refine To.label hxE0 ?_))
  refine To.round hxE0 ?_
  (repeat' (first | refine To.seq hxE0 ?_ | refine To.op0 hxE0 (by simp only [go_sem, eqs hxE0, reduceIte, seval, n80, h1, w1, w2, e1, e2, e3]; rfl) ?_ | refine To.op1 hxE0 (by simp only [go_sem, eqs hxE0, reduceIte, seval, n80, h1, w1, w2, e1, e2, e3]; rfl) ?_ | refine To.nop hxE0 ?_ | (refine To.condT hxE0 ?_ ?_; focus (simp only [go_sem, eqs hxE0, reduceIte, seval, n80, h1, w1, w2, e1, e2, e3]; done)) | (refine To.condF hxE0 ?_ ?_; focus (simp only [go_sem, eqs hxE0, reduceIte, seval, n80, h1, w1, w2, e1, e2, e3]; done)) | refine To.block hxE0 ?_ | refine To.scope hxE0 ?_ | refine To.ret hxE0 ?_ | refine To.exit hxE0 ?_ | refine To.skip hxE0 ?_ | refine To.label hxE0 ?_))
  refine To.round hxE0 ?_
  (repeat' (first | refine To.seq hxE0 ?_ | refine To.op0 hxE0 (by simp only [go_sem, eqs hxE0, reduceIte, seval, n80, h1, w1, w2, e1, e2, e3]; rfl) ?_ | refine To.op1 hxE0 (by simp only [go_sem, eqs hxE0, reduceIte, seval, n80, h1, w1, w2, e1, e2, e3]; rfl) ?_ | refine To.nop hxE0 ?_ | (refine To.condT hxE0 ?_ ?_; focus (simp only [go_sem, eqs hxE0, reduceIte, seval, n80, h1, w1, w2, e1, e2, e3]; done)) | (refine To.condF hxE0 ?_ ?_; focus (simp only [go_sem, eqs hxE0, reduceIte, seval, n80, h1, w1, w2, e1, e2, e3]; done)) | refine To.block hxE0 ?_ | refine To.scope hxE0 ?_ | refine To.ret hxE0 ?_ | refine To.exit hxE0 ?_ | refine To.skip hxE0 ?_ | refine To.label hxE0 ?_))
  rw [fin1 (a := af30) (i := 4) rfl]
  simp only [go_sem, eqs hxE0, reduceIte, seval]
  trace_state
theorem rights_0 {h : Heap} {l : Nat} {v : Int} (hv : okInsn 2 0 0 0 v = true)
    (h0 : ∀ e d, (⟨h.o, e, d⟩ : Heap).gets l 0 5 = some [.int .i64 2, .int .i64 0, .int .i64 0, .int .i64 0, .int .i64 v])
    (h1 : ∀ e d, (⟨h.o, e, d⟩ : Heap).gets l 5 5 = some [.int .i64 80, .int .i64 0, .int .i64 0, .int .i64 0, .int .i64 0]) :
    Den FF E0 12 [.slice l 0 2 5] h = some (.val (.bool true), none) := by
  have k : ∀ e d, Den FF E0 21 [.slice l 0 2 5, .fn 22 [] []] ⟨h.o, e, d⟩ = some (.val (.bool false), none) := by
    intro e d
    refine To.den hxE0 (a := af21) rfl (E0_none rfl rfl) (Nat.le_of_ble_eq_true rfl) ?_
    have n := fun e d => index_0 (h := ⟨h.o, e, d⟩) hv h0 h1
    (repeat' (first | refine To.seq hxE0 ?_ | refine To.op0 hxE0 (by simp only [go_sem, eqs hxE0, reduceIte, seval, n]; rfl) ?_ | refine To.op1 hxE0 (by simp only [go_sem, eqs hxE0, reduceIte, seval, n]; rfl) ?_ | refine To.nop hxE0 ?_ | (refine To.condT hxE0 ?_ ?_; focus (simp only [go_sem, eqs hxE0, reduceIte, seval, n]; done)) | (refine To.condF hxE0 ?_ ?_; focus (simp only [go_sem, eqs hxE0, reduceIte, seval, n]; done)) | refine To.block hxE0 ?_ | refine To.scope hxE0 ?_ | refine To.ret hxE0 ?_ | refine To.exit hxE0 ?_ | refine To.skip hxE0 ?_ | refine To.label hxE0 ?_))
    rw [fin1 (a := af21) (i := 4) rfl]
    simp only [go_sem, eqs hxE0, reduceIte, seval]
    first | done | rfl | trace_state
  refine To.den hxE0 (a := af12) rfl (E0_none rfl rfl) (Nat.le_of_ble_eq_true rfl) ?_
  (repeat' (first | refine To.seq hxE0 ?_ | refine To.op0 hxE0 (by simp only [go_sem, eqs hxE0, reduceIte, seval, k]; rfl) ?_ | refine To.op1 hxE0 (by simp only [go_sem, eqs hxE0, reduceIte, seval, k]; rfl) ?_ | refine To.nop hxE0 ?_ | (refine To.condT hxE0 ?_ ?_; focus (simp only [go_sem, eqs hxE0, reduceIte, seval, k]; done)) | (refine To.condF hxE0 ?_ ?_; focus (simp only [go_sem, eqs hxE0, reduceIte, seval, k]; done)) | refine To.block hxE0 ?_ | refine To.scope hxE0 ?_ | refine To.ret hxE0 ?_ | refine To.exit hxE0 ?_ | refine To.skip hxE0 ?_ | refine To.label hxE0 ?_))
  rw [fin1 (a := af12) (i := 2) rfl]
  simp only [go_sem, eqs hxE0, reduceIte, seval]
  first | done | rfl | trace_state
end Go.Proofs.YtjeaaoohokkgmaaGreat

/- Verdicts: what a check of the two programs comes to. -/
namespace Go.Proofs.YtjeaaoohokkgmaaGreat
open Go AM
set_option linter.unusedSimpArgs false
set_option linter.unusedVariables false
set_option maxRecDepth 100000

theorem cut2 {F : Nat → Option AF} {ext : ExtF} {a b r : AC} {S : Nat → V} {h : Heap} {Q : Ex → (Nat → V) → Heap → Prop} (hc : ∀ q, q = r → To F ext (.seq a (.seq b q)) S h Q) : To F ext (.seq a (.seq b r)) S h Q := hc r rfl
theorem ok_v {v : Int} (h1 : -2147483648 ≤ v) (h2 : v < 2147483648) : okInsn 2 0 0 0 v = true := by
  simp [okInsn]; omega
theorem flow_0 {v : Int} (hv : okInsn 2 0 0 0 v = true) : Den FF E0 18 [.slice 0 0 2 5] ⟨[.cells .ex 24 0 [.int .i64 2, .int .i64 0, .int .i64 0, .int .i64 0, .int .i64 v, .int .i64 80, .int .i64 0, .int .i64 0, .int .i64 0, .int .i64 0]], 1, 1⟩ = some (.val (.int .i64 0), none) := by
  refine To.den hxE0 (a := af18) rfl (E0_none rfl rfl) (Nat.le_of_ble_eq_true rfl) ?_
  have k : ∀ e d, Den FF E0 12 [.slice 0 0 2 5] ⟨[.cells .ex 24 0 [.int .i64 2, .int .i64 0, .int .i64 0, .int .i64 0, .int .i64 v, .int .i64 80, .int .i64 0, .int .i64 0, .int .i64 0, .int .i64 0]], e, d⟩ = some (.val (.bool true), none) := fun e d => rights_0 hv (fun e d => rfl) (fun e d => rfl)
  refine cut2 ?_
  intro q hq
  (repeat' (first | refine To.seq hxE0 ?_ | refine To.op0 hxE0 (by simp only [go_sem, eqs hxE0, reduceIte, seval, k]; rfl) ?_ | refine To.op1 hxE0 (by simp only [go_sem, eqs hxE0, reduceIte, seval, k]; rfl) ?_ | refine To.nop hxE0 ?_ | (refine To.condT hxE0 ?_ ?_; focus (simp only [go_sem, eqs hxE0, reduceIte, seval, k]; done)) | (refine To.condF hxE0 ?_ ?_; focus (simp only [go_sem, eqs hxE0, reduceIte, seval, k]; done)) | refine To.block hxE0 ?_ | refine To.scope hxE0 ?_ | refine To.ret hxE0 ?_ | refine To.exit hxE0 ?_ | refine To.skip hxE0 ?_ | refine To.label hxE0 ?_))
  subst hq
  exact toFinK 400 (by kernel_rfl)
theorem flow1_0 (v : Int) : Den FF E0 18 [.slice 1 0 1 5] ⟨[.cells .ex 24 0 [.int .i64 2, .int .i64 0, .int .i64 0, .int .i64 0, .int .i64 v, .int .i64 80, .int .i64 0, .int .i64 0, .int .i64 0, .int .i64 0], .cells .ex 24 0 [.int .i64 80, .int .i64 0, .int .i64 0, .int .i64 0, .int .i64 0]], 2, 2⟩ = some (.val (.int .i64 0), none) := denK (k := 400) (by kernel_rfl)
theorem known_0 {h : Int} {x y : Bool} (b1 : decide (h ≥ 1) = x) (b2 : decide (h ≤ 8) = y) (hp : Heap) : Den FF E0 10 [.int .i64 h] hp = some (.val (.bool (x && y)), none) := by
  cases x with
  | false =>
    refine To.den hxE0 (a := af10) rfl (E0_none rfl rfl) (Nat.le_of_ble_eq_true rfl) ?_
    (repeat' (first | refine To.seq hxE0 ?_ | refine To.op0 hxE0 (by simp only [go_sem, eqs hxE0, reduceIte, seval, b1]; rfl) ?_ | refine To.op1 hxE0 (by simp only [go_sem, eqs hxE0, reduceIte, seval, b1]; rfl) ?_ | refine To.nop hxE0 ?_ | (refine To.condT hxE0 ?_ ?_; focus (simp only [go_sem, eqs hxE0, reduceIte, seval, b1]; done)) | (refine To.condF hxE0 ?_ ?_; focus (simp only [go_sem, eqs hxE0, reduceIte, seval, b1]; done)) | refine To.block hxE0 ?_ | refine To.scope hxE0 ?_ | refine To.ret hxE0 ?_ | refine To.exit hxE0 ?_ | refine To.skip hxE0 ?_ | refine To.label hxE0 ?_))
    rw [fin1 (a := af10) (i := 2) rfl]
    simp only [go_sem, eqs hxE0, reduceIte, seval]
    first | done | rfl
  | true =>
    refine To.den hxE0 (a := af10) rfl (E0_none rfl rfl) (Nat.le_of_ble_eq_true rfl) ?_
    (repeat' (first | refine To.seq hxE0 ?_ | refine To.op0 hxE0 (by simp only [go_sem, eqs hxE0, reduceIte, seval, b1, b2]; rfl) ?_ | refine To.op1 hxE0 (by simp only [go_sem, eqs hxE0, reduceIte, seval, b1, b2]; rfl) ?_ | refine To.nop hxE0 ?_ | (refine To.condT hxE0 ?_ ?_; focus (simp only [go_sem, eqs hxE0, reduceIte, seval, b1, b2]; done)) | (refine To.condF hxE0 ?_ ?_; focus (simp only [go_sem, eqs hxE0, reduceIte, seval, b1, b2]; done)) | refine To.block hxE0 ?_ | refine To.scope hxE0 ?_ | refine To.ret hxE0 ?_ | refine To.exit hxE0 ?_ | refine To.skip hxE0 ?_ | refine To.label hxE0 ?_))
    rw [fin1 (a := af10) (i := 2) rfl]
    simp only [go_sem, eqs hxE0, reduceIte, seval]
/- In range. -/
theorem facts_0 {h n v : Int} (hv : okInsn 2 0 0 0 v = true) (b1 : decide (h ≥ 1) = true) (b2 : decide (h ≤ 8) = true) (b3 : decide (n < 0) = false) (b4 : decide (n > 4) = false) :
    Den FF E0 9 [.int .i64 h, .int .i64 n, .slice 0 0 2 5] ⟨[.cells .ex 24 0 [.int .i64 2, .int .i64 0, .int .i64 0, .int .i64 0, .int .i64 v, .int .i64 80, .int .i64 0, .int .i64 0, .int .i64 0, .int .i64 0]], 1, 1⟩ = some (.val (.tuple [.slice 1 0 2 49, .int .i64 0]), some ⟨[.cells .ex 24 0 [.int .i64 2, .int .i64 0, .int .i64 0, .int .i64 0, .int .i64 v, .int .i64 80, .int .i64 0, .int .i64 0, .int .i64 0, .int .i64 0], .cells .ex 75 0 [.bool true, .int .i64 0, .int .i64 0, .int .i64 0, .int .i64 0, .int .i64 0, .int .i64 0, .int .i64 0, .int .i64 0, .int .i64 0, .int .i64 0, .int .i64 0, .int .i64 0, .int .i64 0, .int .i64 0, .int .i64 0, .int .i64 0, .int .i64 0, .int .i64 0, .int .i64 0, .int .i64 0, .int .i64 0, .int .i64 0, .int .i64 0, .int .i64 0, .int .i64 0, .int .i64 0, .int .i64 0, .int .i64 0, .int .i64 0, .int .i64 0, .int .i64 0, .int .i64 0, .int .i64 0, .int .i64 0, .int .i64 0, .int .i64 0, .int .i64 0, .int .i64 0, .int .i64 0, .int .i64 0, .int .i64 0, .int .i64 0, .int .i64 0, .int .i64 0, .int .i64 0, .int .i64 0, .int .i64 0, .int .i64 0, .bool true, .int .i64 1, .int .i64 v, .int .i64 v, .int .i64 0, .int .i64 0, .int .i64 0, .int .i64 0, .int .i64 0, .int .i64 0, .int .i64 0, .int .i64 0, .int .i64 0, .int .i64 0, .int .i64 0, .int .i64 0, .int .i64 0, .int .i64 0, .int .i64 0, .int .i64 0, .int .i64 0, .int .i64 0, .int .i64 0, .int .i64 0, .int .i64 0, .int .i64 0, .int .i64 0, .int .i64 0, .int .i64 0, .int .i64 0, .int .i64 0, .int .i64 0, .int .i64 0, .int .i64 0, .int .i64 0, .int .i64 0, .int .i64 0, .int .i64 0, .int .i64 0, .int .i64 0, .int .i64 0, .int .i64 0, .int .i64 0, .int .i64 0, .int .i64 0, .int .i64 0, .int .i64 0, .int .i64 0, .int .i64 0], .cells .ex 56 0 [.int .i64 h, .int .i64 n, .slice 4 0 2 5, .slice 1 0 2 49], .cells .ex 24 0 [], .cells .gr 24 0 [.int .i64 2, .int .i64 0, .int .i64 0, .int .i64 0, .int .i64 v, .int .i64 80, .int .i64 0, .int .i64 0, .int .i64 0, .int .i64 0]], 1, 1⟩) := by
  refine To.den hxE0 (a := af9) rfl (E0_none rfl rfl) (Nat.le_of_ble_eq_true rfl) ?_
  have k := fun h => known_0 b1 b2 h
  refine cut2 ?_
  intro q hq
  (repeat' (first | refine To.seq hxE0 ?_ | refine To.op0 hxE0 (by simp only [go_sem, eqs hxE0, reduceIte, seval, k, b3, b4, flow_0 hv]; rfl) ?_ | refine To.op1 hxE0 (by simp only [go_sem, eqs hxE0, reduceIte, seval, k, b3, b4, flow_0 hv]; rfl) ?_ | refine To.nop hxE0 ?_ | (refine To.condT hxE0 ?_ ?_; focus (simp only [go_sem, eqs hxE0, reduceIte, seval, k, b3, b4, flow_0 hv]; done)) | (refine To.condF hxE0 ?_ ?_; focus (simp only [go_sem, eqs hxE0, reduceIte, seval, k, b3, b4, flow_0 hv]; done)) | refine To.block hxE0 ?_ | refine To.scope hxE0 ?_ | refine To.ret hxE0 ?_ | refine To.exit hxE0 ?_ | refine To.skip hxE0 ?_ | refine To.label hxE0 ?_))
  subst hq
  exact toFinK 400 (by kernel_rfl)
theorem check_0 {h n v : Int} (hv : okInsn 2 0 0 0 v = true) (b1 : decide (h ≥ 1) = true) (b2 : decide (h ≤ 8) = true) (b3 : decide (n < 0) = false) (b4 : decide (n > 4) = false) :
    Den FF E0 5 [.int .i64 h, .int .i64 n, .slice 0 0 2 5] ⟨[.cells .ex 24 0 [.int .i64 2, .int .i64 0, .int .i64 0, .int .i64 0, .int .i64 v, .int .i64 80, .int .i64 0, .int .i64 0, .int .i64 0, .int .i64 0]], 0, 0⟩ = some (.val (.int .i64 0), none) := by
  refine To.den hxE0 (a := af5) rfl (E0_none rfl rfl) (Nat.le_of_ble_eq_true rfl) ?_
  (repeat' (first | refine To.seq hxE0 ?_ | refine To.op0 hxE0 (by simp only [go_sem, eqs hxE0, reduceIte, seval, facts_0 hv b1 b2 b3 b4]; rfl) ?_ | refine To.op1 hxE0 (by simp only [go_sem, eqs hxE0, reduceIte, seval, facts_0 hv b1 b2 b3 b4]; rfl) ?_ | refine To.nop hxE0 ?_ | (refine To.condT hxE0 ?_ ?_; focus (simp only [go_sem, eqs hxE0, reduceIte, seval, facts_0 hv b1 b2 b3 b4]; done)) | (refine To.condF hxE0 ?_ ?_; focus (simp only [go_sem, eqs hxE0, reduceIte, seval, facts_0 hv b1 b2 b3 b4]; done)) | refine To.block hxE0 ?_ | refine To.scope hxE0 ?_ | refine To.ret hxE0 ?_ | refine To.exit hxE0 ?_ | refine To.skip hxE0 ?_ | refine To.label hxE0 ?_))
  kernel_rfl
theorem facts1_0 {h n v : Int} (b1 : decide (h ≥ 1) = true) (b2 : decide (h ≤ 8) = true) (b3 : decide (n < 0) = false) (b4 : decide (n > 4) = false) :
    Den FF E0 9 [.int .i64 h, .int .i64 n, .slice 1 0 1 5] ⟨[.cells .ex 24 0 [.int .i64 2, .int .i64 0, .int .i64 0, .int .i64 0, .int .i64 v, .int .i64 80, .int .i64 0, .int .i64 0, .int .i64 0, .int .i64 0], .cells .ex 24 0 [.int .i64 80, .int .i64 0, .int .i64 0, .int .i64 0, .int .i64 0]], 2, 2⟩ = some (.val (.tuple [.nils, .int .i64 22]), none) := by
  refine To.den hxE0 (a := af9) rfl (E0_none rfl rfl) (Nat.le_of_ble_eq_true rfl) ?_
  have k := fun h => known_0 b1 b2 h
  refine cut2 ?_
  intro q hq
  (repeat' (first | refine To.seq hxE0 ?_ | refine To.op0 hxE0 (by simp only [go_sem, eqs hxE0, reduceIte, seval, k, b3, b4, flow1_0]; rfl) ?_ | refine To.op1 hxE0 (by simp only [go_sem, eqs hxE0, reduceIte, seval, k, b3, b4, flow1_0]; rfl) ?_ | refine To.nop hxE0 ?_ | (refine To.condT hxE0 ?_ ?_; focus (simp only [go_sem, eqs hxE0, reduceIte, seval, k, b3, b4, flow1_0]; done)) | (refine To.condF hxE0 ?_ ?_; focus (simp only [go_sem, eqs hxE0, reduceIte, seval, k, b3, b4, flow1_0]; done)) | refine To.block hxE0 ?_ | refine To.scope hxE0 ?_ | refine To.ret hxE0 ?_ | refine To.exit hxE0 ?_ | refine To.skip hxE0 ?_ | refine To.label hxE0 ?_))
  subst hq
  exact toFinK 400 (by kernel_rfl)
theorem check1_0 {h n v : Int} (b1 : decide (h ≥ 1) = true) (b2 : decide (h ≤ 8) = true) (b3 : decide (n < 0) = false) (b4 : decide (n > 4) = false) :
    Den FF E0 5 [.int .i64 h, .int .i64 n, .slice 1 0 1 5] ⟨[.cells .ex 24 0 [.int .i64 2, .int .i64 0, .int .i64 0, .int .i64 0, .int .i64 v, .int .i64 80, .int .i64 0, .int .i64 0, .int .i64 0, .int .i64 0], .cells .ex 24 0 [.int .i64 80, .int .i64 0, .int .i64 0, .int .i64 0, .int .i64 0]], 0, 0⟩ = some (.val (.int .i64 22), none) := by
  refine To.den hxE0 (a := af5) rfl (E0_none rfl rfl) (Nat.le_of_ble_eq_true rfl) ?_
  (repeat' (first | refine To.seq hxE0 ?_ | refine To.op0 hxE0 (by simp only [go_sem, eqs hxE0, reduceIte, seval, facts1_0 (v := v) b1 b2 b3 b4]; rfl) ?_ | refine To.op1 hxE0 (by simp only [go_sem, eqs hxE0, reduceIte, seval, facts1_0 (v := v) b1 b2 b3 b4]; rfl) ?_ | refine To.nop hxE0 ?_ | (refine To.condT hxE0 ?_ ?_; focus (simp only [go_sem, eqs hxE0, reduceIte, seval, facts1_0 (v := v) b1 b2 b3 b4]; done)) | (refine To.condF hxE0 ?_ ?_; focus (simp only [go_sem, eqs hxE0, reduceIte, seval, facts1_0 (v := v) b1 b2 b3 b4]; done)) | refine To.block hxE0 ?_ | refine To.scope hxE0 ?_ | refine To.ret hxE0 ?_ | refine To.exit hxE0 ?_ | refine To.skip hxE0 ?_ | refine To.label hxE0 ?_))
  kernel_rfl
/- Out of range: whatever the instructions. -/
theorem factsNo_0 {h n : Int} {l : V} {x y : Bool} (b1 : decide (h ≥ 1) = x) (b2 : decide (h ≤ 8) = y) (b : (x && y) = false ∨ decide (n < 0) = true ∨ decide (n < 0) = false ∧ decide (n > 4) = true) (hp : Heap) :
    Den FF E0 9 [.int .i64 h, .int .i64 n, l] hp = some (.val (.tuple [.nils, .int .i64 22]), none) := by
  have k := fun h => known_0 b1 b2 h
  by_cases hxy : (x && y) = true
  · rw [hxy] at k
    rw [hxy] at b
    rcases b with b | b | ⟨b, b'⟩
    · cases b
    · refine To.den hxE0 (a := af9) rfl (E0_none rfl rfl) (Nat.le_of_ble_eq_true rfl) ?_
      (repeat' (first | refine To.seq hxE0 ?_ | refine To.op0 hxE0 (by simp only [go_sem, eqs hxE0, reduceIte, seval, k, b]; rfl) ?_ | refine To.op1 hxE0 (by simp only [go_sem, eqs hxE0, reduceIte, seval, k, b]; rfl) ?_ | refine To.nop hxE0 ?_ | (refine To.condT hxE0 ?_ ?_; focus (simp only [go_sem, eqs hxE0, reduceIte, seval, k, b]; done)) | (refine To.condF hxE0 ?_ ?_; focus (simp only [go_sem, eqs hxE0, reduceIte, seval, k, b]; done)) | refine To.block hxE0 ?_ | refine To.scope hxE0 ?_ | refine To.ret hxE0 ?_ | refine To.exit hxE0 ?_ | refine To.skip hxE0 ?_ | refine To.label hxE0 ?_))
      simp only [andThen]; rw [fin2 (a := af9) (i := 6) (j := 7) rfl]
      simp only [go_sem, eqs hxE0, reduceIte, seval]
    · refine To.den hxE0 (a := af9) rfl (E0_none rfl rfl) (Nat.le_of_ble_eq_true rfl) ?_
      (repeat' (first | refine To.seq hxE0 ?_ | refine To.op0 hxE0 (by simp only [go_sem, eqs hxE0, reduceIte, seval, k, b, b']; rfl) ?_ | refine To.op1 hxE0 (by simp only [go_sem, eqs hxE0, reduceIte, seval, k, b, b']; rfl) ?_ | refine To.nop hxE0 ?_ | (refine To.condT hxE0 ?_ ?_; focus (simp only [go_sem, eqs hxE0, reduceIte, seval, k, b, b']; done)) | (refine To.condF hxE0 ?_ ?_; focus (simp only [go_sem, eqs hxE0, reduceIte, seval, k, b, b']; done)) | refine To.block hxE0 ?_ | refine To.scope hxE0 ?_ | refine To.ret hxE0 ?_ | refine To.exit hxE0 ?_ | refine To.skip hxE0 ?_ | refine To.label hxE0 ?_))
      simp only [andThen]; rw [fin2 (a := af9) (i := 6) (j := 7) rfl]
      simp only [go_sem, eqs hxE0, reduceIte, seval]
  · rw [Bool.not_eq_true] at hxy
    rw [hxy] at k
    refine To.den hxE0 (a := af9) rfl (E0_none rfl rfl) (Nat.le_of_ble_eq_true rfl) ?_
    (repeat' (first | refine To.seq hxE0 ?_ | refine To.op0 hxE0 (by simp only [go_sem, eqs hxE0, reduceIte, seval, k]; rfl) ?_ | refine To.op1 hxE0 (by simp only [go_sem, eqs hxE0, reduceIte, seval, k]; rfl) ?_ | refine To.nop hxE0 ?_ | (refine To.condT hxE0 ?_ ?_; focus (simp only [go_sem, eqs hxE0, reduceIte, seval, k]; done)) | (refine To.condF hxE0 ?_ ?_; focus (simp only [go_sem, eqs hxE0, reduceIte, seval, k]; done)) | refine To.block hxE0 ?_ | refine To.scope hxE0 ?_ | refine To.ret hxE0 ?_ | refine To.exit hxE0 ?_ | refine To.skip hxE0 ?_ | refine To.label hxE0 ?_))
    simp only [andThen]; rw [fin2 (a := af9) (i := 6) (j := 7) rfl]
    simp only [go_sem, eqs hxE0, reduceIte, seval]
theorem checkNo_0 {h n : Int} {l : V} {x y : Bool} (b1 : decide (h ≥ 1) = x) (b2 : decide (h ≤ 8) = y) (b : (x && y) = false ∨ decide (n < 0) = true ∨ decide (n < 0) = false ∧ decide (n > 4) = true) (hp : Heap) :
    Den FF E0 5 [.int .i64 h, .int .i64 n, l] hp = some (.val (.int .i64 22), none) := by
  refine To.den hxE0 (a := af5) rfl (E0_none rfl rfl) (Nat.le_of_ble_eq_true rfl) ?_
  have k := fun hp => factsNo_0 (l := l) b1 b2 b hp
  (repeat' (first | refine To.seq hxE0 ?_ | refine To.op0 hxE0 (by simp only [go_sem, eqs hxE0, reduceIte, seval, k]; rfl) ?_ | refine To.op1 hxE0 (by simp only [go_sem, eqs hxE0, reduceIte, seval, k]; rfl) ?_ | refine To.nop hxE0 ?_ | (refine To.condT hxE0 ?_ ?_; focus (simp only [go_sem, eqs hxE0, reduceIte, seval, k]; done)) | (refine To.condF hxE0 ?_ ?_; focus (simp only [go_sem, eqs hxE0, reduceIte, seval, k]; done)) | refine To.block hxE0 ?_ | refine To.scope hxE0 ?_ | refine To.ret hxE0 ?_ | refine To.exit hxE0 ?_ | refine To.skip hxE0 ?_ | refine To.label hxE0 ?_))
  rw [fin1 (a := af5) (i := 6) rfl]
  simp only [go_sem, eqs hxE0, reduceIte, seval]
end Go.Proofs.YtjeaaoohokkgmaaGreat

/- Verdicts: what a run of each hook comes to, and the law. -/
namespace Go.Proofs.YtjeaaoohokkgmaaGreat
open Go AM
set_option linter.unusedSimpArgs false
set_option linter.unusedVariables false
set_option maxRecDepth 100000

theorem ctx1_0 (v : Int) : Den FF E0 7 [.int .i64 1, .nils] ⟨[.cells .ex 24 0 [.int .i64 2, .int .i64 0, .int .i64 0, .int .i64 0, .int .i64 v, .int .i64 80, .int .i64 0, .int .i64 0, .int .i64 0, .int .i64 0], .cells .ex 24 0 [.int .i64 80, .int .i64 0, .int .i64 0, .int .i64 0, .int .i64 0]], 0, 0⟩ = some (.val (.slice 2 0 4 1), some ⟨[.cells .ex 24 0 [.int .i64 2, .int .i64 0, .int .i64 0, .int .i64 0, .int .i64 v, .int .i64 80, .int .i64 0, .int .i64 0, .int .i64 0, .int .i64 0], .cells .ex 24 0 [.int .i64 80, .int .i64 0, .int .i64 0, .int .i64 0, .int .i64 0], .cells .ex 3 0 [.int .i64 0, .int .i64 0, .int .i64 0, .int .i64 0]], 0, 0⟩) := denK (k := 400) (by kernel_rfl)
theorem run1_0 {v : Int} (hv : okInsn 2 0 0 0 v = true) : Den FF E0 6 [.int .i64 1, .nils, .slice 2 0 4 1, .slice 0 0 2 5] ⟨[.cells .ex 24 0 [.int .i64 2, .int .i64 0, .int .i64 0, .int .i64 0, .int .i64 v, .int .i64 80, .int .i64 0, .int .i64 0, .int .i64 0, .int .i64 0], .cells .ex 24 0 [.int .i64 80, .int .i64 0, .int .i64 0, .int .i64 0, .int .i64 0], .cells .ex 3 0 [.int .i64 0, .int .i64 0, .int .i64 0, .int .i64 0]], 0, 0⟩ = some (.val (.tuple [.agg [.int .i64 1, .int .i64 0, .int .i64 v, .int .i64 2, .slice 12 0 6 1], .int .i64 0]), some ⟨[.cells .ex 24 0 [.int .i64 2, .int .i64 0, .int .i64 0, .int .i64 0, .int .i64 v, .int .i64 80, .int .i64 0, .int .i64 0, .int .i64 0, .int .i64 0], .cells .ex 24 0 [.int .i64 80, .int .i64 0, .int .i64 0, .int .i64 0, .int .i64 0], .cells .ex 3 0 [.int .i64 0, .int .i64 0, .int .i64 0, .int .i64 0], .cells .ex 30 0 [.int .i64 1, .int .i64 0, .int .i64 v, .int .i64 2, .slice 12 0 6 1], .cells .ex 3 0 [], .dead, .cells .gr 3 0 [.int .i64 0, .int .i64 0, .int .i64 0, .int .i64 0, .int .i64 0, .int .i64 0, .int .i64 0, .int .i64 0, .int .i64 0, .int .i64 0], .cells .ex 24 0 [], .cells .gr 24 0 [.int .i64 2, .int .i64 0, .int .i64 0, .int .i64 0, .int .i64 v, .int .i64 80, .int .i64 0, .int .i64 0, .int .i64 0, .int .i64 0], .cells .ex 51 0 [.int .i64 1, .nils, .slice 6 0 10 1, .slice 8 0 2 5, .bool true, .bool false, .int .i64 v, .int .i64 0, .bool false, .bool false, .int .i64 0, .int .i64 0, .bool false, .bool false, .int .i64 0, .int .i64 0, .bool false, .bool false, .int .i64 0, .int .i64 0, .bool false, .bool false, .int .i64 0, .int .i64 0, .bool false, .bool false, .int .i64 0, .int .i64 0, .bool false, .bool false, .int .i64 0, .int .i64 0, .bool false, .bool false, .int .i64 0, .int .i64 0, .bool false, .bool false, .int .i64 0, .int .i64 0, .bool false, .bool false, .int .i64 0, .int .i64 0, .bool false, .bool false, .int .i64 0, .int .i64 0, .bool false, .bool false, .int .i64 0, .int .i64 0, .bool false, .bool false, .int .i64 0, .int .i64 0, .bool false, .bool false, .int .i64 0, .int .i64 0, .bool false, .bool false, .int .i64 0, .int .i64 0, .bool false, .bool false, .int .i64 0, .int .i64 0, .int .i64 2, .int .i64 2], .cells .ex 30 0 [.int .i64 1, .int .i64 0, .int .i64 v, .int .i64 2, .slice 12 0 6 1], .cells .ex 3 0 [], .cells .gr 3 0 [.int .i64 0, .int .i64 0, .int .i64 0, .int .i64 0, .int .i64 0, .int .i64 0]], 0, 0⟩) := by
  refine To.den hxE0 (a := af6) rfl (E0_none rfl rfl) (Nat.le_of_ble_eq_true rfl) ?_
  have k : ∀ hp, Den FF E0 10 [.int .i64 1] hp = some (.val (.bool true), none) := fun hp => known_0 (h := 1) (x := true) (y := true) (by decide) (by decide) hp
  have r : ∀ l d e, Den FF E0 12 [.slice 0 0 2 5] ⟨.cells .ex 24 0 [.int .i64 2, .int .i64 0, .int .i64 0, .int .i64 0, .int .i64 v, .int .i64 80, .int .i64 0, .int .i64 0, .int .i64 0, .int .i64 0] :: l, e, d⟩ = some (.val (.bool true), none) := fun l d e => rights_0 hv (fun e d => rfl) (fun e d => rfl)
  have i : Den FF E0 11 [.int .i64 1] ⟨[.cells .ex 24 0 [.int .i64 2, .int .i64 0, .int .i64 0, .int .i64 0, .int .i64 v, .int .i64 80, .int .i64 0, .int .i64 0, .int .i64 0, .int .i64 0], .cells .ex 24 0 [.int .i64 80, .int .i64 0, .int .i64 0, .int .i64 0, .int .i64 0], .cells .ex 3 0 [.int .i64 0, .int .i64 0, .int .i64 0, .int .i64 0], .cells .ex 30 0 [.int .i64 0, .int .i64 0, .int .i64 0, .int .i64 0, .nils]], 3, 3⟩ = some (.val (.int .i64 4), none) := denK (k := 400) (by kernel_rfl)
  refine cut2 ?_
  intro q hq
  (repeat' (first | refine To.seq hxE0 ?_ | refine To.op0 hxE0 (by simp only [go_sem, eqs hxE0, reduceIte, seval, k, r, i]; rfl) ?_ | refine To.op1 hxE0 (by simp only [go_sem, eqs hxE0, reduceIte, seval, k, r, i]; rfl) ?_ | refine To.nop hxE0 ?_ | (refine To.condT hxE0 ?_ ?_; focus (simp only [go_sem, eqs hxE0, reduceIte, seval, k, r, i]; done)) | (refine To.condF hxE0 ?_ ?_; focus (simp only [go_sem, eqs hxE0, reduceIte, seval, k, r, i]; done)) | refine To.block hxE0 ?_ | refine To.scope hxE0 ?_ | refine To.ret hxE0 ?_ | refine To.exit hxE0 ?_ | refine To.skip hxE0 ?_ | refine To.label hxE0 ?_))
  subst hq
  exact toFinK 400 (by kernel_rfl)
theorem ctx2_0 (v : Int) : Den FF E0 7 [.int .i64 2, .nils] ⟨[.cells .ex 24 0 [.int .i64 2, .int .i64 0, .int .i64 0, .int .i64 0, .int .i64 v, .int .i64 80, .int .i64 0, .int .i64 0, .int .i64 0, .int .i64 0], .cells .ex 24 0 [.int .i64 80, .int .i64 0, .int .i64 0, .int .i64 0, .int .i64 0]], 0, 0⟩ = some (.val (.slice 2 0 10 1), some ⟨[.cells .ex 24 0 [.int .i64 2, .int .i64 0, .int .i64 0, .int .i64 0, .int .i64 v, .int .i64 80, .int .i64 0, .int .i64 0, .int .i64 0, .int .i64 0], .cells .ex 24 0 [.int .i64 80, .int .i64 0, .int .i64 0, .int .i64 0, .int .i64 0], .cells .ex 3 0 [.int .i64 0, .int .i64 0, .int .i64 0, .int .i64 0, .int .i64 0, .int .i64 0, .int .i64 0, .int .i64 0, .int .i64 0, .int .i64 0]], 0, 0⟩) := denK (k := 400) (by kernel_rfl)
theorem run2_0 {v : Int} (hv : okInsn 2 0 0 0 v = true) : Den FF E0 6 [.int .i64 2, .nils, .slice 2 0 10 1, .slice 0 0 2 5] ⟨[.cells .ex 24 0 [.int .i64 2, .int .i64 0, .int .i64 0, .int .i64 0, .int .i64 v, .int .i64 80, .int .i64 0, .int .i64 0, .int .i64 0, .int .i64 0], .cells .ex 24 0 [.int .i64 80, .int .i64 0, .int .i64 0, .int .i64 0, .int .i64 0], .cells .ex 3 0 [.int .i64 0, .int .i64 0, .int .i64 0, .int .i64 0, .int .i64 0, .int .i64 0, .int .i64 0, .int .i64 0, .int .i64 0, .int .i64 0]], 0, 0⟩ = some (.val (.tuple [.agg [.int .i64 1, .int .i64 0, .int .i64 v, .int .i64 2, .slice 10 0 0 1], .int .i64 0]), some ⟨[.cells .ex 24 0 [.int .i64 2, .int .i64 0, .int .i64 0, .int .i64 0, .int .i64 v, .int .i64 80, .int .i64 0, .int .i64 0, .int .i64 0, .int .i64 0], .cells .ex 24 0 [.int .i64 80, .int .i64 0, .int .i64 0, .int .i64 0, .int .i64 0], .cells .ex 3 0 [.int .i64 0, .int .i64 0, .int .i64 0, .int .i64 0, .int .i64 0, .int .i64 0, .int .i64 0, .int .i64 0, .int .i64 0, .int .i64 0], .cells .ex 30 0 [.int .i64 1, .int .i64 0, .int .i64 v, .int .i64 2, .slice 10 0 0 1], .cells .ex 3 0 [], .cells .gr 3 0 [.int .i64 0, .int .i64 0, .int .i64 0, .int .i64 0, .int .i64 0, .int .i64 0, .int .i64 0, .int .i64 0, .int .i64 0, .int .i64 0], .cells .ex 24 0 [], .cells .gr 24 0 [.int .i64 2, .int .i64 0, .int .i64 0, .int .i64 0, .int .i64 v, .int .i64 80, .int .i64 0, .int .i64 0, .int .i64 0, .int .i64 0], .cells .ex 51 0 [.int .i64 2, .nils, .slice 5 0 10 1, .slice 7 0 2 5, .bool true, .bool false, .int .i64 v, .int .i64 0, .bool false, .bool false, .int .i64 0, .int .i64 0, .bool false, .bool false, .int .i64 0, .int .i64 0, .bool false, .bool false, .int .i64 0, .int .i64 0, .bool false, .bool false, .int .i64 0, .int .i64 0, .bool false, .bool false, .int .i64 0, .int .i64 0, .bool false, .bool false, .int .i64 0, .int .i64 0, .bool false, .bool false, .int .i64 0, .int .i64 0, .bool false, .bool false, .int .i64 0, .int .i64 0, .bool false, .bool false, .int .i64 0, .int .i64 0, .bool false, .bool false, .int .i64 0, .int .i64 0, .bool false, .bool false, .int .i64 0, .int .i64 0, .bool false, .bool false, .int .i64 0, .int .i64 0, .bool false, .bool false, .int .i64 0, .int .i64 0, .bool false, .bool false, .int .i64 0, .int .i64 0, .bool false, .bool false, .int .i64 0, .int .i64 0, .int .i64 2, .int .i64 2], .cells .ex 30 0 [.int .i64 1, .int .i64 0, .int .i64 v, .int .i64 2, .slice 10 0 0 1], .cells .ex 3 0 []], 0, 0⟩) := by
  refine To.den hxE0 (a := af6) rfl (E0_none rfl rfl) (Nat.le_of_ble_eq_true rfl) ?_
  have k : ∀ hp, Den FF E0 10 [.int .i64 2] hp = some (.val (.bool true), none) := fun hp => known_0 (h := 2) (x := true) (y := true) (by decide) (by decide) hp
  have r : ∀ l d e, Den FF E0 12 [.slice 0 0 2 5] ⟨.cells .ex 24 0 [.int .i64 2, .int .i64 0, .int .i64 0, .int .i64 0, .int .i64 v, .int .i64 80, .int .i64 0, .int .i64 0, .int .i64 0, .int .i64 0] :: l, e, d⟩ = some (.val (.bool true), none) := fun l d e => rights_0 hv (fun e d => rfl) (fun e d => rfl)
  have i : Den FF E0 11 [.int .i64 2] ⟨[.cells .ex 24 0 [.int .i64 2, .int .i64 0, .int .i64 0, .int .i64 0, .int .i64 v, .int .i64 80, .int .i64 0, .int .i64 0, .int .i64 0, .int .i64 0], .cells .ex 24 0 [.int .i64 80, .int .i64 0, .int .i64 0, .int .i64 0, .int .i64 0], .cells .ex 3 0 [.int .i64 0, .int .i64 0, .int .i64 0, .int .i64 0, .int .i64 0, .int .i64 0, .int .i64 0, .int .i64 0, .int .i64 0, .int .i64 0], .cells .ex 30 0 [.int .i64 0, .int .i64 0, .int .i64 0, .int .i64 0, .nils]], 3, 3⟩ = some (.val (.int .i64 10), none) := denK (k := 400) (by kernel_rfl)
  refine cut2 ?_
  intro q hq
  (repeat' (first | refine To.seq hxE0 ?_ | refine To.op0 hxE0 (by simp only [go_sem, eqs hxE0, reduceIte, seval, k, r, i]; rfl) ?_ | refine To.op1 hxE0 (by simp only [go_sem, eqs hxE0, reduceIte, seval, k, r, i]; rfl) ?_ | refine To.nop hxE0 ?_ | (refine To.condT hxE0 ?_ ?_; focus (simp only [go_sem, eqs hxE0, reduceIte, seval, k, r, i]; done)) | (refine To.condF hxE0 ?_ ?_; focus (simp only [go_sem, eqs hxE0, reduceIte, seval, k, r, i]; done)) | refine To.block hxE0 ?_ | refine To.scope hxE0 ?_ | refine To.ret hxE0 ?_ | refine To.exit hxE0 ?_ | refine To.skip hxE0 ?_ | refine To.label hxE0 ?_))
  subst hq
  exact toFinK 400 (by kernel_rfl)
theorem ctx3_0 (v : Int) : Den FF E0 7 [.int .i64 3, .nils] ⟨[.cells .ex 24 0 [.int .i64 2, .int .i64 0, .int .i64 0, .int .i64 0, .int .i64 v, .int .i64 80, .int .i64 0, .int .i64 0, .int .i64 0, .int .i64 0], .cells .ex 24 0 [.int .i64 80, .int .i64 0, .int .i64 0, .int .i64 0, .int .i64 0]], 0, 0⟩ = some (.val (.slice 2 0 1 1), some ⟨[.cells .ex 24 0 [.int .i64 2, .int .i64 0, .int .i64 0, .int .i64 0, .int .i64 v, .int .i64 80, .int .i64 0, .int .i64 0, .int .i64 0, .int .i64 0], .cells .ex 24 0 [.int .i64 80, .int .i64 0, .int .i64 0, .int .i64 0, .int .i64 0], .cells .ex 3 0 [.int .i64 0]], 0, 0⟩) := denK (k := 400) (by kernel_rfl)
theorem run3_0 {v : Int} (hv : okInsn 2 0 0 0 v = true) : Den FF E0 6 [.int .i64 3, .nils, .slice 2 0 1 1, .slice 0 0 2 5] ⟨[.cells .ex 24 0 [.int .i64 2, .int .i64 0, .int .i64 0, .int .i64 0, .int .i64 v, .int .i64 80, .int .i64 0, .int .i64 0, .int .i64 0, .int .i64 0], .cells .ex 24 0 [.int .i64 80, .int .i64 0, .int .i64 0, .int .i64 0, .int .i64 0], .cells .ex 3 0 [.int .i64 0]], 0, 0⟩ = some (.val (.tuple [.agg [.int .i64 1, .int .i64 0, .int .i64 v, .int .i64 2, .slice 12 0 5 1], .int .i64 0]), some ⟨[.cells .ex 24 0 [.int .i64 2, .int .i64 0, .int .i64 0, .int .i64 0, .int .i64 v, .int .i64 80, .int .i64 0, .int .i64 0, .int .i64 0, .int .i64 0], .cells .ex 24 0 [.int .i64 80, .int .i64 0, .int .i64 0, .int .i64 0, .int .i64 0], .cells .ex 3 0 [.int .i64 0], .cells .ex 30 0 [.int .i64 1, .int .i64 0, .int .i64 v, .int .i64 2, .slice 12 0 5 1], .cells .ex 3 0 [], .dead, .cells .gr 3 0 [.int .i64 0, .int .i64 0, .int .i64 0, .int .i64 0, .int .i64 0, .int .i64 0], .cells .ex 24 0 [], .cells .gr 24 0 [.int .i64 2, .int .i64 0, .int .i64 0, .int .i64 0, .int .i64 v, .int .i64 80, .int .i64 0, .int .i64 0, .int .i64 0, .int .i64 0], .cells .ex 51 0 [.int .i64 3, .nils, .slice 6 0 6 1, .slice 8 0 2 5, .bool true, .bool false, .int .i64 v, .int .i64 0, .bool false, .bool false, .int .i64 0, .int .i64 0, .bool false, .bool false, .int .i64 0, .int .i64 0, .bool false, .bool false, .int .i64 0, .int .i64 0, .bool false, .bool false, .int .i64 0, .int .i64 0, .bool false, .bool false, .int .i64 0, .int .i64 0, .bool false, .bool false, .int .i64 0, .int .i64 0, .bool false, .bool false, .int .i64 0, .int .i64 0, .bool false, .bool false, .int .i64 0, .int .i64 0, .bool false, .bool false, .int .i64 0, .int .i64 0, .bool false, .bool false, .int .i64 0, .int .i64 0, .bool false, .bool false, .int .i64 0, .int .i64 0, .bool false, .bool false, .int .i64 0, .int .i64 0, .bool false, .bool false, .int .i64 0, .int .i64 0, .bool false, .bool false, .int .i64 0, .int .i64 0, .bool false, .bool false, .int .i64 0, .int .i64 0, .int .i64 2, .int .i64 2], .cells .ex 30 0 [.int .i64 1, .int .i64 0, .int .i64 v, .int .i64 2, .slice 12 0 5 1], .cells .ex 3 0 [], .cells .gr 3 0 [.int .i64 0, .int .i64 0, .int .i64 0, .int .i64 0, .int .i64 0]], 0, 0⟩) := by
  refine To.den hxE0 (a := af6) rfl (E0_none rfl rfl) (Nat.le_of_ble_eq_true rfl) ?_
  have k : ∀ hp, Den FF E0 10 [.int .i64 3] hp = some (.val (.bool true), none) := fun hp => known_0 (h := 3) (x := true) (y := true) (by decide) (by decide) hp
  have r : ∀ l d e, Den FF E0 12 [.slice 0 0 2 5] ⟨.cells .ex 24 0 [.int .i64 2, .int .i64 0, .int .i64 0, .int .i64 0, .int .i64 v, .int .i64 80, .int .i64 0, .int .i64 0, .int .i64 0, .int .i64 0] :: l, e, d⟩ = some (.val (.bool true), none) := fun l d e => rights_0 hv (fun e d => rfl) (fun e d => rfl)
  have i : Den FF E0 11 [.int .i64 3] ⟨[.cells .ex 24 0 [.int .i64 2, .int .i64 0, .int .i64 0, .int .i64 0, .int .i64 v, .int .i64 80, .int .i64 0, .int .i64 0, .int .i64 0, .int .i64 0], .cells .ex 24 0 [.int .i64 80, .int .i64 0, .int .i64 0, .int .i64 0, .int .i64 0], .cells .ex 3 0 [.int .i64 0], .cells .ex 30 0 [.int .i64 0, .int .i64 0, .int .i64 0, .int .i64 0, .nils]], 3, 3⟩ = some (.val (.int .i64 1), none) := denK (k := 400) (by kernel_rfl)
  refine cut2 ?_
  intro q hq
  (repeat' (first | refine To.seq hxE0 ?_ | refine To.op0 hxE0 (by simp only [go_sem, eqs hxE0, reduceIte, seval, k, r, i]; rfl) ?_ | refine To.op1 hxE0 (by simp only [go_sem, eqs hxE0, reduceIte, seval, k, r, i]; rfl) ?_ | refine To.nop hxE0 ?_ | (refine To.condT hxE0 ?_ ?_; focus (simp only [go_sem, eqs hxE0, reduceIte, seval, k, r, i]; done)) | (refine To.condF hxE0 ?_ ?_; focus (simp only [go_sem, eqs hxE0, reduceIte, seval, k, r, i]; done)) | refine To.block hxE0 ?_ | refine To.scope hxE0 ?_ | refine To.ret hxE0 ?_ | refine To.exit hxE0 ?_ | refine To.skip hxE0 ?_ | refine To.label hxE0 ?_))
  subst hq
  exact toFinK 400 (by kernel_rfl)
theorem ctx4_0 (v : Int) : Den FF E0 7 [.int .i64 4, .nils] ⟨[.cells .ex 24 0 [.int .i64 2, .int .i64 0, .int .i64 0, .int .i64 0, .int .i64 v, .int .i64 80, .int .i64 0, .int .i64 0, .int .i64 0, .int .i64 0], .cells .ex 24 0 [.int .i64 80, .int .i64 0, .int .i64 0, .int .i64 0, .int .i64 0]], 0, 0⟩ = some (.val (.slice 2 0 7 1), some ⟨[.cells .ex 24 0 [.int .i64 2, .int .i64 0, .int .i64 0, .int .i64 0, .int .i64 v, .int .i64 80, .int .i64 0, .int .i64 0, .int .i64 0, .int .i64 0], .cells .ex 24 0 [.int .i64 80, .int .i64 0, .int .i64 0, .int .i64 0, .int .i64 0], .cells .ex 3 0 [.int .i64 0, .int .i64 0, .int .i64 0, .int .i64 0, .int .i64 0, .int .i64 0, .int .i64 0]], 0, 0⟩) := denK (k := 400) (by kernel_rfl)
theorem run4_0 {v : Int} (hv : okInsn 2 0 0 0 v = true) : Den FF E0 6 [.int .i64 4, .nils, .slice 2 0 7 1, .slice 0 0 2 5] ⟨[.cells .ex 24 0 [.int .i64 2, .int .i64 0, .int .i64 0, .int .i64 0, .int .i64 v, .int .i64 80, .int .i64 0, .int .i64 0, .int .i64 0, .int .i64 0], .cells .ex 24 0 [.int .i64 80, .int .i64 0, .int .i64 0, .int .i64 0, .int .i64 0], .cells .ex 3 0 [.int .i64 0, .int .i64 0, .int .i64 0, .int .i64 0, .int .i64 0, .int .i64 0, .int .i64 0]], 0, 0⟩ = some (.val (.tuple [.agg [.int .i64 1, .int .i64 0, .int .i64 v, .int .i64 2, .slice 10 0 0 1], .int .i64 0]), some ⟨[.cells .ex 24 0 [.int .i64 2, .int .i64 0, .int .i64 0, .int .i64 0, .int .i64 v, .int .i64 80, .int .i64 0, .int .i64 0, .int .i64 0, .int .i64 0], .cells .ex 24 0 [.int .i64 80, .int .i64 0, .int .i64 0, .int .i64 0, .int .i64 0], .cells .ex 3 0 [.int .i64 0, .int .i64 0, .int .i64 0, .int .i64 0, .int .i64 0, .int .i64 0, .int .i64 0], .cells .ex 30 0 [.int .i64 1, .int .i64 0, .int .i64 v, .int .i64 2, .slice 10 0 0 1], .cells .ex 3 0 [], .cells .gr 3 0 [.int .i64 0, .int .i64 0, .int .i64 0, .int .i64 0, .int .i64 0, .int .i64 0, .int .i64 0], .cells .ex 24 0 [], .cells .gr 24 0 [.int .i64 2, .int .i64 0, .int .i64 0, .int .i64 0, .int .i64 v, .int .i64 80, .int .i64 0, .int .i64 0, .int .i64 0, .int .i64 0], .cells .ex 51 0 [.int .i64 4, .nils, .slice 5 0 7 1, .slice 7 0 2 5, .bool true, .bool false, .int .i64 v, .int .i64 0, .bool false, .bool false, .int .i64 0, .int .i64 0, .bool false, .bool false, .int .i64 0, .int .i64 0, .bool false, .bool false, .int .i64 0, .int .i64 0, .bool false, .bool false, .int .i64 0, .int .i64 0, .bool false, .bool false, .int .i64 0, .int .i64 0, .bool false, .bool false, .int .i64 0, .int .i64 0, .bool false, .bool false, .int .i64 0, .int .i64 0, .bool false, .bool false, .int .i64 0, .int .i64 0, .bool false, .bool false, .int .i64 0, .int .i64 0, .bool false, .bool false, .int .i64 0, .int .i64 0, .bool false, .bool false, .int .i64 0, .int .i64 0, .bool false, .bool false, .int .i64 0, .int .i64 0, .bool false, .bool false, .int .i64 0, .int .i64 0, .bool false, .bool false, .int .i64 0, .int .i64 0, .bool false, .bool false, .int .i64 0, .int .i64 0, .int .i64 2, .int .i64 2], .cells .ex 30 0 [.int .i64 1, .int .i64 0, .int .i64 v, .int .i64 2, .slice 10 0 0 1], .cells .ex 3 0 []], 0, 0⟩) := by
  refine To.den hxE0 (a := af6) rfl (E0_none rfl rfl) (Nat.le_of_ble_eq_true rfl) ?_
  have k : ∀ hp, Den FF E0 10 [.int .i64 4] hp = some (.val (.bool true), none) := fun hp => known_0 (h := 4) (x := true) (y := true) (by decide) (by decide) hp
  have r : ∀ l d e, Den FF E0 12 [.slice 0 0 2 5] ⟨.cells .ex 24 0 [.int .i64 2, .int .i64 0, .int .i64 0, .int .i64 0, .int .i64 v, .int .i64 80, .int .i64 0, .int .i64 0, .int .i64 0, .int .i64 0] :: l, e, d⟩ = some (.val (.bool true), none) := fun l d e => rights_0 hv (fun e d => rfl) (fun e d => rfl)
  have i : Den FF E0 11 [.int .i64 4] ⟨[.cells .ex 24 0 [.int .i64 2, .int .i64 0, .int .i64 0, .int .i64 0, .int .i64 v, .int .i64 80, .int .i64 0, .int .i64 0, .int .i64 0, .int .i64 0], .cells .ex 24 0 [.int .i64 80, .int .i64 0, .int .i64 0, .int .i64 0, .int .i64 0], .cells .ex 3 0 [.int .i64 0, .int .i64 0, .int .i64 0, .int .i64 0, .int .i64 0, .int .i64 0, .int .i64 0], .cells .ex 30 0 [.int .i64 0, .int .i64 0, .int .i64 0, .int .i64 0, .nils]], 3, 3⟩ = some (.val (.int .i64 7), none) := denK (k := 400) (by kernel_rfl)
  refine cut2 ?_
  intro q hq
  (repeat' (first | refine To.seq hxE0 ?_ | refine To.op0 hxE0 (by simp only [go_sem, eqs hxE0, reduceIte, seval, k, r, i]; rfl) ?_ | refine To.op1 hxE0 (by simp only [go_sem, eqs hxE0, reduceIte, seval, k, r, i]; rfl) ?_ | refine To.nop hxE0 ?_ | (refine To.condT hxE0 ?_ ?_; focus (simp only [go_sem, eqs hxE0, reduceIte, seval, k, r, i]; done)) | (refine To.condF hxE0 ?_ ?_; focus (simp only [go_sem, eqs hxE0, reduceIte, seval, k, r, i]; done)) | refine To.block hxE0 ?_ | refine To.scope hxE0 ?_ | refine To.ret hxE0 ?_ | refine To.exit hxE0 ?_ | refine To.skip hxE0 ?_ | refine To.label hxE0 ?_))
  subst hq
  exact toFinK 400 (by kernel_rfl)
theorem ctx5_0 (v : Int) : Den FF E0 7 [.int .i64 5, .nils] ⟨[.cells .ex 24 0 [.int .i64 2, .int .i64 0, .int .i64 0, .int .i64 0, .int .i64 v, .int .i64 80, .int .i64 0, .int .i64 0, .int .i64 0, .int .i64 0], .cells .ex 24 0 [.int .i64 80, .int .i64 0, .int .i64 0, .int .i64 0, .int .i64 0]], 0, 0⟩ = some (.val (.slice 2 0 3 1), some ⟨[.cells .ex 24 0 [.int .i64 2, .int .i64 0, .int .i64 0, .int .i64 0, .int .i64 v, .int .i64 80, .int .i64 0, .int .i64 0, .int .i64 0, .int .i64 0], .cells .ex 24 0 [.int .i64 80, .int .i64 0, .int .i64 0, .int .i64 0, .int .i64 0], .cells .ex 3 0 [.int .i64 0, .int .i64 0, .int .i64 0]], 0, 0⟩) := denK (k := 400) (by kernel_rfl)
theorem run5_0 {v : Int} (hv : okInsn 2 0 0 0 v = true) : Den FF E0 6 [.int .i64 5, .nils, .slice 2 0 3 1, .slice 0 0 2 5] ⟨[.cells .ex 24 0 [.int .i64 2, .int .i64 0, .int .i64 0, .int .i64 0, .int .i64 v, .int .i64 80, .int .i64 0, .int .i64 0, .int .i64 0, .int .i64 0], .cells .ex 24 0 [.int .i64 80, .int .i64 0, .int .i64 0, .int .i64 0, .int .i64 0], .cells .ex 3 0 [.int .i64 0, .int .i64 0, .int .i64 0]], 0, 0⟩ = some (.val (.tuple [.agg [.int .i64 1, .int .i64 0, .int .i64 v, .int .i64 2, .slice 12 0 3 1], .int .i64 0]), some ⟨[.cells .ex 24 0 [.int .i64 2, .int .i64 0, .int .i64 0, .int .i64 0, .int .i64 v, .int .i64 80, .int .i64 0, .int .i64 0, .int .i64 0, .int .i64 0], .cells .ex 24 0 [.int .i64 80, .int .i64 0, .int .i64 0, .int .i64 0, .int .i64 0], .cells .ex 3 0 [.int .i64 0, .int .i64 0, .int .i64 0], .cells .ex 30 0 [.int .i64 1, .int .i64 0, .int .i64 v, .int .i64 2, .slice 12 0 3 1], .cells .ex 3 0 [], .dead, .cells .gr 3 0 [.int .i64 0, .int .i64 0, .int .i64 0, .int .i64 0, .int .i64 0, .int .i64 0], .cells .ex 24 0 [], .cells .gr 24 0 [.int .i64 2, .int .i64 0, .int .i64 0, .int .i64 0, .int .i64 v, .int .i64 80, .int .i64 0, .int .i64 0, .int .i64 0, .int .i64 0], .cells .ex 51 0 [.int .i64 5, .nils, .slice 6 0 6 1, .slice 8 0 2 5, .bool true, .bool false, .int .i64 v, .int .i64 0, .bool false, .bool false, .int .i64 0, .int .i64 0, .bool false, .bool false, .int .i64 0, .int .i64 0, .bool false, .bool false, .int .i64 0, .int .i64 0, .bool false, .bool false, .int .i64 0, .int .i64 0, .bool false, .bool false, .int .i64 0, .int .i64 0, .bool false, .bool false, .int .i64 0, .int .i64 0, .bool false, .bool false, .int .i64 0, .int .i64 0, .bool false, .bool false, .int .i64 0, .int .i64 0, .bool false, .bool false, .int .i64 0, .int .i64 0, .bool false, .bool false, .int .i64 0, .int .i64 0, .bool false, .bool false, .int .i64 0, .int .i64 0, .bool false, .bool false, .int .i64 0, .int .i64 0, .bool false, .bool false, .int .i64 0, .int .i64 0, .bool false, .bool false, .int .i64 0, .int .i64 0, .bool false, .bool false, .int .i64 0, .int .i64 0, .int .i64 2, .int .i64 2], .cells .ex 30 0 [.int .i64 1, .int .i64 0, .int .i64 v, .int .i64 2, .slice 12 0 3 1], .cells .ex 3 0 [], .cells .gr 3 0 [.int .i64 0, .int .i64 0, .int .i64 0]], 0, 0⟩) := by
  refine To.den hxE0 (a := af6) rfl (E0_none rfl rfl) (Nat.le_of_ble_eq_true rfl) ?_
  have k : ∀ hp, Den FF E0 10 [.int .i64 5] hp = some (.val (.bool true), none) := fun hp => known_0 (h := 5) (x := true) (y := true) (by decide) (by decide) hp
  have r : ∀ l d e, Den FF E0 12 [.slice 0 0 2 5] ⟨.cells .ex 24 0 [.int .i64 2, .int .i64 0, .int .i64 0, .int .i64 0, .int .i64 v, .int .i64 80, .int .i64 0, .int .i64 0, .int .i64 0, .int .i64 0] :: l, e, d⟩ = some (.val (.bool true), none) := fun l d e => rights_0 hv (fun e d => rfl) (fun e d => rfl)
  have i : Den FF E0 11 [.int .i64 5] ⟨[.cells .ex 24 0 [.int .i64 2, .int .i64 0, .int .i64 0, .int .i64 0, .int .i64 v, .int .i64 80, .int .i64 0, .int .i64 0, .int .i64 0, .int .i64 0], .cells .ex 24 0 [.int .i64 80, .int .i64 0, .int .i64 0, .int .i64 0, .int .i64 0], .cells .ex 3 0 [.int .i64 0, .int .i64 0, .int .i64 0], .cells .ex 30 0 [.int .i64 0, .int .i64 0, .int .i64 0, .int .i64 0, .nils]], 3, 3⟩ = some (.val (.int .i64 3), none) := denK (k := 400) (by kernel_rfl)
  refine cut2 ?_
  intro q hq
  (repeat' (first | refine To.seq hxE0 ?_ | refine To.op0 hxE0 (by simp only [go_sem, eqs hxE0, reduceIte, seval, k, r, i]; rfl) ?_ | refine To.op1 hxE0 (by simp only [go_sem, eqs hxE0, reduceIte, seval, k, r, i]; rfl) ?_ | refine To.nop hxE0 ?_ | (refine To.condT hxE0 ?_ ?_; focus (simp only [go_sem, eqs hxE0, reduceIte, seval, k, r, i]; done)) | (refine To.condF hxE0 ?_ ?_; focus (simp only [go_sem, eqs hxE0, reduceIte, seval, k, r, i]; done)) | refine To.block hxE0 ?_ | refine To.scope hxE0 ?_ | refine To.ret hxE0 ?_ | refine To.exit hxE0 ?_ | refine To.skip hxE0 ?_ | refine To.label hxE0 ?_))
  subst hq
  exact toFinK 400 (by kernel_rfl)
theorem ctx6_0 (v : Int) : Den FF E0 7 [.int .i64 6, .nils] ⟨[.cells .ex 24 0 [.int .i64 2, .int .i64 0, .int .i64 0, .int .i64 0, .int .i64 v, .int .i64 80, .int .i64 0, .int .i64 0, .int .i64 0, .int .i64 0], .cells .ex 24 0 [.int .i64 80, .int .i64 0, .int .i64 0, .int .i64 0, .int .i64 0]], 0, 0⟩ = some (.val (.slice 2 0 7 1), some ⟨[.cells .ex 24 0 [.int .i64 2, .int .i64 0, .int .i64 0, .int .i64 0, .int .i64 v, .int .i64 80, .int .i64 0, .int .i64 0, .int .i64 0, .int .i64 0], .cells .ex 24 0 [.int .i64 80, .int .i64 0, .int .i64 0, .int .i64 0, .int .i64 0], .cells .ex 3 0 [.int .i64 0, .int .i64 0, .int .i64 0, .int .i64 0, .int .i64 0, .int .i64 0, .int .i64 0]], 0, 0⟩) := denK (k := 400) (by kernel_rfl)
theorem run6_0 {v : Int} (hv : okInsn 2 0 0 0 v = true) : Den FF E0 6 [.int .i64 6, .nils, .slice 2 0 7 1, .slice 0 0 2 5] ⟨[.cells .ex 24 0 [.int .i64 2, .int .i64 0, .int .i64 0, .int .i64 0, .int .i64 v, .int .i64 80, .int .i64 0, .int .i64 0, .int .i64 0, .int .i64 0], .cells .ex 24 0 [.int .i64 80, .int .i64 0, .int .i64 0, .int .i64 0, .int .i64 0], .cells .ex 3 0 [.int .i64 0, .int .i64 0, .int .i64 0, .int .i64 0, .int .i64 0, .int .i64 0, .int .i64 0]], 0, 0⟩ = some (.val (.tuple [.agg [.int .i64 1, .int .i64 0, .int .i64 v, .int .i64 2, .slice 10 0 0 1], .int .i64 0]), some ⟨[.cells .ex 24 0 [.int .i64 2, .int .i64 0, .int .i64 0, .int .i64 0, .int .i64 v, .int .i64 80, .int .i64 0, .int .i64 0, .int .i64 0, .int .i64 0], .cells .ex 24 0 [.int .i64 80, .int .i64 0, .int .i64 0, .int .i64 0, .int .i64 0], .cells .ex 3 0 [.int .i64 0, .int .i64 0, .int .i64 0, .int .i64 0, .int .i64 0, .int .i64 0, .int .i64 0], .cells .ex 30 0 [.int .i64 1, .int .i64 0, .int .i64 v, .int .i64 2, .slice 10 0 0 1], .cells .ex 3 0 [], .cells .gr 3 0 [.int .i64 0, .int .i64 0, .int .i64 0, .int .i64 0, .int .i64 0, .int .i64 0, .int .i64 0], .cells .ex 24 0 [], .cells .gr 24 0 [.int .i64 2, .int .i64 0, .int .i64 0, .int .i64 0, .int .i64 v, .int .i64 80, .int .i64 0, .int .i64 0, .int .i64 0, .int .i64 0], .cells .ex 51 0 [.int .i64 6, .nils, .slice 5 0 7 1, .slice 7 0 2 5, .bool true, .bool false, .int .i64 v, .int .i64 0, .bool false, .bool false, .int .i64 0, .int .i64 0, .bool false, .bool false, .int .i64 0, .int .i64 0, .bool false, .bool false, .int .i64 0, .int .i64 0, .bool false, .bool false, .int .i64 0, .int .i64 0, .bool false, .bool false, .int .i64 0, .int .i64 0, .bool false, .bool false, .int .i64 0, .int .i64 0, .bool false, .bool false, .int .i64 0, .int .i64 0, .bool false, .bool false, .int .i64 0, .int .i64 0, .bool false, .bool false, .int .i64 0, .int .i64 0, .bool false, .bool false, .int .i64 0, .int .i64 0, .bool false, .bool false, .int .i64 0, .int .i64 0, .bool false, .bool false, .int .i64 0, .int .i64 0, .bool false, .bool false, .int .i64 0, .int .i64 0, .bool false, .bool false, .int .i64 0, .int .i64 0, .bool false, .bool false, .int .i64 0, .int .i64 0, .int .i64 2, .int .i64 2], .cells .ex 30 0 [.int .i64 1, .int .i64 0, .int .i64 v, .int .i64 2, .slice 10 0 0 1], .cells .ex 3 0 []], 0, 0⟩) := by
  refine To.den hxE0 (a := af6) rfl (E0_none rfl rfl) (Nat.le_of_ble_eq_true rfl) ?_
  have k : ∀ hp, Den FF E0 10 [.int .i64 6] hp = some (.val (.bool true), none) := fun hp => known_0 (h := 6) (x := true) (y := true) (by decide) (by decide) hp
  have r : ∀ l d e, Den FF E0 12 [.slice 0 0 2 5] ⟨.cells .ex 24 0 [.int .i64 2, .int .i64 0, .int .i64 0, .int .i64 0, .int .i64 v, .int .i64 80, .int .i64 0, .int .i64 0, .int .i64 0, .int .i64 0] :: l, e, d⟩ = some (.val (.bool true), none) := fun l d e => rights_0 hv (fun e d => rfl) (fun e d => rfl)
  have i : Den FF E0 11 [.int .i64 6] ⟨[.cells .ex 24 0 [.int .i64 2, .int .i64 0, .int .i64 0, .int .i64 0, .int .i64 v, .int .i64 80, .int .i64 0, .int .i64 0, .int .i64 0, .int .i64 0], .cells .ex 24 0 [.int .i64 80, .int .i64 0, .int .i64 0, .int .i64 0, .int .i64 0], .cells .ex 3 0 [.int .i64 0, .int .i64 0, .int .i64 0, .int .i64 0, .int .i64 0, .int .i64 0, .int .i64 0], .cells .ex 30 0 [.int .i64 0, .int .i64 0, .int .i64 0, .int .i64 0, .nils]], 3, 3⟩ = some (.val (.int .i64 7), none) := denK (k := 400) (by kernel_rfl)
  refine cut2 ?_
  intro q hq
  (repeat' (first | refine To.seq hxE0 ?_ | refine To.op0 hxE0 (by simp only [go_sem, eqs hxE0, reduceIte, seval, k, r, i]; rfl) ?_ | refine To.op1 hxE0 (by simp only [go_sem, eqs hxE0, reduceIte, seval, k, r, i]; rfl) ?_ | refine To.nop hxE0 ?_ | (refine To.condT hxE0 ?_ ?_; focus (simp only [go_sem, eqs hxE0, reduceIte, seval, k, r, i]; done)) | (refine To.condF hxE0 ?_ ?_; focus (simp only [go_sem, eqs hxE0, reduceIte, seval, k, r, i]; done)) | refine To.block hxE0 ?_ | refine To.scope hxE0 ?_ | refine To.ret hxE0 ?_ | refine To.exit hxE0 ?_ | refine To.skip hxE0 ?_ | refine To.label hxE0 ?_))
  subst hq
  exact toFinK 400 (by kernel_rfl)
theorem ctx7_0 (v : Int) : Den FF E0 7 [.int .i64 7, .nils] ⟨[.cells .ex 24 0 [.int .i64 2, .int .i64 0, .int .i64 0, .int .i64 0, .int .i64 v, .int .i64 80, .int .i64 0, .int .i64 0, .int .i64 0, .int .i64 0], .cells .ex 24 0 [.int .i64 80, .int .i64 0, .int .i64 0, .int .i64 0, .int .i64 0]], 0, 0⟩ = some (.val (.slice 2 0 6 1), some ⟨[.cells .ex 24 0 [.int .i64 2, .int .i64 0, .int .i64 0, .int .i64 0, .int .i64 v, .int .i64 80, .int .i64 0, .int .i64 0, .int .i64 0, .int .i64 0], .cells .ex 24 0 [.int .i64 80, .int .i64 0, .int .i64 0, .int .i64 0, .int .i64 0], .cells .ex 3 0 [.int .i64 0, .int .i64 0, .int .i64 0, .int .i64 0, .int .i64 0, .int .i64 0]], 0, 0⟩) := denK (k := 400) (by kernel_rfl)
theorem run7_0 {v : Int} (hv : okInsn 2 0 0 0 v = true) : Den FF E0 6 [.int .i64 7, .nils, .slice 2 0 6 1, .slice 0 0 2 5] ⟨[.cells .ex 24 0 [.int .i64 2, .int .i64 0, .int .i64 0, .int .i64 0, .int .i64 v, .int .i64 80, .int .i64 0, .int .i64 0, .int .i64 0, .int .i64 0], .cells .ex 24 0 [.int .i64 80, .int .i64 0, .int .i64 0, .int .i64 0, .int .i64 0], .cells .ex 3 0 [.int .i64 0, .int .i64 0, .int .i64 0, .int .i64 0, .int .i64 0, .int .i64 0]], 0, 0⟩ = some (.val (.tuple [.agg [.int .i64 1, .int .i64 0, .int .i64 v, .int .i64 2, .slice 10 0 0 1], .int .i64 0]), some ⟨[.cells .ex 24 0 [.int .i64 2, .int .i64 0, .int .i64 0, .int .i64 0, .int .i64 v, .int .i64 80, .int .i64 0, .int .i64 0, .int .i64 0, .int .i64 0], .cells .ex 24 0 [.int .i64 80, .int .i64 0, .int .i64 0, .int .i64 0, .int .i64 0], .cells .ex 3 0 [.int .i64 0, .int .i64 0, .int .i64 0, .int .i64 0, .int .i64 0, .int .i64 0], .cells .ex 30 0 [.int .i64 1, .int .i64 0, .int .i64 v, .int .i64 2, .slice 10 0 0 1], .cells .ex 3 0 [], .cells .gr 3 0 [.int .i64 0, .int .i64 0, .int .i64 0, .int .i64 0, .int .i64 0, .int .i64 0], .cells .ex 24 0 [], .cells .gr 24 0 [.int .i64 2, .int .i64 0, .int .i64 0, .int .i64 0, .int .i64 v, .int .i64 80, .int .i64 0, .int .i64 0, .int .i64 0, .int .i64 0], .cells .ex 51 0 [.int .i64 7, .nils, .slice 5 0 6 1, .slice 7 0 2 5, .bool true, .bool false, .int .i64 v, .int .i64 0, .bool false, .bool false, .int .i64 0, .int .i64 0, .bool false, .bool false, .int .i64 0, .int .i64 0, .bool false, .bool false, .int .i64 0, .int .i64 0, .bool false, .bool false, .int .i64 0, .int .i64 0, .bool false, .bool false, .int .i64 0, .int .i64 0, .bool false, .bool false, .int .i64 0, .int .i64 0, .bool false, .bool false, .int .i64 0, .int .i64 0, .bool false, .bool false, .int .i64 0, .int .i64 0, .bool false, .bool false, .int .i64 0, .int .i64 0, .bool false, .bool false, .int .i64 0, .int .i64 0, .bool false, .bool false, .int .i64 0, .int .i64 0, .bool false, .bool false, .int .i64 0, .int .i64 0, .bool false, .bool false, .int .i64 0, .int .i64 0, .bool false, .bool false, .int .i64 0, .int .i64 0, .bool false, .bool false, .int .i64 0, .int .i64 0, .int .i64 2, .int .i64 2], .cells .ex 30 0 [.int .i64 1, .int .i64 0, .int .i64 v, .int .i64 2, .slice 10 0 0 1], .cells .ex 3 0 []], 0, 0⟩) := by
  refine To.den hxE0 (a := af6) rfl (E0_none rfl rfl) (Nat.le_of_ble_eq_true rfl) ?_
  have k : ∀ hp, Den FF E0 10 [.int .i64 7] hp = some (.val (.bool true), none) := fun hp => known_0 (h := 7) (x := true) (y := true) (by decide) (by decide) hp
  have r : ∀ l d e, Den FF E0 12 [.slice 0 0 2 5] ⟨.cells .ex 24 0 [.int .i64 2, .int .i64 0, .int .i64 0, .int .i64 0, .int .i64 v, .int .i64 80, .int .i64 0, .int .i64 0, .int .i64 0, .int .i64 0] :: l, e, d⟩ = some (.val (.bool true), none) := fun l d e => rights_0 hv (fun e d => rfl) (fun e d => rfl)
  have i : Den FF E0 11 [.int .i64 7] ⟨[.cells .ex 24 0 [.int .i64 2, .int .i64 0, .int .i64 0, .int .i64 0, .int .i64 v, .int .i64 80, .int .i64 0, .int .i64 0, .int .i64 0, .int .i64 0], .cells .ex 24 0 [.int .i64 80, .int .i64 0, .int .i64 0, .int .i64 0, .int .i64 0], .cells .ex 3 0 [.int .i64 0, .int .i64 0, .int .i64 0, .int .i64 0, .int .i64 0, .int .i64 0], .cells .ex 30 0 [.int .i64 0, .int .i64 0, .int .i64 0, .int .i64 0, .nils]], 3, 3⟩ = some (.val (.int .i64 6), none) := denK (k := 400) (by kernel_rfl)
  refine cut2 ?_
  intro q hq
  (repeat' (first | refine To.seq hxE0 ?_ | refine To.op0 hxE0 (by simp only [go_sem, eqs hxE0, reduceIte, seval, k, r, i]; rfl) ?_ | refine To.op1 hxE0 (by simp only [go_sem, eqs hxE0, reduceIte, seval, k, r, i]; rfl) ?_ | refine To.nop hxE0 ?_ | (refine To.condT hxE0 ?_ ?_; focus (simp only [go_sem, eqs hxE0, reduceIte, seval, k, r, i]; done)) | (refine To.condF hxE0 ?_ ?_; focus (simp only [go_sem, eqs hxE0, reduceIte, seval, k, r, i]; done)) | refine To.block hxE0 ?_ | refine To.scope hxE0 ?_ | refine To.ret hxE0 ?_ | refine To.exit hxE0 ?_ | refine To.skip hxE0 ?_ | refine To.label hxE0 ?_))
  subst hq
  exact toFinK 400 (by kernel_rfl)
theorem ctx8_0 (v : Int) : Den FF E0 7 [.int .i64 8, .nils] ⟨[.cells .ex 24 0 [.int .i64 2, .int .i64 0, .int .i64 0, .int .i64 0, .int .i64 v, .int .i64 80, .int .i64 0, .int .i64 0, .int .i64 0, .int .i64 0], .cells .ex 24 0 [.int .i64 80, .int .i64 0, .int .i64 0, .int .i64 0, .int .i64 0]], 0, 0⟩ = some (.val (.slice 2 0 5 1), some ⟨[.cells .ex 24 0 [.int .i64 2, .int .i64 0, .int .i64 0, .int .i64 0, .int .i64 v, .int .i64 80, .int .i64 0, .int .i64 0, .int .i64 0, .int .i64 0], .cells .ex 24 0 [.int .i64 80, .int .i64 0, .int .i64 0, .int .i64 0, .int .i64 0], .cells .ex 3 0 [.int .i64 0, .int .i64 0, .int .i64 0, .int .i64 0, .int .i64 0]], 0, 0⟩) := denK (k := 400) (by kernel_rfl)
theorem run8_0 {v : Int} (hv : okInsn 2 0 0 0 v = true) : Den FF E0 6 [.int .i64 8, .nils, .slice 2 0 5 1, .slice 0 0 2 5] ⟨[.cells .ex 24 0 [.int .i64 2, .int .i64 0, .int .i64 0, .int .i64 0, .int .i64 v, .int .i64 80, .int .i64 0, .int .i64 0, .int .i64 0, .int .i64 0], .cells .ex 24 0 [.int .i64 80, .int .i64 0, .int .i64 0, .int .i64 0, .int .i64 0], .cells .ex 3 0 [.int .i64 0, .int .i64 0, .int .i64 0, .int .i64 0, .int .i64 0]], 0, 0⟩ = some (.val (.tuple [.agg [.int .i64 1, .int .i64 0, .int .i64 v, .int .i64 2, .slice 10 0 0 1], .int .i64 0]), some ⟨[.cells .ex 24 0 [.int .i64 2, .int .i64 0, .int .i64 0, .int .i64 0, .int .i64 v, .int .i64 80, .int .i64 0, .int .i64 0, .int .i64 0, .int .i64 0], .cells .ex 24 0 [.int .i64 80, .int .i64 0, .int .i64 0, .int .i64 0, .int .i64 0], .cells .ex 3 0 [.int .i64 0, .int .i64 0, .int .i64 0, .int .i64 0, .int .i64 0], .cells .ex 30 0 [.int .i64 1, .int .i64 0, .int .i64 v, .int .i64 2, .slice 10 0 0 1], .cells .ex 3 0 [], .cells .gr 3 0 [.int .i64 0, .int .i64 0, .int .i64 0, .int .i64 0, .int .i64 0], .cells .ex 24 0 [], .cells .gr 24 0 [.int .i64 2, .int .i64 0, .int .i64 0, .int .i64 0, .int .i64 v, .int .i64 80, .int .i64 0, .int .i64 0, .int .i64 0, .int .i64 0], .cells .ex 51 0 [.int .i64 8, .nils, .slice 5 0 5 1, .slice 7 0 2 5, .bool true, .bool false, .int .i64 v, .int .i64 0, .bool false, .bool false, .int .i64 0, .int .i64 0, .bool false, .bool false, .int .i64 0, .int .i64 0, .bool false, .bool false, .int .i64 0, .int .i64 0, .bool false, .bool false, .int .i64 0, .int .i64 0, .bool false, .bool false, .int .i64 0, .int .i64 0, .bool false, .bool false, .int .i64 0, .int .i64 0, .bool false, .bool false, .int .i64 0, .int .i64 0, .bool false, .bool false, .int .i64 0, .int .i64 0, .bool false, .bool false, .int .i64 0, .int .i64 0, .bool false, .bool false, .int .i64 0, .int .i64 0, .bool false, .bool false, .int .i64 0, .int .i64 0, .bool false, .bool false, .int .i64 0, .int .i64 0, .bool false, .bool false, .int .i64 0, .int .i64 0, .bool false, .bool false, .int .i64 0, .int .i64 0, .bool false, .bool false, .int .i64 0, .int .i64 0, .int .i64 2, .int .i64 2], .cells .ex 30 0 [.int .i64 1, .int .i64 0, .int .i64 v, .int .i64 2, .slice 10 0 0 1], .cells .ex 3 0 []], 0, 0⟩) := by
  refine To.den hxE0 (a := af6) rfl (E0_none rfl rfl) (Nat.le_of_ble_eq_true rfl) ?_
  have k : ∀ hp, Den FF E0 10 [.int .i64 8] hp = some (.val (.bool true), none) := fun hp => known_0 (h := 8) (x := true) (y := true) (by decide) (by decide) hp
  have r : ∀ l d e, Den FF E0 12 [.slice 0 0 2 5] ⟨.cells .ex 24 0 [.int .i64 2, .int .i64 0, .int .i64 0, .int .i64 0, .int .i64 v, .int .i64 80, .int .i64 0, .int .i64 0, .int .i64 0, .int .i64 0] :: l, e, d⟩ = some (.val (.bool true), none) := fun l d e => rights_0 hv (fun e d => rfl) (fun e d => rfl)
  have i : Den FF E0 11 [.int .i64 8] ⟨[.cells .ex 24 0 [.int .i64 2, .int .i64 0, .int .i64 0, .int .i64 0, .int .i64 v, .int .i64 80, .int .i64 0, .int .i64 0, .int .i64 0, .int .i64 0], .cells .ex 24 0 [.int .i64 80, .int .i64 0, .int .i64 0, .int .i64 0, .int .i64 0], .cells .ex 3 0 [.int .i64 0, .int .i64 0, .int .i64 0, .int .i64 0, .int .i64 0], .cells .ex 30 0 [.int .i64 0, .int .i64 0, .int .i64 0, .int .i64 0, .nils]], 3, 3⟩ = some (.val (.int .i64 5), none) := denK (k := 400) (by kernel_rfl)
  refine cut2 ?_
  intro q hq
  (repeat' (first | refine To.seq hxE0 ?_ | refine To.op0 hxE0 (by simp only [go_sem, eqs hxE0, reduceIte, seval, k, r, i]; rfl) ?_ | refine To.op1 hxE0 (by simp only [go_sem, eqs hxE0, reduceIte, seval, k, r, i]; rfl) ?_ | refine To.nop hxE0 ?_ | (refine To.condT hxE0 ?_ ?_; focus (simp only [go_sem, eqs hxE0, reduceIte, seval, k, r, i]; done)) | (refine To.condF hxE0 ?_ ?_; focus (simp only [go_sem, eqs hxE0, reduceIte, seval, k, r, i]; done)) | refine To.block hxE0 ?_ | refine To.scope hxE0 ?_ | refine To.ret hxE0 ?_ | refine To.exit hxE0 ?_ | refine To.skip hxE0 ?_ | refine To.label hxE0 ?_))
  subst hq
  exact toFinK 400 (by kernel_rfl)
end Go.Proofs.YtjeaaoohokkgmaaGreat

/- Verdicts: the law. -/
namespace Go.Proofs.YtjeaaoohokkgmaaGreat
open Go AM
set_option linter.unusedSimpArgs false
set_option linter.unusedVariables false
set_option maxRecDepth 100000

theorem eq_v (v : Int) : decide (v = v) = true := by simp
theorem law1 {n v : Int} (w : IntKind.i64.wrap v = v) (hv : okInsn 2 0 0 0 v = true) (b3 : decide (n ≥ 0) = true) (b4 : decide (n ≤ 4) = true) (c3 : decide (n < 0) = false) (c4 : decide (n > 4) = false) : ∃ oh, Den FF E0 3 [.int .i64 1, .int .i64 n, .int .i32 v] H0 = some (.val (.bool true), oh) := by
  refine ⟨none, To.den hxE0 (a := af3) rfl (E0_none rfl rfl) (Nat.le_of_ble_eq_true rfl) ?_⟩
  have aw : Den FF E0 4 [] ⟨[], 0, 0⟩ = some (.val (.bool true), none) := awake_den
  have b1 : decide ((1 : Int) ≥ 1) = true := by decide
  have b2 : decide ((1 : Int) ≤ 8) = true := by decide
  have k1 := check_0 hv b1 b2 c3 c4
  have k2 := check1_0 (v := v) b1 b2 c3 c4
  have k3 := ctx1_0 v
  have k4 := run1_0 hv
  (repeat' (first | refine To.seq hxE0 ?_ | refine To.op0 hxE0 (by simp only [go_sem, eqs hxE0, reduceIte, seval, aw, w, b1, b2, b3, b4, k1, k2, k3, k4, eq_v, Heap.gets, Heap.sets, Heap.get, bytesA_length, bytesA_one, bytesA_plains, List.take_of_length_le, List.drop_of_length_le, Nat.add_zero, V.one, Nat.reduceLeDiff, List.all_cons, List.all_nil, ne_eq, not_false_eq_true, Nat.zero_le]; rfl) ?_ | refine To.op1 hxE0 (by simp only [go_sem, eqs hxE0, reduceIte, seval, aw, w, b1, b2, b3, b4, k1, k2, k3, k4, eq_v, Heap.gets, Heap.sets, Heap.get, bytesA_length, bytesA_one, bytesA_plains, List.take_of_length_le, List.drop_of_length_le, Nat.add_zero, V.one, Nat.reduceLeDiff, List.all_cons, List.all_nil, ne_eq, not_false_eq_true, Nat.zero_le]; rfl) ?_ | refine To.nop hxE0 ?_ | (refine To.condT hxE0 ?_ ?_; focus (simp only [go_sem, eqs hxE0, reduceIte, seval, aw, w, b1, b2, b3, b4, k1, k2, k3, k4, eq_v, Heap.gets, Heap.sets, Heap.get, bytesA_length, bytesA_one, bytesA_plains, List.take_of_length_le, List.drop_of_length_le, Nat.add_zero, V.one, Nat.reduceLeDiff, List.all_cons, List.all_nil, ne_eq, not_false_eq_true, Nat.zero_le]; done)) | (refine To.condF hxE0 ?_ ?_; focus (simp only [go_sem, eqs hxE0, reduceIte, seval, aw, w, b1, b2, b3, b4, k1, k2, k3, k4, eq_v, Heap.gets, Heap.sets, Heap.get, bytesA_length, bytesA_one, bytesA_plains, List.take_of_length_le, List.drop_of_length_le, Nat.add_zero, V.one, Nat.reduceLeDiff, List.all_cons, List.all_nil, ne_eq, not_false_eq_true, Nat.zero_le]; done)) | refine To.block hxE0 ?_ | refine To.scope hxE0 ?_ | refine To.ret hxE0 ?_ | refine To.exit hxE0 ?_ | refine To.skip hxE0 ?_ | refine To.label hxE0 ?_))
  try simp only [andThen]
  rw [fin1 (a := af3) (i := 6) rfl]
  simp only [go_sem, eqs hxE0, reduceIte, seval]
theorem law2 {n v : Int} (w : IntKind.i64.wrap v = v) (hv : okInsn 2 0 0 0 v = true) (b3 : decide (n ≥ 0) = true) (b4 : decide (n ≤ 4) = true) (c3 : decide (n < 0) = false) (c4 : decide (n > 4) = false) : ∃ oh, Den FF E0 3 [.int .i64 2, .int .i64 n, .int .i32 v] H0 = some (.val (.bool true), oh) := by
  refine ⟨none, To.den hxE0 (a := af3) rfl (E0_none rfl rfl) (Nat.le_of_ble_eq_true rfl) ?_⟩
  have aw : Den FF E0 4 [] ⟨[], 0, 0⟩ = some (.val (.bool true), none) := awake_den
  have b1 : decide ((2 : Int) ≥ 1) = true := by decide
  have b2 : decide ((2 : Int) ≤ 8) = true := by decide
  have k1 := check_0 hv b1 b2 c3 c4
  have k2 := check1_0 (v := v) b1 b2 c3 c4
  have k3 := ctx2_0 v
  have k4 := run2_0 hv
  (repeat' (first | refine To.seq hxE0 ?_ | refine To.op0 hxE0 (by simp only [go_sem, eqs hxE0, reduceIte, seval, aw, w, b1, b2, b3, b4, k1, k2, k3, k4, eq_v, Heap.gets, Heap.sets, Heap.get, bytesA_length, bytesA_one, bytesA_plains, List.take_of_length_le, List.drop_of_length_le, Nat.add_zero, V.one, Nat.reduceLeDiff, List.all_cons, List.all_nil, ne_eq, not_false_eq_true, Nat.zero_le]; rfl) ?_ | refine To.op1 hxE0 (by simp only [go_sem, eqs hxE0, reduceIte, seval, aw, w, b1, b2, b3, b4, k1, k2, k3, k4, eq_v, Heap.gets, Heap.sets, Heap.get, bytesA_length, bytesA_one, bytesA_plains, List.take_of_length_le, List.drop_of_length_le, Nat.add_zero, V.one, Nat.reduceLeDiff, List.all_cons, List.all_nil, ne_eq, not_false_eq_true, Nat.zero_le]; rfl) ?_ | refine To.nop hxE0 ?_ | (refine To.condT hxE0 ?_ ?_; focus (simp only [go_sem, eqs hxE0, reduceIte, seval, aw, w, b1, b2, b3, b4, k1, k2, k3, k4, eq_v, Heap.gets, Heap.sets, Heap.get, bytesA_length, bytesA_one, bytesA_plains, List.take_of_length_le, List.drop_of_length_le, Nat.add_zero, V.one, Nat.reduceLeDiff, List.all_cons, List.all_nil, ne_eq, not_false_eq_true, Nat.zero_le]; done)) | (refine To.condF hxE0 ?_ ?_; focus (simp only [go_sem, eqs hxE0, reduceIte, seval, aw, w, b1, b2, b3, b4, k1, k2, k3, k4, eq_v, Heap.gets, Heap.sets, Heap.get, bytesA_length, bytesA_one, bytesA_plains, List.take_of_length_le, List.drop_of_length_le, Nat.add_zero, V.one, Nat.reduceLeDiff, List.all_cons, List.all_nil, ne_eq, not_false_eq_true, Nat.zero_le]; done)) | refine To.block hxE0 ?_ | refine To.scope hxE0 ?_ | refine To.ret hxE0 ?_ | refine To.exit hxE0 ?_ | refine To.skip hxE0 ?_ | refine To.label hxE0 ?_))
  try simp only [andThen]
  rw [fin1 (a := af3) (i := 6) rfl]
  simp only [go_sem, eqs hxE0, reduceIte, seval]
theorem law3 {n v : Int} (w : IntKind.i64.wrap v = v) (hv : okInsn 2 0 0 0 v = true) (b3 : decide (n ≥ 0) = true) (b4 : decide (n ≤ 4) = true) (c3 : decide (n < 0) = false) (c4 : decide (n > 4) = false) : ∃ oh, Den FF E0 3 [.int .i64 3, .int .i64 n, .int .i32 v] H0 = some (.val (.bool true), oh) := by
  refine ⟨none, To.den hxE0 (a := af3) rfl (E0_none rfl rfl) (Nat.le_of_ble_eq_true rfl) ?_⟩
  have aw : Den FF E0 4 [] ⟨[], 0, 0⟩ = some (.val (.bool true), none) := awake_den
  have b1 : decide ((3 : Int) ≥ 1) = true := by decide
  have b2 : decide ((3 : Int) ≤ 8) = true := by decide
  have k1 := check_0 hv b1 b2 c3 c4
  have k2 := check1_0 (v := v) b1 b2 c3 c4
  have k3 := ctx3_0 v
  have k4 := run3_0 hv
  (repeat' (first | refine To.seq hxE0 ?_ | refine To.op0 hxE0 (by simp only [go_sem, eqs hxE0, reduceIte, seval, aw, w, b1, b2, b3, b4, k1, k2, k3, k4, eq_v, Heap.gets, Heap.sets, Heap.get, bytesA_length, bytesA_one, bytesA_plains, List.take_of_length_le, List.drop_of_length_le, Nat.add_zero, V.one, Nat.reduceLeDiff, List.all_cons, List.all_nil, ne_eq, not_false_eq_true, Nat.zero_le]; rfl) ?_ | refine To.op1 hxE0 (by simp only [go_sem, eqs hxE0, reduceIte, seval, aw, w, b1, b2, b3, b4, k1, k2, k3, k4, eq_v, Heap.gets, Heap.sets, Heap.get, bytesA_length, bytesA_one, bytesA_plains, List.take_of_length_le, List.drop_of_length_le, Nat.add_zero, V.one, Nat.reduceLeDiff, List.all_cons, List.all_nil, ne_eq, not_false_eq_true, Nat.zero_le]; rfl) ?_ | refine To.nop hxE0 ?_ | (refine To.condT hxE0 ?_ ?_; focus (simp only [go_sem, eqs hxE0, reduceIte, seval, aw, w, b1, b2, b3, b4, k1, k2, k3, k4, eq_v, Heap.gets, Heap.sets, Heap.get, bytesA_length, bytesA_one, bytesA_plains, List.take_of_length_le, List.drop_of_length_le, Nat.add_zero, V.one, Nat.reduceLeDiff, List.all_cons, List.all_nil, ne_eq, not_false_eq_true, Nat.zero_le]; done)) | (refine To.condF hxE0 ?_ ?_; focus (simp only [go_sem, eqs hxE0, reduceIte, seval, aw, w, b1, b2, b3, b4, k1, k2, k3, k4, eq_v, Heap.gets, Heap.sets, Heap.get, bytesA_length, bytesA_one, bytesA_plains, List.take_of_length_le, List.drop_of_length_le, Nat.add_zero, V.one, Nat.reduceLeDiff, List.all_cons, List.all_nil, ne_eq, not_false_eq_true, Nat.zero_le]; done)) | refine To.block hxE0 ?_ | refine To.scope hxE0 ?_ | refine To.ret hxE0 ?_ | refine To.exit hxE0 ?_ | refine To.skip hxE0 ?_ | refine To.label hxE0 ?_))
  try simp only [andThen]
  rw [fin1 (a := af3) (i := 6) rfl]
  simp only [go_sem, eqs hxE0, reduceIte, seval]
theorem law4 {n v : Int} (w : IntKind.i64.wrap v = v) (hv : okInsn 2 0 0 0 v = true) (b3 : decide (n ≥ 0) = true) (b4 : decide (n ≤ 4) = true) (c3 : decide (n < 0) = false) (c4 : decide (n > 4) = false) : ∃ oh, Den FF E0 3 [.int .i64 4, .int .i64 n, .int .i32 v] H0 = some (.val (.bool true), oh) := by
  refine ⟨none, To.den hxE0 (a := af3) rfl (E0_none rfl rfl) (Nat.le_of_ble_eq_true rfl) ?_⟩
  have aw : Den FF E0 4 [] ⟨[], 0, 0⟩ = some (.val (.bool true), none) := awake_den
  have b1 : decide ((4 : Int) ≥ 1) = true := by decide
  have b2 : decide ((4 : Int) ≤ 8) = true := by decide
  have k1 := check_0 hv b1 b2 c3 c4
  have k2 := check1_0 (v := v) b1 b2 c3 c4
  have k3 := ctx4_0 v
  have k4 := run4_0 hv
  (repeat' (first | refine To.seq hxE0 ?_ | refine To.op0 hxE0 (by simp only [go_sem, eqs hxE0, reduceIte, seval, aw, w, b1, b2, b3, b4, k1, k2, k3, k4, eq_v, Heap.gets, Heap.sets, Heap.get, bytesA_length, bytesA_one, bytesA_plains, List.take_of_length_le, List.drop_of_length_le, Nat.add_zero, V.one, Nat.reduceLeDiff, List.all_cons, List.all_nil, ne_eq, not_false_eq_true, Nat.zero_le]; rfl) ?_ | refine To.op1 hxE0 (by simp only [go_sem, eqs hxE0, reduceIte, seval, aw, w, b1, b2, b3, b4, k1, k2, k3, k4, eq_v, Heap.gets, Heap.sets, Heap.get, bytesA_length, bytesA_one, bytesA_plains, List.take_of_length_le, List.drop_of_length_le, Nat.add_zero, V.one, Nat.reduceLeDiff, List.all_cons, List.all_nil, ne_eq, not_false_eq_true, Nat.zero_le]; rfl) ?_ | refine To.nop hxE0 ?_ | (refine To.condT hxE0 ?_ ?_; focus (simp only [go_sem, eqs hxE0, reduceIte, seval, aw, w, b1, b2, b3, b4, k1, k2, k3, k4, eq_v, Heap.gets, Heap.sets, Heap.get, bytesA_length, bytesA_one, bytesA_plains, List.take_of_length_le, List.drop_of_length_le, Nat.add_zero, V.one, Nat.reduceLeDiff, List.all_cons, List.all_nil, ne_eq, not_false_eq_true, Nat.zero_le]; done)) | (refine To.condF hxE0 ?_ ?_; focus (simp only [go_sem, eqs hxE0, reduceIte, seval, aw, w, b1, b2, b3, b4, k1, k2, k3, k4, eq_v, Heap.gets, Heap.sets, Heap.get, bytesA_length, bytesA_one, bytesA_plains, List.take_of_length_le, List.drop_of_length_le, Nat.add_zero, V.one, Nat.reduceLeDiff, List.all_cons, List.all_nil, ne_eq, not_false_eq_true, Nat.zero_le]; done)) | refine To.block hxE0 ?_ | refine To.scope hxE0 ?_ | refine To.ret hxE0 ?_ | refine To.exit hxE0 ?_ | refine To.skip hxE0 ?_ | refine To.label hxE0 ?_))
  try simp only [andThen]
  rw [fin1 (a := af3) (i := 6) rfl]
  simp only [go_sem, eqs hxE0, reduceIte, seval]
theorem law5 {n v : Int} (w : IntKind.i64.wrap v = v) (hv : okInsn 2 0 0 0 v = true) (b3 : decide (n ≥ 0) = true) (b4 : decide (n ≤ 4) = true) (c3 : decide (n < 0) = false) (c4 : decide (n > 4) = false) : ∃ oh, Den FF E0 3 [.int .i64 5, .int .i64 n, .int .i32 v] H0 = some (.val (.bool true), oh) := by
  refine ⟨none, To.den hxE0 (a := af3) rfl (E0_none rfl rfl) (Nat.le_of_ble_eq_true rfl) ?_⟩
  have aw : Den FF E0 4 [] ⟨[], 0, 0⟩ = some (.val (.bool true), none) := awake_den
  have b1 : decide ((5 : Int) ≥ 1) = true := by decide
  have b2 : decide ((5 : Int) ≤ 8) = true := by decide
  have k1 := check_0 hv b1 b2 c3 c4
  have k2 := check1_0 (v := v) b1 b2 c3 c4
  have k3 := ctx5_0 v
  have k4 := run5_0 hv
  (repeat' (first | refine To.seq hxE0 ?_ | refine To.op0 hxE0 (by simp only [go_sem, eqs hxE0, reduceIte, seval, aw, w, b1, b2, b3, b4, k1, k2, k3, k4, eq_v, Heap.gets, Heap.sets, Heap.get, bytesA_length, bytesA_one, bytesA_plains, List.take_of_length_le, List.drop_of_length_le, Nat.add_zero, V.one, Nat.reduceLeDiff, List.all_cons, List.all_nil, ne_eq, not_false_eq_true, Nat.zero_le]; rfl) ?_ | refine To.op1 hxE0 (by simp only [go_sem, eqs hxE0, reduceIte, seval, aw, w, b1, b2, b3, b4, k1, k2, k3, k4, eq_v, Heap.gets, Heap.sets, Heap.get, bytesA_length, bytesA_one, bytesA_plains, List.take_of_length_le, List.drop_of_length_le, Nat.add_zero, V.one, Nat.reduceLeDiff, List.all_cons, List.all_nil, ne_eq, not_false_eq_true, Nat.zero_le]; rfl) ?_ | refine To.nop hxE0 ?_ | (refine To.condT hxE0 ?_ ?_; focus (simp only [go_sem, eqs hxE0, reduceIte, seval, aw, w, b1, b2, b3, b4, k1, k2, k3, k4, eq_v, Heap.gets, Heap.sets, Heap.get, bytesA_length, bytesA_one, bytesA_plains, List.take_of_length_le, List.drop_of_length_le, Nat.add_zero, V.one, Nat.reduceLeDiff, List.all_cons, List.all_nil, ne_eq, not_false_eq_true, Nat.zero_le]; done)) | (refine To.condF hxE0 ?_ ?_; focus (simp only [go_sem, eqs hxE0, reduceIte, seval, aw, w, b1, b2, b3, b4, k1, k2, k3, k4, eq_v, Heap.gets, Heap.sets, Heap.get, bytesA_length, bytesA_one, bytesA_plains, List.take_of_length_le, List.drop_of_length_le, Nat.add_zero, V.one, Nat.reduceLeDiff, List.all_cons, List.all_nil, ne_eq, not_false_eq_true, Nat.zero_le]; done)) | refine To.block hxE0 ?_ | refine To.scope hxE0 ?_ | refine To.ret hxE0 ?_ | refine To.exit hxE0 ?_ | refine To.skip hxE0 ?_ | refine To.label hxE0 ?_))
  try simp only [andThen]
  rw [fin1 (a := af3) (i := 6) rfl]
  simp only [go_sem, eqs hxE0, reduceIte, seval]
theorem law6 {n v : Int} (w : IntKind.i64.wrap v = v) (hv : okInsn 2 0 0 0 v = true) (b3 : decide (n ≥ 0) = true) (b4 : decide (n ≤ 4) = true) (c3 : decide (n < 0) = false) (c4 : decide (n > 4) = false) : ∃ oh, Den FF E0 3 [.int .i64 6, .int .i64 n, .int .i32 v] H0 = some (.val (.bool true), oh) := by
  refine ⟨none, To.den hxE0 (a := af3) rfl (E0_none rfl rfl) (Nat.le_of_ble_eq_true rfl) ?_⟩
  have aw : Den FF E0 4 [] ⟨[], 0, 0⟩ = some (.val (.bool true), none) := awake_den
  have b1 : decide ((6 : Int) ≥ 1) = true := by decide
  have b2 : decide ((6 : Int) ≤ 8) = true := by decide
  have k1 := check_0 hv b1 b2 c3 c4
  have k2 := check1_0 (v := v) b1 b2 c3 c4
  have k3 := ctx6_0 v
  have k4 := run6_0 hv
  (repeat' (first | refine To.seq hxE0 ?_ | refine To.op0 hxE0 (by simp only [go_sem, eqs hxE0, reduceIte, seval, aw, w, b1, b2, b3, b4, k1, k2, k3, k4, eq_v, Heap.gets, Heap.sets, Heap.get, bytesA_length, bytesA_one, bytesA_plains, List.take_of_length_le, List.drop_of_length_le, Nat.add_zero, V.one, Nat.reduceLeDiff, List.all_cons, List.all_nil, ne_eq, not_false_eq_true, Nat.zero_le]; rfl) ?_ | refine To.op1 hxE0 (by simp only [go_sem, eqs hxE0, reduceIte, seval, aw, w, b1, b2, b3, b4, k1, k2, k3, k4, eq_v, Heap.gets, Heap.sets, Heap.get, bytesA_length, bytesA_one, bytesA_plains, List.take_of_length_le, List.drop_of_length_le, Nat.add_zero, V.one, Nat.reduceLeDiff, List.all_cons, List.all_nil, ne_eq, not_false_eq_true, Nat.zero_le]; rfl) ?_ | refine To.nop hxE0 ?_ | (refine To.condT hxE0 ?_ ?_; focus (simp only [go_sem, eqs hxE0, reduceIte, seval, aw, w, b1, b2, b3, b4, k1, k2, k3, k4, eq_v, Heap.gets, Heap.sets, Heap.get, bytesA_length, bytesA_one, bytesA_plains, List.take_of_length_le, List.drop_of_length_le, Nat.add_zero, V.one, Nat.reduceLeDiff, List.all_cons, List.all_nil, ne_eq, not_false_eq_true, Nat.zero_le]; done)) | (refine To.condF hxE0 ?_ ?_; focus (simp only [go_sem, eqs hxE0, reduceIte, seval, aw, w, b1, b2, b3, b4, k1, k2, k3, k4, eq_v, Heap.gets, Heap.sets, Heap.get, bytesA_length, bytesA_one, bytesA_plains, List.take_of_length_le, List.drop_of_length_le, Nat.add_zero, V.one, Nat.reduceLeDiff, List.all_cons, List.all_nil, ne_eq, not_false_eq_true, Nat.zero_le]; done)) | refine To.block hxE0 ?_ | refine To.scope hxE0 ?_ | refine To.ret hxE0 ?_ | refine To.exit hxE0 ?_ | refine To.skip hxE0 ?_ | refine To.label hxE0 ?_))
  try simp only [andThen]
  rw [fin1 (a := af3) (i := 6) rfl]
  simp only [go_sem, eqs hxE0, reduceIte, seval]
theorem law7 {n v : Int} (w : IntKind.i64.wrap v = v) (hv : okInsn 2 0 0 0 v = true) (b3 : decide (n ≥ 0) = true) (b4 : decide (n ≤ 4) = true) (c3 : decide (n < 0) = false) (c4 : decide (n > 4) = false) : ∃ oh, Den FF E0 3 [.int .i64 7, .int .i64 n, .int .i32 v] H0 = some (.val (.bool true), oh) := by
  refine ⟨none, To.den hxE0 (a := af3) rfl (E0_none rfl rfl) (Nat.le_of_ble_eq_true rfl) ?_⟩
  have aw : Den FF E0 4 [] ⟨[], 0, 0⟩ = some (.val (.bool true), none) := awake_den
  have b1 : decide ((7 : Int) ≥ 1) = true := by decide
  have b2 : decide ((7 : Int) ≤ 8) = true := by decide
  have k1 := check_0 hv b1 b2 c3 c4
  have k2 := check1_0 (v := v) b1 b2 c3 c4
  have k3 := ctx7_0 v
  have k4 := run7_0 hv
  (repeat' (first | refine To.seq hxE0 ?_ | refine To.op0 hxE0 (by simp only [go_sem, eqs hxE0, reduceIte, seval, aw, w, b1, b2, b3, b4, k1, k2, k3, k4, eq_v, Heap.gets, Heap.sets, Heap.get, bytesA_length, bytesA_one, bytesA_plains, List.take_of_length_le, List.drop_of_length_le, Nat.add_zero, V.one, Nat.reduceLeDiff, List.all_cons, List.all_nil, ne_eq, not_false_eq_true, Nat.zero_le]; rfl) ?_ | refine To.op1 hxE0 (by simp only [go_sem, eqs hxE0, reduceIte, seval, aw, w, b1, b2, b3, b4, k1, k2, k3, k4, eq_v, Heap.gets, Heap.sets, Heap.get, bytesA_length, bytesA_one, bytesA_plains, List.take_of_length_le, List.drop_of_length_le, Nat.add_zero, V.one, Nat.reduceLeDiff, List.all_cons, List.all_nil, ne_eq, not_false_eq_true, Nat.zero_le]; rfl) ?_ | refine To.nop hxE0 ?_ | (refine To.condT hxE0 ?_ ?_; focus (simp only [go_sem, eqs hxE0, reduceIte, seval, aw, w, b1, b2, b3, b4, k1, k2, k3, k4, eq_v, Heap.gets, Heap.sets, Heap.get, bytesA_length, bytesA_one, bytesA_plains, List.take_of_length_le, List.drop_of_length_le, Nat.add_zero, V.one, Nat.reduceLeDiff, List.all_cons, List.all_nil, ne_eq, not_false_eq_true, Nat.zero_le]; done)) | (refine To.condF hxE0 ?_ ?_; focus (simp only [go_sem, eqs hxE0, reduceIte, seval, aw, w, b1, b2, b3, b4, k1, k2, k3, k4, eq_v, Heap.gets, Heap.sets, Heap.get, bytesA_length, bytesA_one, bytesA_plains, List.take_of_length_le, List.drop_of_length_le, Nat.add_zero, V.one, Nat.reduceLeDiff, List.all_cons, List.all_nil, ne_eq, not_false_eq_true, Nat.zero_le]; done)) | refine To.block hxE0 ?_ | refine To.scope hxE0 ?_ | refine To.ret hxE0 ?_ | refine To.exit hxE0 ?_ | refine To.skip hxE0 ?_ | refine To.label hxE0 ?_))
  try simp only [andThen]
  rw [fin1 (a := af3) (i := 6) rfl]
  simp only [go_sem, eqs hxE0, reduceIte, seval]
theorem law8 {n v : Int} (w : IntKind.i64.wrap v = v) (hv : okInsn 2 0 0 0 v = true) (b3 : decide (n ≥ 0) = true) (b4 : decide (n ≤ 4) = true) (c3 : decide (n < 0) = false) (c4 : decide (n > 4) = false) : ∃ oh, Den FF E0 3 [.int .i64 8, .int .i64 n, .int .i32 v] H0 = some (.val (.bool true), oh) := by
  refine ⟨none, To.den hxE0 (a := af3) rfl (E0_none rfl rfl) (Nat.le_of_ble_eq_true rfl) ?_⟩
  have aw : Den FF E0 4 [] ⟨[], 0, 0⟩ = some (.val (.bool true), none) := awake_den
  have b1 : decide ((8 : Int) ≥ 1) = true := by decide
  have b2 : decide ((8 : Int) ≤ 8) = true := by decide
  have k1 := check_0 hv b1 b2 c3 c4
  have k2 := check1_0 (v := v) b1 b2 c3 c4
  have k3 := ctx8_0 v
  have k4 := run8_0 hv
  (repeat' (first | refine To.seq hxE0 ?_ | refine To.op0 hxE0 (by simp only [go_sem, eqs hxE0, reduceIte, seval, aw, w, b1, b2, b3, b4, k1, k2, k3, k4, eq_v, Heap.gets, Heap.sets, Heap.get, bytesA_length, bytesA_one, bytesA_plains, List.take_of_length_le, List.drop_of_length_le, Nat.add_zero, V.one, Nat.reduceLeDiff, List.all_cons, List.all_nil, ne_eq, not_false_eq_true, Nat.zero_le]; rfl) ?_ | refine To.op1 hxE0 (by simp only [go_sem, eqs hxE0, reduceIte, seval, aw, w, b1, b2, b3, b4, k1, k2, k3, k4, eq_v, Heap.gets, Heap.sets, Heap.get, bytesA_length, bytesA_one, bytesA_plains, List.take_of_length_le, List.drop_of_length_le, Nat.add_zero, V.one, Nat.reduceLeDiff, List.all_cons, List.all_nil, ne_eq, not_false_eq_true, Nat.zero_le]; rfl) ?_ | refine To.nop hxE0 ?_ | (refine To.condT hxE0 ?_ ?_; focus (simp only [go_sem, eqs hxE0, reduceIte, seval, aw, w, b1, b2, b3, b4, k1, k2, k3, k4, eq_v, Heap.gets, Heap.sets, Heap.get, bytesA_length, bytesA_one, bytesA_plains, List.take_of_length_le, List.drop_of_length_le, Nat.add_zero, V.one, Nat.reduceLeDiff, List.all_cons, List.all_nil, ne_eq, not_false_eq_true, Nat.zero_le]; done)) | (refine To.condF hxE0 ?_ ?_; focus (simp only [go_sem, eqs hxE0, reduceIte, seval, aw, w, b1, b2, b3, b4, k1, k2, k3, k4, eq_v, Heap.gets, Heap.sets, Heap.get, bytesA_length, bytesA_one, bytesA_plains, List.take_of_length_le, List.drop_of_length_le, Nat.add_zero, V.one, Nat.reduceLeDiff, List.all_cons, List.all_nil, ne_eq, not_false_eq_true, Nat.zero_le]; done)) | refine To.block hxE0 ?_ | refine To.scope hxE0 ?_ | refine To.ret hxE0 ?_ | refine To.exit hxE0 ?_ | refine To.skip hxE0 ?_ | refine To.label hxE0 ?_))
  try simp only [andThen]
  rw [fin1 (a := af3) (i := 6) rfl]
  simp only [go_sem, eqs hxE0, reduceIte, seval]
theorem lawNo {h n v : Int} {x y z u : Bool} (w : IntKind.i64.wrap v = v) (b1 : decide (h ≥ 1) = x) (b2 : decide (h ≤ 8) = y) (b3 : decide (n ≥ 0) = z) (b4 : decide (n ≤ 4) = u) (hb : (x && y && z && u) = false) : ∃ oh, Den FF E0 3 [.int .i64 h, .int .i64 n, .int .i32 v] H0 = some (.val (.bool true), oh) := by
  refine ⟨none, To.den hxE0 (a := af3) rfl (E0_none rfl rfl) (Nat.le_of_ble_eq_true rfl) ?_⟩
  have aw : Den FF E0 4 [] ⟨[], 0, 0⟩ = some (.val (.bool true), none) := awake_den
  have hno : ((x && y) = false ∨ decide (n < 0) = true ∨ decide (n < 0) = false ∧ decide (n > 4) = true) := by
    subst b1 b2 b3 b4
    simp only [Bool.and_eq_false_iff, decide_eq_false_iff_not, decide_eq_true_eq] at hb ⊢
    omega
  have k := fun l hp => checkNo_0 (l := l) b1 b2 hno hp
  cases x <;> cases y <;> cases z <;> cases u <;> first
    | (cases hb; done)
    | ((repeat' (first | refine To.seq hxE0 ?_ | refine To.op0 hxE0 (by simp only [go_sem, eqs hxE0, reduceIte, seval, aw, w, b1, b2, b3, b4, k, Heap.gets, Heap.sets, Heap.get, bytesA_length, bytesA_one, bytesA_plains, List.take_of_length_le, List.drop_of_length_le, Nat.add_zero, V.one, Nat.reduceLeDiff, List.all_cons, List.all_nil, ne_eq, not_false_eq_true, Nat.zero_le]; rfl) ?_ | refine To.op1 hxE0 (by simp only [go_sem, eqs hxE0, reduceIte, seval, aw, w, b1, b2, b3, b4, k, Heap.gets, Heap.sets, Heap.get, bytesA_length, bytesA_one, bytesA_plains, List.take_of_length_le, List.drop_of_length_le, Nat.add_zero, V.one, Nat.reduceLeDiff, List.all_cons, List.all_nil, ne_eq, not_false_eq_true, Nat.zero_le]; rfl) ?_ | refine To.nop hxE0 ?_ | (refine To.condT hxE0 ?_ ?_; focus (simp only [go_sem, eqs hxE0, reduceIte, seval, aw, w, b1, b2, b3, b4, k, Heap.gets, Heap.sets, Heap.get, bytesA_length, bytesA_one, bytesA_plains, List.take_of_length_le, List.drop_of_length_le, Nat.add_zero, V.one, Nat.reduceLeDiff, List.all_cons, List.all_nil, ne_eq, not_false_eq_true, Nat.zero_le]; done)) | (refine To.condF hxE0 ?_ ?_; focus (simp only [go_sem, eqs hxE0, reduceIte, seval, aw, w, b1, b2, b3, b4, k, Heap.gets, Heap.sets, Heap.get, bytesA_length, bytesA_one, bytesA_plains, List.take_of_length_le, List.drop_of_length_le, Nat.add_zero, V.one, Nat.reduceLeDiff, List.all_cons, List.all_nil, ne_eq, not_false_eq_true, Nat.zero_le]; done)) | refine To.block hxE0 ?_ | refine To.scope hxE0 ?_ | refine To.ret hxE0 ?_ | refine To.exit hxE0 ?_ | refine To.skip hxE0 ?_ | refine To.label hxE0 ?_))
       try simp only [andThen]
       rw [fin1 (a := af3) (i := 6) rfl]
       simp only [go_sem, eqs hxE0, reduceIte, seval])
theorem lawAll (h n v : Int) (h1 : -2147483648 ≤ v) (h2 : v < 2147483648) : ∃ oh, Den FF E0 3 [.int .i64 h, .int .i64 n, .int .i32 v] H0 = some (.val (.bool true), oh) := by
  have w : IntKind.i64.wrap v = v := wrap_i64 (by omega) (by omega)
  have hv := ok_v h1 h2
  by_cases hin : 1 ≤ h ∧ h ≤ 8 ∧ 0 ≤ n ∧ n ≤ 4
  · obtain ⟨q1, q2, q3, q4⟩ := hin
    have b3 : decide (n ≥ 0) = true := by simp; omega
    have b4 : decide (n ≤ 4) = true := by simp; omega
    have c3 : decide (n < 0) = false := by simp; omega
    have c4 : decide (n > 4) = false := by simp; omega
    have hh : h = 1 ∨ h = 2 ∨ h = 3 ∨ h = 4 ∨ h = 5 ∨ h = 6 ∨ h = 7 ∨ h = 8 := by omega
    rcases hh with rfl | rfl | rfl | rfl | rfl | rfl | rfl | rfl
    · exact law1 w hv b3 b4 c3 c4
    · exact law2 w hv b3 b4 c3 c4
    · exact law3 w hv b3 b4 c3 c4
    · exact law4 w hv b3 b4 c3 c4
    · exact law5 w hv b3 b4 c3 c4
    · exact law6 w hv b3 b4 c3 c4
    · exact law7 w hv b3 b4 c3 c4
    · exact law8 w hv b3 b4 c3 c4
  · refine lawNo w rfl rfl rfl rfl ?_
    simp only [Bool.and_eq_false_iff, decide_eq_false_iff_not]
    omega
end Go.Proofs.YtjeaaoohokkgmaaGreat

/- Verdicts: the law over any heap. -/
namespace Go.Proofs.YtjeaaoohokkgmaaGreat
open Go AM
set_option linter.unusedVariables false

def spLaw : Ans := fun args => match args with
  | [.int .i64 h, .int .i64 n, .int .i32 v] => if -2147483648 ≤ v ∧ v < 2147483648 then some (.bool true) else none
  | _ => none
def gZ : Nat → Option Ans := fun f => if f = 3 then some spLaw else none
def E9 : ExtF := plainExt gZ
theorem sndE9 : ExtSound Tryz.prog E9 := plainExt_sound mixed ffok sndE0 (by
  intro f sp args v hg hs hp
  unfold gZ at hg
  split at hg
  · rename_i hf
    subst hf
    simp only [Option.some.injEq] at hg
    subst hg
    unfold spLaw at hs
    split at hs
    · rename_i h n v
      split at hs
      · rename_i hr
        simp only [Option.some.injEq] at hs
        subst hs
        exact ⟨rfl, lawAll h n v hr.1 hr.2⟩
      · cases hs
    · cases hs
  · cases hg)
theorem lawAny (o : List AM.Obj) (h n v : Int) (h1 : -2147483648 ≤ v) (h2 : v < 2147483648) : Den FF E9 3 [.int .i64 h, .int .i64 n, .int .i32 v] ⟨o, 0, 0⟩ = some (.val (.bool true), none) :=
  den_plain (sp := spLaw) _ rfl (by simp only [spLaw]; rw [if_pos ⟨h1, h2⟩]) rfl
end Go.Proofs.YtjeaaoohokkgmaaGreat

