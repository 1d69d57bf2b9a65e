/- Own texts, joined: TdStm. -/
import Derived.Test.YtfbkeieoeagkdaaTdPart3
/- Store: the law of what lasts, walked. -/
namespace Go.Proofs.Ytfbkeieoeagkdaa
open Go AM
set_option linter.unusedSimpArgs false
set_option linter.unusedVariables false
set_option maxRecDepth 100000

theorem okD_zero6 {P : List Pg → Prop} (h : P (List.replicate 40 (zs 64))) : St.OkD P 0 (List.replicate 40 (zs 64)) := by
  have e : pgAt (List.replicate 40 (zs 64)) 20 = zs 64 := rfl
  refine ⟨List.length_replicate, fun p hp => by rw [List.eq_of_mem_replicate hp]; rfl, by rw [e]; exact ⟨Nat.le_refl _, Nat.le_refl _⟩, .inr ⟨?_, h⟩⟩
  rw [e]
  unfold St.liveHd
  have : liveP (zs 64) = false := rfl
  rw [this, Bool.and_false]
theorem room16 : 1 ≤ roomJ (16 : Nat) := by decide +kernel
theorem f20_zero : pgC (f20 (List.replicate 40 (zs 64))) = z1280 := rfl
theorem PS.dx {o o1 : List AM.Obj} {sp jl dd pg lm st gr a s : Nat} {seq : Int} {over on on' : Bool} {ds ds' : DSt} {S G : List (Nat × Pg)} (P : PS o sp jl dd pg lm st gr a s seq over on ds S G) (D : Dx dd pg lm o o1) (P' : PDs o1 dd pg lm on' ds') (hl : ds'.pgs.length = ds.pgs.length) : PS o1 sp jl dd pg lm st gr a s seq over on' ds' S G := by
  have a2 := ty_ne P.hs P.J.P.hd (by decide)
  have a3 := ty_ne P.hs P.J.P.hp (by decide)
  have a4 := ne_map P.hs P.J.P.hm
  have b2 := ne_map P.J.P.hd P.hS
  have b3 := ne_map P.J.P.hp P.hS
  have c2 := ne_map P.J.P.hd P.hG
  have c3 := ne_map P.J.P.hp P.hG
  exact ⟨by rw [D.get _ a2 a3 a4]; exact P.hs, ⟨by rw [D.get _ P.J.n1 P.J.n2 P.J.n3]; exact P.J.hj, P'⟩, by rw [D.get _ (Ne.symm b2) (Ne.symm b3) P.n2]; exact P.hS, by rw [D.get _ (Ne.symm c2) (Ne.symm c3) P.n3]; exact P.hG, P.n1, P.n2, P.n3, by rw [hl]; exact P.okS, by rw [hl]; exact P.okG⟩
set_option maxHeartbeats 128000000 in
theorem lawLastsS {o : List AM.Obj} {vs vk : V} {xs : List Op3} {kb : List UInt8} {f : Int} (hA : OArg o vs xs) (hK : BArg o vk kb) (hkm : kb.length ≤ maxLen) :
    ∃ r oh, Den FF E2 10 [vs, .int .i64 f, vk] ⟨o, 0, 0⟩ = some (r, oh) ∧ r = .val (.bool true) := by
  refine To.denE hxE2 (f := 10) (a := af10) rfl (E2_none rfl) (Nat.le_of_ble_eq_true rfl) ?_
  have hlk := hK.len
  have hls := hA.len
  have fin : ∀ (S : Nat → V) (h' : Heap), S 6 = .bool true → ∃ v oh, finish af10 ⟨o, 0, 0⟩ (some (.ret, S, h')) = some (v, oh) ∧ v = .val (.bool true) := fun S h' h => ⟨_, _, fin1 (i := 6) rfl, by rw [h]⟩
  obtain ⟨bg, qg, hbg⟩ := great6_q (e := o.length) (d := o.length) hA
  cases bg
  case true =>
    (repeat' (first | refine To.seq hxE2 ?_ | refine To.op0 hxE2 (by simp only [go_sem, reduceIte, seval, eAwake06_2 (), qg]; rfl) ?_ | refine To.nop hxE2 ?_ | (refine To.condT hxE2 ?_ ?_; focus (simp only [go_sem, reduceIte, seval]; done)) | (refine To.condF hxE2 ?_ ?_; focus (simp only [go_sem, reduceIte, seval]; done)) | refine To.ret hxE2 ?_ | refine To.skip hxE2 ?_))
    exact fin _ _ (by simp only [go_sem, reduceIte, seval])
  have h80 := hbg rfl
  by_cases h600 : 600 < kb.length
  · have d6 : decide ((600 : Int) < (kb.length : Int)) = true := decide_eq_true (by omega)
    (repeat' (first | refine To.seq hxE2 ?_ | refine To.op0 hxE2 (by simp only [go_sem, reduceIte, seval, eAwake06_2 (), qg, hlk, d6]; rfl) ?_ | refine To.nop hxE2 ?_ | (refine To.condT hxE2 ?_ ?_; focus (simp only [go_sem, reduceIte, seval]; done)) | (refine To.condF hxE2 ?_ ?_; focus (simp only [go_sem, reduceIte, seval]; done)) | refine To.ret hxE2 ?_ | refine To.skip hxE2 ?_))
    exact fin _ _ (by simp only [go_sem, reduceIte, seval])
  have d6 : decide ((600 : Int) < (kb.length : Int)) = false := decide_eq_false (by omega)
  obtain ⟨r0, oh0, q0, rfl, rr, e0, d0, hr3, hg0, P0⟩ := newD_q (o := o) (e := o.length) (d := o.length) (N := 40) (by omega) (by omega)
  have q0 : Den FF E2 12 [.int .i64 40] ⟨o, o.length, o.length⟩ = some (.val (.tuple [.ptr (o.length + 2) 0, .int .i64 0]), oh0) := q0
  have hl1 : (o ++ rr).length = o.length + 3 := by simp [hr3]
  (repeat' (first | refine To.seq hxE2 ?_ | refine To.op0 hxE2 (by simp only [go_sem, reduceIte, seval, eAwake06_2 (), qg, hlk, d6]; rfl) ?_ | refine To.nop hxE2 ?_ | (refine To.condF hxE2 ?_ ?_; focus (simp only [go_sem, reduceIte, seval]; done)) | refine To.skip hxE2 ?_))
  refine To.op hxE2 (by simp only [go_sem, seval, q0]; rfl) ?_
  rw [show oh0.getD (AM.enter ⟨o, 0, 0⟩) = ⟨o ++ rr, e0, d0⟩ from hg0]
  have hold1 : ∀ l, l < o.length → (o ++ rr)[l]? = o[l]? := fun l hl => List.getElem?_append_left hl
  generalize o ++ rr = oA at *
  have hO := St.open_ok (on := false) (left := 0) (q := 0) (okD_zero6 (P := fun X => f20 X = f20 (List.replicate 40 (zs 64))) rfl) (by omega) (fun a b h k => (f20_ext fun i hi => h i (by omega) (.inl hi)).symm.trans k)
  obtain ⟨r2, oh2, q2, hR2⟩ := sopen_q (e := e0) (d := d0) P0 (a := 20) (s := 16) room16 (by rw [List.length_replicate]; omega) (by omega) (by rw [List.length_replicate]; omega)
  unfold SOpenR at hR2
  generalize dOpen false ⟨false, 0, List.replicate 40 (zs 64), []⟩ 20 16 = w at *
  obtain ⟨er, sq, nn, ds⟩ := w
  simp only at hO hR2
  rcases hO with ⟨_, h, _⟩ | ⟨rfl, s, hs1, rfl, hRest, hf0⟩
  · cases h
  rcases hR2 with ⟨h, _⟩ | ⟨_, sp, jl, st, gr, rfl, b1, b2, b3, b4, oB, e2, d2, hg2, hlB, hfB, Q1⟩
  · exact absurd rfl h
  have q2 : Den FF E2 44 [.ptr (o.length + 2) 0, .int .i64 20, .int .i64 16] ⟨oA, e0, d0⟩ = some (.val (.tuple [.ptr sp 0, .int .i64 0]), oh2) := q2
  (repeat' (first | refine To.seq hxE2 ?_ | refine To.op0 hxE2 (by simp only [go_sem, reduceIte, seval]; rfl) ?_ | refine To.nop hxE2 ?_))
  refine To.op hxE2 (by simp only [go_sem, reduceIte, seval, q2]; rfl) ?_
  rw [hg2]
  have hold2 : ∀ l, l < o.length → oB[l]? = o[l]? := fun l hl => by rw [hfB l (by omega) (by omega) (by omega) (by omega)]; exact hold1 l hl
  have PD1 := Q1.J.P
  obtain ⟨r3, oh3, q3, rfl, oC, d3, hg3, P3, D3⟩ := fuse_q (e := e2) (d := d2) PD1 f
  have Q2 : PS oC sp jl (o.length + 2) o.length (o.length + 1) st gr 20 16 ((s : Int) + 1) false (decide (0 ≤ f)) ⟨ds.down, if 0 > f then 0 else f, ds.pgs, ds.ca⟩ [] [] := Q1.dx D3 P3 rfl
  have lt2 := Q2.lt
  have hlC := D3.len
  have T0 : Two o.length (oC ++ [.cells .ex 82 0 z1280]) (ownL sp jl (o.length + 2) o.length (o.length + 1) st gr) [oC.length] := by
    refine ⟨fun x hx y hy => ?_, fun x hx => ?_, fun x hx => ?_, by simp; omega⟩
    · have := lt2 x hx
      rw [List.mem_singleton.1 hy]; omega
    · simp only [ownL, List.mem_cons, List.not_mem_nil, or_false] at hx
      omega
    · rw [List.mem_singleton.1 hx]; omega
  have L0 : LB o (oC ++ [.cells .ex 82 0 z1280]) [f20 (List.replicate 40 (zs 64))] oC.length sp jl st gr ((s : Int) + 1) false (decide (0 ≤ f)) ⟨ds.down, if 0 > f then 0 else f, ds.pgs, ds.ca⟩ [] [] := by
    refine ⟨Q2.app _, hRest.len, ⟨.ex, ?_, .inl rfl⟩, T0, fun l hl => ?_⟩
    · show _ = some (AM.Obj.cells .ex 82 0 ([pgC (f20 (List.replicate 40 (zs 64)))]).flatten)
      rw [f20_zero, List.flatten_cons, List.flatten_nil, List.append_nil]
      exact app_get0 _ _ _
    · rw [List.getElem?_append_left (by omega), D3.get _ (by omega) (by omega) (by omega)]
      exact hold2 l hl
  have I0 : Inv 0 [f20 (List.replicate 40 (zs 64))] 0 ((s : Int) + 1) false ⟨ds.down, if 0 > f then 0 else f, ds.pgs, ds.ca⟩ [] := by
    refine ⟨Nat.zero_lt_one, fun X hX => ?_, ⟨by omega, by omega⟩, .inl ⟨rfl, s, by omega, rfl, ⟨hRest.down, hRest.ca, hRest.len, hRest.p64, hRest.hd⟩, ⟨0, Nat.le_refl _, by rw [hf0]; rfl⟩, ?_⟩⟩
    · rw [List.mem_singleton.1 hX]
      exact f20_64 fun p hp => by rw [List.eq_of_mem_replicate hp]; rfl
    · show some (f20 (List.replicate 40 (zs 64))) = some (f20 (putAll ds.pgs (csG 40 [])))
      rw [← hf0]
      exact congrArg some (f20_ext fun i hi => by rw [putAll_csG hRest.len hi]; rfl)
  (repeat' (first | refine To.seq hxE2 ?_ | refine To.op0 hxE2 (by simp only [go_sem, reduceIte, seval, bne_self_eq_false]; rfl) ?_ | refine To.nop hxE2 ?_ | (refine To.condF hxE2 ?_ ?_; focus (simp only [go_sem, reduceIte, seval]; done)) | refine To.skip hxE2 ?_))
  refine To.op hxE2 (by simp only [go_sem, reduceIte, seval, q3]; rfl) ?_
  rw [hg3]
  (repeat' (first | refine To.seq hxE2 ?_ | refine To.op0 hxE2 (by simp only [go_sem, reduceIte, seval, hls, z1280_len, z1280_drop, List.append_nil]; rfl) ?_ | refine To.op1 hxE2 (by simp only [go_sem, reduceIte, seval, z1280_len, z1280_drop, List.append_nil]; rfl) ?_ | refine To.nop hxE2 ?_ | refine To.block hxE2 ?_))
  refine To.loop hxE2 (fun k S h' => ∃ (i : Nat) (oo : List AM.Obj) (e d : Nat) (L : List (List Pg)) (sure mm st gr : Nat) (seq : Int) (over : Bool) (ds : DSt) (S1 G1 : List (Nat × Pg)), i + k = xs.length ∧ h' = ⟨oo, e, d⟩ ∧ LB o oo L mm sp jl st gr seq over (decide (0 ≤ f)) ds S1 G1 ∧ Inv i L sure seq over ds G1 ∧ L.length ≤ i + 1 ∧
    S 2 = vk ∧ S 7 = .ptr (o.length + 2) 0 ∧ S 9 = .ptr sp 0 ∧ S 11 = .slice mm 0 L.length 1280 ∧ S 12 = .int .i64 (sure : Int) ∧ S 46 = vs ∧ S 47 = .int .i64 (xs.length : Int) ∧ S 48 = .int .i64 (i : Int)) ?_ xs.length _ _ ?_
  rotate_left
  · refine ⟨0, _, _, _, _, 0, oC.length, _, _, _, _, _, _, _, by omega, rfl, L0, I0, Nat.le_refl _, ?_⟩
    simp only [go_sem, reduceIte, seval, initS]
  clear L0 I0 T0 lt2 Q2 D3 P3 hg3 q3 PD1 hold2 q2 hg2 Q1 hfB hf0 hRest P0 hg0 q0 hold1
  rintro k S _ ⟨i, oo, e, d, L, sure, mm, st, gr, seq, over, ds, S1, G1, hk, rfl, B, I, hLn, s2, s7, s9, s11, s12, s46, s47, s48⟩
  by_cases hi : i < xs.length
  · have hlt : decide ((i : Int) < (xs.length : Int)) = true := decide_eq_true (by omega)
    obtain ⟨x, hx⟩ : ∃ x, xs[i]? = some x := ⟨xs[i], List.getElem?_eq_getElem hi⟩
    have hxs : xs ≠ [] := by rintro rfl; simp at hi
    obtain ⟨la, ta, rfl, hla⟩ := hA.at_ hxs
    have hla' : oo[la]? = some (.cells .ro ta 0 (xs.map Op3.cs).flatten) := (B.hold la (get_lt hla)).trans hla
    have hxf := hA.fits x (List.mem_of_getElem? hx)
    have h67 : ∀ r ∈ xs.map Op3.cs, r.length = 67 := by
      intro r hr
      obtain ⟨y, hy, rfl⟩ := List.mem_map.1 hr
      exact op3_len (hA.fits y hy).p64
    obtain ⟨a1, a2⟩ := flat_drop h67 (by rw [List.getElem?_map, hx]; rfl : (xs.map Op3.cs)[i]? = some x.cs)
    have ix : idxOf xs.length (.int .i64 (i : Int)) = some i := idxOf_nat hi
    have wi : IntKind.i64.wrap ((i : Int) + 1) = ((i + 1 : Nat) : Int) := by rw [wrap_i64 (by omega) (by omega)]; omega
    have hcl := op3_len hxf.p64
    have hco := op3_one hxf.one
    have hc0 : x.cs[0]? = some (.int .i64 x.K) := rfl
    have hc1 : x.cs[1]? = some (.int .i64 x.N) := rfl
    have hc2 : List.take 64 (List.drop 2 x.cs) = bytesA x.p := by
      show List.take 64 (bytesA x.p ++ [x.L]) = _
      exact List.take_left' (by rw [bytesA_length]; exact hxf.p64)
    (repeat' (first | refine To.seq hxE2 ?_ | refine To.op0 hxE2 (by simp only [go_sem, reduceIte, seval, Heap.gets, Heap.sets, Heap.get, Nat.add_zero, ne_eq, not_false_eq_true, Nat.zero_le, s46, s47, s48, hlt, ix, hla', a1, a2, hcl, hco, hc0, opz_drop, opz_len]; rfl) ?_ | refine To.op1 hxE2 (by simp only [go_sem, reduceIte, seval, Heap.sets, ne_eq, not_false_eq_true, Nat.zero_le, hcl, hco, opz_drop, opz_len]; rfl) ?_ | refine To.nop hxE2 ?_ | (refine To.condT hxE2 ?_ ?_; focus (simp only [go_sem, reduceIte, seval]; done)) | refine To.block hxE2 ?_ | refine To.skip hxE2 ?_))
    simp only [andThen]
    have Bb := B.app [.cells .ex 85 0 x.cs]
    have hbx : (oo ++ [AM.Obj.cells .ex 85 0 x.cs])[oo.length]? = some (.cells .ex 85 0 x.cs) := app_get0 _ _ _
    refine To.mono (Q := fun ex S' h' => ex = .norm ∧ ∃ (oo : List AM.Obj) (e d : Nat) (L : List (List Pg)) (sure mm st gr : Nat) (seq : Int) (over : Bool) (ds : DSt) (S1 G1 : List (Nat × Pg)), h' = ⟨oo, e, d⟩ ∧ LB o oo L mm sp jl st gr seq over (decide (0 ≤ f)) ds S1 G1 ∧ Inv (i + 1) L sure seq over ds G1 ∧ L.length ≤ i + 2 ∧
      S' 2 = vk ∧ S' 7 = .ptr (o.length + 2) 0 ∧ S' 9 = .ptr sp 0 ∧ S' 11 = .slice mm 0 L.length 1280 ∧ S' 12 = .int .i64 (sure : Int) ∧ S' 46 = .slice la 0 xs.length 67 ∧ S' 47 = .int .i64 (xs.length : Int) ∧ S' 48 = .int .i64 (i : Int)) ?_ ?_
    · refine gen_ed fun e1 d1 => ?_
      generalize oo ++ [AM.Obj.cells .ex 85 0 x.cs] = ob at *
      have hsq := I.sq
      have hnp := Bb.np
      cases k0 : (x.K == 0)
      case true =>
        obtain ⟨n, oh, o1, d', S', q, hg, hlo, X, P'⟩ := sput_any (e := e1) (d := d1) Bb.P (by omega) (by omega) x.N hxf.p64
        (repeat' (first | refine To.op0 hxE2 (by simp only [go_sem, reduceIte, seval, Heap.gets, Heap.get, Nat.reduceLeDiff, s9, hbx, hc1, hc2, hcl]; rfl) ?_ | (refine To.condT hxE2 ?_ ?_; focus (simp only [go_sem, reduceIte, seval]; done))))
        refine To.op hxE2 (by simp only [go_sem, reduceIte, seval, q]; rfl) ?_
        rw [hg]
        (repeat' (first | refine To.nop hxE2 ?_))
        refine ⟨rfl, o1, _, _, L, sure, mm, st, gr, seq, over, ds, S', G1, rfl, Bb.turn X (.inl rfl) (.inl rfl) P' hnp, I.mono (Nat.le_succ _), by omega, ?_⟩
        simp only [go_sem, reduceIte, seval, s2, s7, s9, s11, s12, s46, s47, s48]
      cases k2 : (x.K == 2)
      case true =>
        have hkS : OkM 40 S1 := by rw [← hnp]; exact Bb.P.okS
        have hkG : OkM 40 G1 := by rw [← hnp]; exact Bb.P.okG
        have hrd : ∀ i : Int, (srP over ds S1 G1 20 16 i).length = 64 := srP_64 hkS hkG Bb.P.J.P.p64 fun e he => (Bb.P.J.P.c64 e he).1
        have qrd := fun r e d (j : Nat) => sread_q (e := e) (d := d) (Bb.P.app r) (by omega) (by omega) (j : Int)
        have hnow := dataN_now over ds S1 G1
        have hkI := keep_inv (on := decide (0 ≤ f)) I hkS hkG (by omega) hrd
        have hrd' : ∀ j : Nat, (srP over ds S1 G1 20 16 (j : Int)).length = 64 := fun j => hrd _
        generalize hrf : (fun i : Nat => srP over ds S1 G1 20 16 (i : Int)) = rd at *
        have hre : ∀ j : Nat, srP over ds S1 G1 20 16 (j : Int) = rd j := fun j => by rw [← hrf]
        have hr64 : ∀ j, (rd j).length = 64 := fun j => by rw [← hre]; exact hrd _
        (repeat' (first | refine To.seq hxE2 ?_ | refine To.op0 hxE2 (by simp only [go_sem, reduceIte, seval, k2]; rfl) ?_ | refine To.op1 hxE2 (by simp only [go_sem, seval]; rfl) ?_ | refine To.nop hxE2 ?_ | (refine To.condT hxE2 ?_ ?_; focus (simp only [go_sem, reduceIte, seval]; done)) | (refine To.condF hxE2 ?_ ?_; focus (simp only [go_sem, reduceIte, seval]; done)) | refine To.block hxE2 ?_))
        refine To.loop hxE2 (fun m S h' => ∃ (j e' d' : Nat), j + m = 20 ∧ h' = ⟨ob ++ [.cells .ex 82 0 (pgC (dataN rd j))], e', d'⟩ ∧ S 2 = vk ∧ S 7 = .ptr (o.length + 2) 0 ∧ S 9 = .ptr sp 0 ∧ S 11 = .slice mm 0 L.length 1280 ∧ S 12 = .int .i64 (sure : Int) ∧ S 15 = .ptr ob.length 0 ∧ S 46 = .slice la 0 xs.length 67 ∧ S 47 = .int .i64 (xs.length : Int) ∧ S 48 = .int .i64 (i : Int) ∧ S 64 = .int .i64 (j : Int)) ?_ 20 _ _ ?_
        rotate_left
        · refine ⟨0, _, _, by omega, by rw [dataN_zero], ?_⟩
          simp only [go_sem, reduceIte, seval, s2, s7, s9, s11, s12, s46, s47, s48]
        rintro m S _ ⟨j, e', d', hm, rfl, s2, s7, s9, s11, s12, s15, s46, s47, s48, s64⟩
        have gb : ∀ (x : AM.Obj) r, (ob ++ (x :: r))[ob.length]? = some x := fun x r => app_get0 _ _ _
        have hs0 : ∀ (x y : AM.Obj) r', (ob ++ (x :: r')).set ob.length y = ob ++ (y :: r') := fun x y r' => app_set0 _ _ _ _
        have hD64 := dataN_64 hr64 j
        have hDl := dataN_len rd j
        have hpl : (pgC (dataN rd j)).length = 1280 := pgC20 ⟨hDl, hD64⟩
        by_cases hj : j < 20
        · have hlt2 : decide ((j : Int) < 20) = true := decide_eq_true (by omega)
          have ixj : idxOf 20 (.int .i64 (j : Int)) = some j := idxOf_nat hj
          have wj : IntKind.i64.wrap ((j : Int) + 1) = ((j + 1 : Nat) : Int) := by rw [wrap_i64 (by omega) (by omega)]; omega
          have qj := fun r e d => qrd r e d j
          rw [hre] at qj
          have hp64 := hr64 j
          have sA := splice_pg hD64 (by omega : j < (dataN rd j).length) hp64
          rw [← dataN_succ hj] at sA
          have hle : j * 64 + 64 ≤ 1280 := by omega
          have htk : List.take 64 (bytesA (rd j)) = bytesA (rd j) := List.take_of_length_le (by rw [bytesA_length]; omega)
          generalize rd j = p at *
          (repeat' (first | refine To.seq hxE2 ?_ | refine To.op0 hxE2 (by simp only [go_sem, reduceIte, seval, Heap.sets, bytesA_length, bytesA_one, bytesA_plains, ne_eq, not_false_eq_true, Nat.zero_le, s9, s15, s64, hlt2, ixj, wj, qj, gb, hs0, hpl, hle, hp64, sA]; rfl) ?_ | refine To.op1 hxE2 (by simp only [go_sem, reduceIte, seval, Heap.sets, bytesA_length, bytesA_one, bytesA_plains, ne_eq, not_false_eq_true, Nat.zero_le, gb, hs0, hpl, hle, hp64, sA]; rfl) ?_ | refine To.nop hxE2 ?_ | (refine To.condT hxE2 ?_ ?_; focus (simp only [go_sem, reduceIte, seval]; done)) | refine To.block hxE2 ?_ | refine To.skip hxE2 ?_))
          try simp only [andThen]
          refine ⟨m - 1, by omega, j + 1, _, _, by omega, rfl, ?_⟩
          simp only [go_sem, reduceIte, seval, s2, s7, s9, s11, s12, s15, s46, s47, s48]
        have hlt2 : decide ((j : Int) < 20) = false := decide_eq_false (by omega)
        obtain rfl : j = 20 := by omega
        rw [hnow] at hpl hD64 ⊢
        clear hrf hre hnow
        have Bn := Bb.app [.cells .ex 82 0 (pgC (nowL over ds S1 G1))]
        have hltb := Bb.P.lt
        obtain ⟨r, oh, q, rfl, o1, e2, d2, st', gr', hg, X, hst, hgr, _, P'⟩ := skeep_q (e := e') (d := d') Bn.P (by omega) (by omega) (by omega) (by omega) (by omega)
        have gnow : o1[ob.length]? = some (.cells .ex 82 0 (pgC (nowL over ds S1 G1))) := by
          rw [X.own (by simp) fun z hz => by have := hltb z hz; omega]
          exact app_get0 _ _ _
        have hl' : (dKeep (decide (0 ≤ f)) ds 20 16 seq over S1 G1).2.2.2.1.pgs.length = ds.pgs.length := by
          unfold dKeep
          split
          · rfl
          · split
            · exact dKeepG_len _ _ _ _ _ _ _
            · exact dKeepG_len _ _ _ _ _ _ _
        have hone := pgC1' (nowL over ds S1 G1)
        generalize dKeep (decide (0 ≤ f)) ds 20 16 seq over S1 G1 = w at *
        obtain ⟨n, sq', ov', ds', S', G'⟩ := w
        simp only at q P' hkI hl'
        generalize nowL over ds S1 G1 = now at *
        have htk : List.take 1280 (pgC now) = pgC now := List.take_of_length_le (by omega)
        (repeat' (first | refine To.seq hxE2 ?_ | refine To.op0 hxE2 (by simp only [go_sem, reduceIte, seval, s64]; rfl) ?_ | refine To.nop hxE2 ?_ | (refine To.condF hxE2 ?_ ?_; focus (simp only [go_sem, reduceIte, seval]; done)) | refine To.exit hxE2 ?_))
        try simp only [andThen, outOf, if_true]
        skip
        refine To.op hxE2 (by simp only [go_sem, reduceIte, seval, s9, q]; rfl) ?_
        rw [hg]
        have B1 := Bn.turn X hst hgr P' (hl'.trans hnp)
        cases hn : (n == 0)
        · rw [if_neg (by simpa using hn)] at hkI
          (repeat' (first | refine To.op0 hxE2 (by simp only [go_sem, reduceIte, seval, hn]; rfl) ?_ | refine To.nop hxE2 ?_ | (refine To.condF hxE2 ?_ ?_; focus (simp only [go_sem, reduceIte, seval]; done)) | refine To.skip hxE2 ?_))
          refine ⟨rfl, o1, _, _, L, sure, mm, st', gr', sq', ov', ds', S', G', rfl, B1, hkI, by omega, ?_⟩
          simp only [go_sem, reduceIte, seval, s2, s7, s9, s11, s12, s46, s47, s48]
        · rw [if_pos (by simpa using hn)] at hkI
          obtain ⟨O', D', hA', B2⟩ := (B1.app [.cells .ex 82 0 (pgC now)]).push (x := now) I.l64 (by omega) e2 d2
          rw [show (o1 ++ [AM.Obj.cells .ex 82 0 (pgC now)]).length = o1.length + 1 by simp] at hA' B2
          have gb1 : ∀ (x : AM.Obj) r, (o1 ++ (x :: r))[o1.length]? = some x := fun x r => app_get0 _ _ _
          (repeat' (first | refine To.op0 hxE2 (by simp only [go_sem, reduceIte, seval, Heap.gets, List.take_of_length_le, hn, s11, s15, gnow, hpl, hone, gb1, z1280_len, z1280_drop, List.append_nil]; rfl) ?_ | refine To.op1 hxE2 (by simp only [go_sem, reduceIte, seval, Heap.gets, List.take_of_length_le, hpl, hone, gb1, z1280_len, z1280_drop, List.append_nil]; rfl) ?_ | refine To.nop hxE2 ?_ | (refine To.condT hxE2 ?_ ?_; focus (simp only [go_sem, reduceIte, seval]; done))))
          (repeat' (first | refine To.op0 hxE2 (by simp only [go_sem, reduceIte, seval, Heap.gets, List.take_of_length_le, hpl, hone, gb1, hA']; rfl) ?_ | refine To.op1 hxE2 (by simp only [go_sem, reduceIte, seval, Heap.gets, List.take_of_length_le, hpl, hone, gb1, hA']; rfl) ?_ | refine To.nop hxE2 ?_))
          refine ⟨rfl, O', _, _, L ++ [now], sure, _, st', gr', sq', ov', ds', S', G', rfl, B2, hkI, by rw [List.length_append]; show L.length + 1 ≤ i + 2; omega, ?_⟩
          rw [List.length_append]
          simp only [go_sem, reduceIte, seval, s2, s7, s9, s12, s46, s47, s48, List.length_singleton]
      cases k3 : (x.K == 3)
      case true =>
        obtain ⟨r, oh, q, rfl, o1, e', d', st', hg, X, hst, _, P'⟩ := sdrop_q (e := e1) (d := d1) Bb.P
        (repeat' (first | refine To.seq hxE2 ?_ | refine To.op0 hxE2 (by simp only [go_sem, reduceIte, seval, s9, k2, k3]; rfl) ?_ | refine To.nop hxE2 ?_ | (refine To.condT hxE2 ?_ ?_; focus (simp only [go_sem, reduceIte, seval]; done)) | (refine To.condF hxE2 ?_ ?_; focus (simp only [go_sem, reduceIte, seval]; done))))
        refine To.op hxE2 (by simp only [go_sem, reduceIte, seval, q]; rfl) ?_
        rw [hg]
        (repeat' (first | refine To.nop hxE2 ?_))
        refine ⟨rfl, o1, _, _, L, sure, mm, st', gr, seq, over, ds, [], G1, rfl, Bb.turn X (.inr hst) (.inl rfl) P' hnp, I.mono (Nat.le_succ _), by omega, ?_⟩
        simp only [go_sem, reduceIte, seval, s2, s7, s9, s11, s12, s46, s47, s48]
      cases k4 : (x.K == 4)
      case true =>
        obtain ⟨r, oh, q, rfl, o1, e', d', st', gr', hg, X, hst, hgr, _, P'⟩ := ssync_q (e := e1) (d := d1) Bb.P (by omega) (by omega) (by omega) (by omega) (by omega)
        have I' := sync_inv (on := decide (0 ≤ f)) I (by rw [← hnp]; exact Bb.P.okG) (by omega)
        have hl' := dSync_len (decide (0 ≤ f)) ds 20 16 seq over G1
        generalize dSync (decide (0 ≤ f)) ds 20 16 seq over G1 = w at *
        obtain ⟨n, sq', ov', ds', G'⟩ := w
        simp only at q P' I' hl'
        have wl : IntKind.i64.wrap ((L.length : Int) - 1) = ((L.length - 1 : Nat) : Int) := by have := I.su; rw [wrap_i64 (by omega) (by omega)]; omega
        (repeat' (first | refine To.seq hxE2 ?_ | refine To.op0 hxE2 (by simp only [go_sem, reduceIte, seval, s9, k2, k3, k4]; rfl) ?_ | refine To.nop hxE2 ?_ | (refine To.condT hxE2 ?_ ?_; focus (simp only [go_sem, reduceIte, seval]; done)) | (refine To.condF hxE2 ?_ ?_; focus (simp only [go_sem, reduceIte, seval]; done))))
        refine To.op hxE2 (by simp only [go_sem, reduceIte, seval, q]; rfl) ?_
        rw [hg]
        cases hn : (n == 0)
        · rw [if_neg (by simpa using hn)] at I'
          (repeat' (first | refine To.op0 hxE2 (by simp only [go_sem, reduceIte, seval, hn]; rfl) ?_ | refine To.nop hxE2 ?_ | (refine To.condF hxE2 ?_ ?_; focus (simp only [go_sem, reduceIte, seval]; done)) | refine To.skip hxE2 ?_))
          refine ⟨rfl, o1, _, _, L, sure, mm, st', gr', sq', ov', ds', S1, G', rfl, Bb.turn X hst hgr P' (hl'.trans hnp), I', by omega, ?_⟩
          simp only [go_sem, reduceIte, seval, s2, s7, s9, s11, s12, s46, s47, s48]
        · rw [if_pos (by simpa using hn)] at I'
          (repeat' (first | refine To.op0 hxE2 (by simp only [go_sem, reduceIte, seval, hn, s11, wl]; rfl) ?_ | refine To.nop hxE2 ?_ | (refine To.condT hxE2 ?_ ?_; focus (simp only [go_sem, reduceIte, seval]; done))))
          refine ⟨rfl, o1, _, _, L, L.length - 1, mm, st', gr', sq', ov', ds', S1, G', rfl, Bb.turn X hst hgr P' (hl'.trans hnp), I', by omega, ?_⟩
          simp only [go_sem, reduceIte, seval, s2, s7, s9, s11, s46, s47, s48]
      (repeat' (first | refine To.seq hxE2 ?_ | refine To.op0 hxE2 (by simp only [go_sem, reduceIte, seval, k2, k3, k4]; rfl) ?_ | refine To.nop hxE2 ?_ | (refine To.condF hxE2 ?_ ?_; focus (simp only [go_sem, reduceIte, seval]; done)) | refine To.skip hxE2 ?_))
      refine ⟨rfl, ob, _, _, L, sure, mm, st, gr, seq, over, ds, S1, G1, rfl, Bb, I.mono (Nat.le_succ _), by omega, ?_⟩
      simp only [go_sem, reduceIte, seval, s2, s7, s9, s11, s12, s46, s47, s48]
    · rintro ex S2 h2 ⟨rfl, oo2, e2, d2, L2, sure2, mm2, st2, gr2, seq2, over2, ds2, S2', G2, rfl, B2, I2, hL2, t2, t7, t9, t11, t12, t46, t47, t48⟩
      simp only [outOf, andThen]
      (repeat' (first | refine To.op0 hxE2 (by simp only [go_sem, reduceIte, seval, t48, wi]; rfl) ?_ | refine To.nop hxE2 ?_))
      try simp only [andThen]
      refine ⟨k - 1, by omega, i + 1, oo2, e2, d2, L2, sure2, mm2, st2, gr2, seq2, over2, ds2, S2', G2, by omega, rfl, B2, I2, by omega, ?_⟩
      simp only [go_sem, reduceIte, seval, t2, t7, t9, t11, t12, t46, t47]
  have hlt : decide ((i : Int) < (xs.length : Int)) = false := decide_eq_false (by omega)
  obtain ⟨r6, oh6, q6, rfl, oG, d6, hg6, P6, D6⟩ := crash_q (e := e) (d := d) B.P.J.P (by have := B.np; omega) (hK.of B.hold) (by omega)
  have hT := crash_torn ds.ca kb ds.pgs
  generalize crashN ds.ca kb 0 (keysN ds.pgs.length ds.ca) ds.pgs = pgs6 at *
  have hpl6 : pgs6.length = 40 := by rw [hT.1]; exact B.np
  obtain ⟨hw1, hw2, hw3⟩ := inv_open I (by omega) (left := 0) hT
  obtain ⟨r7, oh7, q7, hR7⟩ := sopen_q (e := e) (d := d6) P6 (a := 20) (s := 16) room16 (by omega) (by omega) (by omega)
  unfold SOpenR at hR7
  generalize dOpen false ⟨false, 0, pgs6, []⟩ 20 16 = w at *
  obtain ⟨er, sq, nn, ds7⟩ := w
  simp only at hw1 hw2 hw3 hR7
  subst hw1
  rcases hR7 with ⟨h, _⟩ | ⟨_, sp7, jl7, st7, gr7, rfl, b1, b2, b3, b4, oH, e7, d7, hg7, hlH, hfH, Q7⟩
  · exact absurd rfl h
  have q7 : Den FF E2 44 [.ptr (o.length + 2) 0, .int .i64 20, .int .i64 16] ⟨oG, e, d6⟩ = some (.val (.tuple [.ptr sp7 0, .int .i64 0]), oh7) := q7
  obtain ⟨ck, r1, r2⟩ := B.row
  have hne := B.P.ne_row r1
  have hm1 := get_lt r1
  have r7 : oH[mm]? = some (.cells ck 82 0 (L.map pgC).flatten) := by
    have h1 : mm ≠ o.length + 2 := Ne.symm (hne _ (by simp [ownL]))
    have h2 : mm ≠ o.length := Ne.symm (hne _ (by simp [ownL]))
    have h3 : mm ≠ o.length + 1 := Ne.symm (hne _ (by simp [ownL]))
    rw [hfH mm (by rw [D6.len]; exact hm1) h1 h2 h3, D6.get _ h1 h2 h3]
    exact r1
  have P7 : PD oH (o.length + 2) o.length (o.length + 1) false ds7.down ds7.left ds7.pgs ds7.ca := Q7.J.P
  (repeat' (first | refine To.seq hxE2 ?_ | refine To.op0 hxE2 (by simp only [go_sem, reduceIte, seval, s7, s2, s47, s48, hlt]; rfl) ?_ | refine To.nop hxE2 ?_ | (refine To.condF hxE2 ?_ ?_; focus (simp only [go_sem, reduceIte, seval]; done)) | refine To.exit hxE2 ?_))
  try simp only [andThen, outOf, if_true]
  skip
  refine To.op hxE2 (by simp only [go_sem, reduceIte, seval, q6]; rfl) ?_
  rw [hg6]
  (repeat' (first | refine To.seq hxE2 ?_ | refine To.op0 hxE2 (by simp only [go_sem, reduceIte, seval, s7]; rfl) ?_ | refine To.nop hxE2 ?_))
  refine To.op hxE2 (by simp only [go_sem, reduceIte, seval, q7]; rfl) ?_
  rw [hg7]
  have hsu := I.su
  have hrows : ∀ y ∈ L.map pgC, y.length = 1280 := fun y hy => by
    obtain ⟨X, hX, rfl⟩ := List.mem_map.1 hy
    exact pgC20 (I.l64 X hX)
  have hfl : (L.map pgC).flatten.length = L.length * 1280 := by rw [flat_len hrows, List.length_map]
  have hbd : boundsA L.length L.length (some (.int .i64 (sure : Int))) none = some (sure, L.length) := by
    simp only [boundsA, hiB, loB]
    rw [if_pos (by omega)]
    simp only [Int.toNat_natCast]
  have hsl : (if sure = 0 then some (V.slice mm 0 L.length 1280, (none : Option Heap)) else if sure < L.length then some (V.slice mm (sure * 1280) (L.length - sure) 1280, none) else some (V.esl mm 0 sure 1280, none)) = some (V.slice mm (sure * 1280) (L.length - sure) 1280, none) := by
    by_cases h0 : sure = 0
    · rw [if_pos h0, h0, Nat.zero_mul, Nat.sub_zero]
    · rw [if_neg h0, if_pos hsu]
  obtain ⟨kk, hk1, hk2⟩ := hw2
  have hkl := (List.getElem?_eq_some_iff.1 hk2).1
  (repeat' (first | refine To.seq hxE2 ?_ | refine To.op0 hxE2 (by simp only [go_sem, reduceIte, seval, s11, s12, bne_self_eq_false]; rfl) ?_ | refine To.nop hxE2 ?_ | (refine To.condF hxE2 ?_ ?_; focus (simp only [go_sem, reduceIte, seval]; done)) | refine To.skip hxE2 ?_))
  refine To.op0 hxE2 (by simp only [go_sem, reduceIte, seval, r7, hfl, Nat.le_refl, decide_true, or_true, hbd, Option.bind_some, hsl]; rfl) ?_
  (repeat' (first | refine To.op0 hxE2 (by simp only [go_sem, reduceIte, seval]; rfl) ?_ | refine To.nop hxE2 ?_ | refine To.block hxE2 ?_))
  refine To.loop hxE2 (fun m S h' => ∃ (i e d : Nat) (r : List AM.Obj), i + m = kk - sure ∧ h' = ⟨oH ++ r, e, d⟩ ∧ S 7 = .ptr (o.length + 2) 0 ∧ S 108 = .slice mm (sure * 1280) (L.length - sure) 1280 ∧ S 109 = .int .i64 ((L.length - sure : Nat) : Int) ∧ S 110 = .int .i64 (i : Int)) ?_ (kk - sure) _ _ ?_
  rotate_left
  · refine ⟨0, _, _, [], by omega, by rw [List.append_nil], ?_⟩
    simp only [go_sem, reduceIte, seval, s7]
  rintro m S4 _ ⟨j, e4, d4, r4, hm, rfl, t7, t108, t109, t110⟩
  have hlt4 : decide ((j : Int) < ((L.length - sure : Nat) : Int)) = true := decide_eq_true (by omega)
  have ixj : idxOf (L.length - sure) (.int .i64 (j : Int)) = some j := idxOf_nat (by omega)
  have wj : IntKind.i64.wrap ((j : Int) + 1) = ((j + 1 : Nat) : Int) := by rw [wrap_i64 (by omega) (by omega)]; omega
  obtain ⟨X, hX⟩ : ∃ X, L[sure + j]? = some X := ⟨L[sure + j], List.getElem?_eq_getElem (by omega)⟩
  have hXk := I.l64 X (List.mem_of_getElem? hX)
  obtain ⟨a1, a2⟩ := flat_drop hrows (by rw [List.getElem?_map, hX]; rfl : (L.map pgC)[sure + j]? = some (pgC X))
  rw [Nat.add_mul] at a1 a2
  have hxl := pgC20 hXk
  have hxo := pgC1' X
  have htk : List.take 1280 (pgC X) = pgC X := List.take_of_length_le (by omega)
  have r7' : ∀ r, (oH ++ r)[mm]? = some (.cells ck 82 0 (L.map pgC).flatten) := fun r => app_old r7 r
  have gb4 : ∀ z : AM.Obj, (oH ++ (r4 ++ [z]))[oH.length + r4.length]? = some z := fun z => by rw [app_getk]; simp
  (repeat' (first | refine To.seq hxE2 ?_ | refine To.op0 hxE2 (by simp only [go_sem, reduceIte, seval, Heap.gets, Heap.sets, List.take_of_length_le, ne_eq, not_false_eq_true, Nat.zero_le, t7, t108, t109, t110, hlt4, ixj, r7', a1, a2, hxl, hxo, gb4, z1280_len, z1280_drop, List.append_nil]; rfl) ?_ | refine To.op1 hxE2 (by simp only [go_sem, reduceIte, seval, Heap.sets, ne_eq, not_false_eq_true, Nat.zero_le, hxl, hxo, gb4, z1280_len, z1280_drop, List.append_nil]; rfl) ?_ | refine To.nop hxE2 ?_ | (refine To.condT hxE2 ?_ ?_; focus (simp only [go_sem, reduceIte, seval]; done)) | refine To.block hxE2 ?_ | refine To.skip hxE2 ?_))
  refine gen_ed fun e5 d5 => ?_
  obtain ⟨bs, qs, hbs⟩ := same_q (e := e5) (d := d5) (P7.app (r4 ++ [.cells .ex 82 0 (pgC X)])) hw3 hXk.1 hXk.2
  cases bs
  · have hne2 : j ≠ kk - sure := fun h => by
      have : L[sure + j]? = some (f20 ds7.pgs) := by rw [h, show sure + (kk - sure) = kk by omega]; exact hk2
      rw [hX] at this
      cases this
      exact absurd (hbs rfl) (by decide)
    (repeat' (first | refine To.op0 hxE2 (by simp only [go_sem, reduceIte, seval, qs, t110, wj]; rfl) ?_ | refine To.nop hxE2 ?_ | (refine To.condF hxE2 ?_ ?_; focus (simp only [go_sem, reduceIte, seval]; done)) | refine To.skip hxE2 ?_))
    try simp only [andThen]
    skip
    try simp only [andThen, outOf]
    refine ⟨m - 1, by omega, j + 1, _, _, _, by omega, rfl, ?_⟩
    simp only [go_sem, reduceIte, seval, t7, t108, t109]
  · (repeat' (first | refine To.seq hxE2 ?_ | refine To.op0 hxE2 (by simp only [go_sem, reduceIte, seval, qs]; rfl) ?_ | refine To.nop hxE2 ?_ | (refine To.condT hxE2 ?_ ?_; focus (simp only [go_sem, reduceIte, seval]; done)) | refine To.ret hxE2 ?_))
    exact fin _ _ (by simp only [go_sem, reduceIte, seval])
end Go.Proofs.Ytfbkeieoeagkdaa

