/- Own texts, joined: Q24DG, Q24DH. -/
import Derived.Test.YtjbblfoefibeaaaQ24Part3
/- Wire: requests come back from their bytes: the plain part. -/
namespace Go.Proofs.Ytjbblfoefibeaaa
open Go AM
set_option linter.unusedSimpArgs false
set_option linter.unusedVariables false
set_option maxRecDepth 100000

theorem takes_app {n : Nat} {a r : List UInt8} (h : a.length = n) : takeT n (a ++ r) false = a ∧ takeR n (a ++ r) false = r ∧ takeBad n (a ++ r) false = false := by
  subst h
  have hb : takeBad a.length (a ++ r) false = false := by simp [takeBad]
  refine ⟨?_, ?_, hb⟩
  · unfold takeT; rw [hb]; simp
  · unfold takeR; rw [hb]; simp
theorem rdS_app {n : Nat} {a r : List UInt8} (h : a.length = n) : rdS n (a ++ r, false) = (r, false) := by
  obtain ⟨_, h2, h3⟩ := takes_app (r := r) h
  simp only [rdS, h2, h3]
theorem rdV_app {n : Nat} {a r : List UInt8} (h : a.length = n) : rdV n (a ++ r, false) = be a := by
  obtain ⟨h1, _, _⟩ := takes_app (r := r) h
  simp only [rdV, h1]
theorem tobe2_len (t : List UInt8) (ht : t.length < 65536) : be (tobe 2 t.length) = t.length := by
  rw [be_tobe]; exact Nat.mod_eq_of_lt ht
theorem txS_app {t r : List UInt8} (ht : t.length < 65536) : txS (textB t ++ r, false) = (r, false) ∧ txV (textB t ++ r, false) = t := by
  have e : textB t ++ r = tobe 2 t.length ++ (t ++ r) := by simp [textB]
  obtain ⟨a1, a2, a3⟩ := takes_app (r := t ++ r) (tobe_length 2 t.length)
  obtain ⟨b1, b2, b3⟩ := takes_app (r := r) (show t.length = t.length from rfl)
  have hl : lenN (tobe 2 t.length ++ (t ++ r)) false = t.length := by unfold lenN; rw [a1, tobe2_len t ht]
  rw [e]
  simp only [txS, txV, textT, textR, textBad, hl, a2, a3, b1, b2, b3, and_self]

theorem big_be {n : Int} {k : Nat} (h0 : 0 ≤ n) (h1 : n < 256 ^ k) : ((be (bigF n (k : Int)) : Nat) : Int) = n := by
  unfold bigF
  obtain ⟨a, rfl⟩ : ∃ a : Nat, n = (a : Int) := ⟨n.toNat, by omega⟩
  simp only [Int.toNat_natCast]
  have h2 : a < 256 ^ k := by exact_mod_cast h1
  rw [be_tobe, Nat.mod_eq_of_lt h2]
theorem big_be4 {n : Int} (h0 : 0 ≤ n) (h1 : n ≤ 4294967295) : ((be (bigF n 4) : Nat) : Int) = n := by
  have e : (256 : Int) ^ 4 = 4294967296 := by decide
  exact big_be (k := 4) h0 (by omega)
theorem big_be1 {n : Int} (h0 : 0 ≤ n) (h1 : n ≤ 255) : ((be (bigF n 1) : Nat) : Int) = n := by
  have e : (256 : Int) ^ 1 = 256 := by decide
  exact big_be (k := 1) h0 (by omega)
theorem big4_len (n : Int) : (bigF n 4).length = 4 := bigF_length n 4
theorem big1_len (n : Int) : (bigF n 1).length = 1 := bigF_length n 1

theorem gets_app {id op ino oth n m : Int} {nm tx : List UInt8} (hR : rightR id op ino oth n m nm tx = true) (r : List UInt8) :
    gP9 (reqB id op ino oth n m nm tx ++ r) = (r, false) ∧ gFirst (reqB id op ino oth n m nm tx ++ r) = 1 ∧ gOp (reqB id op ino oth n m nm tx ++ r) = op ∧ gNum (reqB id op ino oth n m nm tx ++ r) 0 = id ∧ gNum (reqB id op ino oth n m nm tx ++ r) 1 = ino ∧ gNum (reqB id op ino oth n m nm tx ++ r) 2 = oth ∧ gNum (reqB id op ino oth n m nm tx ++ r) 3 = n ∧ gNum (reqB id op ino oth n m nm tx ++ r) 4 = m ∧ gNm (reqB id op ino oth n m nm tx ++ r) = nm ∧ gTx (reqB id op ino oth n m nm tx ++ r) = tx := by
  obtain ⟨a1, a2, a3, a4, a5, a6, a7, a8, a9, a10, a11, a12, a13, a14⟩ := rightIs hR
  have e : reqB id op ino oth n m nm tx ++ r = bigF 1 1 ++ (bigF op 1 ++ (bigF id 4 ++ (bigF ino 4 ++ (bigF oth 4 ++ (bigF n 4 ++ (bigF m 4 ++ (textB nm ++ (textB tx ++ r)))))))) := by simp only [reqB, List.append_assoc]
  rw [e]
  have p1 : gP1 (bigF 1 1 ++ (bigF op 1 ++ (bigF id 4 ++ (bigF ino 4 ++ (bigF oth 4 ++ (bigF n 4 ++ (bigF m 4 ++ (textB nm ++ (textB tx ++ r))))))))) = (bigF op 1 ++ (bigF id 4 ++ (bigF ino 4 ++ (bigF oth 4 ++ (bigF n 4 ++ (bigF m 4 ++ (textB nm ++ (textB tx ++ r))))))), false) := rdS_app (big1_len 1)
  have f1 : gFirst (bigF 1 1 ++ (bigF op 1 ++ (bigF id 4 ++ (bigF ino 4 ++ (bigF oth 4 ++ (bigF n 4 ++ (bigF m 4 ++ (textB nm ++ (textB tx ++ r))))))))) = 1 := by
    unfold gFirst gP0; rw [rdV_app (big1_len 1), big_be1 (by decide) (by decide)]
  generalize (bigF 1 1 ++ (bigF op 1 ++ (bigF id 4 ++ (bigF ino 4 ++ (bigF oth 4 ++ (bigF n 4 ++ (bigF m 4 ++ (textB nm ++ (textB tx ++ r))))))))) = s at *
  have p2 : gP2 s = (bigF id 4 ++ (bigF ino 4 ++ (bigF oth 4 ++ (bigF n 4 ++ (bigF m 4 ++ (textB nm ++ (textB tx ++ r)))))), false) := by rw [gP2, p1, rdS_app (big1_len op)]
  have o1 : gOp s = op := by rw [gOp, p1, rdV_app (big1_len op), big_be1 (by omega) (by omega)]
  have m0 : rdN 0 (gP2 s) = _ := p2
  have m1 : rdN 1 (gP2 s) = (bigF ino 4 ++ (bigF oth 4 ++ (bigF n 4 ++ (bigF m 4 ++ (textB nm ++ (textB tx ++ r))))), false) := by rw [rdN, m0, rdS_app (big4_len _)]
  have m2 : rdN 2 (gP2 s) = (bigF oth 4 ++ (bigF n 4 ++ (bigF m 4 ++ (textB nm ++ (textB tx ++ r)))), false) := by rw [rdN, m1, rdS_app (big4_len _)]
  have m3 : rdN 3 (gP2 s) = (bigF n 4 ++ (bigF m 4 ++ (textB nm ++ (textB tx ++ r))), false) := by rw [rdN, m2, rdS_app (big4_len _)]
  have m4 : rdN 4 (gP2 s) = (bigF m 4 ++ (textB nm ++ (textB tx ++ r)), false) := by rw [rdN, m3, rdS_app (big4_len _)]
  have p7 : gP7 s = (textB nm ++ (textB tx ++ r), false) := by rw [gP7, rdN, m4, rdS_app (big4_len _)]
  obtain ⟨t1, t2⟩ := txS_app (t := nm) (r := textB tx ++ r) (by omega)
  obtain ⟨t3, t4⟩ := txS_app (t := tx) (r := r) (by omega)
  have p8 : gP8 s = (textB tx ++ r, false) := by rw [gP8, p7, t1]
  refine ⟨by rw [gP9, p8, t3], f1, o1, ?_, ?_, ?_, ?_, ?_, by rw [gNm, p7, t2], by rw [gTx, p8, t4]⟩
  · rw [gNum, m0, rdV_app (big4_len _), big_be4 (by omega) (by omega)]
  · rw [gNum, m1, rdV_app (big4_len _), big_be4 (by omega) (by omega)]
  · rw [gNum, m2, rdV_app (big4_len _), big_be4 (by omega) (by omega)]
  · rw [gNum, m3, rdV_app (big4_len _), big_be4 (by omega) (by omega)]
  · rw [gNum, m4, rdV_app (big4_len _), big_be4 (by omega) (by omega)]

theorem getV_req {id op ino oth n m : Int} {nm tx : List UInt8} (hR : rightR id op ino oth n m nm tx = true) :
    getV (reqB id op ino oth n m nm tx) = .tuple [.agg [.int .i64 id, .int .i64 op, .int .i64 ino, .int .i64 oth, .int .i64 n, .int .i64 m, .str nm, .str tx], .int .i64 0] := by
  have h := gets_app hR []
  rw [List.append_nil] at h
  obtain ⟨h1, h2, h3, h4, h5, h6, h7, h8, h9, h10⟩ := h
  have hd : gDone (reqB id op ino oth n m nm tx) = true := by simp [gDone, h1, h2]
  have hr : gRight (reqB id op ino oth n m nm tx) = true := by simp only [gRight, h3, h4, h5, h6, h7, h8, h9, h10, hR]
  simp only [getV, hd, hr, gAgg, h3, h4, h5, h6, h7, h8, h9, h10]
  rfl
theorem getV_more {id op ino oth n m : Int} {nm tx : List UInt8} (hR : rightR id op ino oth n m nm tx = true) {r : List UInt8} (hr : r ≠ []) :
    getV (reqB id op ino oth n m nm tx ++ r) = .tuple [noReq, .int .i64 22] := by
  obtain ⟨h1, _⟩ := gets_app hR r
  have hd : gDone (reqB id op ino oth n m nm tx ++ r) = false := by
    simp only [gDone, h1]
    cases r with
    | nil => exact absurd rfl hr
    | cons a l => rfl
  simp only [getV, hd, Bool.false_and]
  rfl

theorem rdS_ok {n : Nat} {p : Rst} (h : (rdS n p).2 = false) : p.2 = false ∧ p.1 = bigF ((rdV n p : Nat) : Int) (n : Int) ++ (rdS n p).1 := by
  obtain ⟨s, b⟩ := p
  simp only [rdS, rdV, takeBad, Bool.or_eq_false_iff, decide_eq_false_iff_not] at h ⊢
  obtain ⟨rfl, hl⟩ := h
  have hb : takeBad n s false = false := by simp [takeBad, hl]
  have h1 : takeT n s false = s.take n := by unfold takeT; rw [hb]; rfl
  have h2 : takeR n s false = s.drop n := by unfold takeR; rw [hb]; rfl
  refine ⟨rfl, ?_⟩
  rw [h1, h2]
  have hlen : (s.take n).length = n := by rw [List.length_take]; omega
  have : bigF ((be (s.take n) : Nat) : Int) (n : Int) = s.take n := by
    unfold bigF
    simp only [Int.toNat_natCast]
    have := tobe_be (s.take n)
    rwa [hlen] at this
  rw [this, List.take_append_drop]
theorem txS_ok {p : Rst} (h : (txS p).2 = false) : p.2 = false ∧ p.1 = textB (txV p) ++ (txS p).1 := by
  have e : txS p = rdS (lenN p.1 p.2) (rdS 2 p) := rfl
  have h' : (rdS (lenN p.1 p.2) (rdS 2 p)).2 = false := h
  obtain ⟨h1, h2⟩ := rdS_ok h'
  obtain ⟨h3, h4⟩ := rdS_ok h1
  refine ⟨h3, ?_⟩
  have hv : txV p = takeT (lenN p.1 p.2) (rdS 2 p).1 (rdS 2 p).2 := rfl
  have hl : (txV p).length = lenN p.1 p.2 := by
    rw [hv]
    have hb : takeBad (lenN p.1 p.2) (rdS 2 p).1 (rdS 2 p).2 = false := h'
    unfold takeT; rw [hb]
    simp only [takeBad, Bool.or_eq_false_iff, decide_eq_false_iff_not] at hb
    simp only [Bool.false_eq_true, if_false, List.length_take]; omega
  have hx : bigF ((rdV (lenN p.1 p.2) (rdS 2 p) : Nat) : Int) ((lenN p.1 p.2 : Nat) : Int) = txV p := by
    unfold bigF
    simp only [Int.toNat_natCast]
    have := tobe_be (txV p)
    rw [hl] at this
    exact this
  rw [hx] at h2
  have hz : bigF ((rdV 2 p : Nat) : Int) ((2 : Nat) : Int) = tobe 2 (txV p).length := by
    rw [hl]; rfl
  rw [hz, h2, ← e] at h4
  rw [h4]; simp [textB]

/-- Bytes that are a request are that request's bytes. -/
theorem get_back {s : List UInt8} (h : gDone s = true) : s = reqB (gNum s 0) (gOp s) (gNum s 1) (gNum s 2) (gNum s 3) (gNum s 4) (gNm s) (gTx s) := by
  simp only [gDone, Bool.and_eq_true, Bool.not_eq_true', beq_iff_eq] at h
  obtain ⟨hb, hn, hf⟩ := h
  obtain ⟨b8, e8⟩ := txS_ok (p := gP8 s) hb
  obtain ⟨b7, e7⟩ := txS_ok (p := gP7 s) b8
  obtain ⟨b6, e6⟩ := rdS_ok (n := 4) (p := rdN 4 (gP2 s)) b7
  obtain ⟨b5, e5⟩ := rdS_ok (n := 4) (p := rdN 3 (gP2 s)) b6
  obtain ⟨b4, e4⟩ := rdS_ok (n := 4) (p := rdN 2 (gP2 s)) b5
  obtain ⟨b3, e3⟩ := rdS_ok (n := 4) (p := rdN 1 (gP2 s)) b4
  obtain ⟨b2, e2⟩ := rdS_ok (n := 4) (p := rdN 0 (gP2 s)) b3
  obtain ⟨b1, e1⟩ := rdS_ok (n := 1) (p := gP1 s) b2
  obtain ⟨b0, e0⟩ := rdS_ok (n := 1) (p := gP0 s) b1
  have hn' : (txS (gP8 s)).1 = [] := hn
  have f0 : ((rdV 1 (gP0 s) : Nat) : Int) = 1 := hf
  rw [hn', List.append_nil] at e8
  change (gP7 s).1 = textB (gNm s) ++ (gP8 s).1 at e7
  change (gP8 s).1 = textB (gTx s) at e8
  change (rdN 4 (gP2 s)).1 = bigF (gNum s 4) 4 ++ (gP7 s).1 at e6
  change (rdN 3 (gP2 s)).1 = bigF (gNum s 3) 4 ++ (rdN 4 (gP2 s)).1 at e5
  change (rdN 2 (gP2 s)).1 = bigF (gNum s 2) 4 ++ (rdN 3 (gP2 s)).1 at e4
  change (rdN 1 (gP2 s)).1 = bigF (gNum s 1) 4 ++ (rdN 2 (gP2 s)).1 at e3
  change (gP2 s).1 = bigF (gNum s 0) 4 ++ (rdN 1 (gP2 s)).1 at e2
  change (gP1 s).1 = bigF (gOp s) 1 ++ (gP2 s).1 at e1
  change s = bigF ((rdV 1 (gP0 s) : Nat) : Int) 1 ++ (gP1 s).1 at e0
  rw [f0, e1, e2, e3, e4, e5, e6, e7, e8] at e0
  exact e0

theorem numAt_app {a b r : List UInt8} {k n : Nat} (ha : a.length = k) (hb : b.length = n) : numAt (a ++ (b ++ r)) k n = be b := by
  subst ha hb
  simp [numAt]
theorem read_req {id op ino oth n m : Int} {nm tx : List UInt8} (hR : rightR id op ino oth n m nm tx = true) :
    readV (reqB id op ino oth n m nm tx) = .tuple [.agg [.int .i64 id, .int .i64 op, .int .i64 ino, .int .i64 oth, .int .i64 n, .int .i64 m, .str nm, .str tx], .bool true] := by
  obtain ⟨a1, a2, a3, a4, a5, a6, a7, a8, a9, a10, a11, a12, a13, a14⟩ := rightIs hR
  have hlen : (reqB id op ino oth n m nm tx).length = 26 + nm.length + tx.length := by simp [reqB, bigF_length, textB_length]; omega
  generalize hs : reqB id op ino oth n m nm tx = s at *
  have e0 : s = bigF 1 1 ++ (bigF op 1 ++ (bigF id 4 ++ (bigF ino 4 ++ (bigF oth 4 ++ (bigF n 4 ++ (bigF m 4 ++ (textB nm ++ textB tx))))))) := by rw [← hs]; rfl
  have n1 : rNum s 2 = id := by
    have : s = (bigF 1 1 ++ bigF op 1) ++ (bigF id 4 ++ (bigF ino 4 ++ (bigF oth 4 ++ (bigF n 4 ++ (bigF m 4 ++ (textB nm ++ textB tx)))))) := by rw [e0]; simp only [List.append_assoc]
    rw [rNum, this, numAt_app (by simp [bigF_length]) (big4_len _), big_be4 (by omega) (by omega)]
  have n2 : rNum s 6 = ino := by
    have : s = (bigF 1 1 ++ (bigF op 1 ++ bigF id 4)) ++ (bigF ino 4 ++ (bigF oth 4 ++ (bigF n 4 ++ (bigF m 4 ++ (textB nm ++ textB tx))))) := by rw [e0]; simp only [List.append_assoc]
    rw [rNum, this, numAt_app (by simp [bigF_length]) (big4_len _), big_be4 (by omega) (by omega)]
  have n3 : rNum s 10 = oth := by
    have : s = (bigF 1 1 ++ (bigF op 1 ++ (bigF id 4 ++ bigF ino 4))) ++ (bigF oth 4 ++ (bigF n 4 ++ (bigF m 4 ++ (textB nm ++ textB tx)))) := by rw [e0]; simp only [List.append_assoc]
    rw [rNum, this, numAt_app (by simp [bigF_length]) (big4_len _), big_be4 (by omega) (by omega)]
  have n4 : rNum s 14 = n := by
    have : s = (bigF 1 1 ++ (bigF op 1 ++ (bigF id 4 ++ (bigF ino 4 ++ bigF oth 4)))) ++ (bigF n 4 ++ (bigF m 4 ++ (textB nm ++ textB tx))) := by rw [e0]; simp only [List.append_assoc]
    rw [rNum, this, numAt_app (by simp [bigF_length]) (big4_len _), big_be4 (by omega) (by omega)]
  have n5 : rNum s 18 = m := by
    have : s = (bigF 1 1 ++ (bigF op 1 ++ (bigF id 4 ++ (bigF ino 4 ++ (bigF oth 4 ++ bigF n 4))))) ++ (bigF m 4 ++ (textB nm ++ textB tx)) := by rw [e0]; simp only [List.append_assoc]
    rw [rNum, this, numAt_app (by simp [bigF_length]) (big4_len _), big_be4 (by omega) (by omega)]
  have hA : rA s = nm.length := by
    have : s = (bigF 1 1 ++ (bigF op 1 ++ (bigF id 4 ++ (bigF ino 4 ++ (bigF oth 4 ++ (bigF n 4 ++ bigF m 4)))))) ++ (tobe 2 nm.length ++ (nm ++ textB tx)) := by rw [e0]; simp only [List.append_assoc, textB]
    rw [rA, this, numAt_app (by simp [bigF_length]) (tobe_length _ _), tobe2_len _ (by omega)]
  have hN : rNm s = nm := by
    have : s = (bigF 1 1 ++ (bigF op 1 ++ (bigF id 4 ++ (bigF ino 4 ++ (bigF oth 4 ++ (bigF n 4 ++ (bigF m 4 ++ tobe 2 nm.length))))))) ++ (nm ++ textB tx) := by rw [e0]; simp only [List.append_assoc, textB]
    rw [rNm, hA, this, List.drop_left' (by simp [bigF_length, tobe_length]), List.take_left' rfl]
  have hB : rB s = tx.length := by
    have : s = (bigF 1 1 ++ (bigF op 1 ++ (bigF id 4 ++ (bigF ino 4 ++ (bigF oth 4 ++ (bigF n 4 ++ (bigF m 4 ++ (tobe 2 nm.length ++ nm)))))))) ++ (tobe 2 tx.length ++ (tx ++ [])) := by rw [e0]; simp only [List.append_assoc, textB, List.append_nil]
    rw [rB, hA, this, numAt_app (by simp [bigF_length, tobe_length]; omega) (tobe_length _ _), tobe2_len _ (by omega)]
  have hT : rTx s = tx := by
    have : s = (bigF 1 1 ++ (bigF op 1 ++ (bigF id 4 ++ (bigF ino 4 ++ (bigF oth 4 ++ (bigF n 4 ++ (bigF m 4 ++ (tobe 2 nm.length ++ (nm ++ tobe 2 tx.length))))))))) ++ (tx ++ []) := by rw [e0]; simp only [List.append_assoc, textB, List.append_nil]
    rw [rTx, hA, hB, this, List.drop_left' (by simp [bigF_length, tobe_length]; omega), List.take_left' rfl]
  have hO : rOp s = op := by
    have e1 : s.getD 1 0 = UInt8.ofNat op.toNat := by
      rw [e0]
      simp [bigF, tobe]
    rw [rOp, e1]
    obtain ⟨a, rfl⟩ : ∃ a : Nat, op = (a : Int) := ⟨op.toNat, by omega⟩
    simp only [Int.toNat_natCast, UInt8.toNat_ofNat']
    omega
  have hH : s.getD 0 0 = 1 := by rw [e0]; rfl
  have hF : rFit s = true := by
    have l1 : decide (22 ≤ s.length) = true := decide_eq_true (by omega)
    have l2 : decide (24 + nm.length ≤ s.length) = true := decide_eq_true (by omega)
    have l3 : decide (24 + nm.length + 2 + tx.length ≤ s.length) = true := decide_eq_true (by omega)
    simp only [rFit, hH, hA, hB, l1, l2, l3]; rfl
  have hr : rRight s = true := by rw [rRight, n1, n2, n3, n4, n5, hO, hN, hT, hR]
  have hS : rSame s = true := by rw [rSame, n1, n2, n3, n4, n5, hO, hN, hT, hs]; simp
  simp only [readV, hF, hr, hS, rAgg, n1, n2, n3, n4, n5, hO, hN, hT]
  rfl

theorem both (s : List UInt8) : (∃ id op ino oth n m nm tx, getV s = .tuple [.agg [.int .i64 id, .int .i64 op, .int .i64 ino, .int .i64 oth, .int .i64 n, .int .i64 m, .str nm, .str tx], .int .i64 0] ∧ readV s = .tuple [.agg [.int .i64 id, .int .i64 op, .int .i64 ino, .int .i64 oth, .int .i64 n, .int .i64 m, .str nm, .str tx], .bool true]) ∨
    (getV s = .tuple [noReq, .int .i64 22] ∧ readV s = .tuple [noReq, .bool false]) := by
  cases hg : (gDone s && gRight s)
  · refine .inr ⟨by simp only [getV, hg]; rfl, ?_⟩
    cases hr : (rFit s && (rRight s && rSame s))
    · simp only [readV, hr]; rfl
    · exfalso
      simp only [Bool.and_eq_true] at hr
      obtain ⟨_, hr, hs⟩ := hr
      simp only [rSame, beq_iff_eq] at hs
      have h := getV_req hr
      rw [hs] at h
      simp only [getV, hg, Bool.false_eq_true, if_false, noReq] at h
      simp at h
  · simp only [Bool.and_eq_true] at hg
    have h := get_back hg.1
    have h1 := getV_req hg.2
    have h2 := read_req hg.2
    rw [← h] at h1 h2
    exact .inl ⟨_, _, _, _, _, _, _, _, h1, h2⟩
theorem get_cut {id op ino oth n m : Int} {nm tx : List UInt8} (hR : rightR id op ino oth n m nm tx = true) {k : Nat} (hk : k < (reqB id op ino oth n m nm tx).length) :
    getV ((reqB id op ino oth n m nm tx).take k) = .tuple [noReq, .int .i64 22] := by
  obtain ⟨h1, _⟩ := gets_app hR []
  rw [List.append_nil] at h1
  generalize reqB id op ino oth n m nm tx = s at *
  cases hg : (gDone (s.take k) && gRight (s.take k))
  · simp only [getV, hg]; rfl
  · exfalso
    simp only [Bool.and_eq_true] at hg
    have h := get_back hg.1
    have h2 := gets_app hg.2 (s.drop k)
    rw [← h, List.take_append_drop, h1] at h2
    have h3 := congrArg (fun p : Rst => p.1.length) h2.1
    simp only [List.length_nil, List.length_drop] at h3
    omega
theorem req_inj {id op ino oth n m id' op' ino' oth' n' m' : Int} {nm tx nm' tx' : List UInt8} (hR : rightR id op ino oth n m nm tx = true) (hR' : rightR id' op' ino' oth' n' m' nm' tx' = true) :
    (reqB id op ino oth n m nm tx == reqB id' op' ino' oth' n' m' nm' tx') = (id == id' && (op == op' && (ino == ino' && (oth == oth' && (n == n' && (m == m' && (nm == nm' && tx == tx'))))))) := by
  rw [Bool.eq_iff_iff]
  simp only [Bool.and_eq_true, beq_iff_eq]
  constructor
  · intro h
    have h1 := getV_req hR
    rw [h, getV_req hR'] at h1
    injection h1 with h1
    injection h1 with h1 _
    injection h1 with h1
    simp only [List.cons.injEq, V.int.injEq, V.str.injEq, true_and, and_true] at h1
    obtain ⟨a, b, c, d, e, f, g, i⟩ := h1
    exact ⟨a.symm, b.symm, c.symm, d.symm, e.symm, f.symm, g.symm, i.symm⟩
  · rintro ⟨rfl, rfl, rfl, rfl, rfl, rfl, rfl, rfl⟩
    rfl
end Go.Proofs.Ytjbblfoefibeaaa

/- Wire: the laws of requests. -/
namespace Go.Proofs.Ytjbblfoefibeaaa
open Go AM
set_option linter.unusedSimpArgs false
set_option linter.unusedVariables false
set_option maxRecDepth 100000

theorem putV_no {id op ino oth n m : Int} {nm tx : List UInt8} (h : rightR id op ino oth n m nm tx = false) : putV id op ino oth n m nm tx = .tuple [.str [], .int .i64 22] := by
  simp only [putV, h]; rfl
theorem putV_ok {id op ino oth n m : Int} {nm tx : List UInt8} (h : rightR id op ino oth n m nm tx = true) : putV id op ino oth n m nm tx = .tuple [.str (reqB id op ino oth n m nm tx), .int .i64 0] := by
  simp only [putV, h]; rfl
theorem reqB_len {id op ino oth n m : Int} {nm tx : List UInt8} : (reqB id op ino oth n m nm tx).length = 26 + nm.length + tx.length := by simp [reqB, bigF_length, textB_length]; omega

set_option maxHeartbeats 16000000 in
theorem lawRequests {h : Heap} (id op ino oth n m : Int) (nm tx s : List UInt8) :
    ∃ r oh, Den FF E7 3 [.agg [.int .i64 id, .int .i64 op, .int .i64 ino, .int .i64 oth, .int .i64 n, .int .i64 m, .str nm, .str tx], .str s] h = some (r, oh) ∧ r = .val (.bool true) := by
  refine To.denE hxE7 (f := 3) (a := af3) rfl (E7_none rfl) (Nat.le_of_ble_eq_true rfl) ?_
  have k1 : (2000 < (nm.length : Int)) = (2000 < nm.length) := propext (by omega)
  have k2 : (2000 < (tx.length : Int)) = (2000 < tx.length) := propext (by omega)
  have k3 : (2000 < (s.length : Int)) = (2000 < s.length) := propext (by omega)
  by_cases h1 : 2000 < nm.length
  · (repeat' (first | refine To.seq hxE7 ?_ | refine To.op0 hxE7 (by simp only [go_sem, eqs hxE7, reduceIte, Nat.reduceEqDiff, Nat.reduceAdd, Nat.reduceMul, Nat.reduceLT, Nat.reduceLeDiff, Int.reduceLT, Int.reduceLE, Int.reduceEq, reduceCtorEq, Int.reduceBEq, Int.reduceBNe, Int.reduceToNat, Nat.reduceSub, Nat.reduceDiv, Int.reduceNeg, Int.reduceAdd, Int.reduceSub, Int.reduceMul, Heap.gets, Heap.sets, Heap.get, bytesA_length, bytesA_one, bytesA_plains, List.take_of_length_le, List.drop_of_length_le, Nat.add_zero, V.one, Nat.reduceLeDiff, List.all_cons, List.all_nil, ne_eq, not_false_eq_true, Nat.zero_le, eAwake23_7 (), k1, h1]; rfl) ?_ | refine To.op1 hxE7 (by simp only [go_sem, eqs hxE7, reduceIte, Nat.reduceEqDiff, Nat.reduceAdd, Nat.reduceMul, Nat.reduceLT, Nat.reduceLeDiff, Int.reduceLT, Int.reduceLE, Int.reduceEq, reduceCtorEq, Int.reduceBEq, Int.reduceBNe, Int.reduceToNat, Nat.reduceSub, Nat.reduceDiv, Int.reduceNeg, Int.reduceAdd, Int.reduceSub, Int.reduceMul, Heap.gets, Heap.sets, Heap.get, bytesA_length, bytesA_one, bytesA_plains, List.take_of_length_le, List.drop_of_length_le, Nat.add_zero, V.one, Nat.reduceLeDiff, List.all_cons, List.all_nil, ne_eq, not_false_eq_true, Nat.zero_le, eAwake23_7 (), k1, h1]; rfl) ?_ | refine To.nop hxE7 ?_ | (refine To.condT hxE7 ?_ ?_; focus (simp only [go_sem, eqs hxE7, reduceIte, Nat.reduceEqDiff, Nat.reduceAdd, Nat.reduceMul, Nat.reduceLT, Nat.reduceLeDiff, Int.reduceLT, Int.reduceLE, Int.reduceEq, reduceCtorEq, Int.reduceBEq, Int.reduceBNe, Int.reduceToNat, Nat.reduceSub, Nat.reduceDiv, Int.reduceNeg, Int.reduceAdd, Int.reduceSub, Int.reduceMul, Heap.gets, Heap.sets, Heap.get, bytesA_length, bytesA_one, bytesA_plains, List.take_of_length_le, List.drop_of_length_le, Nat.add_zero, V.one, Nat.reduceLeDiff, List.all_cons, List.all_nil, ne_eq, not_false_eq_true, Nat.zero_le, eAwake23_7 (), k1, h1]; done)) | (refine To.condF hxE7 ?_ ?_; focus (simp only [go_sem, eqs hxE7, reduceIte, Nat.reduceEqDiff, Nat.reduceAdd, Nat.reduceMul, Nat.reduceLT, Nat.reduceLeDiff, Int.reduceLT, Int.reduceLE, Int.reduceEq, reduceCtorEq, Int.reduceBEq, Int.reduceBNe, Int.reduceToNat, Nat.reduceSub, Nat.reduceDiv, Int.reduceNeg, Int.reduceAdd, Int.reduceSub, Int.reduceMul, Heap.gets, Heap.sets, Heap.get, bytesA_length, bytesA_one, bytesA_plains, List.take_of_length_le, List.drop_of_length_le, Nat.add_zero, V.one, Nat.reduceLeDiff, List.all_cons, List.all_nil, ne_eq, not_false_eq_true, Nat.zero_le, eAwake23_7 (), k1, h1]; done)) | refine To.block hxE7 ?_ | refine To.scope hxE7 ?_ | refine To.ret hxE7 ?_ | refine To.exit hxE7 ?_ | refine To.skip hxE7 ?_ | refine To.label hxE7 ?_))
    refine ⟨_, _, fin1 (i := 4) rfl, ?_⟩
    simp only [go_sem, eqs hxE7, reduceIte, Nat.reduceEqDiff, Nat.reduceAdd, Nat.reduceMul, Nat.reduceLT, Nat.reduceLeDiff, Int.reduceLT, Int.reduceLE, Int.reduceEq, reduceCtorEq, Int.reduceBEq, Int.reduceBNe, Int.reduceToNat, Nat.reduceSub, Nat.reduceDiv, Int.reduceNeg, Int.reduceAdd, Int.reduceSub, Int.reduceMul]
  by_cases h2 : 2000 < tx.length
  · (repeat' (first | refine To.seq hxE7 ?_ | refine To.op0 hxE7 (by simp only [go_sem, eqs hxE7, reduceIte, Nat.reduceEqDiff, Nat.reduceAdd, Nat.reduceMul, Nat.reduceLT, Nat.reduceLeDiff, Int.reduceLT, Int.reduceLE, Int.reduceEq, reduceCtorEq, Int.reduceBEq, Int.reduceBNe, Int.reduceToNat, Nat.reduceSub, Nat.reduceDiv, Int.reduceNeg, Int.reduceAdd, Int.reduceSub, Int.reduceMul, Heap.gets, Heap.sets, Heap.get, bytesA_length, bytesA_one, bytesA_plains, List.take_of_length_le, List.drop_of_length_le, Nat.add_zero, V.one, Nat.reduceLeDiff, List.all_cons, List.all_nil, ne_eq, not_false_eq_true, Nat.zero_le, eAwake23_7 (), k1, h1, k2, h2]; rfl) ?_ | refine To.op1 hxE7 (by simp only [go_sem, eqs hxE7, reduceIte, Nat.reduceEqDiff, Nat.reduceAdd, Nat.reduceMul, Nat.reduceLT, Nat.reduceLeDiff, Int.reduceLT, Int.reduceLE, Int.reduceEq, reduceCtorEq, Int.reduceBEq, Int.reduceBNe, Int.reduceToNat, Nat.reduceSub, Nat.reduceDiv, Int.reduceNeg, Int.reduceAdd, Int.reduceSub, Int.reduceMul, Heap.gets, Heap.sets, Heap.get, bytesA_length, bytesA_one, bytesA_plains, List.take_of_length_le, List.drop_of_length_le, Nat.add_zero, V.one, Nat.reduceLeDiff, List.all_cons, List.all_nil, ne_eq, not_false_eq_true, Nat.zero_le, eAwake23_7 (), k1, h1, k2, h2]; rfl) ?_ | refine To.nop hxE7 ?_ | (refine To.condT hxE7 ?_ ?_; focus (simp only [go_sem, eqs hxE7, reduceIte, Nat.reduceEqDiff, Nat.reduceAdd, Nat.reduceMul, Nat.reduceLT, Nat.reduceLeDiff, Int.reduceLT, Int.reduceLE, Int.reduceEq, reduceCtorEq, Int.reduceBEq, Int.reduceBNe, Int.reduceToNat, Nat.reduceSub, Nat.reduceDiv, Int.reduceNeg, Int.reduceAdd, Int.reduceSub, Int.reduceMul, Heap.gets, Heap.sets, Heap.get, bytesA_length, bytesA_one, bytesA_plains, List.take_of_length_le, List.drop_of_length_le, Nat.add_zero, V.one, Nat.reduceLeDiff, List.all_cons, List.all_nil, ne_eq, not_false_eq_true, Nat.zero_le, eAwake23_7 (), k1, h1, k2, h2]; done)) | (refine To.condF hxE7 ?_ ?_; focus (simp only [go_sem, eqs hxE7, reduceIte, Nat.reduceEqDiff, Nat.reduceAdd, Nat.reduceMul, Nat.reduceLT, Nat.reduceLeDiff, Int.reduceLT, Int.reduceLE, Int.reduceEq, reduceCtorEq, Int.reduceBEq, Int.reduceBNe, Int.reduceToNat, Nat.reduceSub, Nat.reduceDiv, Int.reduceNeg, Int.reduceAdd, Int.reduceSub, Int.reduceMul, Heap.gets, Heap.sets, Heap.get, bytesA_length, bytesA_one, bytesA_plains, List.take_of_length_le, List.drop_of_length_le, Nat.add_zero, V.one, Nat.reduceLeDiff, List.all_cons, List.all_nil, ne_eq, not_false_eq_true, Nat.zero_le, eAwake23_7 (), k1, h1, k2, h2]; done)) | refine To.block hxE7 ?_ | refine To.scope hxE7 ?_ | refine To.ret hxE7 ?_ | refine To.exit hxE7 ?_ | refine To.skip hxE7 ?_ | refine To.label hxE7 ?_))
    refine ⟨_, _, fin1 (i := 4) rfl, ?_⟩
    simp only [go_sem, eqs hxE7, reduceIte, Nat.reduceEqDiff, Nat.reduceAdd, Nat.reduceMul, Nat.reduceLT, Nat.reduceLeDiff, Int.reduceLT, Int.reduceLE, Int.reduceEq, reduceCtorEq, Int.reduceBEq, Int.reduceBNe, Int.reduceToNat, Nat.reduceSub, Nat.reduceDiv, Int.reduceNeg, Int.reduceAdd, Int.reduceSub, Int.reduceMul]
  by_cases h3 : 2000 < s.length
  · (repeat' (first | refine To.seq hxE7 ?_ | refine To.op0 hxE7 (by simp only [go_sem, eqs hxE7, reduceIte, Nat.reduceEqDiff, Nat.reduceAdd, Nat.reduceMul, Nat.reduceLT, Nat.reduceLeDiff, Int.reduceLT, Int.reduceLE, Int.reduceEq, reduceCtorEq, Int.reduceBEq, Int.reduceBNe, Int.reduceToNat, Nat.reduceSub, Nat.reduceDiv, Int.reduceNeg, Int.reduceAdd, Int.reduceSub, Int.reduceMul, Heap.gets, Heap.sets, Heap.get, bytesA_length, bytesA_one, bytesA_plains, List.take_of_length_le, List.drop_of_length_le, Nat.add_zero, V.one, Nat.reduceLeDiff, List.all_cons, List.all_nil, ne_eq, not_false_eq_true, Nat.zero_le, eAwake23_7 (), k1, h1, k2, h2, k3, h3]; rfl) ?_ | refine To.op1 hxE7 (by simp only [go_sem, eqs hxE7, reduceIte, Nat.reduceEqDiff, Nat.reduceAdd, Nat.reduceMul, Nat.reduceLT, Nat.reduceLeDiff, Int.reduceLT, Int.reduceLE, Int.reduceEq, reduceCtorEq, Int.reduceBEq, Int.reduceBNe, Int.reduceToNat, Nat.reduceSub, Nat.reduceDiv, Int.reduceNeg, Int.reduceAdd, Int.reduceSub, Int.reduceMul, Heap.gets, Heap.sets, Heap.get, bytesA_length, bytesA_one, bytesA_plains, List.take_of_length_le, List.drop_of_length_le, Nat.add_zero, V.one, Nat.reduceLeDiff, List.all_cons, List.all_nil, ne_eq, not_false_eq_true, Nat.zero_le, eAwake23_7 (), k1, h1, k2, h2, k3, h3]; rfl) ?_ | refine To.nop hxE7 ?_ | (refine To.condT hxE7 ?_ ?_; focus (simp only [go_sem, eqs hxE7, reduceIte, Nat.reduceEqDiff, Nat.reduceAdd, Nat.reduceMul, Nat.reduceLT, Nat.reduceLeDiff, Int.reduceLT, Int.reduceLE, Int.reduceEq, reduceCtorEq, Int.reduceBEq, Int.reduceBNe, Int.reduceToNat, Nat.reduceSub, Nat.reduceDiv, Int.reduceNeg, Int.reduceAdd, Int.reduceSub, Int.reduceMul, Heap.gets, Heap.sets, Heap.get, bytesA_length, bytesA_one, bytesA_plains, List.take_of_length_le, List.drop_of_length_le, Nat.add_zero, V.one, Nat.reduceLeDiff, List.all_cons, List.all_nil, ne_eq, not_false_eq_true, Nat.zero_le, eAwake23_7 (), k1, h1, k2, h2, k3, h3]; done)) | (refine To.condF hxE7 ?_ ?_; focus (simp only [go_sem, eqs hxE7, reduceIte, Nat.reduceEqDiff, Nat.reduceAdd, Nat.reduceMul, Nat.reduceLT, Nat.reduceLeDiff, Int.reduceLT, Int.reduceLE, Int.reduceEq, reduceCtorEq, Int.reduceBEq, Int.reduceBNe, Int.reduceToNat, Nat.reduceSub, Nat.reduceDiv, Int.reduceNeg, Int.reduceAdd, Int.reduceSub, Int.reduceMul, Heap.gets, Heap.sets, Heap.get, bytesA_length, bytesA_one, bytesA_plains, List.take_of_length_le, List.drop_of_length_le, Nat.add_zero, V.one, Nat.reduceLeDiff, List.all_cons, List.all_nil, ne_eq, not_false_eq_true, Nat.zero_le, eAwake23_7 (), k1, h1, k2, h2, k3, h3]; done)) | refine To.block hxE7 ?_ | refine To.scope hxE7 ?_ | refine To.ret hxE7 ?_ | refine To.exit hxE7 ?_ | refine To.skip hxE7 ?_ | refine To.label hxE7 ?_))
    refine ⟨_, _, fin1 (i := 4) rfl, ?_⟩
    simp only [go_sem, eqs hxE7, reduceIte, Nat.reduceEqDiff, Nat.reduceAdd, Nat.reduceMul, Nat.reduceLT, Nat.reduceLeDiff, Int.reduceLT, Int.reduceLE, Int.reduceEq, reduceCtorEq, Int.reduceBEq, Int.reduceBNe, Int.reduceToNat, Nat.reduceSub, Nat.reduceDiv, Int.reduceNeg, Int.reduceAdd, Int.reduceSub, Int.reduceMul]
  have q1 := fun h => eRRight_7 id op ino oth n m nm tx h
  have q2 := fun h => eRight_7 id op ino oth n m nm tx h
  have q3 := fun h => ePut_7 id op ino oth n m nm tx h
  have q4 := fun h => eGet_7 s (by omega) h
  have q5 := fun h => eRead_7 s (by omega) h
  cases hR : rightR id op ino oth n m nm tx
  · rw [hR] at q1 q2
    rw [putV_no hR] at q3
    rcases both s with ⟨id', op', ino', oth', n', m', nm', tx', h4, h5⟩ | ⟨h4, h5⟩
    · rw [h4] at q4
      rw [h5] at q5
      (repeat' (first | refine To.seq hxE7 ?_ | refine To.op0 hxE7 (by simp only [go_sem, eqs hxE7, reduceIte, Nat.reduceEqDiff, Nat.reduceAdd, Nat.reduceMul, Nat.reduceLT, Nat.reduceLeDiff, Int.reduceLT, Int.reduceLE, Int.reduceEq, reduceCtorEq, Int.reduceBEq, Int.reduceBNe, Int.reduceToNat, Nat.reduceSub, Nat.reduceDiv, Int.reduceNeg, Int.reduceAdd, Int.reduceSub, Int.reduceMul, Heap.gets, Heap.sets, Heap.get, bytesA_length, bytesA_one, bytesA_plains, List.take_of_length_le, List.drop_of_length_le, Nat.add_zero, V.one, Nat.reduceLeDiff, List.all_cons, List.all_nil, ne_eq, not_false_eq_true, Nat.zero_le, eAwake23_7 (), k1, h1, k2, h2, k3, h3, q1, q2, q3, q4, q5, beq_self_eq_true, Bool.and_true]; rfl) ?_ | refine To.op1 hxE7 (by simp only [go_sem, eqs hxE7, reduceIte, Nat.reduceEqDiff, Nat.reduceAdd, Nat.reduceMul, Nat.reduceLT, Nat.reduceLeDiff, Int.reduceLT, Int.reduceLE, Int.reduceEq, reduceCtorEq, Int.reduceBEq, Int.reduceBNe, Int.reduceToNat, Nat.reduceSub, Nat.reduceDiv, Int.reduceNeg, Int.reduceAdd, Int.reduceSub, Int.reduceMul, Heap.gets, Heap.sets, Heap.get, bytesA_length, bytesA_one, bytesA_plains, List.take_of_length_le, List.drop_of_length_le, Nat.add_zero, V.one, Nat.reduceLeDiff, List.all_cons, List.all_nil, ne_eq, not_false_eq_true, Nat.zero_le, eAwake23_7 (), k1, h1, k2, h2, k3, h3, q1, q2, q3, q4, q5, beq_self_eq_true, Bool.and_true]; rfl) ?_ | refine To.nop hxE7 ?_ | (refine To.condT hxE7 ?_ ?_; focus (simp only [go_sem, eqs hxE7, reduceIte, Nat.reduceEqDiff, Nat.reduceAdd, Nat.reduceMul, Nat.reduceLT, Nat.reduceLeDiff, Int.reduceLT, Int.reduceLE, Int.reduceEq, reduceCtorEq, Int.reduceBEq, Int.reduceBNe, Int.reduceToNat, Nat.reduceSub, Nat.reduceDiv, Int.reduceNeg, Int.reduceAdd, Int.reduceSub, Int.reduceMul, Heap.gets, Heap.sets, Heap.get, bytesA_length, bytesA_one, bytesA_plains, List.take_of_length_le, List.drop_of_length_le, Nat.add_zero, V.one, Nat.reduceLeDiff, List.all_cons, List.all_nil, ne_eq, not_false_eq_true, Nat.zero_le, eAwake23_7 (), k1, h1, k2, h2, k3, h3, q1, q2, q3, q4, q5, beq_self_eq_true, Bool.and_true]; done)) | (refine To.condF hxE7 ?_ ?_; focus (simp only [go_sem, eqs hxE7, reduceIte, Nat.reduceEqDiff, Nat.reduceAdd, Nat.reduceMul, Nat.reduceLT, Nat.reduceLeDiff, Int.reduceLT, Int.reduceLE, Int.reduceEq, reduceCtorEq, Int.reduceBEq, Int.reduceBNe, Int.reduceToNat, Nat.reduceSub, Nat.reduceDiv, Int.reduceNeg, Int.reduceAdd, Int.reduceSub, Int.reduceMul, Heap.gets, Heap.sets, Heap.get, bytesA_length, bytesA_one, bytesA_plains, List.take_of_length_le, List.drop_of_length_le, Nat.add_zero, V.one, Nat.reduceLeDiff, List.all_cons, List.all_nil, ne_eq, not_false_eq_true, Nat.zero_le, eAwake23_7 (), k1, h1, k2, h2, k3, h3, q1, q2, q3, q4, q5, beq_self_eq_true, Bool.and_true]; done)) | refine To.block hxE7 ?_ | refine To.scope hxE7 ?_ | refine To.ret hxE7 ?_ | refine To.exit hxE7 ?_ | refine To.skip hxE7 ?_ | refine To.label hxE7 ?_))
      refine ⟨_, _, fin1 (i := 4) rfl, ?_⟩
      simp only [go_sem, eqs hxE7, reduceIte, Nat.reduceEqDiff, Nat.reduceAdd, Nat.reduceMul, Nat.reduceLT, Nat.reduceLeDiff, Int.reduceLT, Int.reduceLE, Int.reduceEq, reduceCtorEq, Int.reduceBEq, Int.reduceBNe, Int.reduceToNat, Nat.reduceSub, Nat.reduceDiv, Int.reduceNeg, Int.reduceAdd, Int.reduceSub, Int.reduceMul]
    · rw [h4] at q4
      rw [h5] at q5
      unfold noReq at q4 q5
      (repeat' (first | refine To.seq hxE7 ?_ | refine To.op0 hxE7 (by simp only [go_sem, eqs hxE7, reduceIte, Nat.reduceEqDiff, Nat.reduceAdd, Nat.reduceMul, Nat.reduceLT, Nat.reduceLeDiff, Int.reduceLT, Int.reduceLE, Int.reduceEq, reduceCtorEq, Int.reduceBEq, Int.reduceBNe, Int.reduceToNat, Nat.reduceSub, Nat.reduceDiv, Int.reduceNeg, Int.reduceAdd, Int.reduceSub, Int.reduceMul, Heap.gets, Heap.sets, Heap.get, bytesA_length, bytesA_one, bytesA_plains, List.take_of_length_le, List.drop_of_length_le, Nat.add_zero, V.one, Nat.reduceLeDiff, List.all_cons, List.all_nil, ne_eq, not_false_eq_true, Nat.zero_le, eAwake23_7 (), k1, h1, k2, h2, k3, h3, q1, q2, q3, q4, q5, beq_self_eq_true, Bool.and_true]; rfl) ?_ | refine To.op1 hxE7 (by simp only [go_sem, eqs hxE7, reduceIte, Nat.reduceEqDiff, Nat.reduceAdd, Nat.reduceMul, Nat.reduceLT, Nat.reduceLeDiff, Int.reduceLT, Int.reduceLE, Int.reduceEq, reduceCtorEq, Int.reduceBEq, Int.reduceBNe, Int.reduceToNat, Nat.reduceSub, Nat.reduceDiv, Int.reduceNeg, Int.reduceAdd, Int.reduceSub, Int.reduceMul, Heap.gets, Heap.sets, Heap.get, bytesA_length, bytesA_one, bytesA_plains, List.take_of_length_le, List.drop_of_length_le, Nat.add_zero, V.one, Nat.reduceLeDiff, List.all_cons, List.all_nil, ne_eq, not_false_eq_true, Nat.zero_le, eAwake23_7 (), k1, h1, k2, h2, k3, h3, q1, q2, q3, q4, q5, beq_self_eq_true, Bool.and_true]; rfl) ?_ | refine To.nop hxE7 ?_ | (refine To.condT hxE7 ?_ ?_; focus (simp only [go_sem, eqs hxE7, reduceIte, Nat.reduceEqDiff, Nat.reduceAdd, Nat.reduceMul, Nat.reduceLT, Nat.reduceLeDiff, Int.reduceLT, Int.reduceLE, Int.reduceEq, reduceCtorEq, Int.reduceBEq, Int.reduceBNe, Int.reduceToNat, Nat.reduceSub, Nat.reduceDiv, Int.reduceNeg, Int.reduceAdd, Int.reduceSub, Int.reduceMul, Heap.gets, Heap.sets, Heap.get, bytesA_length, bytesA_one, bytesA_plains, List.take_of_length_le, List.drop_of_length_le, Nat.add_zero, V.one, Nat.reduceLeDiff, List.all_cons, List.all_nil, ne_eq, not_false_eq_true, Nat.zero_le, eAwake23_7 (), k1, h1, k2, h2, k3, h3, q1, q2, q3, q4, q5, beq_self_eq_true, Bool.and_true]; done)) | (refine To.condF hxE7 ?_ ?_; focus (simp only [go_sem, eqs hxE7, reduceIte, Nat.reduceEqDiff, Nat.reduceAdd, Nat.reduceMul, Nat.reduceLT, Nat.reduceLeDiff, Int.reduceLT, Int.reduceLE, Int.reduceEq, reduceCtorEq, Int.reduceBEq, Int.reduceBNe, Int.reduceToNat, Nat.reduceSub, Nat.reduceDiv, Int.reduceNeg, Int.reduceAdd, Int.reduceSub, Int.reduceMul, Heap.gets, Heap.sets, Heap.get, bytesA_length, bytesA_one, bytesA_plains, List.take_of_length_le, List.drop_of_length_le, Nat.add_zero, V.one, Nat.reduceLeDiff, List.all_cons, List.all_nil, ne_eq, not_false_eq_true, Nat.zero_le, eAwake23_7 (), k1, h1, k2, h2, k3, h3, q1, q2, q3, q4, q5, beq_self_eq_true, Bool.and_true]; done)) | refine To.block hxE7 ?_ | refine To.scope hxE7 ?_ | refine To.ret hxE7 ?_ | refine To.exit hxE7 ?_ | refine To.skip hxE7 ?_ | refine To.label hxE7 ?_))
      refine ⟨_, _, fin1 (i := 4) rfl, ?_⟩
      simp only [go_sem, eqs hxE7, reduceIte, Nat.reduceEqDiff, Nat.reduceAdd, Nat.reduceMul, Nat.reduceLT, Nat.reduceLeDiff, Int.reduceLT, Int.reduceLE, Int.reduceEq, reduceCtorEq, Int.reduceBEq, Int.reduceBNe, Int.reduceToNat, Nat.reduceSub, Nat.reduceDiv, Int.reduceNeg, Int.reduceAdd, Int.reduceSub, Int.reduceMul]
  · rw [hR] at q1 q2
    rw [putV_ok hR] at q3
    have q6 := fun h => eReqB_7 id op ino oth n m nm tx hR h
    have q7 := fun h => eGet_7 (reqB id op ino oth n m nm tx) (by rw [reqB_len]; omega) h
    rw [getV_req hR] at q7
    generalize reqB id op ino oth n m nm tx = t at *
    rcases both s with ⟨id', op', ino', oth', n', m', nm', tx', h4, h5⟩ | ⟨h4, h5⟩
    · rw [h4] at q4
      rw [h5] at q5
      (repeat' (first | refine To.seq hxE7 ?_ | refine To.op0 hxE7 (by simp only [go_sem, eqs hxE7, reduceIte, Nat.reduceEqDiff, Nat.reduceAdd, Nat.reduceMul, Nat.reduceLT, Nat.reduceLeDiff, Int.reduceLT, Int.reduceLE, Int.reduceEq, reduceCtorEq, Int.reduceBEq, Int.reduceBNe, Int.reduceToNat, Nat.reduceSub, Nat.reduceDiv, Int.reduceNeg, Int.reduceAdd, Int.reduceSub, Int.reduceMul, Heap.gets, Heap.sets, Heap.get, bytesA_length, bytesA_one, bytesA_plains, List.take_of_length_le, List.drop_of_length_le, Nat.add_zero, V.one, Nat.reduceLeDiff, List.all_cons, List.all_nil, ne_eq, not_false_eq_true, Nat.zero_le, eAwake23_7 (), k1, h1, k2, h2, k3, h3, q1, q2, q3, q7, q4, q5, q6, beq_self_eq_true, Bool.and_true]; rfl) ?_ | refine To.op1 hxE7 (by simp only [go_sem, eqs hxE7, reduceIte, Nat.reduceEqDiff, Nat.reduceAdd, Nat.reduceMul, Nat.reduceLT, Nat.reduceLeDiff, Int.reduceLT, Int.reduceLE, Int.reduceEq, reduceCtorEq, Int.reduceBEq, Int.reduceBNe, Int.reduceToNat, Nat.reduceSub, Nat.reduceDiv, Int.reduceNeg, Int.reduceAdd, Int.reduceSub, Int.reduceMul, Heap.gets, Heap.sets, Heap.get, bytesA_length, bytesA_one, bytesA_plains, List.take_of_length_le, List.drop_of_length_le, Nat.add_zero, V.one, Nat.reduceLeDiff, List.all_cons, List.all_nil, ne_eq, not_false_eq_true, Nat.zero_le, eAwake23_7 (), k1, h1, k2, h2, k3, h3, q1, q2, q3, q7, q4, q5, q6, beq_self_eq_true, Bool.and_true]; rfl) ?_ | refine To.nop hxE7 ?_ | (refine To.condT hxE7 ?_ ?_; focus (simp only [go_sem, eqs hxE7, reduceIte, Nat.reduceEqDiff, Nat.reduceAdd, Nat.reduceMul, Nat.reduceLT, Nat.reduceLeDiff, Int.reduceLT, Int.reduceLE, Int.reduceEq, reduceCtorEq, Int.reduceBEq, Int.reduceBNe, Int.reduceToNat, Nat.reduceSub, Nat.reduceDiv, Int.reduceNeg, Int.reduceAdd, Int.reduceSub, Int.reduceMul, Heap.gets, Heap.sets, Heap.get, bytesA_length, bytesA_one, bytesA_plains, List.take_of_length_le, List.drop_of_length_le, Nat.add_zero, V.one, Nat.reduceLeDiff, List.all_cons, List.all_nil, ne_eq, not_false_eq_true, Nat.zero_le, eAwake23_7 (), k1, h1, k2, h2, k3, h3, q1, q2, q3, q7, q4, q5, q6, beq_self_eq_true, Bool.and_true]; done)) | (refine To.condF hxE7 ?_ ?_; focus (simp only [go_sem, eqs hxE7, reduceIte, Nat.reduceEqDiff, Nat.reduceAdd, Nat.reduceMul, Nat.reduceLT, Nat.reduceLeDiff, Int.reduceLT, Int.reduceLE, Int.reduceEq, reduceCtorEq, Int.reduceBEq, Int.reduceBNe, Int.reduceToNat, Nat.reduceSub, Nat.reduceDiv, Int.reduceNeg, Int.reduceAdd, Int.reduceSub, Int.reduceMul, Heap.gets, Heap.sets, Heap.get, bytesA_length, bytesA_one, bytesA_plains, List.take_of_length_le, List.drop_of_length_le, Nat.add_zero, V.one, Nat.reduceLeDiff, List.all_cons, List.all_nil, ne_eq, not_false_eq_true, Nat.zero_le, eAwake23_7 (), k1, h1, k2, h2, k3, h3, q1, q2, q3, q7, q4, q5, q6, beq_self_eq_true, Bool.and_true]; done)) | refine To.block hxE7 ?_ | refine To.scope hxE7 ?_ | refine To.ret hxE7 ?_ | refine To.exit hxE7 ?_ | refine To.skip hxE7 ?_ | refine To.label hxE7 ?_))
      refine ⟨_, _, fin1 (i := 4) rfl, ?_⟩
      simp only [go_sem, eqs hxE7, reduceIte, Nat.reduceEqDiff, Nat.reduceAdd, Nat.reduceMul, Nat.reduceLT, Nat.reduceLeDiff, Int.reduceLT, Int.reduceLE, Int.reduceEq, reduceCtorEq, Int.reduceBEq, Int.reduceBNe, Int.reduceToNat, Nat.reduceSub, Nat.reduceDiv, Int.reduceNeg, Int.reduceAdd, Int.reduceSub, Int.reduceMul]
    · rw [h4] at q4
      rw [h5] at q5
      unfold noReq at q4 q5
      (repeat' (first | refine To.seq hxE7 ?_ | refine To.op0 hxE7 (by simp only [go_sem, eqs hxE7, reduceIte, Nat.reduceEqDiff, Nat.reduceAdd, Nat.reduceMul, Nat.reduceLT, Nat.reduceLeDiff, Int.reduceLT, Int.reduceLE, Int.reduceEq, reduceCtorEq, Int.reduceBEq, Int.reduceBNe, Int.reduceToNat, Nat.reduceSub, Nat.reduceDiv, Int.reduceNeg, Int.reduceAdd, Int.reduceSub, Int.reduceMul, Heap.gets, Heap.sets, Heap.get, bytesA_length, bytesA_one, bytesA_plains, List.take_of_length_le, List.drop_of_length_le, Nat.add_zero, V.one, Nat.reduceLeDiff, List.all_cons, List.all_nil, ne_eq, not_false_eq_true, Nat.zero_le, eAwake23_7 (), k1, h1, k2, h2, k3, h3, q1, q2, q3, q7, q4, q5, q6, beq_self_eq_true, Bool.and_true]; rfl) ?_ | refine To.op1 hxE7 (by simp only [go_sem, eqs hxE7, reduceIte, Nat.reduceEqDiff, Nat.reduceAdd, Nat.reduceMul, Nat.reduceLT, Nat.reduceLeDiff, Int.reduceLT, Int.reduceLE, Int.reduceEq, reduceCtorEq, Int.reduceBEq, Int.reduceBNe, Int.reduceToNat, Nat.reduceSub, Nat.reduceDiv, Int.reduceNeg, Int.reduceAdd, Int.reduceSub, Int.reduceMul, Heap.gets, Heap.sets, Heap.get, bytesA_length, bytesA_one, bytesA_plains, List.take_of_length_le, List.drop_of_length_le, Nat.add_zero, V.one, Nat.reduceLeDiff, List.all_cons, List.all_nil, ne_eq, not_false_eq_true, Nat.zero_le, eAwake23_7 (), k1, h1, k2, h2, k3, h3, q1, q2, q3, q7, q4, q5, q6, beq_self_eq_true, Bool.and_true]; rfl) ?_ | refine To.nop hxE7 ?_ | (refine To.condT hxE7 ?_ ?_; focus (simp only [go_sem, eqs hxE7, reduceIte, Nat.reduceEqDiff, Nat.reduceAdd, Nat.reduceMul, Nat.reduceLT, Nat.reduceLeDiff, Int.reduceLT, Int.reduceLE, Int.reduceEq, reduceCtorEq, Int.reduceBEq, Int.reduceBNe, Int.reduceToNat, Nat.reduceSub, Nat.reduceDiv, Int.reduceNeg, Int.reduceAdd, Int.reduceSub, Int.reduceMul, Heap.gets, Heap.sets, Heap.get, bytesA_length, bytesA_one, bytesA_plains, List.take_of_length_le, List.drop_of_length_le, Nat.add_zero, V.one, Nat.reduceLeDiff, List.all_cons, List.all_nil, ne_eq, not_false_eq_true, Nat.zero_le, eAwake23_7 (), k1, h1, k2, h2, k3, h3, q1, q2, q3, q7, q4, q5, q6, beq_self_eq_true, Bool.and_true]; done)) | (refine To.condF hxE7 ?_ ?_; focus (simp only [go_sem, eqs hxE7, reduceIte, Nat.reduceEqDiff, Nat.reduceAdd, Nat.reduceMul, Nat.reduceLT, Nat.reduceLeDiff, Int.reduceLT, Int.reduceLE, Int.reduceEq, reduceCtorEq, Int.reduceBEq, Int.reduceBNe, Int.reduceToNat, Nat.reduceSub, Nat.reduceDiv, Int.reduceNeg, Int.reduceAdd, Int.reduceSub, Int.reduceMul, Heap.gets, Heap.sets, Heap.get, bytesA_length, bytesA_one, bytesA_plains, List.take_of_length_le, List.drop_of_length_le, Nat.add_zero, V.one, Nat.reduceLeDiff, List.all_cons, List.all_nil, ne_eq, not_false_eq_true, Nat.zero_le, eAwake23_7 (), k1, h1, k2, h2, k3, h3, q1, q2, q3, q7, q4, q5, q6, beq_self_eq_true, Bool.and_true]; done)) | refine To.block hxE7 ?_ | refine To.scope hxE7 ?_ | refine To.ret hxE7 ?_ | refine To.exit hxE7 ?_ | refine To.skip hxE7 ?_ | refine To.label hxE7 ?_))
      refine ⟨_, _, fin1 (i := 4) rfl, ?_⟩
      simp only [go_sem, eqs hxE7, reduceIte, Nat.reduceEqDiff, Nat.reduceAdd, Nat.reduceMul, Nat.reduceLT, Nat.reduceLeDiff, Int.reduceLT, Int.reduceLE, Int.reduceEq, reduceCtorEq, Int.reduceBEq, Int.reduceBNe, Int.reduceToNat, Nat.reduceSub, Nat.reduceDiv, Int.reduceNeg, Int.reduceAdd, Int.reduceSub, Int.reduceMul]

set_option maxHeartbeats 16000000 in
theorem lawUnlike {h : Heap} (id op ino oth n m id' op' ino' oth' n' m' : Int) (nm tx nm' tx' : List UInt8) (cut : Int) :
    ∃ r oh, Den FF E7 4 [.agg [.int .i64 id, .int .i64 op, .int .i64 ino, .int .i64 oth, .int .i64 n, .int .i64 m, .str nm, .str tx], .agg [.int .i64 id', .int .i64 op', .int .i64 ino', .int .i64 oth', .int .i64 n', .int .i64 m', .str nm', .str tx'], .int .i64 cut] h = some (r, oh) ∧ r = .val (.bool true) := by
  refine To.denE hxE7 (f := 4) (a := af4) rfl (E7_none rfl) (Nat.le_of_ble_eq_true rfl) ?_
  have k1 : (2000 < (nm.length : Int)) = (2000 < nm.length) := propext (by omega)
  have k2 : (2000 < (tx.length : Int)) = (2000 < tx.length) := propext (by omega)
  have k3 : (2000 < (nm'.length : Int)) = (2000 < nm'.length) := propext (by omega)
  have k4 : (2000 < (tx'.length : Int)) = (2000 < tx'.length) := propext (by omega)
  by_cases h1 : 2000 < nm.length
  · (repeat' (first | refine To.seq hxE7 ?_ | refine To.op0 hxE7 (by simp only [go_sem, eqs hxE7, reduceIte, Nat.reduceEqDiff, Nat.reduceAdd, Nat.reduceMul, Nat.reduceLT, Nat.reduceLeDiff, Int.reduceLT, Int.reduceLE, Int.reduceEq, reduceCtorEq, Int.reduceBEq, Int.reduceBNe, Int.reduceToNat, Nat.reduceSub, Nat.reduceDiv, Int.reduceNeg, Int.reduceAdd, Int.reduceSub, Int.reduceMul, Heap.gets, Heap.sets, Heap.get, bytesA_length, bytesA_one, bytesA_plains, List.take_of_length_le, List.drop_of_length_le, Nat.add_zero, V.one, Nat.reduceLeDiff, List.all_cons, List.all_nil, ne_eq, not_false_eq_true, Nat.zero_le, eAwake23_7 (), k1, h1]; rfl) ?_ | refine To.op1 hxE7 (by simp only [go_sem, eqs hxE7, reduceIte, Nat.reduceEqDiff, Nat.reduceAdd, Nat.reduceMul, Nat.reduceLT, Nat.reduceLeDiff, Int.reduceLT, Int.reduceLE, Int.reduceEq, reduceCtorEq, Int.reduceBEq, Int.reduceBNe, Int.reduceToNat, Nat.reduceSub, Nat.reduceDiv, Int.reduceNeg, Int.reduceAdd, Int.reduceSub, Int.reduceMul, Heap.gets, Heap.sets, Heap.get, bytesA_length, bytesA_one, bytesA_plains, List.take_of_length_le, List.drop_of_length_le, Nat.add_zero, V.one, Nat.reduceLeDiff, List.all_cons, List.all_nil, ne_eq, not_false_eq_true, Nat.zero_le, eAwake23_7 (), k1, h1]; rfl) ?_ | refine To.nop hxE7 ?_ | (refine To.condT hxE7 ?_ ?_; focus (simp only [go_sem, eqs hxE7, reduceIte, Nat.reduceEqDiff, Nat.reduceAdd, Nat.reduceMul, Nat.reduceLT, Nat.reduceLeDiff, Int.reduceLT, Int.reduceLE, Int.reduceEq, reduceCtorEq, Int.reduceBEq, Int.reduceBNe, Int.reduceToNat, Nat.reduceSub, Nat.reduceDiv, Int.reduceNeg, Int.reduceAdd, Int.reduceSub, Int.reduceMul, Heap.gets, Heap.sets, Heap.get, bytesA_length, bytesA_one, bytesA_plains, List.take_of_length_le, List.drop_of_length_le, Nat.add_zero, V.one, Nat.reduceLeDiff, List.all_cons, List.all_nil, ne_eq, not_false_eq_true, Nat.zero_le, eAwake23_7 (), k1, h1]; done)) | (refine To.condF hxE7 ?_ ?_; focus (simp only [go_sem, eqs hxE7, reduceIte, Nat.reduceEqDiff, Nat.reduceAdd, Nat.reduceMul, Nat.reduceLT, Nat.reduceLeDiff, Int.reduceLT, Int.reduceLE, Int.reduceEq, reduceCtorEq, Int.reduceBEq, Int.reduceBNe, Int.reduceToNat, Nat.reduceSub, Nat.reduceDiv, Int.reduceNeg, Int.reduceAdd, Int.reduceSub, Int.reduceMul, Heap.gets, Heap.sets, Heap.get, bytesA_length, bytesA_one, bytesA_plains, List.take_of_length_le, List.drop_of_length_le, Nat.add_zero, V.one, Nat.reduceLeDiff, List.all_cons, List.all_nil, ne_eq, not_false_eq_true, Nat.zero_le, eAwake23_7 (), k1, h1]; done)) | refine To.block hxE7 ?_ | refine To.scope hxE7 ?_ | refine To.ret hxE7 ?_ | refine To.exit hxE7 ?_ | refine To.skip hxE7 ?_ | refine To.label hxE7 ?_))
    refine ⟨_, _, fin1 (i := 6) rfl, ?_⟩
    simp only [go_sem, eqs hxE7, reduceIte, Nat.reduceEqDiff, Nat.reduceAdd, Nat.reduceMul, Nat.reduceLT, Nat.reduceLeDiff, Int.reduceLT, Int.reduceLE, Int.reduceEq, reduceCtorEq, Int.reduceBEq, Int.reduceBNe, Int.reduceToNat, Nat.reduceSub, Nat.reduceDiv, Int.reduceNeg, Int.reduceAdd, Int.reduceSub, Int.reduceMul]
  by_cases h2 : 2000 < tx.length
  · (repeat' (first | refine To.seq hxE7 ?_ | refine To.op0 hxE7 (by simp only [go_sem, eqs hxE7, reduceIte, Nat.reduceEqDiff, Nat.reduceAdd, Nat.reduceMul, Nat.reduceLT, Nat.reduceLeDiff, Int.reduceLT, Int.reduceLE, Int.reduceEq, reduceCtorEq, Int.reduceBEq, Int.reduceBNe, Int.reduceToNat, Nat.reduceSub, Nat.reduceDiv, Int.reduceNeg, Int.reduceAdd, Int.reduceSub, Int.reduceMul, Heap.gets, Heap.sets, Heap.get, bytesA_length, bytesA_one, bytesA_plains, List.take_of_length_le, List.drop_of_length_le, Nat.add_zero, V.one, Nat.reduceLeDiff, List.all_cons, List.all_nil, ne_eq, not_false_eq_true, Nat.zero_le, eAwake23_7 (), k1, h1, k2, h2]; rfl) ?_ | refine To.op1 hxE7 (by simp only [go_sem, eqs hxE7, reduceIte, Nat.reduceEqDiff, Nat.reduceAdd, Nat.reduceMul, Nat.reduceLT, Nat.reduceLeDiff, Int.reduceLT, Int.reduceLE, Int.reduceEq, reduceCtorEq, Int.reduceBEq, Int.reduceBNe, Int.reduceToNat, Nat.reduceSub, Nat.reduceDiv, Int.reduceNeg, Int.reduceAdd, Int.reduceSub, Int.reduceMul, Heap.gets, Heap.sets, Heap.get, bytesA_length, bytesA_one, bytesA_plains, List.take_of_length_le, List.drop_of_length_le, Nat.add_zero, V.one, Nat.reduceLeDiff, List.all_cons, List.all_nil, ne_eq, not_false_eq_true, Nat.zero_le, eAwake23_7 (), k1, h1, k2, h2]; rfl) ?_ | refine To.nop hxE7 ?_ | (refine To.condT hxE7 ?_ ?_; focus (simp only [go_sem, eqs hxE7, reduceIte, Nat.reduceEqDiff, Nat.reduceAdd, Nat.reduceMul, Nat.reduceLT, Nat.reduceLeDiff, Int.reduceLT, Int.reduceLE, Int.reduceEq, reduceCtorEq, Int.reduceBEq, Int.reduceBNe, Int.reduceToNat, Nat.reduceSub, Nat.reduceDiv, Int.reduceNeg, Int.reduceAdd, Int.reduceSub, Int.reduceMul, Heap.gets, Heap.sets, Heap.get, bytesA_length, bytesA_one, bytesA_plains, List.take_of_length_le, List.drop_of_length_le, Nat.add_zero, V.one, Nat.reduceLeDiff, List.all_cons, List.all_nil, ne_eq, not_false_eq_true, Nat.zero_le, eAwake23_7 (), k1, h1, k2, h2]; done)) | (refine To.condF hxE7 ?_ ?_; focus (simp only [go_sem, eqs hxE7, reduceIte, Nat.reduceEqDiff, Nat.reduceAdd, Nat.reduceMul, Nat.reduceLT, Nat.reduceLeDiff, Int.reduceLT, Int.reduceLE, Int.reduceEq, reduceCtorEq, Int.reduceBEq, Int.reduceBNe, Int.reduceToNat, Nat.reduceSub, Nat.reduceDiv, Int.reduceNeg, Int.reduceAdd, Int.reduceSub, Int.reduceMul, Heap.gets, Heap.sets, Heap.get, bytesA_length, bytesA_one, bytesA_plains, List.take_of_length_le, List.drop_of_length_le, Nat.add_zero, V.one, Nat.reduceLeDiff, List.all_cons, List.all_nil, ne_eq, not_false_eq_true, Nat.zero_le, eAwake23_7 (), k1, h1, k2, h2]; done)) | refine To.block hxE7 ?_ | refine To.scope hxE7 ?_ | refine To.ret hxE7 ?_ | refine To.exit hxE7 ?_ | refine To.skip hxE7 ?_ | refine To.label hxE7 ?_))
    refine ⟨_, _, fin1 (i := 6) rfl, ?_⟩
    simp only [go_sem, eqs hxE7, reduceIte, Nat.reduceEqDiff, Nat.reduceAdd, Nat.reduceMul, Nat.reduceLT, Nat.reduceLeDiff, Int.reduceLT, Int.reduceLE, Int.reduceEq, reduceCtorEq, Int.reduceBEq, Int.reduceBNe, Int.reduceToNat, Nat.reduceSub, Nat.reduceDiv, Int.reduceNeg, Int.reduceAdd, Int.reduceSub, Int.reduceMul]
  by_cases h3 : 2000 < nm'.length
  · (repeat' (first | refine To.seq hxE7 ?_ | refine To.op0 hxE7 (by simp only [go_sem, eqs hxE7, reduceIte, Nat.reduceEqDiff, Nat.reduceAdd, Nat.reduceMul, Nat.reduceLT, Nat.reduceLeDiff, Int.reduceLT, Int.reduceLE, Int.reduceEq, reduceCtorEq, Int.reduceBEq, Int.reduceBNe, Int.reduceToNat, Nat.reduceSub, Nat.reduceDiv, Int.reduceNeg, Int.reduceAdd, Int.reduceSub, Int.reduceMul, Heap.gets, Heap.sets, Heap.get, bytesA_length, bytesA_one, bytesA_plains, List.take_of_length_le, List.drop_of_length_le, Nat.add_zero, V.one, Nat.reduceLeDiff, List.all_cons, List.all_nil, ne_eq, not_false_eq_true, Nat.zero_le, eAwake23_7 (), k1, h1, k2, h2, k3, h3]; rfl) ?_ | refine To.op1 hxE7 (by simp only [go_sem, eqs hxE7, reduceIte, Nat.reduceEqDiff, Nat.reduceAdd, Nat.reduceMul, Nat.reduceLT, Nat.reduceLeDiff, Int.reduceLT, Int.reduceLE, Int.reduceEq, reduceCtorEq, Int.reduceBEq, Int.reduceBNe, Int.reduceToNat, Nat.reduceSub, Nat.reduceDiv, Int.reduceNeg, Int.reduceAdd, Int.reduceSub, Int.reduceMul, Heap.gets, Heap.sets, Heap.get, bytesA_length, bytesA_one, bytesA_plains, List.take_of_length_le, List.drop_of_length_le, Nat.add_zero, V.one, Nat.reduceLeDiff, List.all_cons, List.all_nil, ne_eq, not_false_eq_true, Nat.zero_le, eAwake23_7 (), k1, h1, k2, h2, k3, h3]; rfl) ?_ | refine To.nop hxE7 ?_ | (refine To.condT hxE7 ?_ ?_; focus (simp only [go_sem, eqs hxE7, reduceIte, Nat.reduceEqDiff, Nat.reduceAdd, Nat.reduceMul, Nat.reduceLT, Nat.reduceLeDiff, Int.reduceLT, Int.reduceLE, Int.reduceEq, reduceCtorEq, Int.reduceBEq, Int.reduceBNe, Int.reduceToNat, Nat.reduceSub, Nat.reduceDiv, Int.reduceNeg, Int.reduceAdd, Int.reduceSub, Int.reduceMul, Heap.gets, Heap.sets, Heap.get, bytesA_length, bytesA_one, bytesA_plains, List.take_of_length_le, List.drop_of_length_le, Nat.add_zero, V.one, Nat.reduceLeDiff, List.all_cons, List.all_nil, ne_eq, not_false_eq_true, Nat.zero_le, eAwake23_7 (), k1, h1, k2, h2, k3, h3]; done)) | (refine To.condF hxE7 ?_ ?_; focus (simp only [go_sem, eqs hxE7, reduceIte, Nat.reduceEqDiff, Nat.reduceAdd, Nat.reduceMul, Nat.reduceLT, Nat.reduceLeDiff, Int.reduceLT, Int.reduceLE, Int.reduceEq, reduceCtorEq, Int.reduceBEq, Int.reduceBNe, Int.reduceToNat, Nat.reduceSub, Nat.reduceDiv, Int.reduceNeg, Int.reduceAdd, Int.reduceSub, Int.reduceMul, Heap.gets, Heap.sets, Heap.get, bytesA_length, bytesA_one, bytesA_plains, List.take_of_length_le, List.drop_of_length_le, Nat.add_zero, V.one, Nat.reduceLeDiff, List.all_cons, List.all_nil, ne_eq, not_false_eq_true, Nat.zero_le, eAwake23_7 (), k1, h1, k2, h2, k3, h3]; done)) | refine To.block hxE7 ?_ | refine To.scope hxE7 ?_ | refine To.ret hxE7 ?_ | refine To.exit hxE7 ?_ | refine To.skip hxE7 ?_ | refine To.label hxE7 ?_))
    refine ⟨_, _, fin1 (i := 6) rfl, ?_⟩
    simp only [go_sem, eqs hxE7, reduceIte, Nat.reduceEqDiff, Nat.reduceAdd, Nat.reduceMul, Nat.reduceLT, Nat.reduceLeDiff, Int.reduceLT, Int.reduceLE, Int.reduceEq, reduceCtorEq, Int.reduceBEq, Int.reduceBNe, Int.reduceToNat, Nat.reduceSub, Nat.reduceDiv, Int.reduceNeg, Int.reduceAdd, Int.reduceSub, Int.reduceMul]
  by_cases h4 : 2000 < tx'.length
  · (repeat' (first | refine To.seq hxE7 ?_ | refine To.op0 hxE7 (by simp only [go_sem, eqs hxE7, reduceIte, Nat.reduceEqDiff, Nat.reduceAdd, Nat.reduceMul, Nat.reduceLT, Nat.reduceLeDiff, Int.reduceLT, Int.reduceLE, Int.reduceEq, reduceCtorEq, Int.reduceBEq, Int.reduceBNe, Int.reduceToNat, Nat.reduceSub, Nat.reduceDiv, Int.reduceNeg, Int.reduceAdd, Int.reduceSub, Int.reduceMul, Heap.gets, Heap.sets, Heap.get, bytesA_length, bytesA_one, bytesA_plains, List.take_of_length_le, List.drop_of_length_le, Nat.add_zero, V.one, Nat.reduceLeDiff, List.all_cons, List.all_nil, ne_eq, not_false_eq_true, Nat.zero_le, eAwake23_7 (), k1, h1, k2, h2, k3, h3, k4, h4]; rfl) ?_ | refine To.op1 hxE7 (by simp only [go_sem, eqs hxE7, reduceIte, Nat.reduceEqDiff, Nat.reduceAdd, Nat.reduceMul, Nat.reduceLT, Nat.reduceLeDiff, Int.reduceLT, Int.reduceLE, Int.reduceEq, reduceCtorEq, Int.reduceBEq, Int.reduceBNe, Int.reduceToNat, Nat.reduceSub, Nat.reduceDiv, Int.reduceNeg, Int.reduceAdd, Int.reduceSub, Int.reduceMul, Heap.gets, Heap.sets, Heap.get, bytesA_length, bytesA_one, bytesA_plains, List.take_of_length_le, List.drop_of_length_le, Nat.add_zero, V.one, Nat.reduceLeDiff, List.all_cons, List.all_nil, ne_eq, not_false_eq_true, Nat.zero_le, eAwake23_7 (), k1, h1, k2, h2, k3, h3, k4, h4]; rfl) ?_ | refine To.nop hxE7 ?_ | (refine To.condT hxE7 ?_ ?_; focus (simp only [go_sem, eqs hxE7, reduceIte, Nat.reduceEqDiff, Nat.reduceAdd, Nat.reduceMul, Nat.reduceLT, Nat.reduceLeDiff, Int.reduceLT, Int.reduceLE, Int.reduceEq, reduceCtorEq, Int.reduceBEq, Int.reduceBNe, Int.reduceToNat, Nat.reduceSub, Nat.reduceDiv, Int.reduceNeg, Int.reduceAdd, Int.reduceSub, Int.reduceMul, Heap.gets, Heap.sets, Heap.get, bytesA_length, bytesA_one, bytesA_plains, List.take_of_length_le, List.drop_of_length_le, Nat.add_zero, V.one, Nat.reduceLeDiff, List.all_cons, List.all_nil, ne_eq, not_false_eq_true, Nat.zero_le, eAwake23_7 (), k1, h1, k2, h2, k3, h3, k4, h4]; done)) | (refine To.condF hxE7 ?_ ?_; focus (simp only [go_sem, eqs hxE7, reduceIte, Nat.reduceEqDiff, Nat.reduceAdd, Nat.reduceMul, Nat.reduceLT, Nat.reduceLeDiff, Int.reduceLT, Int.reduceLE, Int.reduceEq, reduceCtorEq, Int.reduceBEq, Int.reduceBNe, Int.reduceToNat, Nat.reduceSub, Nat.reduceDiv, Int.reduceNeg, Int.reduceAdd, Int.reduceSub, Int.reduceMul, Heap.gets, Heap.sets, Heap.get, bytesA_length, bytesA_one, bytesA_plains, List.take_of_length_le, List.drop_of_length_le, Nat.add_zero, V.one, Nat.reduceLeDiff, List.all_cons, List.all_nil, ne_eq, not_false_eq_true, Nat.zero_le, eAwake23_7 (), k1, h1, k2, h2, k3, h3, k4, h4]; done)) | refine To.block hxE7 ?_ | refine To.scope hxE7 ?_ | refine To.ret hxE7 ?_ | refine To.exit hxE7 ?_ | refine To.skip hxE7 ?_ | refine To.label hxE7 ?_))
    refine ⟨_, _, fin1 (i := 6) rfl, ?_⟩
    simp only [go_sem, eqs hxE7, reduceIte, Nat.reduceEqDiff, Nat.reduceAdd, Nat.reduceMul, Nat.reduceLT, Nat.reduceLeDiff, Int.reduceLT, Int.reduceLE, Int.reduceEq, reduceCtorEq, Int.reduceBEq, Int.reduceBNe, Int.reduceToNat, Nat.reduceSub, Nat.reduceDiv, Int.reduceNeg, Int.reduceAdd, Int.reduceSub, Int.reduceMul]
  have p1 := fun h => ePut_7 id op ino oth n m nm tx h
  have p2 := fun h => ePut_7 id' op' ino' oth' n' m' nm' tx' h
  cases hR : rightR id op ino oth n m nm tx
  · rw [putV_no hR] at p1
    cases hR' : rightR id' op' ino' oth' n' m' nm' tx'
    · rw [putV_no hR'] at p2
      (repeat' (first | refine To.seq hxE7 ?_ | refine To.op0 hxE7 (by simp only [go_sem, eqs hxE7, reduceIte, Nat.reduceEqDiff, Nat.reduceAdd, Nat.reduceMul, Nat.reduceLT, Nat.reduceLeDiff, Int.reduceLT, Int.reduceLE, Int.reduceEq, reduceCtorEq, Int.reduceBEq, Int.reduceBNe, Int.reduceToNat, Nat.reduceSub, Nat.reduceDiv, Int.reduceNeg, Int.reduceAdd, Int.reduceSub, Int.reduceMul, Heap.gets, Heap.sets, Heap.get, bytesA_length, bytesA_one, bytesA_plains, List.take_of_length_le, List.drop_of_length_le, Nat.add_zero, V.one, Nat.reduceLeDiff, List.all_cons, List.all_nil, ne_eq, not_false_eq_true, Nat.zero_le, eAwake23_7 (), k1, h1, k2, h2, k3, h3, k4, h4, p1, p2]; rfl) ?_ | refine To.op1 hxE7 (by simp only [go_sem, eqs hxE7, reduceIte, Nat.reduceEqDiff, Nat.reduceAdd, Nat.reduceMul, Nat.reduceLT, Nat.reduceLeDiff, Int.reduceLT, Int.reduceLE, Int.reduceEq, reduceCtorEq, Int.reduceBEq, Int.reduceBNe, Int.reduceToNat, Nat.reduceSub, Nat.reduceDiv, Int.reduceNeg, Int.reduceAdd, Int.reduceSub, Int.reduceMul, Heap.gets, Heap.sets, Heap.get, bytesA_length, bytesA_one, bytesA_plains, List.take_of_length_le, List.drop_of_length_le, Nat.add_zero, V.one, Nat.reduceLeDiff, List.all_cons, List.all_nil, ne_eq, not_false_eq_true, Nat.zero_le, eAwake23_7 (), k1, h1, k2, h2, k3, h3, k4, h4, p1, p2]; rfl) ?_ | refine To.nop hxE7 ?_ | (refine To.condT hxE7 ?_ ?_; focus (simp only [go_sem, eqs hxE7, reduceIte, Nat.reduceEqDiff, Nat.reduceAdd, Nat.reduceMul, Nat.reduceLT, Nat.reduceLeDiff, Int.reduceLT, Int.reduceLE, Int.reduceEq, reduceCtorEq, Int.reduceBEq, Int.reduceBNe, Int.reduceToNat, Nat.reduceSub, Nat.reduceDiv, Int.reduceNeg, Int.reduceAdd, Int.reduceSub, Int.reduceMul, Heap.gets, Heap.sets, Heap.get, bytesA_length, bytesA_one, bytesA_plains, List.take_of_length_le, List.drop_of_length_le, Nat.add_zero, V.one, Nat.reduceLeDiff, List.all_cons, List.all_nil, ne_eq, not_false_eq_true, Nat.zero_le, eAwake23_7 (), k1, h1, k2, h2, k3, h3, k4, h4, p1, p2]; done)) | (refine To.condF hxE7 ?_ ?_; focus (simp only [go_sem, eqs hxE7, reduceIte, Nat.reduceEqDiff, Nat.reduceAdd, Nat.reduceMul, Nat.reduceLT, Nat.reduceLeDiff, Int.reduceLT, Int.reduceLE, Int.reduceEq, reduceCtorEq, Int.reduceBEq, Int.reduceBNe, Int.reduceToNat, Nat.reduceSub, Nat.reduceDiv, Int.reduceNeg, Int.reduceAdd, Int.reduceSub, Int.reduceMul, Heap.gets, Heap.sets, Heap.get, bytesA_length, bytesA_one, bytesA_plains, List.take_of_length_le, List.drop_of_length_le, Nat.add_zero, V.one, Nat.reduceLeDiff, List.all_cons, List.all_nil, ne_eq, not_false_eq_true, Nat.zero_le, eAwake23_7 (), k1, h1, k2, h2, k3, h3, k4, h4, p1, p2]; done)) | refine To.block hxE7 ?_ | refine To.scope hxE7 ?_ | refine To.ret hxE7 ?_ | refine To.exit hxE7 ?_ | refine To.skip hxE7 ?_ | refine To.label hxE7 ?_))
      refine ⟨_, _, fin1 (i := 6) rfl, ?_⟩
      simp only [go_sem, eqs hxE7, reduceIte, Nat.reduceEqDiff, Nat.reduceAdd, Nat.reduceMul, Nat.reduceLT, Nat.reduceLeDiff, Int.reduceLT, Int.reduceLE, Int.reduceEq, reduceCtorEq, Int.reduceBEq, Int.reduceBNe, Int.reduceToNat, Nat.reduceSub, Nat.reduceDiv, Int.reduceNeg, Int.reduceAdd, Int.reduceSub, Int.reduceMul]
    · rw [putV_ok hR'] at p2
      (repeat' (first | refine To.seq hxE7 ?_ | refine To.op0 hxE7 (by simp only [go_sem, eqs hxE7, reduceIte, Nat.reduceEqDiff, Nat.reduceAdd, Nat.reduceMul, Nat.reduceLT, Nat.reduceLeDiff, Int.reduceLT, Int.reduceLE, Int.reduceEq, reduceCtorEq, Int.reduceBEq, Int.reduceBNe, Int.reduceToNat, Nat.reduceSub, Nat.reduceDiv, Int.reduceNeg, Int.reduceAdd, Int.reduceSub, Int.reduceMul, Heap.gets, Heap.sets, Heap.get, bytesA_length, bytesA_one, bytesA_plains, List.take_of_length_le, List.drop_of_length_le, Nat.add_zero, V.one, Nat.reduceLeDiff, List.all_cons, List.all_nil, ne_eq, not_false_eq_true, Nat.zero_le, eAwake23_7 (), k1, h1, k2, h2, k3, h3, k4, h4, p1, p2]; rfl) ?_ | refine To.op1 hxE7 (by simp only [go_sem, eqs hxE7, reduceIte, Nat.reduceEqDiff, Nat.reduceAdd, Nat.reduceMul, Nat.reduceLT, Nat.reduceLeDiff, Int.reduceLT, Int.reduceLE, Int.reduceEq, reduceCtorEq, Int.reduceBEq, Int.reduceBNe, Int.reduceToNat, Nat.reduceSub, Nat.reduceDiv, Int.reduceNeg, Int.reduceAdd, Int.reduceSub, Int.reduceMul, Heap.gets, Heap.sets, Heap.get, bytesA_length, bytesA_one, bytesA_plains, List.take_of_length_le, List.drop_of_length_le, Nat.add_zero, V.one, Nat.reduceLeDiff, List.all_cons, List.all_nil, ne_eq, not_false_eq_true, Nat.zero_le, eAwake23_7 (), k1, h1, k2, h2, k3, h3, k4, h4, p1, p2]; rfl) ?_ | refine To.nop hxE7 ?_ | (refine To.condT hxE7 ?_ ?_; focus (simp only [go_sem, eqs hxE7, reduceIte, Nat.reduceEqDiff, Nat.reduceAdd, Nat.reduceMul, Nat.reduceLT, Nat.reduceLeDiff, Int.reduceLT, Int.reduceLE, Int.reduceEq, reduceCtorEq, Int.reduceBEq, Int.reduceBNe, Int.reduceToNat, Nat.reduceSub, Nat.reduceDiv, Int.reduceNeg, Int.reduceAdd, Int.reduceSub, Int.reduceMul, Heap.gets, Heap.sets, Heap.get, bytesA_length, bytesA_one, bytesA_plains, List.take_of_length_le, List.drop_of_length_le, Nat.add_zero, V.one, Nat.reduceLeDiff, List.all_cons, List.all_nil, ne_eq, not_false_eq_true, Nat.zero_le, eAwake23_7 (), k1, h1, k2, h2, k3, h3, k4, h4, p1, p2]; done)) | (refine To.condF hxE7 ?_ ?_; focus (simp only [go_sem, eqs hxE7, reduceIte, Nat.reduceEqDiff, Nat.reduceAdd, Nat.reduceMul, Nat.reduceLT, Nat.reduceLeDiff, Int.reduceLT, Int.reduceLE, Int.reduceEq, reduceCtorEq, Int.reduceBEq, Int.reduceBNe, Int.reduceToNat, Nat.reduceSub, Nat.reduceDiv, Int.reduceNeg, Int.reduceAdd, Int.reduceSub, Int.reduceMul, Heap.gets, Heap.sets, Heap.get, bytesA_length, bytesA_one, bytesA_plains, List.take_of_length_le, List.drop_of_length_le, Nat.add_zero, V.one, Nat.reduceLeDiff, List.all_cons, List.all_nil, ne_eq, not_false_eq_true, Nat.zero_le, eAwake23_7 (), k1, h1, k2, h2, k3, h3, k4, h4, p1, p2]; done)) | refine To.block hxE7 ?_ | refine To.scope hxE7 ?_ | refine To.ret hxE7 ?_ | refine To.exit hxE7 ?_ | refine To.skip hxE7 ?_ | refine To.label hxE7 ?_))
      refine ⟨_, _, fin1 (i := 6) rfl, ?_⟩
      simp only [go_sem, eqs hxE7, reduceIte, Nat.reduceEqDiff, Nat.reduceAdd, Nat.reduceMul, Nat.reduceLT, Nat.reduceLeDiff, Int.reduceLT, Int.reduceLE, Int.reduceEq, reduceCtorEq, Int.reduceBEq, Int.reduceBNe, Int.reduceToNat, Nat.reduceSub, Nat.reduceDiv, Int.reduceNeg, Int.reduceAdd, Int.reduceSub, Int.reduceMul]
  rw [putV_ok hR] at p1
  cases hR' : rightR id' op' ino' oth' n' m' nm' tx'
  · rw [putV_no hR'] at p2
    (repeat' (first | refine To.seq hxE7 ?_ | refine To.op0 hxE7 (by simp only [go_sem, eqs hxE7, reduceIte, Nat.reduceEqDiff, Nat.reduceAdd, Nat.reduceMul, Nat.reduceLT, Nat.reduceLeDiff, Int.reduceLT, Int.reduceLE, Int.reduceEq, reduceCtorEq, Int.reduceBEq, Int.reduceBNe, Int.reduceToNat, Nat.reduceSub, Nat.reduceDiv, Int.reduceNeg, Int.reduceAdd, Int.reduceSub, Int.reduceMul, Heap.gets, Heap.sets, Heap.get, bytesA_length, bytesA_one, bytesA_plains, List.take_of_length_le, List.drop_of_length_le, Nat.add_zero, V.one, Nat.reduceLeDiff, List.all_cons, List.all_nil, ne_eq, not_false_eq_true, Nat.zero_le, eAwake23_7 (), k1, h1, k2, h2, k3, h3, k4, h4, p1, p2]; rfl) ?_ | refine To.op1 hxE7 (by simp only [go_sem, eqs hxE7, reduceIte, Nat.reduceEqDiff, Nat.reduceAdd, Nat.reduceMul, Nat.reduceLT, Nat.reduceLeDiff, Int.reduceLT, Int.reduceLE, Int.reduceEq, reduceCtorEq, Int.reduceBEq, Int.reduceBNe, Int.reduceToNat, Nat.reduceSub, Nat.reduceDiv, Int.reduceNeg, Int.reduceAdd, Int.reduceSub, Int.reduceMul, Heap.gets, Heap.sets, Heap.get, bytesA_length, bytesA_one, bytesA_plains, List.take_of_length_le, List.drop_of_length_le, Nat.add_zero, V.one, Nat.reduceLeDiff, List.all_cons, List.all_nil, ne_eq, not_false_eq_true, Nat.zero_le, eAwake23_7 (), k1, h1, k2, h2, k3, h3, k4, h4, p1, p2]; rfl) ?_ | refine To.nop hxE7 ?_ | (refine To.condT hxE7 ?_ ?_; focus (simp only [go_sem, eqs hxE7, reduceIte, Nat.reduceEqDiff, Nat.reduceAdd, Nat.reduceMul, Nat.reduceLT, Nat.reduceLeDiff, Int.reduceLT, Int.reduceLE, Int.reduceEq, reduceCtorEq, Int.reduceBEq, Int.reduceBNe, Int.reduceToNat, Nat.reduceSub, Nat.reduceDiv, Int.reduceNeg, Int.reduceAdd, Int.reduceSub, Int.reduceMul, Heap.gets, Heap.sets, Heap.get, bytesA_length, bytesA_one, bytesA_plains, List.take_of_length_le, List.drop_of_length_le, Nat.add_zero, V.one, Nat.reduceLeDiff, List.all_cons, List.all_nil, ne_eq, not_false_eq_true, Nat.zero_le, eAwake23_7 (), k1, h1, k2, h2, k3, h3, k4, h4, p1, p2]; done)) | (refine To.condF hxE7 ?_ ?_; focus (simp only [go_sem, eqs hxE7, reduceIte, Nat.reduceEqDiff, Nat.reduceAdd, Nat.reduceMul, Nat.reduceLT, Nat.reduceLeDiff, Int.reduceLT, Int.reduceLE, Int.reduceEq, reduceCtorEq, Int.reduceBEq, Int.reduceBNe, Int.reduceToNat, Nat.reduceSub, Nat.reduceDiv, Int.reduceNeg, Int.reduceAdd, Int.reduceSub, Int.reduceMul, Heap.gets, Heap.sets, Heap.get, bytesA_length, bytesA_one, bytesA_plains, List.take_of_length_le, List.drop_of_length_le, Nat.add_zero, V.one, Nat.reduceLeDiff, List.all_cons, List.all_nil, ne_eq, not_false_eq_true, Nat.zero_le, eAwake23_7 (), k1, h1, k2, h2, k3, h3, k4, h4, p1, p2]; done)) | refine To.block hxE7 ?_ | refine To.scope hxE7 ?_ | refine To.ret hxE7 ?_ | refine To.exit hxE7 ?_ | refine To.skip hxE7 ?_ | refine To.label hxE7 ?_))
    refine ⟨_, _, fin1 (i := 6) rfl, ?_⟩
    simp only [go_sem, eqs hxE7, reduceIte, Nat.reduceEqDiff, Nat.reduceAdd, Nat.reduceMul, Nat.reduceLT, Nat.reduceLeDiff, Int.reduceLT, Int.reduceLE, Int.reduceEq, reduceCtorEq, Int.reduceBEq, Int.reduceBNe, Int.reduceToNat, Nat.reduceSub, Nat.reduceDiv, Int.reduceNeg, Int.reduceAdd, Int.reduceSub, Int.reduceMul]
  rw [putV_ok hR'] at p2
  have hinj := req_inj hR hR'
  have hl := reqB_len (id := id) (op := op) (ino := ino) (oth := oth) (n := n) (m := m) (nm := nm) (tx := tx)
  have g1 := fun h => eGet_7 (reqB id op ino oth n m nm tx ++ [120]) (by rw [List.length_append, reqB_len]; simp only [List.length_cons, List.length_nil]; omega) h
  rw [getV_more hR (by simp)] at g1
  unfold noReq at g1
  have a1 : ((reqB id op ino oth n m nm tx).length + 1 ≤ 9223372036854775807) = True := eq_true (by omega)
  by_cases c1 : cut < 0
  · generalize reqB id op ino oth n m nm tx = t at *
    generalize reqB id' op' ino' oth' n' m' nm' tx' = t' at *
    generalize hz : (id == id' && (op == op' && (ino == ino' && (oth == oth' && (n == n' && (m == m' && (nm == nm' && tx == tx'))))))) = bb at *
    (repeat' (first | refine To.seq hxE7 ?_ | refine To.op0 hxE7 (by simp only [go_sem, eqs hxE7, reduceIte, Nat.reduceEqDiff, Nat.reduceAdd, Nat.reduceMul, Nat.reduceLT, Nat.reduceLeDiff, Int.reduceLT, Int.reduceLE, Int.reduceEq, reduceCtorEq, Int.reduceBEq, Int.reduceBNe, Int.reduceToNat, Nat.reduceSub, Nat.reduceDiv, Int.reduceNeg, Int.reduceAdd, Int.reduceSub, Int.reduceMul, Heap.gets, Heap.sets, Heap.get, bytesA_length, bytesA_one, bytesA_plains, List.take_of_length_le, List.drop_of_length_le, Nat.add_zero, V.one, Nat.reduceLeDiff, List.all_cons, List.all_nil, ne_eq, not_false_eq_true, Nat.zero_le, eAwake23_7 (), k1, h1, k2, h2, k3, h3, k4, h4, p1, p2, hinj, hz, bne_self_eq_false, a1, g1, c1, beq_self_eq_true]; rfl) ?_ | refine To.op1 hxE7 (by simp only [go_sem, eqs hxE7, reduceIte, Nat.reduceEqDiff, Nat.reduceAdd, Nat.reduceMul, Nat.reduceLT, Nat.reduceLeDiff, Int.reduceLT, Int.reduceLE, Int.reduceEq, reduceCtorEq, Int.reduceBEq, Int.reduceBNe, Int.reduceToNat, Nat.reduceSub, Nat.reduceDiv, Int.reduceNeg, Int.reduceAdd, Int.reduceSub, Int.reduceMul, Heap.gets, Heap.sets, Heap.get, bytesA_length, bytesA_one, bytesA_plains, List.take_of_length_le, List.drop_of_length_le, Nat.add_zero, V.one, Nat.reduceLeDiff, List.all_cons, List.all_nil, ne_eq, not_false_eq_true, Nat.zero_le, eAwake23_7 (), k1, h1, k2, h2, k3, h3, k4, h4, p1, p2, hinj, hz, bne_self_eq_false, a1, g1, c1, beq_self_eq_true]; rfl) ?_ | refine To.nop hxE7 ?_ | (refine To.condT hxE7 ?_ ?_; focus (simp only [go_sem, eqs hxE7, reduceIte, Nat.reduceEqDiff, Nat.reduceAdd, Nat.reduceMul, Nat.reduceLT, Nat.reduceLeDiff, Int.reduceLT, Int.reduceLE, Int.reduceEq, reduceCtorEq, Int.reduceBEq, Int.reduceBNe, Int.reduceToNat, Nat.reduceSub, Nat.reduceDiv, Int.reduceNeg, Int.reduceAdd, Int.reduceSub, Int.reduceMul, Heap.gets, Heap.sets, Heap.get, bytesA_length, bytesA_one, bytesA_plains, List.take_of_length_le, List.drop_of_length_le, Nat.add_zero, V.one, Nat.reduceLeDiff, List.all_cons, List.all_nil, ne_eq, not_false_eq_true, Nat.zero_le, eAwake23_7 (), k1, h1, k2, h2, k3, h3, k4, h4, p1, p2, hinj, hz, bne_self_eq_false, a1, g1, c1, beq_self_eq_true]; done)) | (refine To.condF hxE7 ?_ ?_; focus (simp only [go_sem, eqs hxE7, reduceIte, Nat.reduceEqDiff, Nat.reduceAdd, Nat.reduceMul, Nat.reduceLT, Nat.reduceLeDiff, Int.reduceLT, Int.reduceLE, Int.reduceEq, reduceCtorEq, Int.reduceBEq, Int.reduceBNe, Int.reduceToNat, Nat.reduceSub, Nat.reduceDiv, Int.reduceNeg, Int.reduceAdd, Int.reduceSub, Int.reduceMul, Heap.gets, Heap.sets, Heap.get, bytesA_length, bytesA_one, bytesA_plains, List.take_of_length_le, List.drop_of_length_le, Nat.add_zero, V.one, Nat.reduceLeDiff, List.all_cons, List.all_nil, ne_eq, not_false_eq_true, Nat.zero_le, eAwake23_7 (), k1, h1, k2, h2, k3, h3, k4, h4, p1, p2, hinj, hz, bne_self_eq_false, a1, g1, c1, beq_self_eq_true]; done)) | refine To.block hxE7 ?_ | refine To.scope hxE7 ?_ | refine To.ret hxE7 ?_ | refine To.exit hxE7 ?_ | refine To.skip hxE7 ?_ | refine To.label hxE7 ?_))
    refine ⟨_, _, fin1 (i := 6) rfl, ?_⟩
    simp only [go_sem, eqs hxE7, reduceIte, Nat.reduceEqDiff, Nat.reduceAdd, Nat.reduceMul, Nat.reduceLT, Nat.reduceLeDiff, Int.reduceLT, Int.reduceLE, Int.reduceEq, reduceCtorEq, Int.reduceBEq, Int.reduceBNe, Int.reduceToNat, Nat.reduceSub, Nat.reduceDiv, Int.reduceNeg, Int.reduceAdd, Int.reduceSub, Int.reduceMul]
  by_cases c2 : ((reqB id op ino oth n m nm tx).length : Int) ≤ cut
  · generalize reqB id op ino oth n m nm tx = t at *
    generalize reqB id' op' ino' oth' n' m' nm' tx' = t' at *
    generalize hz : (id == id' && (op == op' && (ino == ino' && (oth == oth' && (n == n' && (m == m' && (nm == nm' && tx == tx'))))))) = bb at *
    (repeat' (first | refine To.seq hxE7 ?_ | refine To.op0 hxE7 (by simp only [go_sem, eqs hxE7, reduceIte, Nat.reduceEqDiff, Nat.reduceAdd, Nat.reduceMul, Nat.reduceLT, Nat.reduceLeDiff, Int.reduceLT, Int.reduceLE, Int.reduceEq, reduceCtorEq, Int.reduceBEq, Int.reduceBNe, Int.reduceToNat, Nat.reduceSub, Nat.reduceDiv, Int.reduceNeg, Int.reduceAdd, Int.reduceSub, Int.reduceMul, Heap.gets, Heap.sets, Heap.get, bytesA_length, bytesA_one, bytesA_plains, List.take_of_length_le, List.drop_of_length_le, Nat.add_zero, V.one, Nat.reduceLeDiff, List.all_cons, List.all_nil, ne_eq, not_false_eq_true, Nat.zero_le, eAwake23_7 (), k1, h1, k2, h2, k3, h3, k4, h4, p1, p2, hinj, hz, bne_self_eq_false, a1, g1, c1, c2, beq_self_eq_true]; rfl) ?_ | refine To.op1 hxE7 (by simp only [go_sem, eqs hxE7, reduceIte, Nat.reduceEqDiff, Nat.reduceAdd, Nat.reduceMul, Nat.reduceLT, Nat.reduceLeDiff, Int.reduceLT, Int.reduceLE, Int.reduceEq, reduceCtorEq, Int.reduceBEq, Int.reduceBNe, Int.reduceToNat, Nat.reduceSub, Nat.reduceDiv, Int.reduceNeg, Int.reduceAdd, Int.reduceSub, Int.reduceMul, Heap.gets, Heap.sets, Heap.get, bytesA_length, bytesA_one, bytesA_plains, List.take_of_length_le, List.drop_of_length_le, Nat.add_zero, V.one, Nat.reduceLeDiff, List.all_cons, List.all_nil, ne_eq, not_false_eq_true, Nat.zero_le, eAwake23_7 (), k1, h1, k2, h2, k3, h3, k4, h4, p1, p2, hinj, hz, bne_self_eq_false, a1, g1, c1, c2, beq_self_eq_true]; rfl) ?_ | refine To.nop hxE7 ?_ | (refine To.condT hxE7 ?_ ?_; focus (simp only [go_sem, eqs hxE7, reduceIte, Nat.reduceEqDiff, Nat.reduceAdd, Nat.reduceMul, Nat.reduceLT, Nat.reduceLeDiff, Int.reduceLT, Int.reduceLE, Int.reduceEq, reduceCtorEq, Int.reduceBEq, Int.reduceBNe, Int.reduceToNat, Nat.reduceSub, Nat.reduceDiv, Int.reduceNeg, Int.reduceAdd, Int.reduceSub, Int.reduceMul, Heap.gets, Heap.sets, Heap.get, bytesA_length, bytesA_one, bytesA_plains, List.take_of_length_le, List.drop_of_length_le, Nat.add_zero, V.one, Nat.reduceLeDiff, List.all_cons, List.all_nil, ne_eq, not_false_eq_true, Nat.zero_le, eAwake23_7 (), k1, h1, k2, h2, k3, h3, k4, h4, p1, p2, hinj, hz, bne_self_eq_false, a1, g1, c1, c2, beq_self_eq_true]; done)) | (refine To.condF hxE7 ?_ ?_; focus (simp only [go_sem, eqs hxE7, reduceIte, Nat.reduceEqDiff, Nat.reduceAdd, Nat.reduceMul, Nat.reduceLT, Nat.reduceLeDiff, Int.reduceLT, Int.reduceLE, Int.reduceEq, reduceCtorEq, Int.reduceBEq, Int.reduceBNe, Int.reduceToNat, Nat.reduceSub, Nat.reduceDiv, Int.reduceNeg, Int.reduceAdd, Int.reduceSub, Int.reduceMul, Heap.gets, Heap.sets, Heap.get, bytesA_length, bytesA_one, bytesA_plains, List.take_of_length_le, List.drop_of_length_le, Nat.add_zero, V.one, Nat.reduceLeDiff, List.all_cons, List.all_nil, ne_eq, not_false_eq_true, Nat.zero_le, eAwake23_7 (), k1, h1, k2, h2, k3, h3, k4, h4, p1, p2, hinj, hz, bne_self_eq_false, a1, g1, c1, c2, beq_self_eq_true]; done)) | refine To.block hxE7 ?_ | refine To.scope hxE7 ?_ | refine To.ret hxE7 ?_ | refine To.exit hxE7 ?_ | refine To.skip hxE7 ?_ | refine To.label hxE7 ?_))
    refine ⟨_, _, fin1 (i := 6) rfl, ?_⟩
    simp only [go_sem, eqs hxE7, reduceIte, Nat.reduceEqDiff, Nat.reduceAdd, Nat.reduceMul, Nat.reduceLT, Nat.reduceLeDiff, Int.reduceLT, Int.reduceLE, Int.reduceEq, reduceCtorEq, Int.reduceBEq, Int.reduceBNe, Int.reduceToNat, Nat.reduceSub, Nat.reduceDiv, Int.reduceNeg, Int.reduceAdd, Int.reduceSub, Int.reduceMul]
  have g2 := fun h => eGet_7 ((reqB id op ino oth n m nm tx).take cut.toNat) (by rw [List.length_take, reqB_len]; omega) h
  rw [get_cut hR (by omega)] at g2
  unfold noReq at g2
  have b1 : boundsA (reqB id op ino oth n m nm tx).length (reqB id op ino oth n m nm tx).length none (some (.int .i64 cut)) = some (0, cut.toNat) := by
    simp only [boundsA, hiB, loB]
    rw [if_pos (by omega)]
  generalize reqB id op ino oth n m nm tx = t at *
  generalize reqB id' op' ino' oth' n' m' nm' tx' = t' at *
  generalize hz : (id == id' && (op == op' && (ino == ino' && (oth == oth' && (n == n' && (m == m' && (nm == nm' && tx == tx'))))))) = bb at *
  (repeat' (first | refine To.seq hxE7 ?_ | refine To.op0 hxE7 (by simp only [go_sem, eqs hxE7, reduceIte, Nat.reduceEqDiff, Nat.reduceAdd, Nat.reduceMul, Nat.reduceLT, Nat.reduceLeDiff, Int.reduceLT, Int.reduceLE, Int.reduceEq, reduceCtorEq, Int.reduceBEq, Int.reduceBNe, Int.reduceToNat, Nat.reduceSub, Nat.reduceDiv, Int.reduceNeg, Int.reduceAdd, Int.reduceSub, Int.reduceMul, Heap.gets, Heap.sets, Heap.get, bytesA_length, bytesA_one, bytesA_plains, List.take_of_length_le, List.drop_of_length_le, Nat.add_zero, V.one, Nat.reduceLeDiff, List.all_cons, List.all_nil, ne_eq, not_false_eq_true, Nat.zero_le, eAwake23_7 (), k1, h1, k2, h2, k3, h3, k4, h4, p1, p2, hinj, hz, bne_self_eq_false, a1, g1, c1, c2, b1, List.drop_zero, g2, beq_self_eq_true]; rfl) ?_ | refine To.op1 hxE7 (by simp only [go_sem, eqs hxE7, reduceIte, Nat.reduceEqDiff, Nat.reduceAdd, Nat.reduceMul, Nat.reduceLT, Nat.reduceLeDiff, Int.reduceLT, Int.reduceLE, Int.reduceEq, reduceCtorEq, Int.reduceBEq, Int.reduceBNe, Int.reduceToNat, Nat.reduceSub, Nat.reduceDiv, Int.reduceNeg, Int.reduceAdd, Int.reduceSub, Int.reduceMul, Heap.gets, Heap.sets, Heap.get, bytesA_length, bytesA_one, bytesA_plains, List.take_of_length_le, List.drop_of_length_le, Nat.add_zero, V.one, Nat.reduceLeDiff, List.all_cons, List.all_nil, ne_eq, not_false_eq_true, Nat.zero_le, eAwake23_7 (), k1, h1, k2, h2, k3, h3, k4, h4, p1, p2, hinj, hz, bne_self_eq_false, a1, g1, c1, c2, b1, List.drop_zero, g2, beq_self_eq_true]; rfl) ?_ | refine To.nop hxE7 ?_ | (refine To.condT hxE7 ?_ ?_; focus (simp only [go_sem, eqs hxE7, reduceIte, Nat.reduceEqDiff, Nat.reduceAdd, Nat.reduceMul, Nat.reduceLT, Nat.reduceLeDiff, Int.reduceLT, Int.reduceLE, Int.reduceEq, reduceCtorEq, Int.reduceBEq, Int.reduceBNe, Int.reduceToNat, Nat.reduceSub, Nat.reduceDiv, Int.reduceNeg, Int.reduceAdd, Int.reduceSub, Int.reduceMul, Heap.gets, Heap.sets, Heap.get, bytesA_length, bytesA_one, bytesA_plains, List.take_of_length_le, List.drop_of_length_le, Nat.add_zero, V.one, Nat.reduceLeDiff, List.all_cons, List.all_nil, ne_eq, not_false_eq_true, Nat.zero_le, eAwake23_7 (), k1, h1, k2, h2, k3, h3, k4, h4, p1, p2, hinj, hz, bne_self_eq_false, a1, g1, c1, c2, b1, List.drop_zero, g2, beq_self_eq_true]; done)) | (refine To.condF hxE7 ?_ ?_; focus (simp only [go_sem, eqs hxE7, reduceIte, Nat.reduceEqDiff, Nat.reduceAdd, Nat.reduceMul, Nat.reduceLT, Nat.reduceLeDiff, Int.reduceLT, Int.reduceLE, Int.reduceEq, reduceCtorEq, Int.reduceBEq, Int.reduceBNe, Int.reduceToNat, Nat.reduceSub, Nat.reduceDiv, Int.reduceNeg, Int.reduceAdd, Int.reduceSub, Int.reduceMul, Heap.gets, Heap.sets, Heap.get, bytesA_length, bytesA_one, bytesA_plains, List.take_of_length_le, List.drop_of_length_le, Nat.add_zero, V.one, Nat.reduceLeDiff, List.all_cons, List.all_nil, ne_eq, not_false_eq_true, Nat.zero_le, eAwake23_7 (), k1, h1, k2, h2, k3, h3, k4, h4, p1, p2, hinj, hz, bne_self_eq_false, a1, g1, c1, c2, b1, List.drop_zero, g2, beq_self_eq_true]; done)) | refine To.block hxE7 ?_ | refine To.scope hxE7 ?_ | refine To.ret hxE7 ?_ | refine To.exit hxE7 ?_ | refine To.skip hxE7 ?_ | refine To.label hxE7 ?_))
  refine ⟨_, _, fin1 (i := 6) rfl, ?_⟩
  simp only [go_sem, eqs hxE7, reduceIte, Nat.reduceEqDiff, Nat.reduceAdd, Nat.reduceMul, Nat.reduceLT, Nat.reduceLeDiff, Int.reduceLT, Int.reduceLE, Int.reduceEq, reduceCtorEq, Int.reduceBEq, Int.reduceBNe, Int.reduceToNat, Nat.reduceSub, Nat.reduceDiv, Int.reduceNeg, Int.reduceAdd, Int.reduceSub, Int.reduceMul]
end Go.Proofs.Ytjbblfoefibeaaa

