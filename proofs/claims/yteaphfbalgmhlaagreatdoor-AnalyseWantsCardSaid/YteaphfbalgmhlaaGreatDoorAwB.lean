/-
  PART OF A CLAIM's PROOF (AwB): a shadow of the machine, or what is shown by it.
-/
import Derived.Test.YteaphfbalgmhlaaGreatDoorAwA
set_option linter.unusedSimpArgs false
set_option linter.unusedVariables false
namespace Go.Sh
open Go.Proofs Go.RowKit

/-! plain -/
abbrev By := List UInt8
theorem find_first {α : Type} (p : α → Bool) (d : α) : ∀ (l : List α) (j : Nat), j < l.length → (∀ i, i < j → p (l.getD i d) = false) → p (l.getD j d) = true → l.find? p = some (l.getD j d) := by
  intro l
  induction l with
  | nil => intro j h; simp at h
  | cons x l ih =>
    intro j hj hn hp
    cases j with
    | zero => simp only [List.getD_cons_zero] at hp ⊢; simp [hp]
    | succ j =>
      have h0 := hn 0 (by omega)
      simp only [List.getD_cons_zero] at h0
      simp only [List.getD_cons_succ] at hp ⊢
      rw [List.find?_cons, h0]
      exact ih j (by simpa using hj) (fun i hi => by have := hn (i + 1) (by omega); simpa using this) hp
theorem find_nothing {α : Type} (p : α → Bool) (d : α) (l : List α) (h : ∀ i, i < l.length → p (l.getD i d) = false) : l.find? p = none := by
  rw [List.find?_eq_none]
  intro x hx
  obtain ⟨i, hi, rfl⟩ := List.mem_iff_getElem.1 hx
  have := h i hi
  simp only [List.getD_eq_getElem?_getD, List.getElem?_eq_getElem hi, Option.getD_some] at this
  rw [this]; simp

def isG (p n : By) (g : By × By × List By) : Bool := decide (g.1 = p ∧ g.2.1 = n)
def findG (G : List (By × By × List By)) (p n : By) : Option (List By) := (G.find? (isG p n)).map (·.2.2)
def gD : By × By × List By := ([], [], [])
/-- rows of a label and paths -/
def Givens (m : Mem) (v : Value) (G : List (By × By × List By)) : Prop :=
  ∃ pvs : Nat → Value, Elems m v 3 G.length (fun i => [bstr (G.getD i gD).1, bstr (G.getD i gD).2.1, pvs i]) ∧ ∀ i, i < G.length → Strs m (pvs i) (G.getD i gD).2.2
theorem Givens.keeps {m m' : Mem} (hk : Keeps m m') {v : Value} {G : List (By × By × List By)} (h : Givens m v G) : Givens m' v G := by
  obtain ⟨pvs, h1, h2⟩ := h
  exact ⟨pvs, h1.keeps hk, fun i hi => (h2 i hi).keeps hk⟩
noncomputable def labV (p n : By) : Value := .agg ⟨[bstr p, bstr n]⟩

theorem loadC_new (m : Mem) (c : List Value) (e : TypeId) (op : Option Nat) (ro : Bool) (fz n : Nat) (h : c.length = n) : loadC (m.new (.cells c e op ro fz)) ⟨m.next, 0, none⟩ n = .ok c := by
  subst h
  simp only [loadC, Mem.get_new, if_true, loadO, dropN_eq, List.drop_zero]
  have key : ∀ l : List Value, takeN l.length l = some l := by
    intro l
    induction l with
    | nil => rfl
    | cons x l ih => rw [List.length_cons, takeN_cons, ih]; rfl
  rw [key]; rfl

theorem eqLabel (lit : Bool) (a b c d : By) : binOpO env 31 lit .eql (.agg ⟨[.string ⟨⟨a⟩⟩, .string ⟨⟨b⟩⟩]⟩) (.agg ⟨[.string ⟨⟨c⟩⟩, .string ⟨⟨d⟩⟩]⟩) = .ok (.bool (decide (a = c ∧ b = d))) := by
  have h30 : eqV env 30 31 (.agg ⟨[.string ⟨⟨a⟩⟩, .string ⟨⟨b⟩⟩]⟩) (.agg ⟨[.string ⟨⟨c⟩⟩, .string ⟨⟨d⟩⟩]⟩) = .ok (decide (a = c ∧ b = d)) := by
    show (env.tiR 31).bnd (fun i => eqD env (eqV env 29) i.plain i.td _ _) = _
    rw [tiLabel]
    simp only [bnd_ok', eqD, cond_true, eqFs]
    have hp : ∀ (x y : Value), partOf env 9 [x, y] 0 = .ok x := fun x y => by simp only [partOf, tiStr, bnd_ok', aggT, cond_false]; rfl
    have hp1 : ∀ (x y : Value), partOf env 9 [x, y] 1 = .ok y := fun x y => by simp only [partOf, tiStr, bnd_ok', aggT, cond_false]; rfl
    have he : ∀ (x y : By), eqV env 29 9 (.string ⟨⟨x⟩⟩) (.string ⟨⟨y⟩⟩) = .ok (decide (x = y)) := fun x y => by
      show (env.tiR 9).bnd (fun i => eqD env (eqV env 28) i.plain i.td _ _) = _
      rw [tiStr]
      simp only [bnd_ok', eqD, eqL_dec]
    simp only [hp, hp1, bnd_ok', he]
    by_cases h1 : a = c
    · by_cases h2 : b = d
      · simp [h1, h2]
      · simp [h1, h2]
    · simp [h1]
  simp only [binOpO, eqOp, h30, notR, bnd_ok', cond_false]

/-! bloomeryref20.given -/
set_option maxHeartbeats 2000000 in
theorem given_ok (G : List (By × By × List By)) (p n : By) (v : Value) (m0 m : Mem) (hk0 : Keeps m0 m) (h : Givens m0 v G) (hl : G.length ≤ 9223372036854775807) : Spec Tryz.prog env 14 [v, labV p n] m
    (fun r m' => Keeps m m' ∧ ∃ sv, r = tupL [sv, .bool (findG G p n).isSome] ∧ Strs m' sv ((findG G p n).getD []) ∧ ((findG G p n).isSome = true → Strs m0 sv ((findG G p n).getD []))) := by
  obtain ⟨pvs, hE0, hp⟩ := h
  obtain ⟨a, cap, rfl, hlt, hld⟩ := hE0.keeps hk0
  refine Spec.enter tz_env fn_given rfl (nt := 26) rfl ?_
  refine At.seq (At.opsI tz_env ?_)
  simp (decide := true) only [OW, wantedL, OWg, execV, OWr, putW, ev, cst, leaf, at_set, get_set_at, setTs_cons, setTs_nil, at_nil, callC, builtinV, evL, evP, oev, lenBV, lenD, Env.tdR, bnd_ok', need_some, valR, memR, bothR, binOpV, binOpI, intOp, if_true, if_false, true_and, Int.ofNat_eq_natCast, natVal_cast, indexAddrD, blt_dec, beq_dec, ble_dec, decide_true, decide_false, cond_true, cond_false, Env.sizeR, Env.zeroR, addA_none, addrOf, loadV, aggT, mkVal, asOne, lenB, bstr, CW_bool, RW_ok, pickV, resultsV, resultL, oneOf, isLit, Bool.or_false, Bool.false_or, cellsR, newP, okP, newS, strOp, eqL_dec, Nat.add_zero, fieldR, nthF, aggL, tupL, extractV, nthV, unOpV, makeFuncV, callVal, invokeV, List.append_nil, List.nil_append, List.cons_append, buildSliceD, buildD, manyZ, putAll, putOne, placeS, overw, ow, oneC, List.length_nil, List.length_cons, Option.map_some, Nat.zero_add, Nat.mul_one, Nat.zero_mul, Nat.one_mul, Mem.next_new, memR, storeV, Nat.reduceAdd, Nat.reduceMul, Nat.reduceLT, Nat.reduceLeDiff, Nat.reduceEqDiff, Bool.not_true, Bool.not_false, labV]
  have hk := Keeps.new m (.cells [.string ⟨⟨p⟩⟩, .string ⟨⟨n⟩⟩] 31 none false 0)
  have hbox := loadC_new m [.string ⟨⟨p⟩⟩, .string ⟨⟨n⟩⟩] 31 none false 0 2 rfl
  have hnx : (m.new (.cells [.string ⟨⟨p⟩⟩, .string ⟨⟨n⟩⟩] 31 none false 0)).next = m.next + 1 := Mem.next_new _ _
  generalize hm1 : m.new (.cells [.string ⟨⟨p⟩⟩, .string ⟨⟨n⟩⟩] 31 none false 0) = m1 at hk hbox hnx ⊢
  refine At.seq (At.seq (At.opsI tz_env ?_))
  simp (decide := true) only [OW, wantedL, OWg, execV, OWr, putW, ev, cst, leaf, at_set, get_set_at, setTs_cons, setTs_nil, at_nil, callC, builtinV, evL, evP, oev, lenBV, lenD, Env.tdR, bnd_ok', need_some, valR, memR, bothR, binOpV, binOpI, intOp, if_true, if_false, true_and, Int.ofNat_eq_natCast, natVal_cast, indexAddrD, blt_dec, beq_dec, ble_dec, decide_true, decide_false, cond_true, cond_false, Env.sizeR, Env.zeroR, addA_none, addrOf, loadV, aggT, mkVal, asOne, lenB, bstr, CW_bool, RW_ok, pickV, resultsV, resultL, oneOf, isLit, Bool.or_false, Bool.false_or, cellsR, newP, okP, newS, strOp, eqL_dec, Nat.add_zero, fieldR, nthF, aggL, tupL, extractV, nthV, unOpV, makeFuncV, callVal, invokeV, List.append_nil, List.nil_append, List.cons_append, buildSliceD, buildD, manyZ, putAll, putOne, placeS, overw, ow, oneC, List.length_nil, List.length_cons, Option.map_some, Nat.zero_add, Nat.mul_one, Nat.zero_mul, Nat.one_mul, Mem.next_new, memR, storeV, Nat.reduceAdd, Nat.reduceMul, Nat.reduceLT, Nat.reduceLeDiff, Nat.reduceEqDiff, Bool.not_true, Bool.not_false, tiGivens]
  refine At.block ?_
  refine At.loopI (fun i tm m' => m' = m1 ∧ ∃ j : Nat, j ≤ G.length ∧ i = G.length - j ∧ tm.at 0 = .slice a G.length cap ∧ tm.at 3 = .pointer (some ⟨m.next, 0, none⟩) ∧ tm.at 8 = .int .i64 (G.length : Int) ∧ tm.at 9 = .int .i64 (j : Int) ∧ ∀ i, i < j → isG p n (G.getD i gD) = false) (n := G.length) ?_ ?_
  · refine ⟨rfl, 0, Nat.zero_le _, rfl, ?_, ?_, ?_, ?_, fun i hi => absurd hi (Nat.not_lt_zero _)⟩ <;> simp (decide := true) only [OW, wantedL, OWg, execV, OWr, putW, ev, cst, leaf, at_set, get_set_at, setTs_cons, setTs_nil, at_nil, callC, builtinV, evL, evP, oev, lenBV, lenD, Env.tdR, bnd_ok', need_some, valR, memR, bothR, binOpV, binOpI, intOp, if_true, if_false, true_and, Int.ofNat_eq_natCast, natVal_cast, indexAddrD, blt_dec, beq_dec, ble_dec, decide_true, decide_false, cond_true, cond_false, Env.sizeR, Env.zeroR, addA_none, addrOf, loadV, aggT, mkVal, asOne, lenB, bstr, CW_bool, RW_ok, pickV, resultsV, resultL, oneOf, isLit, Bool.or_false, Bool.false_or, cellsR, newP, okP, newS, strOp, eqL_dec, Nat.add_zero, fieldR, nthF, aggL, tupL, extractV, nthV, unOpV, makeFuncV, callVal, invokeV, List.append_nil, List.nil_append, List.cons_append, buildSliceD, buildD, manyZ, putAll, putOne, placeS, overw, ow, oneC, List.length_nil, List.length_cons, Option.map_some, Nat.zero_add, Nat.mul_one, Nat.zero_mul, Nat.one_mul, Mem.next_new, memR, storeV, Nat.reduceAdd, Nat.reduceMul, Nat.reduceLT, Nat.reduceLeDiff, Nat.reduceEqDiff, Bool.not_true, Bool.not_false] <;> rfl
  · rintro i tm m' ⟨rfl, j, hj, rfl, h0, h3, h8, h9, hall⟩ hrec
    refine At.seq (At.opsI tz_env ?_)
    simp (decide := true) only [OW, wantedL, OWg, execV, OWr, putW, ev, cst, leaf, at_set, get_set_at, setTs_cons, setTs_nil, at_nil, callC, builtinV, evL, evP, oev, lenBV, lenD, Env.tdR, bnd_ok', need_some, valR, memR, bothR, binOpV, binOpI, intOp, if_true, if_false, true_and, Int.ofNat_eq_natCast, natVal_cast, indexAddrD, blt_dec, beq_dec, ble_dec, decide_true, decide_false, cond_true, cond_false, Env.sizeR, Env.zeroR, addA_none, addrOf, loadV, aggT, mkVal, asOne, lenB, bstr, CW_bool, RW_ok, pickV, resultsV, resultL, oneOf, isLit, Bool.or_false, Bool.false_or, cellsR, newP, okP, newS, strOp, eqL_dec, Nat.add_zero, fieldR, nthF, aggL, tupL, extractV, nthV, unOpV, makeFuncV, callVal, invokeV, List.append_nil, List.nil_append, List.cons_append, buildSliceD, buildD, manyZ, putAll, putOne, placeS, overw, ow, oneC, List.length_nil, List.length_cons, Option.map_some, Nat.zero_add, Nat.mul_one, Nat.zero_mul, Nat.one_mul, Mem.next_new, memR, storeV, Nat.reduceAdd, Nat.reduceMul, Nat.reduceLT, Nat.reduceLeDiff, Nat.reduceEqDiff, Bool.not_true, Bool.not_false, h8, h9]
    refine At.seq (At.test ?_)
    simp (decide := true) only [OW, wantedL, OWg, execV, OWr, putW, ev, cst, leaf, at_set, get_set_at, setTs_cons, setTs_nil, at_nil, callC, builtinV, evL, evP, oev, lenBV, lenD, Env.tdR, bnd_ok', need_some, valR, memR, bothR, binOpV, binOpI, intOp, if_true, if_false, true_and, Int.ofNat_eq_natCast, natVal_cast, indexAddrD, blt_dec, beq_dec, ble_dec, decide_true, decide_false, cond_true, cond_false, Env.sizeR, Env.zeroR, addA_none, addrOf, loadV, aggT, mkVal, asOne, lenB, bstr, CW_bool, RW_ok, pickV, resultsV, resultL, oneOf, isLit, Bool.or_false, Bool.false_or, cellsR, newP, okP, newS, strOp, eqL_dec, Nat.add_zero, fieldR, nthF, aggL, tupL, extractV, nthV, unOpV, makeFuncV, callVal, invokeV, List.append_nil, List.nil_append, List.cons_append, buildSliceD, buildD, manyZ, putAll, putOne, placeS, overw, ow, oneC, List.length_nil, List.length_cons, Option.map_some, Nat.zero_add, Nat.mul_one, Nat.zero_mul, Nat.one_mul, Mem.next_new, memR, storeV, Nat.reduceAdd, Nat.reduceMul, Nat.reduceLT, Nat.reduceLeDiff, Nat.reduceEqDiff, Bool.not_true, Bool.not_false]
    by_cases hjl : j < G.length
    · have hd : decide ((j : Int) < (G.length : Int)) = true := decide_eq_true (by omega)
      obtain ⟨x, off, rfl, hx⟩ := hld j hjl
      have hb1 := hlt x off none rfl
      have hb2 : x < m.next + 1 := by omega
      have hb3 : m.next < m.next + 1 := by omega
      rw [← loadC_keeps hk hb1] at hx
      have hx0 := loadC_sub hx 0 2 (by omega)
      have hx2 := loadC_sub hx 2 1 (by omega)
      simp only [List.drop_zero, List.take_succ_cons, List.take_zero, List.drop_succ_cons, Nat.add_zero, bstr] at hx0 hx2
      simp only [hd, if_true]
      refine At.skip (At.seq (At.block (At.seq (At.opsI tz_env ?_))))
      simp (decide := true) only [OW, wantedL, OWg, execV, OWr, putW, ev, cst, leaf, at_set, get_set_at, setTs_cons, setTs_nil, at_nil, callC, builtinV, evL, evP, oev, lenBV, lenD, Env.tdR, bnd_ok', need_some, valR, memR, bothR, binOpV, binOpI, intOp, if_true, if_false, true_and, Int.ofNat_eq_natCast, natVal_cast, indexAddrD, blt_dec, beq_dec, ble_dec, decide_true, decide_false, cond_true, cond_false, Env.sizeR, Env.zeroR, addA_none, addrOf, loadV, aggT, mkVal, asOne, lenB, bstr, CW_bool, RW_ok, pickV, resultsV, resultL, oneOf, isLit, Bool.or_false, Bool.false_or, cellsR, newP, okP, newS, strOp, eqL_dec, Nat.add_zero, fieldR, nthF, aggL, tupL, extractV, nthV, unOpV, makeFuncV, callVal, invokeV, List.append_nil, List.nil_append, List.cons_append, buildSliceD, buildD, manyZ, putAll, putOne, placeS, overw, ow, oneC, List.length_nil, List.length_cons, Option.map_some, Nat.zero_add, Nat.mul_one, Nat.zero_mul, Nat.one_mul, Mem.next_new, memR, storeV, Nat.reduceAdd, Nat.reduceMul, Nat.reduceLT, Nat.reduceLeDiff, Nat.reduceEqDiff, Bool.not_true, Bool.not_false, h9]
      refine At.seq (At.drawI tz_env run0_ok (by kernel_rfl) rfl ?_)
      simp (decide := true) only [OW, wantedL, OWg, execV, OWr, putW, ev, cst, leaf, at_set, get_set_at, setTs_cons, setTs_nil, at_nil, callC, builtinV, evL, evP, oev, lenBV, lenD, Env.tdR, bnd_ok', need_some, valR, memR, bothR, binOpV, binOpI, intOp, if_true, if_false, true_and, Int.ofNat_eq_natCast, natVal_cast, indexAddrD, blt_dec, beq_dec, ble_dec, decide_true, decide_false, cond_true, cond_false, Env.sizeR, Env.zeroR, addA_none, addrOf, loadV, aggT, mkVal, asOne, lenB, bstr, CW_bool, RW_ok, pickV, resultsV, resultL, oneOf, isLit, Bool.or_false, Bool.false_or, cellsR, newP, okP, newS, strOp, eqL_dec, Nat.add_zero, fieldR, nthF, aggL, tupL, extractV, nthV, unOpV, makeFuncV, callVal, invokeV, List.append_nil, List.nil_append, List.cons_append, buildSliceD, buildD, manyZ, putAll, putOne, placeS, overw, ow, oneC, List.length_nil, List.length_cons, Option.map_some, Nat.zero_add, Nat.mul_one, Nat.zero_mul, Nat.one_mul, Mem.next_new, memR, storeV, Nat.reduceAdd, Nat.reduceMul, Nat.reduceLT, Nat.reduceLeDiff, Nat.reduceEqDiff, Bool.not_true, Bool.not_false, aheadL, aheadE, binds_eq, DWv, drawL, drOp, sortOf, isPure, isRead, isAlloc, drPure, drRead, drAlloc, drEff, drEff1, pastOk, laterOk, putB, putT, belowV, belowD, belowVs, belowA_none, belowA_some, belowN, belowF, putMany, forced, unforced, mem, nthD, Bool.and_true, Bool.true_and, Bool.or_true, Bool.true_or, List.getElem?_cons_zero, List.getElem?_cons_succ, h0, h3, tiGivens, tiGiven, tiLabel, hjl, hx0, hbox, hb1, hb2, hb3, hnx, eqLabel]
      refine At.test ?_
      simp (decide := true) only [OW, wantedL, OWg, execV, OWr, putW, ev, cst, leaf, at_set, get_set_at, setTs_cons, setTs_nil, at_nil, callC, builtinV, evL, evP, oev, lenBV, lenD, Env.tdR, bnd_ok', need_some, valR, memR, bothR, binOpV, binOpI, intOp, if_true, if_false, true_and, Int.ofNat_eq_natCast, natVal_cast, indexAddrD, blt_dec, beq_dec, ble_dec, decide_true, decide_false, cond_true, cond_false, Env.sizeR, Env.zeroR, addA_none, addrOf, loadV, aggT, mkVal, asOne, lenB, bstr, CW_bool, RW_ok, pickV, resultsV, resultL, oneOf, isLit, Bool.or_false, Bool.false_or, cellsR, newP, okP, newS, strOp, eqL_dec, Nat.add_zero, fieldR, nthF, aggL, tupL, extractV, nthV, unOpV, makeFuncV, callVal, invokeV, List.append_nil, List.nil_append, List.cons_append, buildSliceD, buildD, manyZ, putAll, putOne, placeS, overw, ow, oneC, List.length_nil, List.length_cons, Option.map_some, Nat.zero_add, Nat.mul_one, Nat.zero_mul, Nat.one_mul, Mem.next_new, memR, storeV, Nat.reduceAdd, Nat.reduceMul, Nat.reduceLT, Nat.reduceLeDiff, Nat.reduceEqDiff, Bool.not_true, Bool.not_false]
      by_cases hs : (G.getD j gD).1 = p ∧ (G.getD j gD).2.1 = n
      · have hd2 : decide ((G.getD j gD).1 = p ∧ (G.getD j gD).2.1 = n) = true := decide_eq_true hs
        have hfind : findG G p n = some (G.getD j gD).2.2 := by
          unfold findG
          rw [find_first (isG p n) gD G j hjl hall hd2]
          rfl
        simp only [hd2, if_true]
        refine At.seq (At.opsI tz_env ?_)
        simp (decide := true) only [OW, wantedL, OWg, execV, OWr, putW, ev, cst, leaf, at_set, get_set_at, setTs_cons, setTs_nil, at_nil, callC, builtinV, evL, evP, oev, lenBV, lenD, Env.tdR, bnd_ok', need_some, valR, memR, bothR, binOpV, binOpI, intOp, if_true, if_false, true_and, Int.ofNat_eq_natCast, natVal_cast, indexAddrD, blt_dec, beq_dec, ble_dec, decide_true, decide_false, cond_true, cond_false, Env.sizeR, Env.zeroR, addA_none, addrOf, loadV, aggT, mkVal, asOne, lenB, bstr, CW_bool, RW_ok, pickV, resultsV, resultL, oneOf, isLit, Bool.or_false, Bool.false_or, cellsR, newP, okP, newS, strOp, eqL_dec, Nat.add_zero, fieldR, nthF, aggL, tupL, extractV, nthV, unOpV, makeFuncV, callVal, invokeV, List.append_nil, List.nil_append, List.cons_append, buildSliceD, buildD, manyZ, putAll, putOne, placeS, overw, ow, oneC, List.length_nil, List.length_cons, Option.map_some, Nat.zero_add, Nat.mul_one, Nat.zero_mul, Nat.one_mul, Mem.next_new, memR, storeV, Nat.reduceAdd, Nat.reduceMul, Nat.reduceLT, Nat.reduceLeDiff, Nat.reduceEqDiff, Bool.not_true, Bool.not_false, h0, tiGivens, tiGiven, tiStrs, hjl, hx2]
        refine At.retI tz_env fn_given ?_
        simp (decide := true) only [OW, wantedL, OWg, execV, OWr, putW, ev, cst, leaf, at_set, get_set_at, setTs_cons, setTs_nil, at_nil, callC, builtinV, evL, evP, oev, lenBV, lenD, Env.tdR, bnd_ok', need_some, valR, memR, bothR, binOpV, binOpI, intOp, if_true, if_false, true_and, Int.ofNat_eq_natCast, natVal_cast, indexAddrD, blt_dec, beq_dec, ble_dec, decide_true, decide_false, cond_true, cond_false, Env.sizeR, Env.zeroR, addA_none, addrOf, loadV, aggT, mkVal, asOne, lenB, bstr, CW_bool, RW_ok, pickV, resultsV, resultL, oneOf, isLit, Bool.or_false, Bool.false_or, cellsR, newP, okP, newS, strOp, eqL_dec, Nat.add_zero, fieldR, nthF, aggL, tupL, extractV, nthV, unOpV, makeFuncV, callVal, invokeV, List.append_nil, List.nil_append, List.cons_append, buildSliceD, buildD, manyZ, putAll, putOne, placeS, overw, ow, oneC, List.length_nil, List.length_cons, Option.map_some, Nat.zero_add, Nat.mul_one, Nat.zero_mul, Nat.one_mul, Mem.next_new, memR, storeV, Nat.reduceAdd, Nat.reduceMul, Nat.reduceLT, Nat.reduceLeDiff, Nat.reduceEqDiff, Bool.not_true, Bool.not_false, Tryz.f14]
        rw [hfind]
        exact ⟨hk, _, rfl, ((hp j hjl).keeps hk0).keeps hk, fun _ => hp j hjl⟩
      · have hd2 : decide ((G.getD j gD).1 = p ∧ (G.getD j gD).2.1 = n) = false := decide_eq_false hs
        simp only [hd2, Bool.false_eq_true, if_false]
        refine At.skip (At.inBlock (At.opsI tz_env ?_))
        simp (decide := true) only [OW, wantedL, OWg, execV, OWr, putW, ev, cst, leaf, at_set, get_set_at, setTs_cons, setTs_nil, at_nil, callC, builtinV, evL, evP, oev, lenBV, lenD, Env.tdR, bnd_ok', need_some, valR, memR, bothR, binOpV, binOpI, intOp, if_true, if_false, true_and, Int.ofNat_eq_natCast, natVal_cast, indexAddrD, blt_dec, beq_dec, ble_dec, decide_true, decide_false, cond_true, cond_false, Env.sizeR, Env.zeroR, addA_none, addrOf, loadV, aggT, mkVal, asOne, lenB, bstr, CW_bool, RW_ok, pickV, resultsV, resultL, oneOf, isLit, Bool.or_false, Bool.false_or, cellsR, newP, okP, newS, strOp, eqL_dec, Nat.add_zero, fieldR, nthF, aggL, tupL, extractV, nthV, unOpV, makeFuncV, callVal, invokeV, List.append_nil, List.nil_append, List.cons_append, buildSliceD, buildD, manyZ, putAll, putOne, placeS, overw, ow, oneC, List.length_nil, List.length_cons, Option.map_some, Nat.zero_add, Nat.mul_one, Nat.zero_mul, Nat.one_mul, Mem.next_new, memR, storeV, Nat.reduceAdd, Nat.reduceMul, Nat.reduceLT, Nat.reduceLeDiff, Nat.reduceEqDiff, Bool.not_true, Bool.not_false, h9, wrap_i64 (n := (j : Int) + 1) (by omega) (by omega)]
        refine hrec (G.length - (j + 1)) _ _ (by omega) ⟨rfl, j + 1, hjl, rfl, ?_, ?_, ?_, ?_, ?_⟩
        · simp (decide := true) only [OW, wantedL, OWg, execV, OWr, putW, ev, cst, leaf, at_set, get_set_at, setTs_cons, setTs_nil, at_nil, callC, builtinV, evL, evP, oev, lenBV, lenD, Env.tdR, bnd_ok', need_some, valR, memR, bothR, binOpV, binOpI, intOp, if_true, if_false, true_and, Int.ofNat_eq_natCast, natVal_cast, indexAddrD, blt_dec, beq_dec, ble_dec, decide_true, decide_false, cond_true, cond_false, Env.sizeR, Env.zeroR, addA_none, addrOf, loadV, aggT, mkVal, asOne, lenB, bstr, CW_bool, RW_ok, pickV, resultsV, resultL, oneOf, isLit, Bool.or_false, Bool.false_or, cellsR, newP, okP, newS, strOp, eqL_dec, Nat.add_zero, fieldR, nthF, aggL, tupL, extractV, nthV, unOpV, makeFuncV, callVal, invokeV, List.append_nil, List.nil_append, List.cons_append, buildSliceD, buildD, manyZ, putAll, putOne, placeS, overw, ow, oneC, List.length_nil, List.length_cons, Option.map_some, Nat.zero_add, Nat.mul_one, Nat.zero_mul, Nat.one_mul, Mem.next_new, memR, storeV, Nat.reduceAdd, Nat.reduceMul, Nat.reduceLT, Nat.reduceLeDiff, Nat.reduceEqDiff, Bool.not_true, Bool.not_false, h0]
        · simp (decide := true) only [OW, wantedL, OWg, execV, OWr, putW, ev, cst, leaf, at_set, get_set_at, setTs_cons, setTs_nil, at_nil, callC, builtinV, evL, evP, oev, lenBV, lenD, Env.tdR, bnd_ok', need_some, valR, memR, bothR, binOpV, binOpI, intOp, if_true, if_false, true_and, Int.ofNat_eq_natCast, natVal_cast, indexAddrD, blt_dec, beq_dec, ble_dec, decide_true, decide_false, cond_true, cond_false, Env.sizeR, Env.zeroR, addA_none, addrOf, loadV, aggT, mkVal, asOne, lenB, bstr, CW_bool, RW_ok, pickV, resultsV, resultL, oneOf, isLit, Bool.or_false, Bool.false_or, cellsR, newP, okP, newS, strOp, eqL_dec, Nat.add_zero, fieldR, nthF, aggL, tupL, extractV, nthV, unOpV, makeFuncV, callVal, invokeV, List.append_nil, List.nil_append, List.cons_append, buildSliceD, buildD, manyZ, putAll, putOne, placeS, overw, ow, oneC, List.length_nil, List.length_cons, Option.map_some, Nat.zero_add, Nat.mul_one, Nat.zero_mul, Nat.one_mul, Mem.next_new, memR, storeV, Nat.reduceAdd, Nat.reduceMul, Nat.reduceLT, Nat.reduceLeDiff, Nat.reduceEqDiff, Bool.not_true, Bool.not_false, h3]
        · simp (decide := true) only [OW, wantedL, OWg, execV, OWr, putW, ev, cst, leaf, at_set, get_set_at, setTs_cons, setTs_nil, at_nil, callC, builtinV, evL, evP, oev, lenBV, lenD, Env.tdR, bnd_ok', need_some, valR, memR, bothR, binOpV, binOpI, intOp, if_true, if_false, true_and, Int.ofNat_eq_natCast, natVal_cast, indexAddrD, blt_dec, beq_dec, ble_dec, decide_true, decide_false, cond_true, cond_false, Env.sizeR, Env.zeroR, addA_none, addrOf, loadV, aggT, mkVal, asOne, lenB, bstr, CW_bool, RW_ok, pickV, resultsV, resultL, oneOf, isLit, Bool.or_false, Bool.false_or, cellsR, newP, okP, newS, strOp, eqL_dec, Nat.add_zero, fieldR, nthF, aggL, tupL, extractV, nthV, unOpV, makeFuncV, callVal, invokeV, List.append_nil, List.nil_append, List.cons_append, buildSliceD, buildD, manyZ, putAll, putOne, placeS, overw, ow, oneC, List.length_nil, List.length_cons, Option.map_some, Nat.zero_add, Nat.mul_one, Nat.zero_mul, Nat.one_mul, Mem.next_new, memR, storeV, Nat.reduceAdd, Nat.reduceMul, Nat.reduceLT, Nat.reduceLeDiff, Nat.reduceEqDiff, Bool.not_true, Bool.not_false, h8]
        · simp (decide := true) only [OW, wantedL, OWg, execV, OWr, putW, ev, cst, leaf, at_set, get_set_at, setTs_cons, setTs_nil, at_nil, callC, builtinV, evL, evP, oev, lenBV, lenD, Env.tdR, bnd_ok', need_some, valR, memR, bothR, binOpV, binOpI, intOp, if_true, if_false, true_and, Int.ofNat_eq_natCast, natVal_cast, indexAddrD, blt_dec, beq_dec, ble_dec, decide_true, decide_false, cond_true, cond_false, Env.sizeR, Env.zeroR, addA_none, addrOf, loadV, aggT, mkVal, asOne, lenB, bstr, CW_bool, RW_ok, pickV, resultsV, resultL, oneOf, isLit, Bool.or_false, Bool.false_or, cellsR, newP, okP, newS, strOp, eqL_dec, Nat.add_zero, fieldR, nthF, aggL, tupL, extractV, nthV, unOpV, makeFuncV, callVal, invokeV, List.append_nil, List.nil_append, List.cons_append, buildSliceD, buildD, manyZ, putAll, putOne, placeS, overw, ow, oneC, List.length_nil, List.length_cons, Option.map_some, Nat.zero_add, Nat.mul_one, Nat.zero_mul, Nat.one_mul, Mem.next_new, memR, storeV, Nat.reduceAdd, Nat.reduceMul, Nat.reduceLT, Nat.reduceLeDiff, Nat.reduceEqDiff, Bool.not_true, Bool.not_false]; rfl
        · intro i hi
          by_cases hij : i = j
          · subst hij; exact hd2
          · exact hall i (by omega)
    · have hd : decide ((j : Int) < (G.length : Int)) = false := decide_eq_false (by omega)
      simp only [hd, Bool.false_eq_true, if_false]
      refine At.exit rfl (At.seq (At.opsI tz_env ?_))
      simp (decide := true) only [OW, wantedL, OWg, execV, OWr, putW, ev, cst, leaf, at_set, get_set_at, setTs_cons, setTs_nil, at_nil, callC, builtinV, evL, evP, oev, lenBV, lenD, Env.tdR, bnd_ok', need_some, valR, memR, bothR, binOpV, binOpI, intOp, if_true, if_false, true_and, Int.ofNat_eq_natCast, natVal_cast, indexAddrD, blt_dec, beq_dec, ble_dec, decide_true, decide_false, cond_true, cond_false, Env.sizeR, Env.zeroR, addA_none, addrOf, loadV, aggT, mkVal, asOne, lenB, bstr, CW_bool, RW_ok, pickV, resultsV, resultL, oneOf, isLit, Bool.or_false, Bool.false_or, cellsR, newP, okP, newS, strOp, eqL_dec, Nat.add_zero, fieldR, nthF, aggL, tupL, extractV, nthV, unOpV, makeFuncV, callVal, invokeV, List.append_nil, List.nil_append, List.cons_append, buildSliceD, buildD, manyZ, putAll, putOne, placeS, overw, ow, oneC, List.length_nil, List.length_cons, Option.map_some, Nat.zero_add, Nat.mul_one, Nat.zero_mul, Nat.one_mul, Mem.next_new, memR, storeV, Nat.reduceAdd, Nat.reduceMul, Nat.reduceLT, Nat.reduceLeDiff, Nat.reduceEqDiff, Bool.not_true, Bool.not_false, tiStrs, tiStr]
      refine At.retI tz_env fn_given ?_
      simp (decide := true) only [OW, wantedL, OWg, execV, OWr, putW, ev, cst, leaf, at_set, get_set_at, setTs_cons, setTs_nil, at_nil, callC, builtinV, evL, evP, oev, lenBV, lenD, Env.tdR, bnd_ok', need_some, valR, memR, bothR, binOpV, binOpI, intOp, if_true, if_false, true_and, Int.ofNat_eq_natCast, natVal_cast, indexAddrD, blt_dec, beq_dec, ble_dec, decide_true, decide_false, cond_true, cond_false, Env.sizeR, Env.zeroR, addA_none, addrOf, loadV, aggT, mkVal, asOne, lenB, bstr, CW_bool, RW_ok, pickV, resultsV, resultL, oneOf, isLit, Bool.or_false, Bool.false_or, cellsR, newP, okP, newS, strOp, eqL_dec, Nat.add_zero, fieldR, nthF, aggL, tupL, extractV, nthV, unOpV, makeFuncV, callVal, invokeV, List.append_nil, List.nil_append, List.cons_append, buildSliceD, buildD, manyZ, putAll, putOne, placeS, overw, ow, oneC, List.length_nil, List.length_cons, Option.map_some, Nat.zero_add, Nat.mul_one, Nat.zero_mul, Nat.one_mul, Mem.next_new, memR, storeV, Nat.reduceAdd, Nat.reduceMul, Nat.reduceLT, Nat.reduceLeDiff, Nat.reduceEqDiff, Bool.not_true, Bool.not_false, Tryz.f14]
      have hfind : findG G p n = none := by
        unfold findG
        rw [find_nothing (isG p n) gD G fun i hi => hall i (by omega)]
        rfl
      rw [hfind]
      refine ⟨hk.also _, _, rfl, ⟨_, 0, rfl, fun x o s e => ?_, fun i hi => absurd hi (Nat.not_lt_zero _)⟩, fun h => by cases h⟩
      cases e
      rw [Mem.next_new]; omega
end Go.Sh
