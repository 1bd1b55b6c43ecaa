/-
  PART OF A CLAIM's PROOF (ShU, ShV, ShW): a shadow of the machine, or what is shown by it.
-/
import Derived.Test.YteaphfbalgmhlaaGreatDoorShQ
set_option linter.unusedSimpArgs false
set_option linter.unusedVariables false
/-
  What the machine does with an operation's result, whole; operations in a row.
-/
namespace Go.Sh
open Go.RowKit

section
variable {P : Program} {E : Env}
variable {base : List Frame} {b : FuncId} {ρ ρ₁ : Ren} {m m₁ : Mem} {w w₁ : World} {M M₁ : Machine} {st : St}

theorem roR_none {ρ : Ren} {x : Option Nat} (h : RoR ρ Option.none x) : x = Option.none := by cases h; rfl

theorem addDefer_sim {a a' : AF} {f : Frame} {d d' : Deferred} (e : addDefer d a = .ok a') (h : FrR ρ a f) (hd : DR ρ d d') : FrR ρ a' { f with defers := d' :: f.defers } ∧ a'.fn = a.fn ∧ f.roundOf = none := by
  obtain ⟨fn, nt, tm, td, ds, md, kd, ro⟩ := a
  obtain ⟨h1, h2, h3, h4, h5, h6, h7⟩ := h
  simp only at h1 h2 h3 h4 h5 h6 h7
  cases ro with
  | some l => simp [addDefer] at e
  | none =>
    simp only [addDefer] at e; cases e
    exact ⟨⟨h1, h2, h3, .cons _ _ _ _ hd h4, h5, h6, h7⟩, rfl, roR_none h7⟩

theorem recoverV_sim {a : AF} {as : List AF} {f : Frame} {fs : List Frame} {s : Sem Next} (h : SR E ρ base a as m f fs w) (hM : ∀ f' fs' w', (stepG.apply P true f fs none s w).bare = .go (gor f' fs') w' → Go.step P M = .next (lone f' fs' w'))
    (hs : s.run P w = .ok .recover w) (e : recoverV a m a.kind a.roundOf as = .ok st) : After P E base (bot a as) ρ m w M st := by
  obtain ⟨hfr, hcs, hm, hg⟩ := h
  have hk := hfr.kind
  have hro := hfr.roundOf
  cases hkd : a.kind <;> rw [hkd] at e hk <;> try (simp [recoverV] at e; done)
  cases har : a.roundOf with
  | some l => rw [har] at e; simp [recoverV] at e
  | none =>
  rw [har] at e hro
  generalize hfro : f.roundOf = fro at hro
  cases hro
  cases hcs with
  | nil => simp [recoverV] at e
  | cons c cf rest rest' hc hrest =>
    obtain ⟨fn, nt, tm, td, ds, md, kd, ro⟩ := c
    have hmd := hc.mode
    simp only at hmd
    have hnone : goFin a .nilIface (⟨fn, nt, tm, td, ds, md, kd, ro⟩ :: rest) m = .ok st → tryRecover f (cf :: rest') = none → After P E base (bot a (⟨fn, nt, tm, td, ds, md, kd, ro⟩ :: rest)) ρ m w M st := by
      intro e' ht
      exact (goFin_sim ⟨hfr, .cons _ _ _ _ hc hrest, hm, hg⟩ .inil e').step (hM _ _ _ (apply_recover_none hs hfro ht))
    generalize hcm : cf.mode = cm at hmd
    cases hmd with
    | run => simp only [recoverV] at e; exact hnone e (by simp [tryRecover, hk, hcm])
    | returning => simp only [recoverV] at e; exact hnone e (by simp [tryRecover, hk, hcm])
    | panicking l l' hl =>
      cases hl with
      | nil => simp only [recoverV] at e; exact hnone e (by simp [tryRecover, hk, hcm])
      | cons v v' x y older older' hv hold =>
        cases x with
        | true => simp only [recoverV] at e; exact hnone e (by simp [tryRecover, hk, hcm])
        | false =>
        cases y with
        | true => simp only [recoverV] at e; exact hnone e (by simp [tryRecover, hk, hcm])
        | false =>
          simp only [recoverV] at e
          have ht : tryRecover f (cf :: rest') = some (v', { cf with mode := .panicking (⟨v', true, false⟩ :: older') } :: rest') := by
            simp [tryRecover, hk, hcm]
          have hc' : FrR ρ ⟨fn, nt, tm, td, ds, .panicking (⟨v, true, false⟩ :: older), kd, ro⟩ { cf with mode := .panicking (⟨v', true, false⟩ :: older') } :=
            ⟨hc.fn, hc.tm, hc.todo, hc.defers, .panicking _ _ (.cons _ _ _ _ _ _ hv hold), hc.kind, hc.roundOf⟩
          have key := goFin_sim (P := P) ⟨hfr, .cons _ _ _ _ hc' hrest, hm, hg⟩ hv e
          have hb : bot a (⟨fn, nt, tm, td, ds, .panicking (⟨v, true, false⟩ :: older), kd, ro⟩ :: rest) = bot a (⟨fn, nt, tm, td, ds, .panicking (⟨v, false, false⟩ :: older), kd, ro⟩ :: rest) := by
            refine bot_fn ?_ rest
            rfl
          rw [hb] at key
          exact key.step (hM _ _ _ (apply_recover_some hs hfro ht))

theorem applyR_sim (hE : EnvOk P E) {a : AF} {as : List AF} {f : Frame} {fs : List Frame} {s : Sem Next} {res : Res} (h : SR E ρ base a as m f fs w) (hM : ∀ f' fs' w', (stepG.apply P true f fs none s w).bare = .go (gor f' fs') w' → Go.step P M = .next (lone f' fs' w'))
    (hs : Outs P ρ m w res (s.run P w)) (hnc : ∀ d a b c k, f.todo ≠ .call d a b c :: k) (e : applyR res E a as = .ok st) : After P E base (bot a as) ρ m w M st := by
  cases res with
  | val v m' =>
    simp only [applyR] at e
    rcases hs with ⟨v', ρ', w', h1, h2, h3, h4⟩ | ⟨fn, args, h1, h2⟩
    · have key := goFin_sim (P := P) ⟨h.fr.mono h4.le, h.cs.mono h4.le, h3, h.g.mono h4.le⟩ h2 e
      rcases h1 with h1 | ⟨h1, rfl⟩
      · exact (key.step (hM _ _ _ (apply_value h1))).ext h4
      · exact (key.step (hM _ _ _ (apply_skip h1))).ext h4
    · have hstep := hM _ _ _ (apply_enter h1 hnc)
      obtain ⟨en, w', frE, ⟨v', ρ', rfl, h3, h4, h5⟩, hc, hfn, hl⟩ := h2 (f :: fs)
      have key := goFin_sim (P := P) ⟨h.fr.mono h5.le, h.cs.mono h5.le, h4, h.g.mono h5.le⟩ h3 e
      exact ((key.step (step_leave_returned hl)).steps hc).step hstep |>.ext h5
  | enter fn args m' =>
    simp only [applyR] at e
    obtain ⟨rfl, args', h1, h2⟩ := hs
    obtain ⟨a', e1, e2⟩ := R.bnd_ok e
    obtain ⟨k1, k2⟩ := enterF_sim hE e1 h2
    have key := After.go (P := P) (E := E) (base := base) ⟨k1, .cons _ _ _ _ h.fr h.cs, h.m, h.g⟩ e2
    exact key.step (hM _ _ _ (apply_enter h1 hnc))
  | round l r ts m' =>
    simp only [applyR] at e
    obtain ⟨rfl, p, ts', hp, h1, h2⟩ := hs
    have hfr : FrR ρ ⟨r.fn, ts.length, setTs ts 0 .nil, [.code r.assign, .beginRound, .code r.body], [], .run, .normal, some l⟩ (Frame.round p.b r.fn ⟨ts'⟩ r.assign r.body .normal) := by
      refine ⟨rfl, ?_, .cons _ _ _ _ (.code _) (.cons _ _ _ _ .beginRound (.cons _ _ _ _ (.code _) .nil)), .nil, .run, rfl, .some l p hp⟩
      have := TR.ofArgs h2 0
      simp only [Nat.zero_max, Nat.zero_sub, Array.replicate_zero, Array.append_empty] at this
      exact this
    have key := After.go (P := P) (E := E) (base := base) ⟨hfr, .cons _ _ _ _ h.fr h.cs, h.m, h.g⟩ e
    exact key.step (hM _ _ _ (apply_round h1))
  | defer d m' =>
    simp only [applyR] at e
    obtain ⟨rfl, d', h1, h2⟩ := hs
    obtain ⟨a', e1, e2⟩ := R.bnd_ok e
    obtain ⟨k1, k2, k3⟩ := addDefer_sim e1 h.fr h2
    have key := goFin_sim (P := P) ⟨k1, h.cs, h.m, h.g⟩ (.tuple [] [] .nil) e2
    rw [bot_fn k2] at key
    exact key.step (hM _ _ _ (apply_defer h1))
  | recover m' =>
    simp only [applyR] at e
    obtain ⟨rfl, h1⟩ := hs
    exact recoverV_sim h hM h1 e
  | panic t v m' =>
    simp only [applyR] at e
    obtain ⟨rfl, v', h1, h2⟩ := hs
    obtain ⟨k1, k2⟩ := raiseF_sim h.fr (.cons _ _ false false _ _ (.iface t _ _ h2) .nil)
    have key := After.go (P := P) (E := E) (base := base) ⟨k1, h.cs, h.m, h.g⟩ e
    rw [bot_fn k2] at key
    exact key.step (hM _ _ _ (apply_panic h1))

/-! guards -/
theorem nthO_eq {α : Type} : ∀ (l : List α) (i : Nat), nthO l i = l[i]?
  | [], i => by rfl
  | _ :: _, 0 => rfl
  | _ :: l, i + 1 => by
    show nthO l i = _
    rw [nthO_eq l i]; simp

theorem wanted_sim {nt : Nat} {tm : T Value} {tmps : Array Value} (h : TR ρ nt tm tmps) {ops : Array Oper} {o : Oper} {q : Bool} (e : wantedL o.guard ops tm = .ok q) : Region.wanted o (yielded ops tmps) = q := by
  unfold Region.wanted
  cases hg : o.guard with
  | none => rw [hg] at e; simp only [wantedL] at e; cases e; rfl
  | some jw =>
    obtain ⟨j, want⟩ := jw
    rw [hg] at e
    simp only [wantedL] at e
    obtain ⟨y, e1, e2⟩ := R.bnd_ok e
    cases e2
    have hy : yielded ops tmps j = y := by
      unfold yieldedL dstOf at e1
      rw [nthO_eq] at e1
      unfold yielded
      rw [← Array.getElem?_toList]
      cases ho : ops.toList[j]? with
      | none => rw [ho] at e1; simp only [dstO] at e1; cases e1; rfl
      | some o' =>
        rw [ho] at e1
        simp only [dstO] at e1
        simp only [Option.bind_some]
        cases hd : o'.dst with
        | none => rw [hd] at e1; cases e1; rfl
        | some d =>
          rw [hd] at e1
          simp only at e1
          simp only [Option.bind_some]
          have hat := h.at_ d
          unfold T.at at hat
          rw [Array.getD_eq_getD_getElem?] at hat
          cases hx : tm.get d with
          | none =>
            rw [hx] at hat e1
            simp only [asB] at e1; cases e1
            simp only at hat
            cases ht : tmps[d]? with
            | none => rfl
            | some v =>
              rw [ht] at hat
              simp only [Option.getD_some] at hat
              cases hat
              rfl
          | some v =>
            rw [hx] at hat e1
            simp only at hat
            cases ht : tmps[d]? with
            | none =>
              rw [ht] at hat
              simp only [Option.getD_none, undef] at hat
              cases hat
              · simp only [asB] at e1; cases e1; rfl
              · simp [asB] at e1
            | some v' =>
              rw [ht] at hat
              simp only [Option.getD_some] at hat
              cases hat <;> simp only [asB] at e1 <;> first | (cases e1; rfl) | (cases e1; done)
    show (yielded ops tmps j == some want) = isB y want
    rw [hy]
    cases y with
    | none => rfl
    | some b => simp [isB]
end
end Go.Sh

/-
  Operations in a row; leaving; ranges over functions.
-/
namespace Go.Sh
open Go.RowKit

section
variable {P : Program} {E : Env}
variable {base : List Frame} {b : FuncId} {ρ ρ₁ : Ren} {m m₁ : Mem} {w w₁ : World} {M M₁ : Machine} {st : St}

theorem step_region_nil {fn : FuncId} {tmps : Array Value} {ops : Array Oper} {k : List Item} {ds : List Deferred} {kd : CallKind} {ro : Option Nat} {fs : List Frame} :
    Go.step P (lone ⟨fn, tmps, .inRegion ops [] :: k, ds, .run, kd, ro⟩ fs w) = .next (lone ⟨fn, tmps, k, ds, .run, kd, ro⟩ fs w) :=
  step_lone_go (by simp [stepG, stepG.exec])

theorem execV_defer {o : Oper} {tm : T Value} {res : Res} {c : Call} (ho : o.op = .defer c) (e : execV o.op E tm m = .ok res) : ∃ d m', res = .defer d m' := by
  rw [ho] at e
  obtain ⟨c, ⟨args⟩, ts⟩ := c
  simp only [execV] at e
  cases c <;> simp only [deferC] at e <;> try (cases e; done)
  rename_i f
  generalize ev E tm f = v at e
  cases v <;> simp only [deferT] at e <;> try (cases e; done)
  rename_i a b c
  obtain ⟨b⟩ := b
  simp only [deferT] at e
  cases e
  exact ⟨_, _, rfl⟩

theorem opsL_sim (hE : EnvOk P E) {afn : FuncId} {ant : Nat} {atm : T Value} {atd : List AI} {ads : List Deferred} {akd : CallKind} {aro : Option Nat} {as : List AF} {k : List AI} {k' : List Item} {ops : Array Oper} {ds : List Deferred} {ro : Option Nat} : ∀ (os : List Oper) (i : Nat) (tm : T Value) (m : Mem) (ρ : Ren) (w : World) (tmps : Array Value) (fs : List Frame),
    os = ops.toList.drop i → TR ρ ant tm tmps → IRs ρ k k' → DRs ρ ads ds → RoR ρ aro ro → CR ρ base as fs → MemR ρ m w → GlobR ρ E.ng → opsL E ops ⟨afn, ant, atm, atd, ads, .run, akd, aro⟩ as k os i tm m = .ok st →
    After P E base (bot ⟨afn, ant, atm, atd, ads, .run, akd, aro⟩ as) ρ m w (lone ⟨afn, tmps, .inRegion ops (List.range' i os.length) :: k', ds, .run, akd, ro⟩ fs w) st := by
  intro os
  induction os with
  | nil =>
    intro i tm m ρ w tmps fs hd ht hk hds hro hcs hm hg e
    simp only [opsL, withT] at e
    have key := After.go (P := P) (E := E) (base := base) (f := ⟨afn, tmps, k', ds, .run, akd, ro⟩) ⟨⟨rfl, ht, hk, hds, .run, rfl, hro⟩, hcs, hm, hg⟩ e
    rw [bot_fn (a' := ⟨afn, ant, tm, k, ads, .run, akd, aro⟩) (a := ⟨afn, ant, atm, atd, ads, .run, akd, aro⟩) rfl] at key
    exact key.step step_region_nil
  | cons o os ih =>
    intro i tm m ρ w tmps fs hd ht hk hds hro hcs hm hg e
    obtain ⟨ho, hd'⟩ := drop_cons hd
    have ho' : ops[i]? = some o := by rw [← Array.getElem?_toList]; exact ho
    simp only [opsL] at e
    obtain ⟨q, e1, e2⟩ := R.bnd_ok e
    have hw := wanted_sim ht e1
    simp only [List.length_cons, List.range'_succ]
    cases q with
    | false =>
      simp only [cond_false] at e2
      obtain ⟨tm', e3, e4⟩ := R.bnd_ok e2
      have key := ih (i + 1) tm' m ρ w (putA o.dst undef tmps) fs hd' (ht.put e3 (.tuple [] [] .nil)) hk hds hro hcs hm hg e4
      refine key.step ?_
      rw [stepG_skipOp ho' hw, finish_region rfl ho']
    | true =>
      simp only [cond_true] at e2
      obtain ⟨res, e3, e4⟩ := R.bnd_ok e2
      have hsim := execV_sim (P := P) hE hm (o := o) (tm := tm) (g := Frame.eval ⟨afn, tmps, .inRegion ops (i :: List.range' (i + 1) os.length) :: k', ds, .run, akd, ro⟩) e3 (fun x _ => ev_sim (a := ⟨afn, ant, tm, k, ads, .run, akd, aro⟩) (f := ⟨afn, tmps, .inRegion ops (i :: List.range' (i + 1) os.length) :: k', ds, .run, akd, ro⟩) ht hg x)
      have hfr : FrR ρ ⟨afn, ant, tm, .inRegion ops (o :: os) i :: k, ads, .run, akd, aro⟩ ⟨afn, tmps, .inRegion ops (i :: List.range' (i + 1) os.length) :: k', ds, .run, akd, ro⟩ := by
        refine ⟨rfl, ht, .cons _ _ _ _ ?_ hk, hds, .run, rfl, hro⟩
        have := IR.inRegion (ρ := ρ) ops (o :: os) i hd
        simp only [List.length_cons, List.range'_succ] at this
        exact this
      have hnd : ro = none ∨ ∀ c, o.op ≠ .defer c := by
        cases hop : o.op <;> try (refine .inr fun c q => ?_; cases q; done)
        rename_i c
        obtain ⟨d, m', rfl⟩ := execV_defer hop e3
        simp only [contO, applyR, withT] at e4
        obtain ⟨a', f1, f2⟩ := R.bnd_ok e4
        cases aro with
        | none => exact .inl (roR_none hro)
        | some l => simp [addDefer] at f1
      have hM : ∀ f' fs' w', (stepG.apply P true ⟨afn, tmps, .inRegion ops (i :: List.range' (i + 1) os.length) :: k', ds, .run, akd, ro⟩ fs none (execOp (Frame.eval ⟨afn, tmps, .inRegion ops (i :: List.range' (i + 1) os.length) :: k', ds, .run, akd, ro⟩) o) w).bare = .go (gor f' fs') w' →
          Go.step P (lone ⟨afn, tmps, .inRegion ops (i :: List.range' (i + 1) os.length) :: k', ds, .run, akd, ro⟩ fs w) = .next (lone f' fs' w') := by
        intro f' fs' w' hh
        refine step_of ?_
        rw [stepG_op ho' hw hnd]
        exact hh
      have hother : (∀ v m', res ≠ .val v m') → After P E base (bot ⟨afn, ant, atm, atd, ads, .run, akd, aro⟩ as) ρ m w (lone ⟨afn, tmps, .inRegion ops (i :: List.range' (i + 1) os.length) :: k', ds, .run, akd, ro⟩ fs w) st := by
        intro hne
        have e5 : applyR res E ⟨afn, ant, tm, .inRegion ops (o :: os) i :: k, ads, .run, akd, aro⟩ as = .ok st := by
          cases res with
          | val v m' => exact absurd rfl (hne v m')
          | _ => exact e4
        have key := applyR_sim (P := P) (base := base) hE ⟨hfr, hcs, hm, hg⟩ hM hsim (fun d a b c k q => by cases q) e5
        rw [bot_fn (a' := ⟨afn, ant, tm, .inRegion ops (o :: os) i :: k, ads, .run, akd, aro⟩) (a := ⟨afn, ant, atm, atd, ads, .run, akd, aro⟩) rfl] at key
        exact key
      cases res with
      | val v m' =>
        simp only [contO] at e4
        obtain ⟨tm', e5, e6⟩ := R.bnd_ok e4
        rcases hsim with ⟨v', ρ', w', h1, h2, h3, h4⟩ | ⟨fn, args, h1, h2⟩
        · have key := ih (i + 1) tm' m' ρ' w' (putA o.dst v' tmps) fs hd' ((ht.mono h4.le).put e5 h2) (hk.mono h4.le) (hds.mono h4.le) (hro.mono h4.le) (hcs.mono h4.le) h3 (hg.mono h4.le) e6
          refine After.ext h4 (key.step ?_)
          have hf : ∀ u, Frame.finish ⟨afn, tmps, .inRegion ops (i :: List.range' (i + 1) os.length) :: k', ds, .run, akd, ro⟩ u = ⟨afn, putA o.dst u tmps, .inRegion ops (List.range' (i + 1) os.length) :: k', ds, .run, akd, ro⟩ := fun u => finish_region rfl ho' u
          rcases h1 with h1 | ⟨h1, rfl⟩
          · rw [hM _ _ _ (apply_value h1), hf]
          · rw [hM _ _ _ (apply_skip h1), hf]
        · have hstep := hM _ _ _ (apply_enter h1 (fun d a b c k q => by cases q))
          obtain ⟨en, w', frE, ⟨v', ρ', rfl, h3, h4, h5⟩, hc, hfn, hl⟩ := h2 (⟨afn, tmps, .inRegion ops (i :: List.range' (i + 1) os.length) :: k', ds, .run, akd, ro⟩ :: fs)
          have key := ih (i + 1) tm' m' ρ' w' (putA o.dst v' tmps) fs hd' ((ht.mono h5.le).put e5 h3) (hk.mono h5.le) (hds.mono h5.le) (hro.mono h5.le) (hcs.mono h5.le) h4 (hg.mono h5.le) e6
          have hf : ∀ u, Frame.finish ⟨afn, tmps, .inRegion ops (i :: List.range' (i + 1) os.length) :: k', ds, .run, akd, ro⟩ u = ⟨afn, putA o.dst u tmps, .inRegion ops (List.range' (i + 1) os.length) :: k', ds, .run, akd, ro⟩ := fun u => finish_region rfl ho' u
          have hl' := step_leave_returned (c := ⟨afn, tmps, .inRegion ops (i :: List.range' (i + 1) os.length) :: k', ds, .run, akd, ro⟩) (cs := fs) hl
          rw [hf] at hl'
          exact After.ext h5 (((key.step hl').steps hc).step hstep)
      | _ => exact hother (fun _ _ q => by cases q)

/-! leaving -/
inductive LeavesBy : List Item → Option Code → Prop where
  | over : LeavesBy [] none
  | ret (k : List Item) : LeavesBy (.code .ret :: k) (some .ret)
  | exit (id : Nat) (k : List Item) (h : exitTo id k = none) : LeavesBy (.code (.exit id) :: k) (some (.exit id))

theorem step_leaves {fn : FuncId} {tmps : Array Value} {todo : List Item} {ds : List Deferred} {kd : CallKind} {fs : List Frame} {jump : Option Code} (h : LeavesBy todo jump) (hj : jump = none ∨ jump = some .ret) :
    Go.step P (lone ⟨fn, tmps, todo, ds, .run, kd, none⟩ fs w) = .next (lone ⟨fn, tmps, todo, ds, .returning, kd, none⟩ fs w) := by
  refine step_lone_go ?_
  cases h with
  | over => simp [stepG, stepG.exec]
  | ret k => simp [stepG, stepG.exec]
  | exit id k hx => rcases hj with q | q <;> cases q

theorem step_leaves_round {fn : FuncId} {tmps : Array Value} {todo : List Item} {ds : List Deferred} {l : Nat} {c : Frame} {fs : List Frame} {jump : Option Code} {v : Value} (h : LeavesBy todo jump) (hr : (Instr.endRound l jump).run P w = .ok v w₁) :
    Go.step P (lone ⟨fn, tmps, todo, ds, .run, .normal, some l⟩ (c :: fs) w) = .next (lone (c.finish v) fs w₁) := by
  refine step_lone_go ?_
  cases h with
  | over => simp [stepG, stepG.exec, hr, doReturn]
  | ret k => simp [stepG, stepG.exec, hr, doReturn]
  | exit id k hx => simp [stepG, stepG.exec, hr, doReturn, hx]

theorem LR.with {ρ : Ren} {r r' : Loop} (h : LR ρ r r') (s : LoopState) (j : Option Code) : LR ρ ⟨s, j, r.fn, r.tmps, r.params, r.assign, r.body, r.defers⟩ ⟨s, j, r'.fn, r'.tmps, r'.params, r'.assign, r'.body, r'.defers⟩ :=
  ⟨rfl, rfl, h.fn, h.tmps, h.params, h.assign, h.body, h.defers⟩

theorem setLoop_sim (h : MemR ρ m w) {l : Nat} {r r' : Loop} {p : Pl} (hg : m.get l = some (.loop r)) (hp : ρ l = some p) (hb : w.heap[p.b]? = some (.loop r')) (hl : LR ρ r r') (s : LoopState) (j : Option Code) :
    ∃ w', (setObj p.b (.loop ⟨s, j, r'.fn, r'.tmps, r'.params, r'.assign, r'.body, r'.defers⟩)).run P w = .ok () w' ∧ MemR ρ (m.put l (.loop ⟨s, j, r.fn, r.tmps, r.params, r.assign, r.body, r.defers⟩)) w' ∧
      Ext ρ m w ρ (m.put l (.loop ⟨s, j, r.fn, r.tmps, r.params, r.assign, r.body, r.defers⟩)) w' := by
  have key := h.write (o' := .loop ⟨s, j, r.fn, r.tmps, r.params, r.assign, r.body, r.defers⟩) (.loop ⟨s, j, r'.fn, r'.tmps, r'.params, r'.assign, r'.body, r'.defers⟩) hg rfl rfl hp (.loop _ _ (hl.with s j))
  exact ⟨_, run_setObj hb (by simp), key.1, key.2⟩

theorem leaveF_sim {a : AF} {as : List AF} {f : Frame} {fs : List Frame} {jump : Option Code} (h : SR E ρ base a as m f fs w) (hmode : a.mode = .run) (hl : LeavesBy f.todo jump) (e : leaveF a as m jump = .ok st) :
    After P E base (bot a as) ρ m w (lone f fs w) st := by
  obtain ⟨hfr, hcs, hm, hg⟩ := h
  obtain ⟨afn, ant, atm, atd, ads, amd, akd, aro⟩ := a
  obtain ⟨ffn, ftmps, ftodo, fds, fmd, fkd, fro⟩ := f
  obtain ⟨h1, h2, h3, h4, h5, h6, h7⟩ := hfr
  simp only at hmode h1 h2 h3 h4 h5 h6 h7 hl
  subst hmode
  cases h5
  subst h1
  subst h6
  cases h7 with
  | none =>
    have key : goOn ⟨ffn, ant, atm, atd, ads, .returning, fkd, none⟩ as m = .ok st → (jump = none ∨ jump = some .ret) → After P E base (bot ⟨ffn, ant, atm, atd, ads, .run, fkd, none⟩ as) ρ m w (lone ⟨ffn, ftmps, ftodo, fds, .run, fkd, none⟩ fs w) st := by
      intro e' hj
      have k := After.go (P := P) (E := E) (base := base) (f := ⟨ffn, ftmps, ftodo, fds, .returning, fkd, none⟩) ⟨⟨rfl, h2, h3, h4, .returning, rfl, .none⟩, hcs, hm, hg⟩ e'
      rw [bot_fn (a' := ⟨ffn, ant, atm, atd, ads, .returning, fkd, none⟩) (a := ⟨ffn, ant, atm, atd, ads, .run, fkd, none⟩) rfl] at k
      exact k.step (step_leaves hl hj)
    cases hl with
    | over => simp only [leaveF] at e; exact key e (.inl rfl)
    | ret k => simp only [leaveF] at e; exact key e (.inr rfl)
    | exit id k hx => simp [leaveF] at e
  | some l p hp =>
    cases fkd <;> try (simp [leaveF] at e; done)
    simp only [leaveF] at e
    obtain ⟨r, e1, e2⟩ := R.bnd_ok e
    obtain ⟨hget, r', hb, hlr⟩ := loopO_ok hm e1 hp
    cases hcs with
    | nil => simp [leaveR] at e2
    | cons c cf rest rest' hc hrest =>
      simp only [leaveR] at e2
      obtain ⟨w', q1, q2, q3⟩ := setLoop_sim (P := P) hm hget hp hb hlr (if jump.isNone then .ready else .done) jump
      have hend : (Instr.endRound p.b jump).run P w = .ok (.bool jump.isNone) w' := by
        simp only [Instr.endRound, Instr.getLoop, Sem.run_bind, run_getObj hb (by simp), Result.andThen_ok, Sem.run_pure, q1]
      have key := goFin_sim (P := P) ⟨hc, hrest, q2, hg⟩ (.bool _) e2
      exact After.ext q3 (key.step (step_leaves_round hl hend))

theorem exitTo_sim {id : Nat} {k : List AI} {k' : List Item} (h : IRs ρ k k') : (exitToL id k = none ∧ exitTo id k' = none) ∨ ∃ r r', exitToL id k = some r ∧ exitTo id k' = some r' ∧ IRs ρ r r' := by
  induction h with
  | nil => exact .inl ⟨rfl, rfl⟩
  | cons a b l l' hab hl ih =>
    cases hab <;> try (simp only [exitToL, exitTo]; exact ih)
    rename_i j
    simp only [exitToL, exitTo]
    cases hj : Nat.beq j id with
    | true =>
      have := beq_nat hj
      subst this
      exact .inr ⟨l, l', by simp, by simp, hl⟩
    | false =>
      have : (j == id) = false := by
        cases q : (j == id) with
        | false => rfl
        | true => rw [beq_iff_eq] at q; subst q; simp at hj
      simp only [this, cond_false, Bool.false_eq_true, if_false]
      exact ih
end
end Go.Sh

/-
  Ranges over functions; code; unwinding; a step.
-/
namespace Go.Sh
open Go.RowKit

section
variable {P : Program} {E : Env}
variable {base : List Frame} {b : FuncId} {ρ ρ₁ : Ren} {m m₁ : Mem} {w w₁ : World} {M M₁ : Machine} {st : St}

/-! plain moves -/
section
variable {fn : FuncId} {tmps : Array Value} {k : List Item} {ds : List Deferred} {kd : CallKind} {ro : Option Nat} {fs : List Frame}
theorem mv_skip : Go.step P (lone ⟨fn, tmps, .code .skip :: k, ds, .run, kd, ro⟩ fs w) = .next (lone ⟨fn, tmps, k, ds, .run, kd, ro⟩ fs w) := step_lone_go (by simp [stepG, stepG.exec])
theorem mv_label {l : Nat} : Go.step P (lone ⟨fn, tmps, .code (.label l) :: k, ds, .run, kd, ro⟩ fs w) = .next (lone ⟨fn, tmps, k, ds, .run, kd, ro⟩ fs w) := step_lone_go (by simp [stepG, stepG.exec])
theorem mv_inBlock {i : Nat} : Go.step P (lone ⟨fn, tmps, .inBlock i :: k, ds, .run, kd, ro⟩ fs w) = .next (lone ⟨fn, tmps, k, ds, .run, kd, ro⟩ fs w) := step_lone_go (by simp [stepG, stepG.exec])
theorem mv_inScope {c : Code} : Go.step P (lone ⟨fn, tmps, .inScope c :: k, ds, .run, kd, ro⟩ fs w) = .next (lone ⟨fn, tmps, k, ds, .run, kd, ro⟩ fs w) := step_lone_go (by simp [stepG, stepG.exec])
theorem mv_seq {x y : Code} : Go.step P (lone ⟨fn, tmps, .code (.seq x y) :: k, ds, .run, kd, ro⟩ fs w) = .next (lone ⟨fn, tmps, .code x :: .code y :: k, ds, .run, kd, ro⟩ fs w) := step_lone_go (by simp [stepG, stepG.exec])
theorem mv_block {i : Nat} {c : Code} : Go.step P (lone ⟨fn, tmps, .code (.block i c) :: k, ds, .run, kd, ro⟩ fs w) = .next (lone ⟨fn, tmps, .code c :: .inBlock i :: k, ds, .run, kd, ro⟩ fs w) := step_lone_go (by simp [stepG, stepG.exec])
theorem mv_scope {c : Code} : Go.step P (lone ⟨fn, tmps, .code (.scope c) :: k, ds, .run, kd, ro⟩ fs w) = .next (lone ⟨fn, tmps, .code c :: .inScope c :: k, ds, .run, kd, ro⟩ fs w) := step_lone_go (by simp [stepG, stepG.exec])
theorem mv_loop {c : Code} : Go.step P (lone ⟨fn, tmps, .code (.loop c) :: k, ds, .run, kd, ro⟩ fs w) = .next (lone ⟨fn, tmps, .code c :: .inLoop c :: k, ds, .run, kd, ro⟩ fs w) := step_lone_go (by simp [stepG, stepG.exec])
theorem mv_inLoop {c : Code} : Go.step P (lone ⟨fn, tmps, .inLoop c :: k, ds, .run, kd, ro⟩ fs w) = .next (lone ⟨fn, tmps, .code c :: .inLoop c :: k, ds, .run, kd, ro⟩ fs w) := step_lone_go (by simp [stepG, stepG.exec])
theorem mv_exit {i : Nat} {k' : List Item} (h : exitTo i k = some k') : Go.step P (lone ⟨fn, tmps, .code (.exit i) :: k, ds, .run, kd, ro⟩ fs w) = .next (lone ⟨fn, tmps, k', ds, .run, kd, ro⟩ fs w) := step_lone_go (by simp [stepG, stepG.exec, h])
theorem mv_cond {c : Operand} {x y : Code} {q : Bool} (h : Frame.eval ⟨fn, tmps, .code (.cond c x y) :: k, ds, .run, kd, ro⟩ c = .bool q) : Go.step P (lone ⟨fn, tmps, .code (.cond c x y) :: k, ds, .run, kd, ro⟩ fs w) = .next (lone ⟨fn, tmps, .code (if q then x else y) :: k, ds, .run, kd, ro⟩ fs w) := step_lone_go (by simp [stepG, stepG.exec, h])
theorem mv_region {id : Nat} {ops : Array Oper} : Go.step P (lone ⟨fn, tmps, .code (.region id ops false) :: k, ds, .run, kd, ro⟩ fs w) = .next (lone ⟨fn, tmps, .inRegion ops (List.range ops.size) :: k, ds, .run, kd, ro⟩ fs w) := step_lone_go (by simp [stepG, stepG.exec])
theorem mv_endRange {l : Nat} {jump : Option Code} (h : (Instr.endLoop l).run P w = .ok jump w₁) : Go.step P (lone ⟨fn, tmps, .endRangeFunc l :: k, ds, .run, kd, ro⟩ fs w) = .next (lone ⟨fn, tmps, (jump.map Item.code).toList ++ k, ds, .run, kd, ro⟩ fs w₁) := step_lone_go (by simp [stepG, stepG.exec, h])
end

/-- the frame of a shadow's frame whose work alone is turned -/
theorem to_sim {a : AF} {as : List AF} {k : List AI} {k' : List Item} {f : Frame} {fs : List Frame} (h : SR E ρ base a as m f fs w) (hk : IRs ρ k k') (e : to k a as m = .ok st) :
    After P E base (bot a as) ρ m w (lone { f with todo := k' } fs w) st := by
  obtain ⟨afn, ant, atm, atd, ads, amd, akd, aro⟩ := a
  simp only [to] at e
  have key := After.go (P := P) (E := E) (base := base) (a := ⟨afn, ant, atm, k, ads, amd, akd, aro⟩) (f := { f with todo := k' }) ⟨⟨h.fr.fn, h.fr.tm, hk, h.fr.defers, h.fr.mode, h.fr.kind, h.fr.roundOf⟩, h.cs, h.m, h.g⟩ e
  rw [bot_fn (a' := ⟨afn, ant, atm, k, ads, amd, akd, aro⟩) (a := ⟨afn, ant, atm, atd, ads, amd, akd, aro⟩) rfl] at key
  exact key

theorem withK_fr {a : AF} {f : Frame} {k : List AI} {k' : List Item} (h : FrR ρ a f) (hk : IRs ρ k k') : FrR ρ (withK k a) { f with todo := k' } := by
  obtain ⟨afn, ant, atm, atd, ads, amd, akd, aro⟩ := a
  exact ⟨h.fn, h.tm, hk, h.defers, h.mode, h.kind, h.roundOf⟩

/-! ranges over functions -/
theorem tmpsL_at : ∀ (n i : Nat) (tm : T Value) (j : Nat), (tmpsL tm n i)[j]? = if j < n then some (tm.at (i + j)) else none := by
  intro n
  induction n with
  | zero => intro i tm j; simp [tmpsL]
  | succ n ih =>
    intro i tm j
    simp only [tmpsL]
    cases j with
    | zero => simp
    | succ j =>
      simp only [List.getElem?_cons_succ, ih]
      by_cases h : j < n
      · rw [if_pos h, if_pos (by omega)]; congr 2; omega
      · rw [if_neg h, if_neg (by omega)]
theorem tmpsL_length (n i : Nat) (tm : T Value) : (tmpsL tm n i).length = n := by
  induction n generalizing i with
  | zero => rfl
  | succ n ih => simp [tmpsL, ih]
theorem TR.list {nt : Nat} {tm : T Value} {tmps : Array Value} (h : TR ρ nt tm tmps) : VRs ρ (tmpsL tm nt 0) tmps.toList := by
  refine VRs.of_get (by rw [tmpsL_length, Array.length_toList, h.size]) fun i v hv => ?_
  rw [tmpsL_at] at hv
  by_cases hi : i < nt
  · rw [if_pos hi] at hv; cases hv
    have := h.at_ (0 + i)
    rw [Array.getD_eq_getD_getElem?] at this
    have hi' : i < tmps.size := by rw [h.size]; exact hi
    rw [Nat.zero_add] at this ⊢
    rw [Array.getElem?_eq_getElem hi'] at this
    exact ⟨tmps[i], by simp [hi'], this⟩
  · rw [if_neg hi] at hv; cases hv

theorem beginR_sim {a : AF} {as : List AF} {k : List AI} {k' : List Item} {fn : FuncId} {tmps : Array Value} {ds : List Deferred} {kd : CallKind} {ro : Option Nat} {fs : List Frame}
    (h : SR E ρ base a as m ⟨fn, tmps, .beginRound :: k', ds, .run, kd, ro⟩ fs w) (hk : IRs ρ k k') (e : beginR k a as m a.roundOf = .ok st) :
    After P E base (bot a as) ρ m w (lone ⟨fn, tmps, .beginRound :: k', ds, .run, kd, ro⟩ fs w) st := by
  have hro := h.fr.roundOf
  simp only at hro
  cases har : a.roundOf with
  | none => rw [har] at e; simp [beginR] at e
  | some l =>
    rw [har] at e hro
    cases hro with
    | some _ p hp =>
      simp only [beginR] at e
      obtain ⟨r, e1, e2⟩ := R.bnd_ok e
      obtain ⟨hb, e3⟩ := bif_ok e2
      obtain ⟨hget, r', hh, hlr⟩ := loopO_ok h.m e1 hp
      obtain ⟨w', q1, q2, q3⟩ := setLoop_sim (P := P) h.m hget hp hh hlr .busy r.pending
      have hst : r'.state = .ready := by
        rw [hlr.state]
        cases hs : r.state <;> rw [hs] at hb <;> first | rfl | (simp [isReady] at hb)
      have hpend : r'.pending = r.pending := hlr.pending
      have hrun : (do (some p.b).elim (stuck "beginRound: no round") Instr.beginRound; pure .skip : Sem Next).run P w = .ok .skip w' := by
        simp only [Option.elim, Instr.beginRound, Instr.getLoop, Sem.run_bind, run_getObj hh (by simp), Result.andThen_ok, Sem.run_pure]
        rw [show ({ r' with state := .busy } : Loop) = ⟨.busy, r.pending, r'.fn, r'.tmps, r'.params, r'.assign, r'.body, r'.defers⟩ from by rw [← hpend]]
        simp only [q1, Result.andThen_ok, hst, Sem.run_pure]
      have key := to_sim (P := P) ⟨h.fr, h.cs, q2, h.g⟩ hk e3
      refine After.ext q3 (key.step ?_)
      refine step_of ?_
      have : stepG P true (gor ⟨fn, tmps, .beginRound :: k', ds, .run, kd, some p.b⟩ fs) w = stepG.apply P true ⟨fn, tmps, .beginRound :: k', ds, .run, kd, some p.b⟩ fs none (do (some p.b).elim (stuck "beginRound: no round") Instr.beginRound; pure .skip) w := by
        simp [gor, stepG, stepG.exec]
      rw [this]
      exact apply_skip hrun

theorem endR_sim {a : AF} {as : List AF} {k : List AI} {k' : List Item} {fn : FuncId} {tmps : Array Value} {ds : List Deferred} {kd : CallKind} {ro : Option Nat} {fs : List Frame} {l : Nat} {p : Pl} (hp : ρ l = some p)
    (h : SR E ρ base a as m ⟨fn, tmps, .endRangeFunc p.b :: k', ds, .run, kd, ro⟩ fs w) (hk : IRs ρ k k') (e : endR k l a as m = .ok st) :
    After P E base (bot a as) ρ m w (lone ⟨fn, tmps, .endRangeFunc p.b :: k', ds, .run, kd, ro⟩ fs w) st := by
  simp only [endR] at e
  obtain ⟨r, e1, e2⟩ := R.bnd_ok e
  obtain ⟨hb, e3⟩ := bif_ok' e2
  obtain ⟨hget, r', hh, hlr⟩ := loopO_ok h.m e1 hp
  obtain ⟨w', q1, q2, q3⟩ := setLoop_sim (P := P) h.m hget hp hh hlr .exhausted r.pending
  have hst : (r'.state == .busy) = false := by
    rw [hlr.state]
    cases hs : r.state <;> rw [hs] at hb <;> first | rfl | (simp [isBusy] at hb)
  have hpend : r'.pending = r.pending := hlr.pending
  have hrun : (Instr.endLoop p.b).run P w = .ok r.pending w' := by
    simp only [Instr.endLoop, Instr.getLoop, Sem.run_bind, run_getObj hh (by simp), Result.andThen_ok, Sem.run_pure, hst, Bool.false_eq_true, if_false]
    rw [show ({ r' with state := .exhausted } : Loop) = ⟨.exhausted, r.pending, r'.fn, r'.tmps, r'.params, r'.assign, r'.body, r'.defers⟩ from by rw [← hpend]]
    simp only [q1, Result.andThen_ok, hpend]
  have hj : IRs ρ (jumpK r.pending ++ k) ((r.pending.map Item.code).toList ++ k') := by
    cases r.pending with
    | none => exact hk
    | some c => exact .cons _ _ _ _ (.code c) hk
  have key := to_sim (P := P) ⟨h.fr, h.cs, q2, h.g⟩ hj e3
  exact After.ext q3 (key.step (mv_endRange hrun))

theorem rangeF_sim (hE : EnvOk P E) {a : AF} {as : List AF} {k : List AI} {k' : List Item} {fn : FuncId} {tmps : Array Value} {ds : List Deferred} {kd : CallKind} {ro : Option Nat} {fs : List Frame} {fo : Operand} {ps : Array Tmp} {assign body : Code}
    (h : SR E ρ base a as m ⟨fn, tmps, .code (.rangeFunc fo ps assign body) :: k', ds, .run, kd, ro⟩ fs w) (hk : IRs ρ k k') (e : rangeF E fo ps assign body k a as m = .ok st) :
    After P E base (bot a as) ρ m w (lone ⟨fn, tmps, .code (.rangeFunc fo ps assign body) :: k', ds, .run, kd, ro⟩ fs w) st := by
  obtain ⟨afn, ant, atm, atd, ads, amd, akd, aro⟩ := a
  obtain ⟨hfr, hcs, hm, hg⟩ := h
  obtain ⟨h1, h2, h3, h4, h5, h6, h7⟩ := hfr
  simp only at h1 h2 h4 h5 h6 h7
  subst h1; subst h6
  cases h5
  -- the loop's block, whatever lies around it
  have go : ∀ (m1 : Mem) (w1 : World) (ρ1 : Ren) (q : Pl) (dq : Nat) (mark : List Deferred) (mark' : List Deferred), MemR ρ1 m1 w1 → Ext ρ m w ρ1 m1 w1 → ρ1 dq = some q → DRs ρ1 mark mark' →
      (Instr.enterLoop fn tmps ps assign body ro).run P w = (do pure (← newObj (.loop { state := .ready, pending := none, fn, tmps, params := ps, assign, body, defers := q.b }), mark') : Sem (Nat × List Deferred)).run P w1 →
      (callVal E (m1.new (.loop ⟨.ready, none, fn, ⟨tmpsL atm ant 0⟩, ps, assign, body, dq⟩)) [.func (.yield m1.next) #[] #[]] (ev E atm fo)).bnd (fun r => applyR r E ⟨fn, ant, atm, .inRangeFunc m1.next :: k, mark ++ ads, .run, kd, aro⟩ as) = .ok st →
      After P E base (bot ⟨fn, ant, atm, atd, ads, .run, kd, aro⟩ as) ρ m w (lone ⟨fn, tmps, .code (.rangeFunc fo ps assign body) :: k', ds, .run, kd, ro⟩ fs w) st := by
    intro m1 w1 ρ1 q dq mark mark' hm1 hx hdq hmark hrun e
    have hl : LR ρ1 ⟨.ready, none, fn, ⟨tmpsL atm ant 0⟩, ps, assign, body, dq⟩ ⟨.ready, none, fn, tmps, ps, assign, body, q.b⟩ :=
      ⟨rfl, rfl, rfl, (h2.mono hx.le).list, rfl, rfl, rfl, q, hdq, rfl⟩
    have hle := hm1.add_le ⟨w1.heap.size, 0, 0, none⟩
    obtain ⟨k1, k2⟩ := hm1.push (.loop ⟨.ready, none, fn, ⟨tmpsL atm ant 0⟩, ps, assign, body, dq⟩) (.loop ⟨.ready, none, fn, tmps, ps, assign, body, q.b⟩) ⟨w1.heap.size, 0, 0, none⟩ rfl (.loop _ _ (hl.mono hle)) rfl
    have hx2 := hx.trans k2
    have hp := Ren.add_same ρ1 m1.next ⟨w1.heap.size, 0, 0, none⟩
    obtain ⟨res, e1, e2⟩ := R.bnd_ok e
    have hfr : FrR (ρ1.add m1.next ⟨w1.heap.size, 0, 0, none⟩) ⟨fn, ant, atm, .inRangeFunc m1.next :: k, mark ++ ads, .run, kd, aro⟩ ⟨fn, tmps, .inRangeFunc w1.heap.size :: k', mark' ++ ds, .run, kd, ro⟩ :=
      ⟨rfl, h2.mono hx2.le, .cons _ _ _ _ (.inRangeFunc _ _ hp) (hk.mono hx2.le), (hmark.mono hle).append (h4.mono hx2.le), .run, rfl, h7.mono hx2.le⟩
    have hf := ev_sim (E := E) (a := ⟨fn, ant, atm, .inRangeFunc m1.next :: k, mark ++ ads, .run, kd, aro⟩) (f := ⟨fn, tmps, .inRangeFunc w1.heap.size :: k', mark' ++ ds, .run, kd, ro⟩) hfr.tm (hg.mono hx2.le) fo
    have hy : VRs (ρ1.add m1.next ⟨w1.heap.size, 0, 0, none⟩) [.func (.yield m1.next) #[] #[]] [.func (.yield w1.heap.size) #[] #[]] := .one (.func _ _ [] [] [] [] (.yield m1.next ⟨w1.heap.size, 0, 0, none⟩ hp) .nil .nil)
    have hsim := callVal_sim hE k1 e1 hf hy
    have key := applyR_sim (P := P) (base := base) (M := lone ⟨fn, tmps, .code (.rangeFunc fo ps assign body) :: k', ds, .run, kd, ro⟩ fs w) hE ⟨hfr, hcs.mono hx2.le, k1, hg.mono hx2.le⟩ ?_ hsim (fun d a b c k q => by cases q) e2
    · rw [bot_fn (a' := ⟨fn, ant, atm, .inRangeFunc m1.next :: k, mark ++ ads, .run, kd, aro⟩) (a := ⟨fn, ant, atm, atd, ads, .run, kd, aro⟩) rfl] at key
      exact After.ext hx2 key
    · intro f' fs' w' hh
      refine step_of ?_
      have hrun' : (Instr.enterLoop fn tmps ps assign body ro).run P w = .ok (w1.heap.size, mark') { w1 with heap := w1.heap.push (.loop ⟨.ready, none, fn, tmps, ps, assign, body, q.b⟩) } := by
        rw [hrun]
        simp only [Sem.run_bind, run_newObj, Result.andThen_ok, Sem.run_pure]
      have hres : resolve (Frame.eval ⟨fn, tmps, .inRangeFunc w1.heap.size :: k', mark' ++ ds, .run, kd, ro⟩) { callee := .value fo, args := #[.const (.func (.yield w1.heap.size) #[] #[])], argTypes := #[] } 0 =
          Deferred.ofValue (Frame.eval ⟨fn, tmps, .inRangeFunc w1.heap.size :: k', mark' ++ ds, .run, kd, ro⟩ fo) ⟨[.func (.yield w1.heap.size) #[] #[]]⟩ := by
        simp [resolve, Frame.eval]
      have : (stepG P true (gor ⟨fn, tmps, .code (.rangeFunc fo ps assign body) :: k', ds, .run, kd, ro⟩ fs) w).bare =
          (stepG.apply P true ⟨fn, tmps, .inRangeFunc w1.heap.size :: k', mark' ++ ds, .run, kd, ro⟩ fs none (do let d ← Deferred.ofValue (Frame.eval ⟨fn, tmps, .inRangeFunc w1.heap.size :: k', mark' ++ ds, .run, kd, ro⟩ fo) ⟨[.func (.yield w1.heap.size) #[] #[]]⟩; invoke d.target d.args) { w1 with heap := w1.heap.push (.loop ⟨.ready, none, fn, tmps, ps, assign, body, q.b⟩) }).bare := by
        simp only [gor, stepG, stepG.exec, Sem.runT_eq, hrun', GStep.bare_after, hres]
      rw [this]
      exact hh
  generalize hro : ro = ro' at h7
  cases h7 with
  | none =>
    subst hro
    simp only [rangeF] at e
    obtain ⟨k1, k2⟩ := hm.push (.deferred (some [])) (.deferred (some [])) ⟨w.heap.size, 0, 0, none⟩ rfl (.deferred [] [] .nil) rfl
    have hn : (m.new (.deferred (some []))).next = m.next + 1 := Mem.next_new _ _
    have hd : DRs (ρ.add m.next ⟨w.heap.size, 0, 0, none⟩) [⟨.collected m.next, #[]⟩] [⟨.collected w.heap.size, #[]⟩] := .cons _ _ _ _ ⟨⟨w.heap.size, 0, 0, none⟩, Ren.add_same _ _ _, rfl⟩ .nil
    refine go _ _ _ ⟨w.heap.size, 0, 0, none⟩ m.next [⟨.collected m.next, #[]⟩] [⟨.collected w.heap.size, #[]⟩] k1 k2 (Ren.add_same _ _ _) hd ?_ ?_
    · simp only [Instr.enterLoop, Sem.run_bind, run_newObj, Result.andThen_ok, Sem.run_pure]
    · rw [hn]; exact e
  | some l p hp =>
    subst hro
    simp only [rangeF] at e
    obtain ⟨lo, e1, e2⟩ := R.bnd_ok e
    obtain ⟨hget, r', hh, hlr⟩ := loopO_ok hm e1 hp
    obtain ⟨q, hq1, hq2⟩ := hlr.defers
    refine go m w ρ q lo.defers [] [] hm (.refl _ _ _) hq1 .nil ?_ e2
    simp only [Instr.enterLoop, Instr.getLoop, Sem.run_bind, run_getObj hh (by simp), Result.andThen_ok, Sem.run_pure, hq2]
end
end Go.Sh
