/-
  PART OF A CLAIM's PROOF (ShX, ShY, ShZ1, ShZ2): a shadow of the machine, or what is shown by it.
-/
import Derived.Test.YteaphfbalgmhlaaGreatDoorShU
set_option linter.unusedSimpArgs false
set_option linter.unusedVariables false
/-
  Code; unwinding; a step; a run.
-/
namespace Go.Sh
open Go.RowKit

/-- what is asked of the regions that draw their order -/
def DrawOk (P : Program) (E : Env) (r : AM → R (Value × Mem)) : Prop :=
  ∀ {id : Nat} {ops : Array Oper} {nt : Nat} {tm : T Value} {m : Mem} {p : T Value × Mem} {ρ : Ren} {w : World} {fn : FuncId} {tmps : Array Value} {k : List Item} {ds : List Deferred} {kd : CallKind} {ro : Option Nat} {fs : List Frame},
    drawV E r ops nt tm m = .ok p → TR ρ nt tm tmps → MemR ρ m w → GlobR ρ E.ng →
    ∃ ρ' tmps' w', Steps P (lone ⟨fn, tmps, .code (.region id ops true) :: k, ds, .run, kd, ro⟩ fs w) (lone ⟨fn, tmps', k, ds, .run, kd, ro⟩ fs w') ∧ TR ρ' nt p.1 tmps' ∧ MemR ρ' p.2 w' ∧ Ext ρ m w ρ' p.2 w'

section
variable {P : Program} {E : Env}
variable {base : List Frame} {b : FuncId} {ρ ρ₁ : Ren} {m m₁ : Mem} {w w₁ : World} {M M₁ : Machine} {st : St}

theorem stepC_sim (hE : EnvOk P E) {r : AM → R (Value × Mem)} (hD : DrawOk P E r) {fn : FuncId} {nt : Nat} {tm : T Value} {td : List AI} {ads : List Deferred} {kd : CallKind} {aro : Option Nat} {as : List AF} {tmps : Array Value} {ds : List Deferred} {ro : Option Nat} {fs : List Frame}
    (ht : TR ρ nt tm tmps) (hds : DRs ρ ads ds) (hro : RoR ρ aro ro) (hcs : CR ρ base as fs) (hm : MemR ρ m w) (hg : GlobR ρ E.ng) : ∀ (c : Code) (k : List AI) (k' : List Item), IRs ρ k k' →
    stepC E r c k ⟨fn, nt, tm, td, ads, .run, kd, aro⟩ as m = .ok st → After P E base (bot ⟨fn, nt, tm, td, ads, .run, kd, aro⟩ as) ρ m w (lone ⟨fn, tmps, .code c :: k', ds, .run, kd, ro⟩ fs w) st := by
  have hb : ∀ x, bot ⟨fn, nt, tm, x, ads, .run, kd, aro⟩ as = bot ⟨fn, nt, tm, td, ads, .run, kd, aro⟩ as := by
    intro x; refine bot_fn ?_ as; rfl
  have hsr : ∀ (x : List AI) (x' : List Item), IRs ρ x x' → SR E ρ base ⟨fn, nt, tm, x, ads, .run, kd, aro⟩ as m ⟨fn, tmps, x', ds, .run, kd, ro⟩ fs w := fun x x' hx => ⟨⟨rfl, ht, hx, hds, .run, rfl, hro⟩, hcs, hm, hg⟩
  have hto : ∀ (k : List AI) (k' : List Item), IRs ρ k k' → to k ⟨fn, nt, tm, td, ads, .run, kd, aro⟩ as m = .ok st → After P E base (bot ⟨fn, nt, tm, td, ads, .run, kd, aro⟩ as) ρ m w (lone ⟨fn, tmps, k', ds, .run, kd, ro⟩ fs w) st := by
    intro k k' hk e
    simp only [to] at e
    have key := After.go (P := P) (E := E) (base := base) (hsr k k' hk) e
    rw [hb] at key
    exact key
  intro c
  induction c with
  | skip => intro k k' hk e; simp only [stepC] at e; exact (hto k k' hk e).step mv_skip
  | label l => intro k k' hk e; simp only [stepC] at e; exact (hto k k' hk e).step mv_label
  | seq x y ihx _ => intro k k' hk e; simp only [stepC] at e; exact (ihx _ _ (.cons _ _ _ _ (.code y) hk) e).step mv_seq
  | block id x ih => intro k k' hk e; simp only [stepC] at e; exact (ih _ _ (.cons _ _ _ _ (.inBlock id) hk) e).step mv_block
  | scope x ih => intro k k' hk e; simp only [stepC] at e; exact (ih _ _ (.cons _ _ _ _ (.inScope x) hk) e).step mv_scope
  | loop x _ => intro k k' hk e; simp only [stepC] at e; exact (hto _ _ (.cons _ _ _ _ (.code x) (.cons _ _ _ _ (.inLoop x) hk)) e).step mv_loop
  | cond c x y _ _ =>
    intro k k' hk e
    simp only [stepC] at e
    obtain ⟨cd, e1, e2⟩ := R.bnd_ok e
    have hev := ev_sim (E := E) (a := ⟨fn, nt, tm, td, ads, .run, kd, aro⟩) (f := ⟨fn, tmps, .code (.cond c x y) :: k', ds, .run, kd, ro⟩) ht hg c
    simp only at hev
    have hq : ∃ q, Frame.eval ⟨fn, tmps, .code (.cond c x y) :: k', ds, .run, kd, ro⟩ c = .bool q ∧ cd = if q then x else y := by
      generalize Frame.eval ⟨fn, tmps, .code (.cond c x y) :: k', ds, .run, kd, ro⟩ c = v' at hev
      generalize ev E tm c = v at e1 hev
      cases hev <;> try (simp [condK] at e1; done)
      rename_i q
      refine ⟨q, rfl, ?_⟩
      cases q <;> (simp only [condK] at e1; cases e1; rfl)
    obtain ⟨q, q1, q2⟩ := hq
    subst q2
    exact (hto _ _ (.cons _ _ _ _ (.code _) hk) e2).step (mv_cond q1)
  | exit id =>
    intro k k' hk e
    simp only [stepC] at e
    rcases exitTo_sim (id := id) hk with ⟨h1, h2⟩ | ⟨x, x', h1, h2, h3⟩
    · rw [h1] at e
      simp only [toO, withK] at e
      have key := leaveF_sim (P := P) (hsr _ _ (.cons _ _ _ _ (.code (.exit id)) hk)) rfl (.exit id k' h2) e
      rw [hb] at key
      exact key
    · rw [h1] at e
      simp only [toO, withK] at e
      have key := to_sim (P := P) (hsr (.code (.exit id) :: k) (.code (.exit id) :: k') (.cons _ _ _ _ (.code _) hk)) h3 e
      rw [hb] at key
      exact key.step (mv_exit h2)
  | ret =>
    intro k k' hk e
    simp only [stepC, withK] at e
    have key := leaveF_sim (P := P) (hsr _ _ (.cons _ _ _ _ (.code .ret) hk)) rfl (.ret k') e
    rw [hb] at key
    exact key
  | rangeFunc fo ps assign body _ _ =>
    intro k k' hk e
    simp only [stepC] at e
    have key := rangeF_sim (P := P) (base := base) hE (k := k) (k' := k') (a := ⟨fn, nt, tm, .code (.rangeFunc fo ps assign body) :: k, ads, .run, kd, aro⟩) (hsr _ _ (.cons _ _ _ _ (.code _) hk)) hk (by
      cases aro <;> exact e)
    rw [hb] at key
    exact key
  | region id ops draw =>
    intro k k' hk e
    cases draw with
    | false =>
      simp only [stepC] at e
      have key := opsL_sim (P := P) (base := base) hE ops.toList 0 tm m ρ w tmps fs (by simp) ht hk hds hro hcs hm hg e
      refine key.step ?_
      have : List.range ops.size = List.range' 0 ops.toList.length := by rw [List.range_eq_range']; simp
      rw [← this]
      exact mv_region
    | true =>
      simp only [stepC] at e
      obtain ⟨p, e1, e2⟩ := R.bnd_ok e
      obtain ⟨ρ', tmps', w', q1, q2, q3, q4⟩ := hD (id := id) (fn := fn) (k := k') (ds := ds) (kd := kd) (ro := ro) (fs := fs) e1 ht hm hg
      simp only [withT] at e2
      have key := After.go (P := P) (E := E) (base := base) (a := ⟨fn, nt, p.1, k, ads, .run, kd, aro⟩) (f := ⟨fn, tmps', k', ds, .run, kd, ro⟩) ⟨⟨rfl, q2, hk.mono q4.le, hds.mono q4.le, .run, rfl, hro.mono q4.le⟩, hcs.mono q4.le, q3, hg.mono q4.le⟩ e2
      rw [bot_fn (a' := ⟨fn, nt, p.1, k, ads, .run, kd, aro⟩) (a := ⟨fn, nt, tm, td, ads, .run, kd, aro⟩) rfl] at key
      exact After.ext q4 (key.steps q1)
  | _ => intro k k' hk e; simp [stepC] at e

theorem stepI_sim (hE : EnvOk P E) {r : AM → R (Value × Mem)} (hD : DrawOk P E r) {a : AF} {as : List AF} {f : Frame} {fs : List Frame} (h : SR E ρ base a as m f fs w) (hmode : a.mode = .run) (e : stepI E r a.todo a as m = .ok st) :
    After P E base (bot a as) ρ m w (lone f fs w) st := by
  obtain ⟨hfr, hcs, hm, hg⟩ := h
  obtain ⟨fn, nt, tm, td, ads, amd, akd, aro⟩ := a
  obtain ⟨ffn, tmps, ftd, ds, fmd, fkd, ro⟩ := f
  obtain ⟨h1, h2, h3, h4, h5, h6, h7⟩ := hfr
  simp only at hmode h1 h2 h3 h4 h5 h6 h7 e
  subst hmode; subst h1; subst h6
  cases h5
  have hsr : ∀ (x : List AI) (x' : List Item), IRs ρ x x' → SR E ρ base ⟨ffn, nt, tm, x, ads, .run, fkd, aro⟩ as m ⟨ffn, tmps, x', ds, .run, fkd, ro⟩ fs w := fun x x' hx => ⟨⟨rfl, h2, hx, h4, .run, rfl, h7⟩, hcs, hm, hg⟩
  cases h3 with
  | nil => simp only [stepI] at e; exact leaveF_sim (hsr _ _ .nil) rfl .over e
  | cons x y k k' hxy hk =>
    cases hxy with
    | code c => simp only [stepI] at e; exact stepC_sim hE hD h2 h4 h7 hcs hm hg c k k' hk e
    | inBlock i => simp only [stepI] at e; exact (to_sim (hsr _ _ (.cons _ _ _ _ (.inBlock i) hk)) hk e).step mv_inBlock
    | inScope i => simp only [stepI] at e; exact (to_sim (hsr _ _ (.cons _ _ _ _ (.inScope i) hk)) hk e).step mv_inScope
    | inLoop c => simp only [stepI] at e; exact (to_sim (hsr _ _ (.cons _ _ _ _ (.inLoop c) hk)) (.cons _ _ _ _ (.code c) (.cons _ _ _ _ (.inLoop c) hk)) e).step mv_inLoop
    | inRegion ops os i hd => simp only [stepI] at e; exact opsL_sim hE os i tm m ρ w tmps fs hd h2 hk h4 h7 hcs hm hg e
    | inRangeFunc l p hp => simp [stepI] at e
    | endRangeFunc l p hp => simp only [stepI] at e; exact endR_sim hp (hsr _ _ (.cons _ _ _ _ (.endRangeFunc l p hp) hk)) hk e
    | beginRound => simp only [stepI] at e; exact beginR_sim (hsr _ _ (.cons _ _ _ _ .beginRound hk)) hk e

/-! unwinding -/
theorem IRs.noCall {k : List AI} {k' : List Item} (h : IRs ρ k k') : ∀ d a b c r, k' ≠ .call d a b c :: r := by
  intro d a b c r q
  subst q
  cases h with
  | cons x _ _ _ hxy _ => cases hxy

theorem catches_no {f : Frame} {k : List AI} (h : IRs ρ k f.todo) : f.catches P = false := by
  unfold Frame.catches
  split
  · rename_i hh; exact absurd hh (h.noCall _ _ _ _ _)
  · rfl

theorem resultL_sim (hE : EnvOk P E) (h : MemR ρ m w) {nt : Nat} {tm : T Value} {tmps : Array Value} (ht : TR ρ nt tm tmps) : ∀ (rs : List ResultVar) (l : List Value), resultL E m tm rs = .ok l →
    ∃ l', VRs ρ l l' ∧ (rs.mapM (fun r => match r with | .tmp t => pure (tmps.getD t undef) | .cell a t => do loadVar t (← asAddr (tmps.getD a undef)) : ResultVar → Sem Value)).run P w = .ok l' w := by
  intro rs
  induction rs with
  | nil => intro l e; simp only [resultL] at e; cases e; exact ⟨[], .nil, by simp⟩
  | cons r rs ih =>
    intro l e
    cases r with
    | tmp t =>
      simp only [resultL] at e
      obtain ⟨l1, e1, e2⟩ := R.bnd_ok e
      cases e2
      obtain ⟨l', a, c⟩ := ih l1 e1
      refine ⟨_, .cons _ _ _ _ (ht.at_ t) a, ?_⟩
      simp only [List.mapM_cons, Sem.run_bind, Sem.run_pure, Result.andThen_ok, c]
    | cell x t =>
      simp only [resultL] at e
      obtain ⟨ad, e1, e2⟩ := R.bnd_ok e
      obtain ⟨v, e3, e4⟩ := R.bnd_ok e2
      obtain ⟨l1, e5, e6⟩ := R.bnd_ok e4
      cases e6
      obtain ⟨l', a, c⟩ := ih l1 e5
      have hx := ht.at_ x
      rw [addrOf_ok e1] at hx
      obtain ⟨p, q1, q2, q3⟩ := addr_inv hx
      obtain ⟨v', k1, k2⟩ := loadV_sim (P := P) hE.toEnvTi h e3 q1 q2
      refine ⟨_, .cons _ _ _ _ k1 a, ?_⟩
      have hasA : (asAddr (.pointer (some ⟨p.b, ad.off + p.d, none⟩))).run P w = .ok ⟨p.b, ad.off + p.d, none⟩ w := rfl
      simp only [List.mapM_cons, Sem.run_bind, q3, hasA, Sem.run_pure, Result.andThen_ok, k2, c]

theorem results_sim (hE : EnvOk P E) (h : MemR ρ m w) {nt : Nat} {tm : T Value} {tmps : Array Value} (ht : TR ρ nt tm tmps) {fn : Func} {v : Value} (e : resultsV E m fn tm = .ok v) : ∃ v', VR ρ v v' ∧ (results fn tmps).run P w = .ok v' w := by
  unfold resultsV at e
  obtain ⟨l, e1, e2⟩ := R.bnd_ok e
  cases e2
  obtain ⟨l', a, c⟩ := resultL_sim (P := P) hE h ht _ _ e1
  have hmap : (fn.results.mapM (fun r => match r with | .tmp t => pure (tmps.getD t undef) | .cell a t => do loadVar t (← asAddr (tmps.getD a undef)) : ResultVar → Sem Value)).run P w = .ok ⟨l'⟩ w := by
    rw [← Array.toArray_toList (xs := fn.results), List.mapM_toArray, Sem.run_map, c]
    rfl
  have hrun : (results fn tmps).run P w = .ok (if h : (⟨l'⟩ : Array Value).size = 1 then (⟨l'⟩ : Array Value)[0] else .tuple ⟨l'⟩) w := by
    unfold results
    rw [Sem.run_bind]
    exact congrArg (fun (r : Result (Array Value)) => r.andThen fun vs w' => Sem.run P (pure (if h : vs.size = 1 then vs[0] else .tuple vs)) w') hmap
  rw [hrun]
  cases a with
  | nil => exact ⟨_, .tuple _ _ .nil, rfl⟩
  | cons v v' l l' hv hl =>
    cases hl with
    | nil => exact ⟨v', hv, rfl⟩
    | cons u u' l l' hu hl => exact ⟨_, .tuple _ _ (.cons _ _ _ _ hv (.cons _ _ _ _ hu hl)), by simp⟩

theorem settleF_sim {a a' : AF} {f : Frame} (e : settleF a = .ok a') (h : FrR ρ a f) : FrR ρ a' { f with mode := settle f.mode } ∧ a'.fn = a.fn := by
  obtain ⟨fn, nt, tm, td, ds, md, kd, ro⟩ := a
  obtain ⟨h1, h2, h3, h4, h5, h6, h7⟩ := h
  simp only at h1 h2 h3 h4 h5 h6 h7
  generalize f.mode = fm at h5
  cases h5 with
  | run => simp only [settleF] at e; cases e; exact ⟨⟨h1, h2, h3, h4, .run, h6, h7⟩, rfl⟩
  | returning => simp only [settleF] at e; cases e; exact ⟨⟨h1, h2, h3, h4, .returning, h6, h7⟩, rfl⟩
  | panicking l l' hl =>
    cases hl with
    | nil => simp only [settleF] at e; cases e; exact ⟨⟨h1, h2, h3, h4, .panicking _ _ .nil, h6, h7⟩, rfl⟩
    | cons v v' x y older older' hv hold =>
      cases x with
      | false => simp only [settleF] at e; cases e; exact ⟨⟨h1, h2, h3, h4, .panicking _ _ (.cons _ _ _ _ _ _ hv hold), h6, h7⟩, rfl⟩
      | true =>
        cases hold with
        | nil =>
          cases y with
          | false => simp only [settleF] at e; cases e; exact ⟨⟨h1, h2, h3, h4, .returning, h6, h7⟩, rfl⟩
          | true => simp [settleF] at e
        | cons => cases y <;> simp [settleF] at e

theorem backTo_sim {a : AF} {as : List AF} {f : Frame} {fs : List Frame} {v v' : Value} {fn : Func} (h : SR E ρ base a as m f fs w) (hmode : f.mode = .returning) (hds : f.defers = []) (hfn : P.funcs[f.fn]? = some fn) (hr : (results fn f.tmps).run P w = .ok v' w) (hv : VR ρ v v')
    (e : backTo v m a.kind as = .ok st) : After P E base (bot a as) ρ m w (lone f fs w) st := by
  obtain ⟨hfr, hcs, hm, hg⟩ := h
  have hk := hfr.kind
  cases hkd : a.kind <;> rw [hkd] at e hk <;> try (cases as <;> simp [backTo] at e; done)
  case normal =>
    have hl : f.leaving P w (.returned v') := ⟨hmode, hds, hk, fn, hfn, hr⟩
    cases hcs with
    | nil =>
      simp only [backTo] at e; cases e
      exact ⟨ρ, f, w, v', .refl _ _, hl, hfr.fn, hv, hm, .refl _ _ _⟩
    | cons c cf rest rest' hc hrest =>
      simp only [backTo] at e
      have key := goFin_sim (P := P) ⟨hc, hrest, hm, hg⟩ hv e
      exact key.step (step_leave_returned hl)
  case deferred =>
    cases hcs with
    | nil => simp [backTo] at e
    | cons c cf rest rest' hc hrest =>
      simp only [backTo] at e
      obtain ⟨c', e1, e2⟩ := R.bnd_ok e
      obtain ⟨k1, k2⟩ := settleF_sim e1 hc
      have key := After.go (P := P) (E := E) (base := base) ⟨k1, hrest, hm, hg⟩ e2
      rw [bot_fn k2] at key
      exact key.step (step_going_returned hk ⟨hmode, hds, fn, hfn, hr⟩)

theorem toDefer_sim (hE : EnvOk P E) {a : AF} {as : List AF} {f : Frame} {fs : List Frame} {res : Res} {s : Sem Next} (h : SR E ρ base a as m f fs w) (hs : Outs P ρ m w res (s.run P w)) (hM : ∀ g args, s.run P w = .ok (.enter g args) w → Go.step P M = .next (lone (Frame.enter P g args .deferred) (f :: fs) w))
    (e : toDefer E a as res = .ok st) : After P E base (bot a as) ρ m w M st := by
  cases res <;> try (simp [toDefer] at e; done)
  rename_i g args m'
  simp only [toDefer] at e
  obtain ⟨rfl, args', h1, h2⟩ := hs
  obtain ⟨a', e1, e2⟩ := R.bnd_ok e
  obtain ⟨k1, k2⟩ := enterF_sim hE e1 h2
  have key := After.go (P := P) (E := E) (base := base) ⟨k1, .cons _ _ _ _ h.fr h.cs, h.m, h.g⟩ e2
  exact key.step (hM _ _ h1)

theorem deferO_ok (h : MemR ρ m w) {x : Nat} {l : List Deferred} (e : deferO (m.get x) = .ok l) {p : Pl} (hp : ρ x = some p) : m.get x = some (.deferred (some l)) ∧ ∃ l', w.heap[p.b]? = some (.deferred (some l')) ∧ DRs ρ l l' := by
  cases hg : m.get x with
  | none => rw [hg] at e; simp [deferO] at e
  | some o =>
    rw [hg] at e
    cases o <;> try (simp [deferO] at e; done)
    rename_i d
    cases d <;> try (simp [deferO] at e; done)
    simp only [deferO] at e; cases e
    obtain ⟨q, O, h1, h2, h3⟩ := h.obj x _ hg
    rw [hp] at h1; cases h1
    cases h3 with
    | deferred l l' hl => exact ⟨rfl, l', h2, hl⟩

theorem stepD_sim (hE : EnvOk P E) {a : AF} {as : List AF} {f : Frame} {fs : List Frame} (h : SR E ρ base a as m f fs w) (hmode : f.mode ≠ .run) (e : stepU E a.defers a as m = .ok st) (hne : a.defers ≠ []) :
    After P E base (bot a as) ρ m w (lone f fs w) st := by
  obtain ⟨hfr, hcs, hm, hg⟩ := h
  obtain ⟨fn, nt, tm, td, ads, amd, akd, aro⟩ := a
  obtain ⟨ffn, tmps, ftd, ds, fmd, fkd, ro⟩ := f
  obtain ⟨h1, h2, h3, h4, h5, h6, h7⟩ := hfr
  simp only at hmode h1 h2 h3 h4 h5 h6 h7 e hne
  subst h1; subst h6
  cases h4 with
  | nil => exact absurd rfl hne
  | cons d d' ads ds hd hds =>
    simp only [stepU] at e
    obtain ⟨t, args⟩ := d
    obtain ⟨t', args'⟩ := d'
    have hsr : SR E ρ base ⟨ffn, nt, tm, td, ads, amd, fkd, aro⟩ as m ⟨ffn, tmps, ftd, ds, fmd, fkd, ro⟩ fs w := ⟨⟨rfl, h2, h3, hds, h5, rfl, h7⟩, hcs, hm, hg⟩
    cases t <;> try (simp [stepD] at e; done)
    case fn fv cap =>
      obtain ⟨cap⟩ := cap
      obtain ⟨args⟩ := args
      simp only [stepD] at e
      obtain ⟨res, e1, e2⟩ := R.bnd_ok e
      cases t' <;> try (exact (hd : False).elim)
      case fn fv' cap' =>
      obtain ⟨cap'⟩ := cap'
      obtain ⟨args'⟩ := args'
      obtain ⟨hf, hc, ha⟩ := (hd : FnR ρ fv fv' ∧ VRs ρ cap cap' ∧ VRs ρ args args')
      have hsim := invokeV_sim hE hm e1 hf hc ha
      have key := toDefer_sim (P := P) (base := base) (M := lone ⟨ffn, tmps, ftd, ⟨.fn fv' ⟨cap'⟩, ⟨args'⟩⟩ :: ds, fmd, fkd, ro⟩ fs w) hE hsr hsim (fun g args hh => step_defer (fr := ⟨ffn, tmps, ftd, ⟨.fn fv' ⟨cap'⟩, ⟨args'⟩⟩ :: ds, fmd, fkd, ro⟩) hmode rfl rfl hh) e2
      rw [bot_fn (a' := ⟨ffn, nt, tm, td, ads, amd, fkd, aro⟩) (a := ⟨ffn, nt, tm, td, ⟨.fn fv ⟨cap⟩, ⟨args⟩⟩ :: ads, amd, fkd, aro⟩) rfl] at key
      exact key
    case collected x =>
      simp only [stepD] at e
      obtain ⟨l, e1, e2⟩ := R.bnd_ok e
      have hd' : ∃ p, ρ x = some p ∧ t' = .collected p.b := by
        cases t' <;> first | exact (hd : False).elim | (obtain ⟨p, q1, q2⟩ := (hd : ∃ p, ρ x = some p ∧ _ = p.b); exact ⟨p, q1, by rw [q2]⟩)
      obtain ⟨p, hp, rfl⟩ := hd'
      obtain ⟨hget, l', hh, hl⟩ := deferO_ok hm e1 hp
      obtain ⟨k1, k2⟩ := hm.write (o' := .deferred none) (.deferred none) hget rfl rfl hp .deferred0
      have hrun : (Instr.takeDeferred p.b).run P w = .ok l' { w with heap := w.heap.setIfInBounds p.b (.deferred none) } := by
        simp only [Instr.takeDeferred, Sem.run_bind, run_getObj hh (by simp), Result.andThen_ok, run_setObj hh (by simp), Sem.run_pure]
      have key := After.go (P := P) (E := E) (base := base) (a := ⟨ffn, nt, tm, td, l ++ ads, amd, fkd, aro⟩) (f := ⟨ffn, tmps, ftd, l' ++ ds, fmd, fkd, ro⟩) ⟨⟨rfl, h2, h3, hl.append hds, h5, rfl, h7⟩, hcs, k1, hg⟩ e2
      rw [bot_fn (a' := ⟨ffn, nt, tm, td, l ++ ads, amd, fkd, aro⟩) (a := ⟨ffn, nt, tm, td, ⟨.collected x, args⟩ :: ads, amd, fkd, aro⟩) rfl] at key
      refine After.ext k2 (key.step (step_lone_go ?_))
      cases fmd with
      | run => exact absurd rfl hmode
      | returning => simp [stepG, unwind, hrun]
      | panicking chain => simp [stepG, unwind, hrun]

theorem step_sim (hE : EnvOk P E) {r : AM → R (Value × Mem)} (hD : DrawOk P E r) {a : AF} {as : List AF} {f : Frame} {fs : List Frame} (h : SR E ρ base a as m f fs w) (e : step E r ⟨a, as, m⟩ = .ok st) :
    After P E base (bot a as) ρ m w (lone f fs w) st := by
  simp only [step] at e
  have hmd := h.fr.mode
  have hU : f.mode ≠ .run → stepU E a.defers a as m = .ok st → After P E base (bot a as) ρ m w (lone f fs w) st := by
    intro hmode e
    by_cases hne : a.defers = []
    · rw [hne] at e
      simp only [stepU] at e
      have hdd := h.fr.defers
      rw [hne] at hdd
      generalize hfd : f.defers = fd at hdd
      cases hdd
      generalize ham : a.mode = am at hmd e
      generalize hfm : f.mode = fm at hmd
      cases hmd with
      | run => exact absurd hfm hmode
      | returning =>
        simp only [unwindL] at e
        obtain ⟨fn, e1, e2⟩ := R.bnd_ok e
        obtain ⟨v, e3, e4⟩ := R.bnd_ok e2
        obtain ⟨hfn, _⟩ := hE.fn _ _ (need_ok e1)
        obtain ⟨v', k1, k2⟩ := results_sim (P := P) hE h.m h.fr.tm e3
        exact backTo_sim h hfm hfd (by rw [h.fr.fn]; exact hfn) k2 k1 e4
      | panicking l l' hl =>
        obtain ⟨hfr, hcs, hm, hg⟩ := h
        cases hcs with
        | nil => simp [unwindL] at e
        | cons c cf rest rest' hc hrest =>
          simp only [unwindL] at e
          obtain ⟨k1, k2⟩ := raiseF_sim hc hl
          have key := After.go (P := P) (E := E) (base := base) ⟨k1, hrest, hm, hg⟩ e
          rw [bot_fn k2] at key
          have hcat := catches_no (P := P) hfr.todo
          exact key.step (step_lone_go (by simp [stepG, unwind, hfm, hfd, hcat]))
    · exact stepD_sim hE h hmode e hne
  generalize ham : a.mode = am at hmd e
  generalize hfm : f.mode = fm at hmd
  cases hmd with
  | run => simp only [stepM] at e; exact stepI_sim hE hD h ham e
  | returning => simp only [stepM] at e; exact hU (by rw [hfm]; simp) e
  | panicking l l' hl => simp only [stepM] at e; exact hU (by rw [hfm]; simp) e
end
end Go.Sh

/-
  A run; what it says of a call.
-/
namespace Go.Sh
open Go.RowKit

/-- what a run of the shadow's says -/
def RunOk (P : Program) (E : Env) (r : AM → R (Value × Mem)) : Prop :=
  ∀ {base : List Frame} {ρ : Ren} {a : AF} {as : List AF} {m m' : Mem} {w : World} {f : Frame} {fs : List Frame} {v : Value}, r ⟨a, as, m⟩ = .ok (v, m') → SR E ρ base a as m f fs w →
    ∃ ρ' f' w' v', Steps P (lone f fs w) (lone f' base w') ∧ f'.leaving P w' (.returned v') ∧ f'.fn = bot a as ∧ VR ρ' v v' ∧ MemR ρ' m' w' ∧ Ext ρ m w ρ' m' w'

section
variable {P : Program} {E : Env}

theorem run_ok (hE : EnvOk P E) (hdraw : ∀ r, RunOk P E r → DrawOk P E r) : ∀ n, RunOk P E (run E n) := by
  intro n
  induction n with
  | zero => intro base ρ a as m m' w f fs v e _; simp [run] at e
  | succ n ih =>
    intro base ρ a as m m' w f fs v e h
    have e' : contS (run E n) (step E (run E n) ⟨a, as, m⟩) = .ok (v, m') := e
    cases hs : step E (run E n) ⟨a, as, m⟩ with
    | no k => rw [hs] at e'; simp [contS] at e'
    | ok st =>
      rw [hs] at e'
      have key := step_sim hE (hdraw _ ih) h hs
      cases st with
      | done u m1 =>
        simp only [contS] at e'; cases e'
        obtain ⟨ρ', f', w', v', h1, h2, h3, h4, h5, h6⟩ := key
        exact ⟨ρ', f', w', v', h1, h2, h3, h4, h5, h6⟩
      | next S =>
        obtain ⟨a1, as1, m1⟩ := S
        simp only [contS] at e'
        obtain ⟨ρ1, f1, fs1, w1, h1, h2, h3, h4⟩ := key
        obtain ⟨ρ', f', w', v', k1, k2, k3, k4, k5, k6⟩ := ih e' h2
        exact ⟨ρ', f', w', v', h1.trans k1, k2, k3.trans h4, k4, k5, h3.trans k6⟩

/-- A CALL: what the shadow computes, the machine does, whatever lies below. -/
theorem calls_of_run (hE : EnvOk P E) (hdraw : ∀ r, RunOk P E r → DrawOk P E r) {n : Nat} {f : FuncId} {args args' : List Value} {a : AF} {m m' : Mem} {w : World} {ρ : Ren} {v : Value} (he : enterF E f args .normal = .ok a) (e : run E n ⟨a, [], m⟩ = .ok (v, m'))
    (ha : VRs ρ args args') (hm : MemR ρ m w) (hg : GlobR ρ E.ng) : Calls P f ⟨args'⟩ w (Ret ρ m w v m') := by
  intro cs
  obtain ⟨k1, k2⟩ := enterF_sim hE he ha
  obtain ⟨ρ', f', w', v', h1, h2, h3, h4, h5, h6⟩ := run_ok hE hdraw n (base := cs) e ⟨k1, .nil, hm, hg⟩
  exact ⟨.returned v', w', f', ⟨v', ρ', rfl, h4, h5, h6⟩, h1, h3.trans k2, h2⟩
end
end Go.Sh

/-
  Regions that draw their order (1): renamings cut off at a number; a part of memory.
-/
namespace Go.Sh
open Go.RowKit

def Ren.below (ρ : Ren) (n : Nat) : Ren := fun x => if x < n then ρ x else none
theorem below_some {ρ : Ren} {n x : Nat} {p : Pl} : ρ.below n x = some p ↔ x < n ∧ ρ x = some p := by
  unfold Ren.below
  by_cases h : x < n
  · simp [h]
  · simp [h]
theorem below_le (ρ : Ren) (n : Nat) : (ρ.below n).le ρ := fun _ _ h => (below_some.1 h).2
theorem below_mono {ρ ρ' : Ren} (h : ρ.le ρ') {n n' : Nat} (hn : n ≤ n') : (ρ.below n).le (ρ'.below n') := fun x p e => below_some.2 ⟨Nat.lt_of_lt_of_le (below_some.1 e).1 hn, h _ _ (below_some.1 e).2⟩

section
variable {ρ : Ren}
theorem belowVs_vr {ρ' : Ren} {f : Value → Bool} (hf : ∀ v v', f v = true → VR ρ v v' → VR ρ' v v') : ∀ {l l' : List Value}, belowVs f l = true → VRs ρ l l' → VRs ρ' l l' := by
  intro l
  induction l with
  | nil => intro l' _ h; cases h; exact .nil
  | cons v l ih =>
    intro l' e h
    cases h with
    | cons _ v' _ l' hv hl =>
      simp only [belowVs] at e
      obtain ⟨a, b⟩ := and_t e
      exact .cons _ _ _ _ (hf _ _ a hv) (ih b hl)

theorem belowV_vr : ∀ (d n : Nat) (v v' : Value), belowV d n v = true → VR ρ v v' → VR (ρ.below n) v v' := by
  intro d
  induction d with
  | zero => intro n v v' e; simp [belowV] at e
  | succ d ih =>
    intro n v v' e h
    simp only [belowV] at e
    have hs : ∀ {l l' : List Value}, belowVs (belowV d n) l = true → VRs ρ l l' → VRs (ρ.below n) l l' := fun a b => belowVs_vr (fun v v' => ih n v v') a b
    cases h with
    | bool b => exact .bool b
    | int k i => exact .int k i
    | string s => exact .string s
    | pnil => exact .pnil
    | ptr x o p hp => exact .ptr x o p (below_some.2 ⟨blt_lt (by simpa [belowD, belowA] using e), hp⟩)
    | snil l c => exact .snil l c
    | slice x o len cap p o' cap' hp hl hr => exact .slice x o len cap p o' cap' (below_some.2 ⟨blt_lt (by simpa [belowD, belowA] using e), hp⟩) hl hr
    | bare x o s a => exact .bare x o s a
    | mnil => exact .mnil
    | map x p hp => exact .map x p (below_some.2 ⟨blt_lt (by simpa [belowD, belowN] using e), hp⟩)
    | func f f' a a' c c' hf ha hc =>
      simp only [belowD] at e
      obtain ⟨e1, e2⟩ := and_t e
      obtain ⟨e2, e3⟩ := and_t e2
      refine .func _ _ _ _ _ _ ?_ (hs e2 ha) (hs e3 hc)
      cases hf with
      | func f => exact .func f
      | method s => exact .method s
      | yield l p hp => exact .yield l p (below_some.2 ⟨blt_lt (by simpa [belowF] using e1), hp⟩)
    | fnil => exact .fnil
    | iface t v v' hv => simp only [belowD] at e; exact .iface t _ _ (ih n _ _ e hv)
    | inil => exact .inil
    | agg l l' hl => simp only [belowD] at e; exact .agg _ _ (hs e hl)
    | tuple l l' hl => simp only [belowD] at e; exact .tuple _ _ (hs e hl)
    | top => exact .top _

/-- memory that stands, under a renaming that has grown -/
theorem MemR.grow {ρ' : Ren} {m : Mem} {w w' : World} (h : MemR ρ m w) (hle : ρ.le ρ') (hfresh : ∀ x, m.next ≤ x → ρ' x = none) (hlt : ∀ x p, ρ' x = some p → p.b < w'.heap.size)
    (hkeep : ∀ x o p, m.get x = some o → ρ x = some p → w'.heap[p.b]? = w.heap[p.b]?) : MemR ρ' m w' where
  obj x o e := by
    obtain ⟨p, O, h1, h2, h3⟩ := h.obj x o e
    exact ⟨p, O, hle _ _ h1, by rw [hkeep x o p e h1]; exact h2, h3.mono hle⟩
  inj x y o o' p q e1 e2 hne hr h1 h2 := by
    obtain ⟨p', _, k1, _⟩ := h.obj x o e1
    obtain ⟨q', _, k2, _⟩ := h.obj y o' e2
    have a := hle _ _ k1
    have b := hle _ _ k2
    rw [h1] at a; cases a
    rw [h2] at b; cases b
    exact h.inj x y o o' _ _ e1 e2 hne hr k1 k2
  fresh := hfresh
  lt := hlt
end
end Go.Sh

/-
  Regions that draw their order (2): the run in the text's order, as a row of states; what is asked of the order.
-/
namespace Go.Sh
open Go.RowKit

theorem mem_cons {x y : Nat} {l : List Nat} : mem x (y :: l) = true ↔ x = y ∨ mem x l = true := by
  simp only [mem]
  cases h : Nat.beq x y with
  | true => have := Nat.eq_of_beq_eq_true h; simp [this]
  | false =>
    have : x ≠ y := fun q => by subst q; simp at h
    simp [this]
theorem mem_iff {x : Nat} : ∀ {l : List Nat}, mem x l = true ↔ x ∈ l
  | [] => by simp [mem]
  | y :: l => by rw [mem_cons, mem_iff]; simp

section
variable {E : Env} {run : AM → R (Value × Mem)} {ops : Array Oper} {bs : List (List Nat)} {nt : Nat}

/-- one operation in the text's order -/
noncomputable def drStep (E : Env) (run : AM → R (Value × Mem)) (ops : Array Oper) (bs : List (List Nat)) (nt i : Nat) (o : Oper) (d : Dr) : R Dr :=
  (wantedL o.guard ops d.tm).bnd fun b => bif b then drOp E run bs nt i o d (sortOf o.op) else (putT o.dst (.tuple #[]) nt d.tm).bnd fun tm => .ok ⟨tm, d.m, d.reads, d.past, d.pend⟩

theorem drawL_trace : ∀ (os : List Oper) (i : Nat) (d d' : Dr), drawL E run ops bs nt os i d = .ok d' →
    ∃ f : Nat → Dr, f i = d ∧ f (i + os.length) = d' ∧ ∀ j o, os[j]? = some o → drStep E run ops bs nt (i + j) o (f (i + j)) = .ok (f (i + j + 1)) := by
  intro os
  induction os with
  | nil => intro i d d' e; simp only [drawL] at e; cases e; exact ⟨fun _ => d, rfl, rfl, fun j o h => by simp at h⟩
  | cons o os ih =>
    intro i d d' e
    have e' : (drStep E run ops bs nt i o d).bnd (fun d => drawL E run ops bs nt os (i + 1) d) = .ok d' := e
    obtain ⟨d1, e1, e2⟩ := R.bnd_ok e'
    obtain ⟨f, f1, f2, f3⟩ := ih (i + 1) d1 d' e2
    refine ⟨fun k => if k = i then d else f k, by simp, ?_, ?_⟩
    · have hk : i + (o :: os).length ≠ i := by simp
      simp only [if_neg hk]
      rw [← f2]; congr 1; simp; omega
    · intro j o' h
      cases j with
      | zero =>
        simp only [List.getElem?_cons_zero] at h; cases h
        have h1 : i + 0 + 1 ≠ i := by omega
        simp only [Nat.add_zero, if_true, if_neg (show i + 1 ≠ i by omega)]
        rw [f1]; exact e1
      | succ j =>
        simp only [List.getElem?_cons_succ] at h
        have h1 : i + (j + 1) ≠ i := by omega
        have h2 : i + (j + 1) + 1 ≠ i := by omega
        simp only [if_neg h1, if_neg h2]
        have := f3 j o' h
        rw [show i + (j + 1) = i + 1 + j from by omega]; exact this

/-- what an operation did -/
inductive Did (E : Env) (run : AM → R (Value × Mem)) (ops : Array Oper) (bs : List (List Nat)) (nt i : Nat) (o : Oper) (d d' : Dr) : Prop where
  | skip (hw : wantedL o.guard ops d.tm = .ok false) (ht : putT o.dst (.tuple #[]) nt d.tm = .ok d'.tm) (hm : d'.m = d.m) (hr : d'.reads = d.reads) (hp : d'.past = d.past) (hq : d'.pend = d.pend)
  | pure (hw : wantedL o.guard ops d.tm = .ok true) (hs : sortOf o.op = 0) (v : Value) (m' : Mem) (he : execV o.op E d.tm d.m = .ok (.val v m')) (hb : belowV 20 d.m.next v = true) (ht : putT o.dst v nt d.tm = .ok d'.tm)
      (hm : d'.m = d.m) (hr : d'.reads = d.reads) (hp : d'.past = d.past) (hq : d'.pend = d.pend)
  | read (hw : wantedL o.guard ops d.tm = .ok true) (hs : sortOf o.op = 1) (v : Value) (m' : Mem) (he : execV o.op E d.tm d.m = .ok (.val v m')) (hb : belowV 20 d.m.next v = true) (ht : putT o.dst v nt d.tm = .ok d'.tm)
      (hk : pastOk E bs i o d.tm v d.past = true) (hm : d'.m = d.m) (hr : d'.reads = (i, o, d.tm, v) :: d.reads) (hp : d'.past = d.past) (hq : d'.pend = d.pend)
  | alloc (hw : wantedL o.guard ops d.tm = .ok true) (hs : sortOf o.op = 2) (v : Value) (m' : Mem) (ao : AO) (he : execV o.op E d.tm d.m = .ok (.val v m')) (ha : m'.get d.m.next = some ao) (hb : belowV 20 (d.m.next + 1) v = true)
      (ht : putT o.dst v nt d.tm = .ok d'.tm) (hm : d'.m = ⟨d.m.next + 1, d.m.objs⟩) (hr : d'.reads = d.reads) (hp : d'.past = d.past) (hq : d'.pend = (i, d.m.next, ao) :: d.pend)
  | eff (hw : wantedL o.guard ops d.tm = .ok true) (hs : sortOf o.op = 3) (res : Res) (v : Value) (he : execV o.op E d.tm (putMany (forced (nthD bs i) d.pend) d.m) = .ok res)
      (hres : res = .val v d'.m ∨ ∃ f args m fr, res = .enter f args m ∧ enterF E f args .normal = .ok fr ∧ run ⟨fr, [], m⟩ = .ok (v, d'.m))
      (hl : laterOk E bs i d'.m d.reads = true) (hn : d.m.next ≤ d'.m.next) (hb : belowV 20 d'.m.next v = true) (ht : putT o.dst v nt d.tm = .ok d'.tm) (hr : d'.reads = d.reads) (hp : d'.past = (i, d.m) :: d.past)
      (hq : d'.pend = unforced (nthD bs i) d.pend)

theorem putB_ok {dst : Option Tmp} {v : Value} {n : Nat} {tm tm' : T Value} (e : putB dst v n nt tm = .ok tm') : belowV 20 n v = true ∧ putT dst v nt tm = .ok tm' := bif_ok e

theorem sortOf_le (o : Op) : sortOf o ≤ 3 := by
  unfold sortOf
  cases isPure o <;> cases isRead o <;> cases isAlloc o <;> simp

theorem drEff1_did {i : Nat} {o : Oper} {d d' : Dr} {p : Value × Mem} (e : drEff1 E bs nt i o d p = .ok d') :
    laterOk E bs i d'.m d.reads = true ∧ d.m.next ≤ d'.m.next ∧ belowV 20 d'.m.next p.1 = true ∧ putT o.dst p.1 nt d.tm = .ok d'.tm ∧ d'.reads = d.reads ∧ d'.past = (i, d.m) :: d.past ∧ d'.pend = unforced (nthD bs i) d.pend ∧ d'.m = p.2 := by
  unfold drEff1 at e
  obtain ⟨h1, e1⟩ := bif_ok e
  obtain ⟨tm, e2, e3⟩ := R.bnd_ok e1
  cases e3
  obtain ⟨h2, h3⟩ := and_t h1
  obtain ⟨h4, h5⟩ := putB_ok e2
  exact ⟨h2, Nat.le_of_ble_eq_true h3, h4, h5, rfl, rfl, rfl, rfl⟩

theorem did_of {i : Nat} {o : Oper} {d d' : Dr} (e : drStep E run ops bs nt i o d = .ok d') : Did E run ops bs nt i o d d' := by
  unfold drStep at e
  obtain ⟨b, hw, e1⟩ := R.bnd_ok e
  cases b with
  | false =>
    simp only [cond_false] at e1
    obtain ⟨tm, e2, e3⟩ := R.bnd_ok e1
    cases e3
    exact .skip hw e2 rfl rfl rfl rfl
  | true =>
    simp only [cond_true] at e1
    have hle := sortOf_le o.op
    generalize hs : sortOf o.op = s at e1 hle
    match s, e1, hle with
    | 0, e1, _ =>
      simp only [drOp] at e1
      obtain ⟨res, e2, e3⟩ := R.bnd_ok e1
      cases res <;> simp only [drPure] at e3 <;> try (cases e3; done)
      rename_i v m'
      obtain ⟨tm, e4, e5⟩ := R.bnd_ok e3
      cases e5
      obtain ⟨h4, h5⟩ := putB_ok e4
      exact .pure hw hs v m' e2 h4 h5 rfl rfl rfl rfl
    | 1, e1, _ =>
      simp only [drOp] at e1
      obtain ⟨res, e2, e3⟩ := R.bnd_ok e1
      cases res <;> simp only [drRead] at e3 <;> try (cases e3; done)
      rename_i v m'
      obtain ⟨hk, e3⟩ := bif_ok e3
      obtain ⟨tm, e4, e5⟩ := R.bnd_ok e3
      cases e5
      obtain ⟨h4, h5⟩ := putB_ok e4
      exact .read hw hs v m' e2 h4 h5 hk rfl rfl rfl rfl
    | 2, e1, _ =>
      simp only [drOp] at e1
      obtain ⟨res, e2, e3⟩ := R.bnd_ok e1
      cases res <;> simp only [drAlloc] at e3 <;> try (cases e3; done)
      rename_i v m'
      obtain ⟨ao, ha, e3⟩ := R.bnd_ok e3
      obtain ⟨tm, e4, e5⟩ := R.bnd_ok e3
      cases e5
      obtain ⟨h4, h5⟩ := putB_ok e4
      exact .alloc hw hs v m' ao e2 (need_ok ha) h4 h5 rfl rfl rfl rfl
    | 3, e1, _ =>
      simp only [drOp] at e1
      obtain ⟨res, e2, e3⟩ := R.bnd_ok e1
      cases res <;> simp only [drEff] at e3 <;> try (cases e3; done)
      case val v m =>
        obtain ⟨h1, h2, h3, h4, h5, h6, h7, h8⟩ := drEff1_did e3
        simp only at h8
        exact .eff hw hs _ v e2 (.inl (by rw [h8])) h1 h2 h3 h4 h5 h6 h7
      case enter f args m =>
        obtain ⟨fr, e4, e5⟩ := R.bnd_ok e3
        obtain ⟨p, e6, e7⟩ := R.bnd_ok e5
        obtain ⟨h1, h2, h3, h4, h5, h6, h7, h8⟩ := drEff1_did e7
        obtain ⟨v, m2⟩ := p
        simp only at h8
        exact .eff hw hs _ v e2 (.inr ⟨f, args, m, fr, rfl, e4, by rw [h8]; exact e6⟩) h1 h2 h3 h4 h5 h6 h7

theorem Did.next_le {i : Nat} {o : Oper} {d d' : Dr} (h : Did E run ops bs nt i o d d') : d.m.next ≤ d'.m.next := by
  cases h with
  | skip _ _ hm => rw [hm]; exact Nat.le_refl _
  | pure _ _ _ _ _ _ _ hm => rw [hm]; exact Nat.le_refl _
  | read _ _ _ _ _ _ _ _ hm => rw [hm]; exact Nat.le_refl _
  | alloc _ _ _ _ _ _ _ _ _ hm => rw [hm]; exact Nat.le_succ _
  | eff _ _ _ _ _ _ _ hn => exact hn
/-- the value that it wrote, and what else of the temporaries stays -/
theorem Did.tm {i : Nat} {o : Oper} {d d' : Dr} (h : Did E run ops bs nt i o d d') : ∃ v, putT o.dst v nt d.tm = .ok d'.tm := by
  cases h with
  | skip _ ht => exact ⟨_, ht⟩
  | pure _ _ _ _ _ _ ht => exact ⟨_, ht⟩
  | read _ _ _ _ _ _ ht => exact ⟨_, ht⟩
  | alloc _ _ _ _ _ _ _ _ ht => exact ⟨_, ht⟩
  | eff _ _ _ _ _ _ _ _ _ ht => exact ⟨_, ht⟩
theorem putT_at {dst : Option Tmp} {v : Value} {tm tm' : T Value} (e : putT dst v nt tm = .ok tm') (t : Tmp) : tm'.at t = if dst = some t then v else tm.at t := by
  cases dst with
  | none => simp only [putT] at e; cases e; simp
  | some d =>
    simp only [putT] at e
    obtain ⟨_, e1⟩ := bif_ok e
    cases e1
    rw [at_set]
    by_cases h : t = d
    · subst h; simp
    · have : ¬ (some d = some t) := fun q => h (by cases q; rfl)
      rw [if_neg h, if_neg this]
theorem putT_lt {d : Tmp} {v : Value} {tm tm' : T Value} (e : putT (some d) v nt tm = .ok tm') : d < nt := by
  simp only [putT] at e
  exact blt_lt (bif_ok e).1
end

/-! what the row of states tells -/
structure Tx (E : Env) (run : AM → R (Value × Mem)) (ops : Array Oper) (nt : Nat) (tm : T Value) (m : Mem) (f : Nat → Dr) : Prop where
  ok : regionOk ops.toList = true
  zero : f 0 = ⟨tm, m, [], [], []⟩
  step : ∀ i o, ops.toList[i]? = some o → Did E run ops (aheadL ops.toList []) nt i o (f i) (f (i + 1))

noncomputable def ahead (ops : Array Oper) (i : Nat) : List Nat := nthD (aheadL ops.toList []) i

section
variable {E : Env} {run : AM → R (Value × Mem)} {ops : Array Oper} {nt : Nat} {tm : T Value} {m : Mem} {f : Nat → Dr}

theorem drawV_tx {p : T Value × Mem} (e : drawV E run ops nt tm m = .ok p) : ∃ f, Tx E run ops nt tm m f ∧ p = ((f ops.toList.length).tm, putMany (f ops.toList.length).pend (f ops.toList.length).m) := by
  unfold drawV at e
  obtain ⟨h1, e1⟩ := bif_ok e
  obtain ⟨d, e2, e3⟩ := R.bnd_ok e1
  cases e3
  obtain ⟨f, f1, f2, f3⟩ := drawL_trace _ _ _ _ e2
  refine ⟨f, ⟨h1, f1, fun i o ho => did_of ?_⟩, by rw [Nat.zero_add] at f2; rw [f2]⟩
  have := f3 i o ho
  rw [Nat.zero_add] at this
  exact this

def Eff (ops : Array Oper) (f : Nat → Dr) (i : Nat) : Prop := ∃ o, ops.toList[i]? = some o ∧ sortOf o.op = 3 ∧ wantedL o.guard ops (f i).tm = .ok true
def Al (E : Env) (ops : Array Oper) (f : Nat → Dr) (i : Nat) (ao : AO) : Prop :=
  ∃ o v m', ops.toList[i]? = some o ∧ sortOf o.op = 2 ∧ wantedL o.guard ops (f i).tm = .ok true ∧ execV o.op E (f i).tm (f i).m = .ok (.val v m') ∧ m'.get (f i).m.next = some ao

theorem Eff.lt {i : Nat} (h : Eff ops f i) : i < ops.toList.length := by
  obtain ⟨o, h, _⟩ := h
  exact (List.getElem?_eq_some_iff.1 h).1
theorem Al.lt {i : Nat} {ao : AO} (h : Al E ops f i ao) : i < ops.toList.length := by
  obtain ⟨o, _, _, h, _⟩ := h
  exact (List.getElem?_eq_some_iff.1 h).1

theorem Tx.next_le (h : Tx E run ops nt tm m f) {i j : Nat} (hij : i ≤ j) (hj : j ≤ ops.toList.length) : (f i).m.next ≤ (f j).m.next := by
  induction j with
  | zero => rw [Nat.le_zero.1 hij]; exact Nat.le_refl _
  | succ j ih =>
    by_cases hq : i = j + 1
    · subst hq; exact Nat.le_refl _
    · exact Nat.le_trans (ih (by omega) (by omega)) (h.step j _ (List.getElem?_eq_getElem (by omega))).next_le

theorem Tx.al_next (h : Tx E run ops nt tm m f) {i : Nat} {ao : AO} (ha : Al E ops f i ao) : (f (i + 1)).m.next = (f i).m.next + 1 := by
  obtain ⟨o, v, m', h1, h2, h3, h4, h5⟩ := ha
  have hd := h.step i o h1
  cases hd with
  | skip hw => rw [hw] at h3; cases h3
  | pure _ hs => omega
  | read _ hs => omega
  | alloc _ _ _ _ _ _ _ _ _ hm => rw [hm]
  | eff _ hs => omega

/-- nobody writes a temporary: it stays -/
theorem Tx.tm_stays (h : Tx E run ops nt tm m f) {t : Tmp} {i j : Nat} (hij : i ≤ j) (hj : j ≤ ops.toList.length) (hn : ∀ k o, i ≤ k → k < j → ops.toList[k]? = some o → o.dst ≠ some t) : (f j).tm.at t = (f i).tm.at t := by
  induction j with
  | zero => rw [Nat.le_zero.1 hij]
  | succ j ih =>
    by_cases hq : i = j + 1
    · subst hq; rfl
    · have ho : ops.toList[j]? = some (ops.toList[j]'(by omega)) := List.getElem?_eq_getElem (by omega)
      obtain ⟨v, hv⟩ := (h.step j _ ho).tm
      rw [putT_at hv t, if_neg (hn j _ (by omega) (by omega) ho)]
      exact ih (by omega) (by omega) fun k o a b => hn k o a (by omega)

theorem Tx.objs_stay (h : Tx E run ops nt tm m f) {i j : Nat} (hij : i ≤ j) (hj : j ≤ ops.toList.length) (hn : ∀ k, i ≤ k → k < j → ¬ Eff ops f k) : (f j).m.objs = (f i).m.objs := by
  induction j with
  | zero => rw [Nat.le_zero.1 hij]
  | succ j ih =>
    by_cases hq : i = j + 1
    · subst hq; rfl
    · have ho : ops.toList[j]? = some (ops.toList[j]'(by omega)) := List.getElem?_eq_getElem (by omega)
      have ih := ih (by omega) (by omega) fun k a b => hn k a (by omega)
      cases h.step j _ ho with
      | skip _ _ hm => rw [hm]; exact ih
      | pure _ _ _ _ _ _ _ hm => rw [hm]; exact ih
      | read _ _ _ _ _ _ _ _ hm => rw [hm]; exact ih
      | alloc _ _ _ _ _ _ _ _ _ hm => rw [hm]; exact ih
      | eff hw hs => exact absurd ⟨_, ho, hs, hw⟩ (hn j (by omega) (by omega))

theorem Tx.past_mem (h : Tx E run ops nt tm m f) {e j : Nat} (he : Eff ops f e) (hej : e < j) (hj : j ≤ ops.toList.length) : (e, (f e).m) ∈ (f j).past := by
  induction j with
  | zero => omega
  | succ j ih =>
    have ho : ops.toList[j]? = some (ops.toList[j]'(by omega)) := List.getElem?_eq_getElem (by omega)
    by_cases hq : e = j
    · subst hq
      obtain ⟨o, h1, h2, h3⟩ := he
      cases h.step e o h1 with
      | skip hw => rw [hw] at h3; cases h3
      | pure _ hs => omega
      | read _ hs => omega
      | alloc _ hs => omega
      | eff _ _ _ _ _ _ _ _ _ _ _ hp => rw [hp]; simp
    · have ih := ih (by omega) (by omega)
      cases h.step j _ ho with
      | skip _ _ _ _ hp => rw [hp]; exact ih
      | pure _ _ _ _ _ _ _ _ _ hp => rw [hp]; exact ih
      | read _ _ _ _ _ _ _ _ _ _ hp => rw [hp]; exact ih
      | alloc _ _ _ _ _ _ _ _ _ _ _ hp => rw [hp]; exact ih
      | eff _ _ _ _ _ _ _ _ _ _ _ hp => rw [hp]; exact List.mem_cons_of_mem _ ih

theorem Tx.read_mem (h : Tx E run ops nt tm m f) {i j : Nat} {o : Oper} {v : Value} (ho : ops.toList[i]? = some o) (hs : sortOf o.op = 1) (hw : wantedL o.guard ops (f i).tm = .ok true) {m' : Mem} (hv : execV o.op E (f i).tm (f i).m = .ok (.val v m')) (hij : i < j) (hj : j ≤ ops.toList.length) :
    (i, o, (f i).tm, v) ∈ (f j).reads := by
  induction j with
  | zero => omega
  | succ j ih =>
    by_cases hq : i = j
    · subst hq
      cases h.step i o ho with
      | skip hw' => rw [hw'] at hw; cases hw
      | pure _ hs' => omega
      | read _ _ v' _ he _ _ _ _ hr => rw [he] at hv; cases hv; rw [hr]; simp
      | alloc _ hs' => omega
      | eff _ hs' => omega
    · have ih := ih (by omega) (by omega)
      have ho : ops.toList[j]? = some (ops.toList[j]'(by omega)) := List.getElem?_eq_getElem (by omega)
      cases h.step j _ ho with
      | skip _ _ _ hr => rw [hr]; exact ih
      | pure _ _ _ _ _ _ _ _ hr => rw [hr]; exact ih
      | read _ _ _ _ _ _ _ _ _ hr => rw [hr]; exact List.mem_cons_of_mem _ ih
      | alloc _ _ _ _ _ _ _ _ _ _ hr => rw [hr]; exact ih
      | eff _ _ _ _ _ _ _ _ _ _ hr => rw [hr]; exact ih

theorem unforced_mem {b : List Nat} {y : Nat × Nat × AO} : ∀ {l : List (Nat × Nat × AO)}, y ∈ unforced b l → y ∈ l ∧ mem y.1 b = false := by
  intro l
  induction l with
  | nil => intro h; simp [unforced] at h
  | cons x l ih =>
    intro h
    obtain ⟨i, x, o⟩ := x
    simp only [unforced] at h
    cases hm : mem i b with
    | true => rw [hm] at h; simp only [cond_true] at h; obtain ⟨a, c⟩ := ih h; exact ⟨List.mem_cons_of_mem _ a, c⟩
    | false =>
      rw [hm] at h; simp only [cond_false] at h
      rcases List.mem_cons.1 h with q | q
      · subst q; exact ⟨by simp, hm⟩
      · obtain ⟨a, c⟩ := ih q; exact ⟨List.mem_cons_of_mem _ a, c⟩
theorem forced_mem {b : List Nat} {y : Nat × Nat × AO} : ∀ {l : List (Nat × Nat × AO)}, y ∈ forced b l → y ∈ l ∧ mem y.1 b = true := by
  intro l
  induction l with
  | nil => intro h; simp [forced] at h
  | cons x l ih =>
    intro h
    obtain ⟨i, x, o⟩ := x
    simp only [forced] at h
    cases hm : mem i b with
    | false => rw [hm] at h; simp only [cond_false] at h; obtain ⟨a, c⟩ := ih h; exact ⟨List.mem_cons_of_mem _ a, c⟩
    | true =>
      rw [hm] at h; simp only [cond_true] at h
      rcases List.mem_cons.1 h with q | q
      · subst q; exact ⟨by simp, hm⟩
      · obtain ⟨a, c⟩ := ih q; exact ⟨List.mem_cons_of_mem _ a, c⟩

theorem Tx.pend_mem (h : Tx E run ops nt tm m f) {j : Nat} (hj : j ≤ ops.toList.length) {i x : Nat} {ao : AO} (hy : (i, x, ao) ∈ (f j).pend) :
    i < j ∧ Al E ops f i ao ∧ x = (f i).m.next ∧ ∀ e, i < e → e < j → Eff ops f e → mem i (ahead ops e) = false := by
  induction j with
  | zero => rw [h.zero] at hy; simp at hy
  | succ j ih =>
    have ho : ops.toList[j]? = some (ops.toList[j]'(by omega)) := List.getElem?_eq_getElem (by omega)
    have old : (i, x, ao) ∈ (f j).pend → (Eff ops f j → mem i (ahead ops j) = false) → i < j + 1 ∧ Al E ops f i ao ∧ x = (f i).m.next ∧ ∀ e, i < e → e < j + 1 → Eff ops f e → mem i (ahead ops e) = false := by
      intro hy hjj
      obtain ⟨a, b, c, d⟩ := ih (by omega) hy
      refine ⟨by omega, b, c, fun e h1 h2 h3 => ?_⟩
      by_cases hq : e = j
      · subst hq; exact hjj h3
      · exact d e h1 (by omega) h3
    have nope : ∀ {s : Nat}, sortOf (ops.toList[j]'(by omega)).op = s → s ≠ 3 → ¬ Eff ops f j := by
      intro s hs h3 ⟨o, a, b, _⟩
      rw [ho] at a; cases a; omega
    cases h.step j _ ho with
    | skip hw _ _ _ _ hq =>
      rw [hq] at hy
      refine old hy fun ⟨o, a, _, c⟩ => ?_
      rw [ho] at a; cases a; rw [hw] at c; cases c
    | pure _ hs _ _ _ _ _ _ _ _ hq => rw [hq] at hy; exact old hy fun he => absurd he (nope hs (by omega))
    | read _ hs _ _ _ _ _ _ _ _ _ hq => rw [hq] at hy; exact old hy fun he => absurd he (nope hs (by omega))
    | alloc hw hs v m' ao' he ha _ _ _ _ _ hq =>
      rw [hq] at hy
      rcases List.mem_cons.1 hy with q | q
      · cases q
        exact ⟨by omega, ⟨_, v, m', ho, hs, hw, he, ha⟩, rfl, fun e a b => by omega⟩
      · exact old q fun he => absurd he (nope hs (by omega))
    | eff _ _ _ _ _ _ _ _ _ _ _ _ hq =>
      rw [hq] at hy
      obtain ⟨a, b⟩ := unforced_mem hy
      exact old a fun _ => b

theorem putMany_get : ∀ (l : List (Nat × Nat × AO)) (m : Mem) (x : Nat) (o : AO), (putMany l m).get x = some o → (∃ i, (i, x, o) ∈ l) ∨ m.get x = some o := by
  intro l
  induction l with
  | nil => intro m x o h; exact .inr h
  | cons y l ih =>
    intro m x o h
    obtain ⟨i, z, q⟩ := y
    simp only [putMany] at h
    rcases ih _ _ _ h with ⟨k, hk⟩ | h
    · exact .inl ⟨k, List.mem_cons_of_mem _ hk⟩
    · rw [Mem.get_put] at h
      by_cases hx : x = z
      · subst hx; rw [if_pos rfl] at h; cases h; exact .inl ⟨i, by simp⟩
      · rw [if_neg hx] at h; exact .inr h
theorem putMany_next : ∀ (l : List (Nat × Nat × AO)) (m : Mem), (putMany l m).next = m.next := by
  intro l
  induction l with
  | nil => intro m; rfl
  | cons y l ih => intro m; obtain ⟨i, z, q⟩ := y; simp only [putMany]; rw [ih, Mem.next_put]
end

/-! what is ahead -/
section
theorem aheadL_prefix : ∀ (os : List Oper) (bs : List (List Nat)), ∃ r, aheadL os bs = bs ++ r ∧ r.length = os.length := by
  intro os
  induction os with
  | nil => intro bs; exact ⟨[], by simp [aheadL], rfl⟩
  | cons o os ih =>
    intro bs
    obtain ⟨r, h1, h2⟩ := ih (bs ++ [aheadE bs o.after.toList])
    exact ⟨aheadE bs o.after.toList :: r, by simp only [aheadL]; rw [h1]; simp, by simp [h2]⟩
theorem aheadL_at : ∀ (os : List Oper) (bs : List (List Nat)) (j : Nat) (o : Oper), os[j]? = some o → ∃ p, nthD (aheadL os bs) (bs.length + j) = aheadE p o.after.toList ∧ p.length = bs.length + j ∧ ∃ r, aheadL os bs = p ++ r := by
  intro os
  induction os with
  | nil => intro bs j o h; simp at h
  | cons x os ih =>
    intro bs j o h
    cases j with
    | zero =>
      simp only [List.getElem?_cons_zero] at h; cases h
      obtain ⟨r, h1, h2⟩ := aheadL_prefix os (bs ++ [aheadE bs x.after.toList])
      refine ⟨bs, ?_, by simp, aheadE bs x.after.toList :: r, by simp only [aheadL]; rw [h1]; simp⟩
      simp only [aheadL]; rw [h1]
      unfold nthD
      have : (bs ++ [aheadE bs x.after.toList] ++ r)[bs.length + 0]? = some (aheadE bs x.after.toList) := by simp
      rw [this]
    | succ j =>
      simp only [List.getElem?_cons_succ] at h
      obtain ⟨p, h1, h2, h3⟩ := ih (bs ++ [aheadE bs x.after.toList]) j o h
      refine ⟨p, ?_, ?_, h3⟩
      · simp only [aheadL]
        rw [← h1]; congr 1; simp; omega
      · rw [h2]; simp; omega

theorem aheadE_mem {p : List (List Nat)} {k : Nat} : ∀ {es : List Edge}, mem k (aheadE p es) = true → ∃ e ∈ es, Region.binds .any e = true ∧ (k = e.on ∨ mem k (nthD p e.on) = true) := by
  intro es
  induction es with
  | nil => intro h; simp [aheadE, mem] at h
  | cons e es ih =>
    intro h
    simp only [aheadE] at h
    cases hb : Region.binds .any e with
    | false => rw [hb] at h; simp only [cond_false] at h; obtain ⟨e', a, b⟩ := ih h; exact ⟨e', List.mem_cons_of_mem _ a, b⟩
    | true =>
      rw [hb] at h; simp only [cond_true] at h
      rw [mem_cons] at h
      rcases h with h | h
      · exact ⟨e, by simp, hb, .inl h⟩
      · rw [mem_iff, List.mem_append] at h
        rcases h with h | h
        · exact ⟨e, by simp, hb, .inr (mem_iff.2 h)⟩
        · obtain ⟨e', a, b⟩ := ih (mem_iff.2 h); exact ⟨e', List.mem_cons_of_mem _ a, b⟩

variable {ops : Array Oper}
theorem edges_ok : ∀ {l : List Oper} {i j : Nat} {o : Oper}, edgesOk l i = true → l[j]? = some o → ∀ e ∈ o.after.toList, Region.binds .any e = true → e.on < i + j := by
  intro l
  induction l with
  | nil => intro i j o _ h; simp at h
  | cons x l ih =>
    intro i j o h ho e he hb
    simp only [edgesOk] at h
    obtain ⟨h1, h2⟩ := and_t h
    cases j with
    | zero =>
      simp only [List.getElem?_cons_zero] at ho; cases ho
      have := List.all_eq_true.1 h1 e he
      rw [hb] at this
      simpa using blt_lt (by simpa using this)
    | succ j =>
      simp only [List.getElem?_cons_succ] at ho
      have := ih h2 ho e he hb
      omega

theorem ahead_of (hok : regionOk ops.toList = true) {j k : Nat} {o : Oper} (ho : ops.toList[j]? = some o) (hk : mem k (ahead ops j) = true) : ∃ e ∈ o.after.toList, Region.binds .any e = true ∧ e.on < j ∧ (k = e.on ∨ mem k (ahead ops e.on) = true) := by
  unfold regionOk at hok
  obtain ⟨h1, _⟩ := and_t hok
  obtain ⟨p, q1, q2, r, q3⟩ := aheadL_at ops.toList [] j o ho
  simp only [List.length_nil, Nat.zero_add] at q1 q2
  unfold ahead at hk
  rw [q1] at hk
  obtain ⟨e, a, b, c⟩ := aheadE_mem hk
  have hlt := edges_ok h1 ho e a b
  rw [Nat.zero_add] at hlt
  refine ⟨e, a, b, hlt, c.imp id fun h => ?_⟩
  unfold ahead
  rw [q3]
  unfold nthD at h ⊢
  rw [List.getElem?_append_left (by omega)]
  exact h

theorem ahead_out {j : Nat} (h : ops.toList.length ≤ j) : ahead ops j = [] := by
  unfold ahead nthD
  obtain ⟨r, h1, h2⟩ := aheadL_prefix ops.toList []
  rw [h1, List.nil_append, List.getElem?_eq_none (by omega)]

theorem ahead_lt (hok : regionOk ops.toList = true) : ∀ {j k : Nat}, mem k (ahead ops j) = true → k < j := by
  intro j
  induction j using Nat.strongRecOn with
  | ind j ih =>
    intro k hk
    by_cases hj : j < ops.toList.length
    · obtain ⟨e, _, _, a, b⟩ := ahead_of hok (List.getElem?_eq_getElem hj) hk
      rcases b with b | b
      · omega
      · have := ih _ a b; omega
    · rw [ahead_out (by omega)] at hk; simp [mem] at hk

theorem writersOk_spec {bs : List (List Nat)} {j : Nat} {t : Tmp} : ∀ {l : List Oper} {s i : Nat} {o : Oper}, writersOk bs j t l s = true → l[i]? = some o → o.dst = some t → s + i = j ∨ mem (s + i) (nthD bs j) = true ∨ (mem j (nthD bs (s + i)) = true ∧ j < s + i) := by
  intro l
  induction l with
  | nil => intro s i o _ h; simp at h
  | cons x l ih =>
    intro s i o h ho hd
    simp only [writersOk] at h
    obtain ⟨h1, h2⟩ := and_t h
    cases i with
    | zero =>
      simp only [List.getElem?_cons_zero] at ho; cases ho
      rw [hd] at h1
      simp only [Nat.beq_refl, Bool.not_true, Bool.false_or, Nat.add_zero] at h1 ⊢
      cases h3 : Nat.beq s j with
      | true => exact .inl (Nat.eq_of_beq_eq_true h3)
      | false =>
        rw [h3] at h1
        simp only [Bool.false_or, Bool.or_eq_true, Bool.and_eq_true] at h1
        exact .inr (h1.imp id fun ⟨a, b⟩ => ⟨a, blt_lt b⟩)
    | succ i =>
      simp only [List.getElem?_cons_succ] at ho
      have := ih h2 ho hd
      rw [show s + 1 + i = s + (i + 1) from by omega] at this
      exact this
theorem dstOnce_spec {j : Nat} {t : Tmp} : ∀ {l : List Oper} {s i : Nat} {o : Oper}, dstOnce j t l s = true → l[i]? = some o → o.dst = some t → s + i = j := by
  intro l
  induction l with
  | nil => intro s i o _ h; simp at h
  | cons x l ih =>
    intro s i o h ho hd
    simp only [dstOnce] at h
    obtain ⟨h1, h2⟩ := and_t h
    cases i with
    | zero =>
      simp only [List.getElem?_cons_zero] at ho; cases ho
      rw [hd] at h1
      simp only [Nat.beq_refl, Bool.not_true, Bool.false_or] at h1
      exact Nat.eq_of_beq_eq_true h1
    | succ i =>
      simp only [List.getElem?_cons_succ] at ho
      have := ih h2 ho hd
      omega
theorem effsOk_spec {bs : List (List Nat)} {j : Nat} : ∀ {l : List Oper} {s i : Nat} {o : Oper}, effsOk bs j l s = true → l[i]? = some o → sortOf o.op = 3 → s + i < j → mem (s + i) (nthD bs j) = true := by
  intro l
  induction l with
  | nil => intro s i o _ h; simp at h
  | cons x l ih =>
    intro s i o h ho hd hlt
    simp only [effsOk] at h
    obtain ⟨h1, h2⟩ := and_t h
    cases i with
    | zero =>
      simp only [List.getElem?_cons_zero] at ho; cases ho
      rw [hd] at h1
      have : Nat.blt s j = true := by unfold Nat.blt; exact Nat.ble_eq_true_of_le (by omega)
      rw [Nat.add_zero]
      simpa [this] using h1
    | succ i =>
      simp only [List.getElem?_cons_succ] at ho
      have := ih h2 ho hd (by omega)
      rw [show s + 1 + i = s + (i + 1) from by omega] at this
      exact this
theorem opersOk_spec {ol : List Oper} {bs : List (List Nat)} : ∀ {l : List Oper} {s j : Nat} {o : Oper}, opersOk ol bs l s = true → l[j]? = some o → operOk ol bs (s + j) o = true := by
  intro l
  induction l with
  | nil => intro s j o _ h; simp at h
  | cons x l ih =>
    intro s j o h ho
    simp only [opersOk] at h
    obtain ⟨h1, h2⟩ := and_t h
    cases j with
    | zero => simp only [List.getElem?_cons_zero] at ho; cases ho; exact h1
    | succ j =>
      simp only [List.getElem?_cons_succ] at ho
      have := ih h2 ho
      rw [show s + 1 + j = s + (j + 1) from by omega] at this
      exact this

theorem oper_ok (hok : regionOk ops.toList = true) {j : Nat} {o : Oper} (ho : ops.toList[j]? = some o) : operOk ops.toList (aheadL ops.toList []) j o = true := by
  unfold regionOk at hok
  have := opersOk_spec (and_t hok).2 ho
  rw [Nat.zero_add] at this
  exact this

theorem tmpsOf_mem {t : Tmp} : ∀ {l : List Operand}, Operand.tmp t ∈ l → t ∈ tmpsOf l := by
  intro l
  induction l with
  | nil => intro h; cases h
  | cons x l ih =>
    intro h
    rcases List.mem_cons.1 h with q | q
    · subst q; simp [tmpsOf]
    · cases x <;> simp [tmpsOf, ih q]

theorem ok_writers (hok : regionOk ops.toList = true) {i j : Nat} {o o' : Oper} {t : Tmp} (ho : ops.toList[j]? = some o) (hx : Operand.tmp t ∈ o.op.operands.toList) (hi : ops.toList[i]? = some o') (hd : o'.dst = some t) :
    i = j ∨ mem i (ahead ops j) = true ∨ (mem j (ahead ops i) = true ∧ j < i) := by
  have h := oper_ok hok ho
  unfold operOk at h
  obtain ⟨h, _⟩ := and_t h
  obtain ⟨h, _⟩ := and_t h
  obtain ⟨h, _⟩ := and_t h
  have := writersOk_spec (List.all_eq_true.1 h t (tmpsOf_mem hx)) hi hd
  rw [Nat.zero_add] at this
  exact this
theorem ok_once (hok : regionOk ops.toList = true) {i j : Nat} {o o' : Oper} {t : Tmp} (ho : ops.toList[j]? = some o) (hd : o.dst = some t) (hi : ops.toList[i]? = some o') (hd' : o'.dst = some t) : i = j := by
  have h := oper_ok hok ho
  unfold operOk at h
  obtain ⟨h, _⟩ := and_t h
  obtain ⟨h, _⟩ := and_t h
  obtain ⟨_, h⟩ := and_t h
  rw [hd] at h
  have := dstOnce_spec h hi hd'
  omega
theorem ok_guard (hok : regionOk ops.toList = true) {j g : Nat} {b : Bool} {o : Oper} (ho : ops.toList[j]? = some o) (hg : o.guard = some (g, b)) : mem g (ahead ops j) = true := by
  have h := oper_ok hok ho
  unfold operOk at h
  obtain ⟨h, _⟩ := and_t h
  obtain ⟨_, h⟩ := and_t h
  rw [hg] at h
  exact h
theorem ok_effs (hok : regionOk ops.toList = true) {i j : Nat} {o o' : Oper} (ho : ops.toList[j]? = some o) (hs : sortOf o.op = 3) (hi : ops.toList[i]? = some o') (hs' : sortOf o'.op = 3) (hij : i < j) : mem i (ahead ops j) = true := by
  have h := oper_ok hok ho
  unfold operOk at h
  obtain ⟨_, h⟩ := and_t h
  rw [hs] at h
  have := effsOk_spec (by simpa using h) hi hs' (by omega)
  rw [Nat.zero_add] at this
  exact this
end
end Go.Sh
