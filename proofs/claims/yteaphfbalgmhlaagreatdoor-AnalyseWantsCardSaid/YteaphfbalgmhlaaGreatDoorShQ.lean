/-
  PART OF A CLAIM's PROOF (ShQ, ShR, ShS, ShT): a shadow of the machine, or what is shown by it.
-/
import Derived.Test.YteaphfbalgmhlaaGreatDoorShL
import Derived.Defers
set_option linter.unusedSimpArgs false
set_option linter.unusedVariables false
/-
  One operation: what the shadow makes of it, the machine does.
-/
namespace Go.Sh
open Go.RowKit

def Ret (ρ : Ren) (m : Mem) (w : World) (v : Value) (m' : Mem) (e : Ending) (w' : World) : Prop := ∃ v' ρ', e = .returned v' ∧ VR ρ' v v' ∧ MemR ρ' m' w' ∧ Ext ρ m w ρ' m' w'

structure EnvOk (P : Program) (E : Env) : Prop extends EnvTi P E where
  fn : ∀ f fn, E.fn f = some fn → P.funcs[f]? = some fn ∧ (fn.name == "runtime.NumGoroutine") = false
  ext : ∀ f args v, E.ext f args = .ok v → ∀ (ρ : Ren) (args' : List Value) (w : World), VRs ρ args args' → ∃ v', VR ρ v v' ∧ (callFunc f ⟨args'⟩).run P w = .ok (.value v') w
  prim : ∀ f p args m v m', E.prim f = some p → p args m = .ok (v, m') → ∀ (ρ : Ren) (w : World) (args' : List Value), MemR ρ m w → VRs ρ args args' →
    (callFunc f ⟨args'⟩).run P w = .ok (.enter f ⟨args'⟩) w ∧ Calls P f ⟨args'⟩ w (Ret ρ m w v m')
  mixed : P.follows .mixedOrders = true

def Outs (P : Program) (ρ : Ren) (m : Mem) (w : World) (res : Res) (s : Result Next) : Prop := match res with
  | .val v m' => (∃ v' ρ' w', (s = .ok (.value v') w' ∨ (s = .ok .skip w' ∧ v' = undef)) ∧ VR ρ' v v' ∧ MemR ρ' m' w' ∧ Ext ρ m w ρ' m' w') ∨
      (∃ f args, s = .ok (.enter f args) w ∧ Calls P f args w (Ret ρ m w v m'))
  | .enter f args m' => m' = m ∧ ∃ args', s = .ok (.enter f ⟨args'⟩) w ∧ VRs ρ args args'
  | .round l r ts m' => m' = m ∧ ∃ p ts', ρ l = some p ∧ s = .ok (.round p.b r.fn ⟨ts'⟩ r.assign r.body) w ∧ VRs ρ ts ts'
  | .defer d m' => m' = m ∧ ∃ d', s = .ok (.defer d') w ∧ DR ρ d d'
  | .recover m' => m' = m ∧ s = .ok .recover w
  | .panic t v m' => m' = m ∧ ∃ v', s = .halt (.panic (.iface t v')) w ∧ VR ρ v v'

section
variable {ρ : Ren} {m : Mem} {w : World} {P : Program} {E : Env}

theorem valR_ok {r : R Value} {res : Res} (h : valR m r = .ok res) : ∃ v, r = .ok v ∧ res = .val v m := by
  obtain ⟨v, a, b⟩ := R.bnd_ok h; cases b; exact ⟨v, a, rfl⟩
theorem memR_ok {r : R Mem} {res : Res} (h : memR r = .ok res) : ∃ m', r = .ok m' ∧ res = .val (.tuple #[]) m' := by
  obtain ⟨v, a, b⟩ := R.bnd_ok h; cases b; exact ⟨v, a, rfl⟩
theorem bothR_ok {r : R (Value × Mem)} {res : Res} (h : bothR r = .ok res) : ∃ p, r = .ok p ∧ res = .val p.1 p.2 := by
  obtain ⟨v, a, b⟩ := R.bnd_ok h; cases b; exact ⟨v, a, rfl⟩

theorem gives_outs {v : Value} {m' : Mem} {s : Sem Value} (h : Gives ρ m w v m' (s.run P w)) : Outs P ρ m w (.val v m') ((do pure (.value (← s)) : Sem Next).run P w) := by
  obtain ⟨v', ρ', w', a, b, c, d⟩ := h
  exact .inl ⟨v', ρ', w', .inl (by simp only [Sem.run_bind, a, Result.andThen_ok, Sem.run_pure]), b, c, d⟩
theorem does_outs {m' : Mem} {s : Sem Unit} (h : Does ρ m w m' (s.run P w)) : Outs P ρ m w (.val (.tuple #[]) m') ((do s; pure .skip : Sem Next).run P w) := by
  obtain ⟨ρ', w', a, c, d⟩ := h
  exact .inl ⟨undef, ρ', w', .inr ⟨by simp only [Sem.run_bind, a, Result.andThen_ok, Sem.run_pure], rfl⟩, .tuple _ _ .nil, c, d⟩
theorem pure_outs (hm : MemR ρ m w) {v : Value} {s : Sem Value} (h : ∃ v', VR ρ v v' ∧ s.run P w = .ok v' w) : Outs P ρ m w (.val v m) ((do pure (.value (← s)) : Sem Next).run P w) := by
  obtain ⟨v', a, b⟩ := h
  exact gives_outs ⟨v', ρ, w, b, a, hm, .refl _ _ _⟩

theorem evL_sim {tm : T Value} {g : Operand → Value} : ∀ {l : List Operand}, (∀ x ∈ l, VR ρ (ev E tm x) (g x)) → VRs ρ (evL E tm l) (l.map g) := by
  intro l
  induction l with
  | nil => intro _; exact .nil
  | cons x l ih => intro h; exact .cons _ _ _ _ (h x (by simp)) (ih fun y hy => h y (by simp [hy]))
theorem oev_sim {tm : T Value} {g : Operand → Value} {o : Option Operand} (h : ∀ x ∈ o, VR ρ (ev E tm x) (g x)) : VRo ρ (oev E tm o) (o.map g) := by
  cases o with
  | none => exact .none
  | some x => exact .some _ _ (h x (by simp))
theorem evP_sim {tm : T Value} {g : Operand → Value} : ∀ {l : List (Nat × Operand)}, (∀ x ∈ l.map (·.2), VR ρ (ev E tm x) (g x)) → PRs ρ (evP E tm l) (l.map fun (i, x) => (i, g x)) := by
  intro l
  induction l with
  | nil => intro _; exact .nil
  | cons x l ih => intro h; obtain ⟨i, x⟩ := x; exact .cons _ _ _ _ _ (h x (by simp)) (ih fun y hy => h y (by simp only [List.map_cons]; exact List.mem_cons_of_mem _ hy))

/-! calls -/
theorem run_prog (w : World) : program.run P w = .ok P w := rfl
theorem callF_sim (hE : EnvOk P E) (h : MemR ρ m w) {f : FuncId} {args args' : List Value} {res : Res} (e : callF E m f args = .ok res) (ha : VRs ρ args args') :
    Outs P ρ m w res ((callFunc f ⟨args'⟩).run P w) := by
  unfold callF at e
  obtain ⟨fn, e1, e2⟩ := R.bnd_ok e
  obtain ⟨hf, hn⟩ := hE.fn f fn (need_ok e1)
  cases hp : E.prim f with
  | some p =>
    rw [hp] at e2
    simp only [callP] at e2
    obtain ⟨⟨v, m'⟩, e3, rfl⟩ := bothR_ok e2
    obtain ⟨a, b⟩ := hE.prim f p args m v m' hp e3 ρ w args' h ha
    exact .inr ⟨f, ⟨args'⟩, a, b⟩
  | none =>
    rw [hp] at e2
    simp only [callP] at e2
    cases hb : fn.body with
    | some c =>
      rw [hb] at e2
      simp only [callB] at e2; cases e2
      refine ⟨rfl, args', ?_, ha⟩
      simp only [callFunc, Sem.run_bind, run_prog, Result.andThen_ok, hf, hn, hb, Bool.false_eq_true, if_false, Option.isNone_some, Sem.run_pure]
    | none =>
      rw [hb] at e2
      simp only [callB] at e2
      obtain ⟨v, e3, rfl⟩ := valR_ok e2
      obtain ⟨v', a, b⟩ := hE.ext f args v e3 ρ args' w ha
      exact .inl ⟨v', ρ, w, .inl b, a, h, .refl _ _ _⟩

theorem methodL_ok {td : TD} {name : String} : ∀ {l : List Method} {f : FuncId}, methodL td name l = .ok f → ∃ q, l.find? (·.name == name) = some q ∧ methodF td q = .ok f := by
  intro l
  induction l with
  | nil => intro f e; simp [methodL] at e
  | cons q l ih =>
    intro f e
    simp only [methodL] at e
    cases hq : (q.name == name) with
    | true => rw [hq] at e; simp only [cond_true] at e; exact ⟨q, by simp [hq], e⟩
    | false =>
      rw [hq] at e; simp only [cond_false] at e
      obtain ⟨q', a, b⟩ := ih e
      exact ⟨q', by simp [hq, a], b⟩

theorem method_run (hE : EnvTi P E) {t : TypeId} {i : TI} {name : String} {f : FuncId} (hi : E.tiR t = .ok i) (e : methodL i.td name i.methods = .ok f) (v : Value) (n : Nat) (w : World) :
    (method (n + 1) t v name).run P w = .ok (f, v) w := by
  obtain ⟨k⟩ := tiR_ok hE hi
  obtain ⟨q, h1, h2⟩ := methodL_ok e
  obtain ⟨qn, qt, ⟨qp⟩, qf⟩ := q
  cases qp with
  | cons => simp [methodF] at h2
  | nil =>
  cases qf with
  | none => simp [methodF] at h2
  | some fb =>
  obtain ⟨f', b⟩ := fb
  simp only [methodF] at h2
  obtain ⟨hb, h3⟩ := bif_ok h2
  cases h3
  have hfind : k.info.methods.find? (fun x => x.name == name) = some ⟨qn, qt, ⟨[]⟩, some (f, b)⟩ := by
    rw [← Array.find?_toList, k.methods]; exact h1
  simp only [method, Sem.run_bind, run_ti k.hi, Result.andThen_ok, hfind, follow, Sem.run_pure, receiverAt, run_und k.hu]
  have htd := k.td
  cases b with
  | true =>
    generalize k.d = d at htd
    generalize i.td = td at htd hb
    cases htd <;> simp [isPtr] at hb
    simp [Place.get]
  | false =>
    generalize k.d = d at htd
    generalize i.td = td at htd hb
    cases htd <;> simp [isPtr] at hb <;> try (simp [Place.get]; done)
    rename_i hd
    cases d <;> simp [otherDesc] at hd <;> simp [Place.get]

theorem invokeI_sim (hE : EnvOk P E) (h : MemR ρ m w) {name : String} {x x' : Value} {args args' : List Value} {res : Res} (e : invokeI E m name (x :: args) = .ok res) (hx : VR ρ x x') (ha : VRs ρ args args') :
    Outs P ρ m w res ((callMethod x' name ⟨args'⟩).run P w) := by
  cases hx <;> try (simp [invokeI] at e; done)
  case iface t v v' hv =>
  simp only [invokeI] at e
  obtain ⟨i, e1, e2⟩ := R.bnd_ok e
  obtain ⟨f, e3, e4⟩ := R.bnd_ok e2
  have hm := method_run hE.toEnvTi e1 e3 v' (P.types.size + 99) w
  have key := callF_sim hE h e4 (.cons _ _ _ _ hv ha)
  have hd : P.types.size + Made.depth = P.types.size + 99 + 1 := rfl
  simp only [callMethod, Sem.run_bind, run_prog, Result.andThen_ok, hd, hm]
  have harr : (#[v'] : Array Value) ++ ⟨args'⟩ = ⟨v' :: args'⟩ := by apply Array.ext'; simp
  rw [harr]
  exact key

theorem loopO_ok (h : MemR ρ m w) {l : Nat} {r : Loop} (e : loopO (m.get l) = .ok r) {p : Pl} (hp : ρ l = some p) : m.get l = some (.loop r) ∧ ∃ r', w.heap[p.b]? = some (.loop r') ∧ LR ρ r r' := by
  cases hg : m.get l with
  | none => rw [hg] at e; simp [loopO] at e
  | some o =>
    rw [hg] at e
    cases o <;> try (simp [loopO] at e; done)
    simp only [loopO] at e; cases e
    obtain ⟨q, O, h1, h2, h3⟩ := h.obj l _ hg
    rw [hp] at h1; cases h1
    cases h3 with
    | loop l l' hl => exact ⟨rfl, l', h2, hl⟩

theorem setL_eq : ∀ (l : List Value) (i : Nat) (v : Value), setL l i v = l.set i v
  | [], _, _ => by simp [setL]
  | _ :: _, 0, _ => rfl
  | x :: l, i + 1, v => by simp only [setL, List.set_cons_succ, setL_eq l i v]
theorem VRs.set {l l' : List Value} (h : VRs ρ l l') {v v' : Value} (hv : VR ρ v v') : ∀ i, VRs ρ (l.set i v) (l'.set i v') := by
  induction l generalizing l' with
  | nil => intro i; cases h; exact .nil
  | cons x l ih =>
    cases h with
    | cons _ _ _ _ hx hl =>
      intro i
      cases i with
      | zero => exact .cons _ _ _ _ hv hl
      | succ i => exact .cons _ _ _ _ hx (ih hl i)
theorem fill_sim : ∀ (ps : List Tmp) (vs vs' l l' r : List Value), fillTmps ps vs l = some r → VRs ρ vs vs' → VRs ρ l l' →
    ps.length = vs'.length ∧ ∃ r', VRs ρ r r' ∧ ((ps.zip vs').foldl (fun (tmps : Array Value) (t, a) => tmps.setIfInBounds t a) ⟨l'⟩) = ⟨r'⟩ := by
  intro ps
  induction ps with
  | nil =>
    intro vs vs' l l' r e hv hl
    cases hv with
    | nil => simp only [fillTmps] at e; cases e; exact ⟨rfl, l', hl, rfl⟩
    | cons => simp [fillTmps] at e
  | cons t ps ih =>
    intro vs vs' l l' r e hv hl
    cases hv with
    | nil => simp [fillTmps] at e
    | cons v v' vs vs' hv hvs =>
      simp only [fillTmps, setL_eq] at e
      obtain ⟨a, r', b, c⟩ := ih vs vs' _ (l'.set t v') r e hvs (hl.set hv t)
      refine ⟨by simp [a], r', b, ?_⟩
      simp only [List.zip_cons_cons, List.foldl_cons]
      rw [← c]
      congr 1
      apply Array.ext'; simp

theorem round_sim (h : MemR ρ m w) {l : Nat} {r : Loop} {args args' : List Value} {res : Res} (e1 : loopO (m.get l) = .ok r) (e : roundR m l args r = .ok res) {p : Pl} (hp : ρ l = some p) (ha : VRs ρ args args') :
    Outs P ρ m w res ((Instr.yield p.b ⟨args'⟩).run P w) := by
  obtain ⟨_, r', hb, hl⟩ := loopO_ok h e1 hp
  unfold roundR at e
  obtain ⟨ts, f1, f2⟩ := R.bnd_ok e
  cases f2
  obtain ⟨a, ts', b, c⟩ := fill_sim _ _ _ _ _ _ (need_ok f1) ha hl.tmps
  refine ⟨rfl, p, ts', hp, ?_, b⟩
  have hsz : ¬ (args'.length ≠ r'.params.size) := by rw [hl.params]; simpa using a.symm
  have hz : (r'.params.zip ⟨args'⟩).foldl (fun (tmps : Array Value) (x : Tmp × Value) => tmps.setIfInBounds x.1 x.2) r'.tmps = ⟨ts'⟩ := by
    rw [← Array.foldl_toList, Array.toList_zip, hl.params]
    exact c
  simp only [Instr.yield, Instr.getLoop, Sem.run_bind, run_getObj hb (by simp), Result.andThen_ok, Sem.run_pure, List.size_toArray, if_neg hsz, hl.fn, hl.assign, hl.body]
  congr 2

theorem invokeV_sim (hE : EnvOk P E) (h : MemR ρ m w) {f f' : Fn} {cap cap' args args' : List Value} {res : Res} (e : invokeV E m f cap args = .ok res) (hf : FnR ρ f f') (hc : VRs ρ cap cap') (ha : VRs ρ args args') :
    Outs P ρ m w res ((invoke (.fn f' ⟨cap'⟩) ⟨args'⟩).run P w) := by
  cases hf with
  | func f =>
    simp only [invokeV] at e
    have key := callF_sim hE h e (ha.append hc)
    have harr : (⟨args'⟩ ++ ⟨cap'⟩ : Array Value) = ⟨args' ++ cap'⟩ := by apply Array.ext'; simp
    simp only [invoke, harr]
    exact key
  | method name =>
    simp only [invokeV] at e
    cases ha with
    | nil => simp [invokeI] at e
    | cons x x' l l' hx hl =>
      have key := invokeI_sim hE h e hx hl
      have harr : (⟨x' :: l'⟩ : Array Value).extract 1 (⟨x' :: l'⟩ : Array Value).size = ⟨l'⟩ := by apply Array.ext'; simp
      have h0 : (⟨x' :: l'⟩ : Array Value)[0]? = some x' := by simp
      simp only [invoke, h0, harr]
      exact key
  | yield l p hp =>
    simp only [invokeV] at e
    obtain ⟨r, e1, e2⟩ := R.bnd_ok e
    simp only [invoke]
    exact round_sim h e1 e2 hp ha

theorem callVal_sim (hE : EnvOk P E) (h : MemR ρ m w) {f f' : Value} {args args' : List Value} {res : Res} (e : callVal E m args f = .ok res) (hf : VR ρ f f') (ha : VRs ρ args args') :
    Outs P ρ m w res ((do let d ← Deferred.ofValue f' ⟨args'⟩; invoke d.target d.args : Sem Next).run P w) := by
  cases hf <;> try (simp [callVal] at e; done)
  case func f f' a a' c c' hf ha2 hc =>
  simp only [callVal] at e
  have key := invokeV_sim hE h e hf hc (ha2.append ha)
  have harr : (⟨a'⟩ ++ ⟨args'⟩ : Array Value) = ⟨a' ++ args'⟩ := by apply Array.ext'; simp
  simp only [Deferred.ofValue, Sem.run_bind, Sem.run_pure, Result.andThen_ok, harr]
  exact key

theorem deferT_sim {f f' : Value} {args args' : List Value} {res : Res} (h : MemR ρ m w) (e : deferT m args f = .ok res) (hf : VR ρ f f') (ha : VRs ρ args args') :
    Outs P ρ m w res ((do pure (.defer (← Deferred.ofValue f' ⟨args'⟩)) : Sem Next).run P w) := by
  cases hf <;> try (simp [deferT] at e; done)
  case func f f' a a' c c' hf ha2 hc =>
  simp only [deferT] at e; cases e
  refine ⟨rfl, ⟨.fn f' ⟨c'⟩, ⟨a' ++ args'⟩⟩, ?_, hf, hc, ha2.append ha⟩
  have harr : (⟨a'⟩ ++ ⟨args'⟩ : Array Value) = ⟨a' ++ args'⟩ := by apply Array.ext'; simp
  simp only [Deferred.ofValue, Sem.run_bind, Sem.run_pure, Result.andThen_ok, harr]

theorem panic_sim {x x' : Value} {res : Res} (e : panicV m x = .ok res) (hx : VR ρ x x') : ∃ t v v', res = .panic t v m ∧ VR ρ v v' ∧ (Instr.panic x').run P w = .halt (.panic (.iface t v')) w := by
  cases hx <;> try (simp [panicV] at e; done)
  case iface t v v' hv =>
  simp only [panicV] at e; cases e
  exact ⟨t, v, v', rfl, hv, rfl⟩

theorem builtin_sim (hE : EnvOk P E) (h : MemR ρ m w) {b : Builtin} {ts : List TypeId} {args args' : List Value} {ty : TypeId} {cs : Array Bool} {res : Res} (e : builtinV b E m ts args = .ok res) (ha : VRs ρ args args') :
    Outs P ρ m w res ((builtin b ⟨ts⟩ ty cs ⟨args'⟩).run P w) := by
  cases b <;> try (simp [builtinV] at e; done)
  case append =>
    simp only [builtinV] at e
    obtain ⟨p, e1, rfl⟩ := bothR_ok e
    exact gives_outs (append_sim hE.toEnvTi h e1 ha)
  case copy =>
    simp only [builtinV] at e
    obtain ⟨p, e1, rfl⟩ := bothR_ok e
    exact gives_outs (copy_sim hE.toEnvTi h e1 ha)
  case len =>
    simp only [builtinV] at e
    obtain ⟨v, e1, rfl⟩ := valR_ok e
    obtain ⟨a, c⟩ := len_sim (ty := ty) hE.toEnvTi h e1 ha
    exact pure_outs h ⟨_, a, c⟩
  case cap =>
    simp only [builtinV] at e
    obtain ⟨v, e1, rfl⟩ := valR_ok e
    obtain ⟨a, c⟩ := cap_sim (ty := ty) hE.toEnvTi h e1 ha
    exact pure_outs h ⟨_, a, c⟩
  case max =>
    simp only [builtinV] at e
    obtain ⟨v, e1, rfl⟩ := valR_ok e
    exact pure_outs h (max_sim e1 ha)
  case min =>
    simp only [builtinV] at e
    obtain ⟨v, e1, rfl⟩ := valR_ok e
    exact pure_outs h (min_sim e1 ha)
  case delete =>
    simp only [builtinV] at e
    obtain ⟨m', e1, rfl⟩ := memR_ok e
    exact gives_outs (delete_sim hE.toEnvTi h e1 ha)
  case recover =>
    simp only [builtinV] at e; cases e
    exact ⟨rfl, rfl⟩
  case panic =>
    simp only [builtinV] at e
    cases ha with
    | nil => simp [panicL] at e
    | cons x x' _ _ hx hl =>
      cases hl with
      | cons => simp [panicL] at e
      | nil =>
        simp only [panicL] at e
        obtain ⟨t, v, v', rfl, hv, hr⟩ := panic_sim (P := P) (w := w) e hx
        refine ⟨rfl, v', ?_, hv⟩
        have h0 : (⟨[x']⟩ : Array Value).getD 0 .nilIface = x' := rfl
        simp only [builtin, h0, Sem.run_bind, hr]
        rfl

theorem callC_sim (hE : EnvOk P E) (h : MemR ρ m w) {c : Callee} {args : List Operand} {ts : List TypeId} {ty : TypeId} {tm : T Value} {g : Operand → Value} {res : Res} (e : callC c E tm m args ts = .ok res)
    (hg : ∀ x ∈ (Call.operands ⟨c, ⟨args⟩, ⟨ts⟩⟩).toList, VR ρ (ev E tm x) (g x)) :
    Outs P ρ m w res ((do let d ← resolve g ⟨c, ⟨args⟩, ⟨ts⟩⟩ ty; invoke d.target d.args : Sem Next).run P w) := by
  cases c with
  | builtin b =>
    simp only [callC] at e
    have ha : VRs ρ (evL E tm args) (args.map g) := evL_sim fun x hx => hg x (by simpa [Call.operands] using hx)
    have key := builtin_sim (ty := ty) (cs := (⟨args⟩ : Array Operand).map fun | .const _ => true | _ => false) hE h e ha
    simp only [resolve, Sem.run_bind, Sem.run_pure, Result.andThen_ok, invoke, List.map_toArray]
    simp only [List.map_toArray] at key
    exact key
  | invoke r name =>
    simp only [callC] at e
    have ha : VRs ρ (evL E tm args) (args.map g) := evL_sim fun x hx => hg x (by simp [Call.operands, hx])
    have hr : VR ρ (ev E tm r) (g r) := hg r (by simp [Call.operands])
    have key := invokeV_sim (f := .method name) (f' := .method name) (cap := []) (cap' := []) hE h (by simp only [invokeV]; exact e) (.method name) .nil (.cons _ _ _ _ hr ha)
    have harr : (#[g r] ++ ⟨args.map g⟩ : Array Value) = ⟨g r :: args.map g⟩ := by apply Array.ext'; simp
    simp only [resolve, Sem.run_bind, Sem.run_pure, Result.andThen_ok, List.map_toArray, harr]
    exact key
  | value f =>
    simp only [callC] at e
    have ha : VRs ρ (evL E tm args) (args.map g) := evL_sim fun x hx => hg x (by simp [Call.operands, hx])
    have hr : VR ρ (ev E tm f) (g f) := hg f (by simp [Call.operands])
    have key := callVal_sim hE h e hr ha
    simp only [resolve, List.map_toArray]
    exact key

theorem deferC_sim (h : MemR ρ m w) {c : Callee} {args : List Operand} {ts : Array TypeId} {ty : TypeId} {tm : T Value} {g : Operand → Value} {res : Res} (e : deferC c E tm m args = .ok res)
    (hg : ∀ x ∈ (Call.operands ⟨c, ⟨args⟩, ts⟩).toList, VR ρ (ev E tm x) (g x)) :
    Outs P ρ m w res ((do pure (.defer (← resolve g ⟨c, ⟨args⟩, ts⟩ ty)) : Sem Next).run P w) := by
  cases c with
  | builtin b => simp [deferC] at e
  | invoke r name => simp [deferC] at e
  | value f =>
    simp only [deferC] at e
    have ha : VRs ρ (evL E tm args) (args.map g) := evL_sim fun x hx => hg x (by simp [Call.operands, hx])
    have hr : VR ρ (ev E tm f) (g f) := hg f (by simp [Call.operands])
    have key := deferT_sim (P := P) h e hr ha
    simp only [resolve, List.map_toArray]
    exact key

theorem nilCheck_sim {x x' v : Value} (e : nilCheckV x = .ok v) (hx : VR ρ x x') : v = x ∧ x' ≠ .pointer none ∧ x' ≠ .nilIface ∧ x' ≠ .nilFunc ∧ ∀ n a c, x' ≠ .func (.method n) a c := by
  cases hx <;> try (simp [nilCheckV] at e; done)
  case ptr => simp only [nilCheckV] at e; cases e; simp
  case iface => simp only [nilCheckV] at e; cases e; simp
  case func f f' a a' c c' hf ha hc =>
    cases hf with
    | func => simp only [nilCheckV] at e; cases e; simp
    | method => simp [nilCheckV] at e
    | yield => simp only [nilCheckV] at e; cases e; simp
end
end Go.Sh

/-
  One operation, whole.
-/
namespace Go.Sh
open Go.RowKit

section
variable {ρ : Ren} {m : Mem} {w : World} {P : Program} {E : Env}

theorem sureAddr_run {a : Addr} (w : World) : (Instr.sureAddr (.pointer (some a))).run P w = .ok a w := rfl

theorem execV_sim (hE : EnvOk P E) (h : MemR ρ m w) {o : Oper} {tm : T Value} {g : Operand → Value} {res : Res} (e : execV o.op E tm m = .ok res)
    (hg : ∀ x ∈ o.op.operands.toList, VR ρ (ev E tm x) (g x)) : Outs P ρ m w res ((execOp g o).run P w) := by
  have hT := hE.toEnvTi
  obtain ⟨dst, op, ty, pos, after, guard⟩ := o
  simp only at e hg
  cases op <;> try (simp [execV] at e; done)
  case move x =>
    simp only [execV] at e; cases e
    exact .inl ⟨g x, ρ, w, .inl rfl, hg x (by simp [Op.operands]), h, .refl _ _ _⟩
  case assign x =>
    simp only [execV] at e; cases e
    exact .inl ⟨g x, ρ, w, .inl rfl, hg x (by simp [Op.operands]), h, .refl _ _ _⟩
  case pick c a b =>
    simp only [execV] at e
    obtain ⟨v, e1, rfl⟩ := valR_ok e
    obtain ⟨v', k1, k2⟩ := pick_sim (P := P) e1 (hg c (by simp [Op.operands])) (hg a (by simp [Op.operands])) (hg b (by simp [Op.operands])) w
    exact .inl ⟨v', ρ, w, .inl k2, k1, h, .refl _ _ _⟩
  case alloc el =>
    simp only [execV] at e
    obtain ⟨z, e1, e2⟩ := R.bnd_ok e
    obtain ⟨l, e3, e4⟩ := R.bnd_ok e2
    cases e4
    exact gives_outs (alloc_sim hT h e1 e3)
  case box el x =>
    simp only [execV] at e
    obtain ⟨l, e3, e4⟩ := R.bnd_ok e
    cases e4
    exact gives_outs (box_sim h (hg x (by simp [Op.operands])) e3)
  case build t ps =>
    simp only [execV] at e
    obtain ⟨i, e1, e2⟩ := R.bnd_ok e
    obtain ⟨z, e3, e4⟩ := R.bnd_ok e2
    obtain ⟨v, e5, rfl⟩ := valR_ok e4
    obtain ⟨ps⟩ := ps
    have hp := evP_sim (ρ := ρ) (E := E) (tm := tm) (g := g) (l := ps) (fun x hx => hg x (by simpa [Op.operands] using hx))
    have key := build_sim hT e1 (need_ok e3) e5 hp w
    simp only [execOp, List.map_toArray]
    exact pure_outs h key
  case buildSlice t n ps =>
    simp only [execV] at e
    obtain ⟨td, e1, e2⟩ := R.bnd_ok e
    obtain ⟨p, e3, rfl⟩ := bothR_ok e2
    obtain ⟨ps⟩ := ps
    have hp := evP_sim (ρ := ρ) (E := E) (tm := tm) (g := g) (l := ps) (fun x hx => hg x (by simpa [Op.operands] using hx))
    simp only [execOp, List.map_toArray]
    exact gives_outs (buildSlice_sim hT h e1 e3 hp)
  case load t a =>
    simp only [execV] at e
    obtain ⟨ad, e1, e2⟩ := R.bnd_ok e
    obtain ⟨v, e3, rfl⟩ := valR_ok e2
    have ha := hg a (by simp [Op.operands])
    rw [addrOf_ok e1] at ha
    obtain ⟨p, q1, q2, q3⟩ := addr_inv ha
    obtain ⟨v', k1, k2⟩ := loadV_sim hT h e3 q1 q2
    simp only [execOp, q3]
    exact pure_outs h ⟨v', k1, by simp only [Instr.loadAt, Sem.run_bind, sureAddr_run, Result.andThen_ok, k2]⟩
  case store t a x =>
    simp only [execV] at e
    obtain ⟨ad, e1, e2⟩ := R.bnd_ok e
    obtain ⟨m', e3, rfl⟩ := memR_ok e2
    have ha := hg a (by simp [Op.operands])
    rw [addrOf_ok e1] at ha
    obtain ⟨p, q1, q2, q3⟩ := addr_inv ha
    obtain ⟨w', k1, k2, k3⟩ := storeV_sim (P := P) hT h e3 (hg x (by simp [Op.operands])) q1 q2
    simp only [execOp, q3]
    exact does_outs ⟨ρ, w', by simp only [Instr.storeAt, Sem.run_bind, sureAddr_run, Result.andThen_ok, k1], k2, k3⟩
  case nilCheck x =>
    simp only [execV] at e
    obtain ⟨v, e1, rfl⟩ := valR_ok e
    have hx := hg x (by simp [Op.operands])
    obtain ⟨rfl, n1, n2, n3, n4⟩ := nilCheck_sim e1 hx
    refine .inl ⟨g x, ρ, w, .inl ?_, hx, h, .refl _ _ _⟩
    simp only [execOp]
    rfl
  case binOp op t x y yt =>
    simp only [execV] at e
    obtain ⟨v, e1, rfl⟩ := valR_ok e
    obtain ⟨k1, k2⟩ := binOpV_sim (P := P) hT e1 (hg x (by simp [Op.operands])) (hg y (by simp [Op.operands])) w
    exact pure_outs h ⟨v, k1, k2⟩
  case unOp op t x =>
    simp only [execV] at e
    obtain ⟨v, e1, rfl⟩ := valR_ok e
    obtain ⟨k1, k2⟩ := unOpV_sim (P := P) e1 (hg x (by simp [Op.operands])) w
    exact pure_outs h ⟨v, k1, k2⟩
  case convert s d x =>
    simp only [execV] at e
    obtain ⟨a, e1, e2⟩ := R.bnd_ok e
    obtain ⟨b, e3, e4⟩ := R.bnd_ok e2
    obtain ⟨p, e5, rfl⟩ := bothR_ok e4
    exact gives_outs (convert_sim hT h e1 e3 e5 (hg x (by simp [Op.operands])))
  case makeInterface t x =>
    simp only [execV] at e
    obtain ⟨td, e1, e2⟩ := R.bnd_ok e
    obtain ⟨v, e3, rfl⟩ := valR_ok e2
    exact pure_outs h (makeIface_sim hT e1 e3 (hg x (by simp [Op.operands])) w)
  case makeFunc f a c =>
    simp only [execV] at e
    obtain ⟨v, e1, rfl⟩ := valR_ok e
    cases f <;> try (simp [makeFuncV] at e1; done)
    simp only [makeFuncV] at e1; cases e1
    obtain ⟨a⟩ := a
    obtain ⟨c⟩ := c
    have ha : VRs ρ (evL E tm a) (a.map g) := evL_sim fun x hx => hg x (by simp [Op.operands, hx])
    have hc : VRs ρ (evL E tm c) (c.map g) := evL_sim fun x hx => hg x (by simp [Op.operands, hx])
    simp only [execOp, List.map_toArray]
    exact pure_outs h ⟨_, .func _ _ _ _ _ _ (.func _) ha hc, rfl⟩
  case makeMap t r =>
    simp only [execV] at e
    obtain ⟨td, e1, e2⟩ := R.bnd_ok e
    obtain ⟨p, e3, rfl⟩ := bothR_ok e2
    exact gives_outs (makeMap_sim hT h e1 e3 (oev_sim fun x hx => hg x (by cases hx; simp [Op.operands])))
  case makeSlice t l c =>
    simp only [execV] at e
    obtain ⟨td, e1, e2⟩ := R.bnd_ok e
    obtain ⟨n, e3, e4⟩ := R.bnd_ok e2
    obtain ⟨q, e5, e6⟩ := R.bnd_ok e4
    obtain ⟨p, e7, rfl⟩ := bothR_ok e6
    exact gives_outs (makeSlice_sim hT h e1 e3 e5 e7 (hg l (by simp [Op.operands])) (hg c (by simp [Op.operands])))
  case slice t x lo hi mx =>
    simp only [execV] at e
    obtain ⟨td, e1, e2⟩ := R.bnd_ok e
    obtain ⟨v, e3, rfl⟩ := valR_ok e2
    exact pure_outs h (sliceV_sim hT h e1 e3 (hg x (by simp [Op.operands])) (oev_sim fun y hy => hg y (by cases hy; simp [Op.operands])) (oev_sim fun y hy => hg y (by cases hy; simp [Op.operands])) (oev_sim fun y hy => hg y (by cases hy; simp [Op.operands])))
  case fieldAddr t x f =>
    simp only [execV] at e
    obtain ⟨td, e1, e2⟩ := R.bnd_ok e
    obtain ⟨fd, e3, e4⟩ := R.bnd_ok e2
    obtain ⟨a, e5, e6⟩ := R.bnd_ok e4
    obtain ⟨hz, e7⟩ := bif_ok' e6
    cases e7
    exact pure_outs h (fieldAddr_sim hT e1 e3 e5 hz (hg x (by simp [Op.operands])) w)
  case field t x f =>
    simp only [execV] at e
    obtain ⟨td, e1, e2⟩ := R.bnd_ok e
    obtain ⟨fd, e3, e4⟩ := R.bnd_ok e2
    obtain ⟨v, e5, rfl⟩ := valR_ok e4
    exact pure_outs h (field_sim hT e1 e3 e5 (hg x (by simp [Op.operands])) w)
  case indexAddr t x i =>
    simp only [execV] at e
    obtain ⟨td, e1, e2⟩ := R.bnd_ok e
    obtain ⟨n, e3, e4⟩ := R.bnd_ok e2
    obtain ⟨v, e5, rfl⟩ := valR_ok e4
    exact pure_outs h (indexAddr_sim hT e1 e3 e5 (hg x (by simp [Op.operands])) (hg i (by simp [Op.operands])) w)
  case index t x i =>
    simp only [execV] at e
    obtain ⟨td, e1, e2⟩ := R.bnd_ok e
    obtain ⟨n, e3, e4⟩ := R.bnd_ok e2
    obtain ⟨v, e5, rfl⟩ := valR_ok e4
    exact pure_outs h (index_sim hT e1 e3 e5 (hg x (by simp [Op.operands])) (hg i (by simp [Op.operands])) w)
  case lookup t x i ok =>
    simp only [execV] at e
    obtain ⟨td, e1, e2⟩ := R.bnd_ok e
    obtain ⟨v, e3, rfl⟩ := valR_ok e2
    exact pure_outs h (lookup_sim hT h e1 e3 (hg x (by simp [Op.operands])) (hg i (by simp [Op.operands])))
  case mapUpdate t x k y =>
    simp only [execV] at e
    obtain ⟨td, e1, e2⟩ := R.bnd_ok e
    obtain ⟨m', e3, rfl⟩ := memR_ok e2
    exact does_outs (mapUpdate_sim hT h e1 e3 (hg x (by simp [Op.operands])) (hg k (by simp [Op.operands])) (hg y (by simp [Op.operands])))
  case insert t x k y =>
    simp only [execV] at e
    obtain ⟨td, e1, e2⟩ := R.bnd_ok e
    obtain ⟨m', e3, rfl⟩ := memR_ok e2
    exact does_outs (mapUpdate_sim hT h e1 e3 (hg x (by simp [Op.operands])) (hg k (by simp [Op.operands])) (hg y (by simp [Op.operands])))
  case mapEntry t x k =>
    simp only [execV] at e
    obtain ⟨td, e1, e2⟩ := R.bnd_ok e
    obtain ⟨p, e3, rfl⟩ := bothR_ok e2
    exact gives_outs (mapEntry_sim hT h e1 e3 (hg x (by simp [Op.operands])) (hg k (by simp [Op.operands])))
  case entryStore t x s y =>
    simp only [execV] at e
    obtain ⟨m', e3, rfl⟩ := memR_ok e
    exact does_outs (entryStore_sim h e3 (hg x (by simp [Op.operands])) (hg s (by simp [Op.operands])) (hg y (by simp [Op.operands])))
  case range t x =>
    simp only [execV] at e
    obtain ⟨td, e1, e2⟩ := R.bnd_ok e
    obtain ⟨p, e3, rfl⟩ := bothR_ok e2
    exact gives_outs (range_sim hT h e1 e3 (hg x (by simp [Op.operands])))
  case next it b =>
    simp only [execV] at e
    obtain ⟨p, e3, rfl⟩ := bothR_ok e
    exact gives_outs (next_sim h e3 (hg it (by simp [Op.operands])))
  case typeAssert x s t ok =>
    simp only [execV] at e
    obtain ⟨td, e1, e2⟩ := R.bnd_ok e
    obtain ⟨v, e3, rfl⟩ := valR_ok e2
    exact pure_outs h (typeAssert_sim hT e1 e3 (hg x (by simp [Op.operands])) w)
  case extract x i =>
    simp only [execV] at e
    obtain ⟨v, e3, rfl⟩ := valR_ok e
    exact pure_outs h (extract_sim e3 (hg x (by simp [Op.operands])) w)
  case call c =>
    obtain ⟨c, ⟨args⟩, ⟨ts⟩⟩ := c
    simp only [execV] at e
    exact callC_sim hE h e (fun x hx => hg x hx)
  case defer c =>
    obtain ⟨c, ⟨args⟩, ts⟩ := c
    simp only [execV] at e
    exact deferC_sim h e (fun x hx => hg x hx)
  case panic x =>
    simp only [execV] at e
    obtain ⟨t, v, v', rfl, hv, hr⟩ := panic_sim (P := P) (w := w) e (hg x (by simp [Op.operands]))
    exact ⟨rfl, v', by simp only [execOp, Sem.run_bind, hr]; rfl, hv⟩
end
end Go.Sh

/-
  Steps of the machine: what an operation that is carried out makes of a frame; the relation between frames.
-/
namespace Go.Sh
open Go.RowKit

section
variable {P : Program}

def gor (fr : Frame) (cs : List Frame) : Goroutine := { frame := fr, callers := cs, status := .running, dying := none }

theorem stepG_op {fn : FuncId} {tmps : Array Value} {ops : Array Oper} {i : Nat} {rest : List Nat} {k : List Item} {ds : List Deferred} {kd : CallKind} {ro : Option Nat} {cs : List Frame} {w : World} {o : Oper}
    (ho : ops[i]? = some o) (hw : Region.wanted o (yielded ops tmps) = true) (hd : ro = none ∨ ∀ c, o.op ≠ .defer c) :
    stepG P true (gor ⟨fn, tmps, .inRegion ops (i :: rest) :: k, ds, .run, kd, ro⟩ cs) w =
      stepG.apply P true ⟨fn, tmps, .inRegion ops (i :: rest) :: k, ds, .run, kd, ro⟩ cs none (execOp (Frame.eval ⟨fn, tmps, .inRegion ops (i :: rest) :: k, ds, .run, kd, ro⟩) o) w := by
  rcases hd with rfl | hd
  · simp [gor, stepG, stepG.exec, stepG.oper, Frame.oper?, ho, hw]
  · cases ro with
    | none => simp [gor, stepG, stepG.exec, stepG.oper, Frame.oper?, ho, hw]
    | some l =>
      simp only [gor, stepG, stepG.exec, stepG.oper, Frame.oper?, ho, hw, Option.map_some, Option.getD_some, if_true]
      split
      · rename_i h; exact absurd h (hd _)
      · rfl

theorem stepG_skipOp {fn : FuncId} {tmps : Array Value} {ops : Array Oper} {i : Nat} {rest : List Nat} {k : List Item} {ds : List Deferred} {kd : CallKind} {ro : Option Nat} {cs : List Frame} {w : World} {o : Oper}
    (ho : ops[i]? = some o) (hw : Region.wanted o (yielded ops tmps) = false) :
    Go.step P (lone ⟨fn, tmps, .inRegion ops (i :: rest) :: k, ds, .run, kd, ro⟩ cs w) = .next (lone (Frame.finish ⟨fn, tmps, .inRegion ops (i :: rest) :: k, ds, .run, kd, ro⟩ undef) cs w) :=
  step_lone_go (by simp [stepG, stepG.exec, ho, hw])

section
variable {fr : Frame} {cs : List Frame} {s : Sem Next} {w w' : World}
theorem apply_value {v : Value} (h : s.run P w = .ok (.value v) w') : (stepG.apply P true fr cs none s w).bare = .go (gor (fr.finish v) cs) w' := by
  simp [stepG.apply, h, gor]
theorem apply_skip (h : s.run P w = .ok .skip w') : (stepG.apply P true fr cs none s w).bare = .go (gor (fr.finish undef) cs) w' := by
  simp [stepG.apply, h, gor]
theorem apply_enter {f : FuncId} {args : Array Value} (h : s.run P w = .ok (.enter f args) w') (hk : ∀ d a b c k, fr.todo ≠ .call d a b c :: k) : (stepG.apply P true fr cs none s w).bare = .go (gor (Frame.enter P f args .normal) (fr :: cs)) w' := by
  simp only [stepG.apply, if_true, Sem.runT_eq, h, GStep.bare_after, GStep.bare_go]
  split
  · rename_i h; exact absurd h (hk _ _ _ _ _)
  · rfl
theorem apply_round {l : Nat} {f : FuncId} {tmps : Array Value} {a b : Code} (h : s.run P w = .ok (.round l f tmps a b) w') : (stepG.apply P true fr cs none s w).bare = .go (gor (Frame.round l f tmps a b .normal) (fr :: cs)) w' := by
  simp [stepG.apply, h, gor]
theorem apply_defer {d : Deferred} (h : s.run P w = .ok (.defer d) w') : (stepG.apply P true fr cs none s w).bare = .go (gor ({ fr with defers := d :: fr.defers }.finish undef) cs) w' := by
  simp [stepG.apply, h, gor]
theorem apply_recover_some {v : Value} {cs' : List Frame} (h : s.run P w = .ok .recover w') (hr : fr.roundOf = none) (ht : tryRecover fr cs = some (v, cs')) : (stepG.apply P true fr cs none s w).bare = .go (gor (fr.finish v) cs') w' := by
  simp [stepG.apply, h, gor, hr, ht]
theorem apply_recover_none (h : s.run P w = .ok .recover w') (hr : fr.roundOf = none) (ht : tryRecover fr cs = none) : (stepG.apply P true fr cs none s w).bare = .go (gor (fr.finish .nilIface) cs) w' := by
  simp [stepG.apply, h, gor, hr, ht]
theorem apply_panic {v : Value} (h : s.run P w = .halt (.panic v) w') : (stepG.apply P true fr cs none s w).bare = .go (gor (fr.raise [{ v, recovered := false }]) cs) w' := by
  simp [stepG.apply, h, gor]
end

theorem step_of {fr fr' : Frame} {cs cs' : List Frame} {w w' : World} (h : (stepG P true (gor fr cs) w).bare = .go (gor fr' cs') w') : Go.step P (lone fr cs w) = .next (lone fr' cs' w') := step_lone_go h

/-! frames -/
inductive PEs (ρ : Ren) : List PanicEntry → List PanicEntry → Prop where
  | nil : PEs ρ [] []
  | cons (v v' : Value) (a b : Bool) (l l' : List PanicEntry) (h : VR ρ v v') (hl : PEs ρ l l') : PEs ρ (⟨v, a, b⟩ :: l) (⟨v', a, b⟩ :: l')
theorem PEs.mono {ρ ρ' : Ren} (h : ρ.le ρ') {l l' : List PanicEntry} (e : PEs ρ l l') : PEs ρ' l l' := by
  induction e with
  | nil => exact .nil
  | cons v v' a b l l' hv _ ih => exact .cons _ _ _ _ _ _ (hv.mono h) ih
theorem PEs.append {ρ : Ren} {a a' b b' : List PanicEntry} (h : PEs ρ a a') (k : PEs ρ b b') : PEs ρ (a ++ b) (a' ++ b') := by
  induction h with
  | nil => exact k
  | cons v v' a b l l' hv _ ih => exact .cons _ _ _ _ _ _ hv ih

inductive MR (ρ : Ren) : FrameMode → FrameMode → Prop where
  | run : MR ρ .run .run
  | returning : MR ρ .returning .returning
  | panicking (l l' : List PanicEntry) (h : PEs ρ l l') : MR ρ (.panicking l) (.panicking l')
theorem MR.mono {ρ ρ' : Ren} (h : ρ.le ρ') {a b : FrameMode} (e : MR ρ a b) : MR ρ' a b := by
  cases e with
  | run => exact .run
  | returning => exact .returning
  | panicking l l' hl => exact .panicking l l' (hl.mono h)

inductive IR (ρ : Ren) : AI → Item → Prop where
  | code (c : Code) : IR ρ (.code c) (.code c)
  | inBlock (i : Nat) : IR ρ (.inBlock i) (.inBlock i)
  | inLoop (b : Code) : IR ρ (.inLoop b) (.inLoop b)
  | inScope (b : Code) : IR ρ (.inScope b) (.inScope b)
  | inRegion (ops : Array Oper) (os : List Oper) (i : Nat) (h : os = ops.toList.drop i) : IR ρ (.inRegion ops os i) (.inRegion ops (List.range' i os.length))
  | inRangeFunc (l : Nat) (p : Pl) (h : ρ l = some p) : IR ρ (.inRangeFunc l) (.inRangeFunc p.b)
  | endRangeFunc (l : Nat) (p : Pl) (h : ρ l = some p) : IR ρ (.endRangeFunc l) (.endRangeFunc p.b)
  | beginRound : IR ρ .beginRound .beginRound
theorem IR.mono {ρ ρ' : Ren} (h : ρ.le ρ') {a : AI} {b : Item} (e : IR ρ a b) : IR ρ' a b := by
  cases e with
  | code => exact .code _
  | inBlock => exact .inBlock _
  | inLoop => exact .inLoop _
  | inScope => exact .inScope _
  | inRegion ops os i hi => exact .inRegion ops os i hi
  | inRangeFunc l p hp => exact .inRangeFunc l p (h _ _ hp)
  | endRangeFunc l p hp => exact .endRangeFunc l p (h _ _ hp)
  | beginRound => exact .beginRound
inductive IRs (ρ : Ren) : List AI → List Item → Prop where
  | nil : IRs ρ [] []
  | cons (a : AI) (b : Item) (l : List AI) (l' : List Item) (h : IR ρ a b) (hl : IRs ρ l l') : IRs ρ (a :: l) (b :: l')
theorem IRs.mono {ρ ρ' : Ren} (h : ρ.le ρ') {l : List AI} {l' : List Item} (e : IRs ρ l l') : IRs ρ' l l' := by
  induction e with
  | nil => exact .nil
  | cons a b l l' hab _ ih => exact .cons _ _ _ _ (hab.mono h) ih
theorem IRs.append {ρ : Ren} {a b : List AI} {a' b' : List Item} (h : IRs ρ a a') (k : IRs ρ b b') : IRs ρ (a ++ b) (a' ++ b') := by
  induction h with
  | nil => exact k
  | cons x y l l' hxy _ ih => exact .cons _ _ _ _ hxy ih

inductive RoR (ρ : Ren) : Option Nat → Option Nat → Prop where
  | none : RoR ρ none none
  | some (l : Nat) (p : Pl) (h : ρ l = some p) : RoR ρ (some l) (some p.b)
theorem RoR.mono {ρ ρ' : Ren} (h : ρ.le ρ') {a b : Option Nat} (e : RoR ρ a b) : RoR ρ' a b := by
  cases e with
  | none => exact .none
  | some l p hp => exact .some l p (h _ _ hp)

/-- temporaries -/
structure TR (ρ : Ren) (nt : Nat) (tm : T Value) (tmps : Array Value) : Prop where
  size : tmps.size = nt
  at_ : ∀ t, VR ρ (tm.at t) (tmps.getD t undef)
theorem TR.mono {ρ ρ' : Ren} (h : ρ.le ρ') {nt : Nat} {tm : T Value} {tmps : Array Value} (e : TR ρ nt tm tmps) : TR ρ' nt tm tmps := ⟨e.size, fun t => (e.at_ t).mono h⟩

structure FrR (ρ : Ren) (a : AF) (f : Frame) : Prop where
  fn : f.fn = a.fn
  tm : TR ρ a.nt a.tmps f.tmps
  todo : IRs ρ a.todo f.todo
  defers : DRs ρ a.defers f.defers
  mode : MR ρ a.mode f.mode
  kind : f.kind = a.kind
  roundOf : RoR ρ a.roundOf f.roundOf
theorem FrR.mono {ρ ρ' : Ren} (h : ρ.le ρ') {a : AF} {f : Frame} (e : FrR ρ a f) : FrR ρ' a f :=
  ⟨e.fn, e.tm.mono h, e.todo.mono h, e.defers.mono h, e.mode.mono h, e.kind, e.roundOf.mono h⟩

inductive CR (ρ : Ren) (base : List Frame) : List AF → List Frame → Prop where
  | nil : CR ρ base [] base
  | cons (a : AF) (f : Frame) (l : List AF) (l' : List Frame) (h : FrR ρ a f) (hl : CR ρ base l l') : CR ρ base (a :: l) (f :: l')
theorem CR.mono {ρ ρ' : Ren} (h : ρ.le ρ') {base : List Frame} {l : List AF} {l' : List Frame} (e : CR ρ base l l') : CR ρ' base l l' := by
  induction e with
  | nil => exact .nil
  | cons a f l l' haf _ ih => exact .cons _ _ _ _ (haf.mono h) ih

/-- the package-level variables lie where the machine has them -/
def GlobR (ρ : Ren) (n : Nat) : Prop := ∀ g, g < n → ∃ p, ρ g = some p ∧ p.b = g ∧ p.d = 0
theorem GlobR.mono {ρ ρ' : Ren} (h : ρ.le ρ') {n : Nat} (e : GlobR ρ n) : GlobR ρ' n := fun g hg => let ⟨p, a, b⟩ := e g hg; ⟨p, h _ _ a, b⟩

def bot : AF → List AF → FuncId
  | fr, [] => fr.fn
  | _, c :: cs => bot c cs

theorem ev_sim {ρ : Ren} {E : Env} {a : AF} {f : Frame} (h : TR ρ a.nt a.tmps f.tmps) (hg : GlobR ρ E.ng) (x : Operand) : VR ρ (ev E a.tmps x) (f.eval x) := by
  cases x with
  | tmp t => exact h.at_ t
  | const v => exact cst_vr ρ v
  | global g =>
    simp only [ev, Frame.eval]
    cases hlt : Nat.blt g E.ng with
    | true =>
      obtain ⟨p, h1, h2, h3⟩ := hg g (blt_lt hlt)
      have := VR.ptr (ρ := ρ) g 0 p h1
      rw [h2, h3] at this
      exact this
    | false => exact .top _
  | func f => exact .func _ _ _ _ _ _ (.func f) .nil .nil
end
end Go.Sh

/-
  What the machine does with an operation's result.
-/
namespace Go.Sh
open Go.RowKit

section
variable {P : Program} {E : Env}

structure SR (E : Env) (ρ : Ren) (base : List Frame) (a : AF) (as : List AF) (m : Mem) (f : Frame) (fs : List Frame) (w : World) : Prop where
  fr : FrR ρ a f
  cs : CR ρ base as fs
  m : MemR ρ m w
  g : GlobR ρ E.ng

def After (P : Program) (E : Env) (base : List Frame) (b : FuncId) (ρ : Ren) (m : Mem) (w : World) (M : Machine) : St → Prop
  | .next ⟨a, as, m'⟩ => ∃ ρ' f fs w', Steps P M (lone f fs w') ∧ SR E ρ' base a as m' f fs w' ∧ Ext ρ m w ρ' m' w' ∧ bot a as = b
  | .done v m' => ∃ ρ' f w' v', Steps P M (lone f base w') ∧ f.leaving P w' (.returned v') ∧ f.fn = b ∧ VR ρ' v v' ∧ MemR ρ' m' w' ∧ Ext ρ m w ρ' m' w'

variable {base : List Frame} {b : FuncId} {ρ ρ₁ : Ren} {m m₁ : Mem} {w w₁ : World} {M M₁ : Machine} {st : St}

theorem After.steps (h : Steps P M M₁) (k : After P E base b ρ m w M₁ st) : After P E base b ρ m w M st := by
  cases st with
  | next S => obtain ⟨a, as, m'⟩ := S; obtain ⟨ρ', f, fs, w', h1, h2⟩ := k; exact ⟨ρ', f, fs, w', h.trans h1, h2⟩
  | done v m' => obtain ⟨ρ', f, w', v', h1, h2⟩ := k; exact ⟨ρ', f, w', v', h.trans h1, h2⟩
theorem After.step (h : Go.step P M = .next M₁) (k : After P E base b ρ m w M₁ st) : After P E base b ρ m w M st := k.steps (.one h)
theorem After.ext (x : Ext ρ m w ρ₁ m₁ w₁) (k : After P E base b ρ₁ m₁ w₁ M st) : After P E base b ρ m w M st := by
  cases st with
  | next S => obtain ⟨a, as, m'⟩ := S; obtain ⟨ρ', f, fs, w', h1, h2, h3, h4⟩ := k; exact ⟨ρ', f, fs, w', h1, h2, x.trans h3, h4⟩
  | done v m' => obtain ⟨ρ', f, w', v', h1, h2, h3, h4, h5, h6⟩ := k; exact ⟨ρ', f, w', v', h1, h2, h3, h4, h5, x.trans h6⟩
theorem After.go {a : AF} {as : List AF} {f : Frame} {fs : List Frame} (h : SR E ρ base a as m f fs w) (e : goOn a as m = .ok st) : After P E base (bot a as) ρ m w (lone f fs w) st := by
  cases e; exact ⟨ρ, f, fs, w, .refl _ _, h, .refl _ _ _, rfl⟩

/-! a temporary is set -/
theorem at_set (tm : T Value) (d : Nat) (v : Value) (t : Nat) : (tm.set d (some v)).at t = if t = d then v else tm.at t := by
  unfold T.at
  rw [T.get_set]
  by_cases h : t = d
  · simp [h]
  · simp [h]
def putA (dst : Option Tmp) (v : Value) (tmps : Array Value) : Array Value := match dst with
  | some d => tmps.setIfInBounds d v
  | none => tmps
theorem TR.put {nt : Nat} {tm tm' : T Value} {tmps : Array Value} {dst : Option Tmp} {v v' : Value} (h : TR ρ nt tm tmps) (e : putT dst v nt tm = .ok tm') (hv : VR ρ v v') : TR ρ nt tm' (putA dst v' tmps) := by
  cases dst with
  | none => simp only [putT] at e; cases e; exact h
  | some d =>
    simp only [putT] at e
    obtain ⟨hlt, e1⟩ := bif_ok e
    cases e1
    have hlt := blt_lt hlt
    refine ⟨by simp [putA, h.size], fun t => ?_⟩
    rw [at_set]
    by_cases ht : t = d
    · subst ht
      rw [if_pos rfl]
      have : (putA (some t) v' tmps).getD t undef = v' := by simp [putA, Array.getD_eq_getD_getElem?, h.size, hlt]
      rw [this]; exact hv
    · rw [if_neg ht]
      have : (putA (some d) v' tmps).getD t undef = tmps.getD t undef := by
        simp only [putA, Array.getD_eq_getD_getElem?, Array.getElem?_setIfInBounds]
        rw [if_neg (fun q => ht q.symm)]
      rw [this]; exact h.at_ t

theorem drop_cons {α : Type} {l os : List α} {o : α} {i : Nat} (h : o :: os = l.drop i) : l[i]? = some o ∧ os = l.drop (i + 1) := by
  constructor
  · have : (l.drop i)[0]? = some o := by rw [← h]; rfl
    rw [List.getElem?_drop] at this; simpa using this
  · have : (l.drop i).drop 1 = os := by rw [← h]; rfl
    rw [List.drop_drop] at this; exact this.symm

theorem finish_region {f : Frame} {ops : Array Oper} {i : Nat} {rest : List Nat} {k : List Item} {o : Oper} (ht : f.todo = .inRegion ops (i :: rest) :: k) (ho : ops[i]? = some o) (v : Value) :
    f.finish v = { f with tmps := putA o.dst v f.tmps, todo := .inRegion ops rest :: k } := by
  obtain ⟨fn, tmps, todo, ds, md, kd, ro⟩ := f
  simp only at ht; subst ht
  simp only [Frame.finish, ho, Option.bind_some]
  cases o.dst <;> rfl

theorem finishF_sim {a a' : AF} {f : Frame} {v v' : Value} (e : finishF a v = .ok a') (h : FrR ρ a f) (hv : VR ρ v v') : FrR ρ a' (f.finish v') ∧ a'.fn = a.fn := by
  obtain ⟨fn, nt, tm, td, ds, md, kd, ro⟩ := a
  obtain ⟨h1, h2, h3, h4, h5, h6, h7⟩ := h
  simp only at h1 h2 h3 h4 h5 h6 h7
  cases td with
  | nil => simp [finishF] at e
  | cons x k =>
  cases x <;> try (simp [finishF] at e; done)
  case inRegion ops os i =>
    cases os with
    | nil => simp [finishF] at e
    | cons o os =>
      simp only [finishF] at e
      obtain ⟨tm', e1, e2⟩ := R.bnd_ok e
      cases e2
      generalize htd : f.todo = td at h3
      cases h3 with
      | cons _ y _ k' hy hk =>
        cases hy with
        | inRegion _ _ _ hd =>
          obtain ⟨ho, hd'⟩ := drop_cons hd
          simp only [List.length_cons, List.range'_succ] at htd
          have ho' : ops[i]? = some o := by rw [← Array.getElem?_toList]; exact ho
          rw [finish_region htd ho']
          exact ⟨⟨h1, h2.put e1 hv, .cons _ _ _ _ (.inRegion _ _ _ hd') hk, h4, h5, h6, h7⟩, rfl⟩
  case inRangeFunc l =>
    simp only [finishF] at e
    cases e
    generalize htd : f.todo = td at h3
    cases h3 with
    | cons _ y _ k' hy hk =>
      cases hy with
      | inRangeFunc _ p hp =>
        have : f.finish v' = { f with todo := .endRangeFunc p.b :: k' } := by
          obtain ⟨fn, tmps, todo, ds, md, kd, ro⟩ := f
          simp only at htd; subst htd; rfl
        rw [this]
        exact ⟨⟨h1, h2, .cons _ _ _ _ (.endRangeFunc _ _ hp) hk, h4, h5, h6, h7⟩, rfl⟩

theorem bot_fn {a a' : AF} (h : a'.fn = a.fn) (cs : List AF) : bot a' cs = bot a cs := by
  cases cs with
  | nil => exact h
  | cons => rfl

theorem goFin_sim {a : AF} {as : List AF} {f : Frame} {fs : List Frame} {v v' : Value} (h : SR E ρ base a as m f fs w) (hv : VR ρ v v') (e : goFin a v as m = .ok st) :
    After P E base (bot a as) ρ m w (lone (f.finish v') fs w) st := by
  unfold goFin at e
  obtain ⟨a', e1, e2⟩ := R.bnd_ok e
  obtain ⟨k1, k2⟩ := finishF_sim e1 h.fr hv
  rw [← bot_fn k2 as]
  exact After.go ⟨k1, h.cs, h.m, h.g⟩ e2

/-! a frame that is entered -/
theorem at_setTs : ∀ (l : List Value) (i : Nat) (tm : T Value) (t : Nat), (setTs l i tm).at t = if i ≤ t ∧ t < i + l.length then l.getD (t - i) undef else tm.at t := by
  intro l
  induction l with
  | nil => intro i tm t; simp only [setTs, List.length_nil]; rw [if_neg (by omega)]
  | cons v l ih =>
    intro i tm t
    simp only [setTs, List.length_cons]
    rw [ih, at_set]
    by_cases h1 : i + 1 ≤ t ∧ t < i + 1 + l.length
    · rw [if_pos h1, if_pos (by omega)]
      have : t - i = (t - (i + 1)) + 1 := by omega
      rw [this]; simp
    · rw [if_neg h1]
      by_cases h2 : t = i
      · subst h2; rw [if_pos rfl, if_pos (by omega)]; simp
      · rw [if_neg h2, if_neg (by omega)]
theorem TR.ofArgs {args args' : List Value} (h : VRs ρ args args') (n : Nat) : TR ρ (max n args.length) (setTs args 0 .nil) (⟨args'⟩ ++ Array.replicate (n - (⟨args'⟩ : Array Value).size) undef) := by
  have hl := h.length
  refine ⟨by simp only [Array.size_append, List.size_toArray, Array.size_replicate, ← hl]; omega, fun t => ?_⟩
  rw [at_setTs]
  have hg : ((⟨args'⟩ ++ Array.replicate (n - (⟨args'⟩ : Array Value).size) undef : Array Value)).getD t undef = args'.getD t undef := by
    simp only [Array.getD_eq_getD_getElem?, List.getD_eq_getElem?_getD]
    by_cases c : t < args'.length
    · rw [Array.getElem?_append_left (by simpa using c)]; simp
    · rw [Array.getElem?_append_right (by simpa using c), Array.getElem?_replicate, List.getElem?_eq_none (by omega)]
      split <;> rfl
  rw [hg]
  by_cases c : t < args.length
  · rw [if_pos (by omega), Nat.sub_zero]
    obtain ⟨v', q1, q2⟩ := h.get t args[t] (by simp [c])
    simp only [List.getD_eq_getElem?_getD, q1, List.getElem?_eq_getElem c, Option.getD_some]
    exact q2
  · rw [if_neg (by omega)]
    have : args'.getD t undef = undef := by rw [List.getD_eq_getElem?_getD, List.getElem?_eq_none (by omega)]; rfl
    rw [this]
    exact .tuple _ _ .nil

theorem enterF_sim (hE : EnvOk P E) {f : FuncId} {args args' : List Value} {kd : CallKind} {a : AF} (e : enterF E f args kd = .ok a) (h : VRs ρ args args') : FrR ρ a (Frame.enter P f ⟨args'⟩ kd) ∧ a.fn = f := by
  unfold enterF at e
  obtain ⟨fn, e1, e2⟩ := R.bnd_ok e
  obtain ⟨bd, e3, e4⟩ := R.bnd_ok e2
  cases e4
  obtain ⟨hf, _⟩ := hE.fn f fn (need_ok e1)
  have hb := need_ok e3
  refine ⟨⟨rfl, ?_, ?_, .nil, .run, rfl, .none⟩, rfl⟩
  · simp only [Frame.enter, hf, Option.map_some, Option.getD_some]
    exact TR.ofArgs h fn.ntmps
  · simp only [Frame.enter, hf, hb, Option.bind_some, Option.getD_some]
    exact .cons _ _ _ _ (.code _) .nil

theorem raiseF_sim {a : AF} {f : Frame} {vs vs' : List PanicEntry} (h : FrR ρ a f) (hv : PEs ρ vs vs') : FrR ρ (raiseF a vs) (f.raise vs') ∧ (raiseF a vs).fn = a.fn := by
  obtain ⟨fn, nt, tm, td, ds, md, kd, ro⟩ := a
  obtain ⟨fn', tmps, todo, ds', md', kd', ro'⟩ := f
  obtain ⟨h1, h2, h3, h4, h5, h6, h7⟩ := h
  simp only at h1 h2 h3 h4 h5 h6 h7
  cases h5 with
  | run => exact ⟨⟨h1, h2, h3, h4, .panicking _ _ hv, h6, h7⟩, rfl⟩
  | returning => exact ⟨⟨h1, h2, h3, h4, .panicking _ _ hv, h6, h7⟩, rfl⟩
  | panicking l l' hl => exact ⟨⟨h1, h2, h3, h4, .panicking _ _ (hv.append hl), h6, h7⟩, rfl⟩
end
end Go.Sh
