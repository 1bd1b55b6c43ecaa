/-
  PART OF A CLAIM's PROOF (ShEa, ShPr, ShEx): a shadow of the machine, or what is shown by it.
-/
import Derived.Test.YteaphfbalgmhlaaGreatDoorShZ3
import Derived.Sort.KeysCollected
import Derived.Lib.Bytealg
set_option linter.unusedSimpArgs false
set_option linter.unusedVariables false
/-
  An environment out of a program's tables; package-level variables; runs in pieces; a closed run as a contract.
-/
namespace Go.Sh
open Go.RowKit

def fdsOf (P : Program) : List Field → Option (List FD)
  | [] => some []
  | f :: fs => match P.info? f.type with
    | some i => (fdsOf P fs).map (⟨f.type, f.offset, i.size, f.name != "_"⟩ :: ·)
    | none => none
theorem fdsOf_ok {P : Program} : ∀ {fs : List Field} {l : List FD}, fdsOf P fs = some l → FDs P fs l := by
  intro fs
  induction fs with
  | nil => intro l h; simp only [fdsOf] at h; cases h; exact .nil
  | cons f fs ih =>
    intro l h
    simp only [fdsOf] at h
    cases hi : P.info? f.type with
    | none => rw [hi] at h; cases h
    | some i =>
      rw [hi] at h
      simp only at h
      cases hr : fdsOf P fs with
      | none => rw [hr] at h; cases h
      | some r => rw [hr] at h; cases h; exact .cons f i fs r hi (ih hr)
def tdOf (P : Program) : TypeDesc → Option TD
  | .bool => some .bool
  | .int k => some (.int k)
  | .string => some .string
  | .pointer e => some (.pointer e)
  | .slice e => some (.slice e)
  | .array n e => some (.array n e)
  | .map k e => some (.map k e)
  | .struct fs => (fdsOf P fs.toList).map .struct
  | .interface _ => some .iface
  | .func _ _ _ => some .func
  | d => if otherDesc d then some .other else none
theorem tdOf_ok {P : Program} {d : TypeDesc} {t : TD} (h : tdOf P d = some t) : TDR P d t := by
  cases d <;> simp only [tdOf] at h <;> first
    | (cases h; exact .bool)
    | (cases h; exact .int _)
    | (cases h; exact .string)
    | (cases h; exact .pointer _)
    | (cases h; exact .slice _)
    | (cases h; exact .array _ _)
    | (cases h; exact .map _ _)
    | (cases h; exact .iface _)
    | (cases h; exact .func _ _ _)
    | (simp only [otherDesc, if_true] at h; cases h; exact .other _ rfl)
    | (rename_i fs; obtain ⟨fs⟩ := fs
       cases hr : fdsOf P fs with
       | none => rw [hr] at h; cases h
       | some r => rw [hr] at h; cases h; exact .struct _ _ (fdsOf_ok hr))
/-- a type, as the shadow has it; whether it is 'plain' is told beside -/
noncomputable def tiOf (P : Program) (pl : Bool) (t : TypeId) : Option TI := match P.info? t with
  | none => none
  | some i => match P.underlying t with
    | none => none
    | some d => (tdOf P d).map fun td => ⟨td, i.size, i.bytes, i.zero.map cst, i.comparable, pl, i.methods.toList⟩
def isPlainT (P : Program) (t : TypeId) : Bool := !(P.eqGuardType P.depth t) && !(P.stoodInHeld t)
theorem tiOf_ok {P : Program} {pl : Bool} {t : TypeId} {i : TI} (h : tiOf P pl t = some i) (hp : pl = true → isPlainT P t = true) : Nonempty (TIOK P t i) := by
  unfold tiOf at h
  cases hi : P.info? t with
  | none => rw [hi] at h; cases h
  | some info =>
    rw [hi] at h
    simp only at h
    cases hu : P.underlying t with
    | none => rw [hu] at h; cases h
    | some d =>
      rw [hu] at h
      simp only at h
      cases ht : tdOf P d with
      | none => rw [ht] at h; cases h
      | some td =>
        rw [ht] at h
        cases h
        refine ⟨⟨info, d, hi, hu, tdOf_ok ht, rfl, rfl, rfl, rfl, rfl, fun q => ?_⟩⟩
        have := hp q
        unfold isPlainT at this
        simp only [Bool.and_eq_true, Bool.not_eq_true'] at this
        exact this

/-- all types from a number on -/
noncomputable def tisOf (P : Program) : List Bool → TypeId → List (Option TI)
  | [], _ => []
  | b :: r, t => tiOf P b t :: tisOf P r (t + 1)
def plainsOk (P : Program) : List Bool → TypeId → Bool
  | [], _ => true
  | b :: r, t => (!b || isPlainT P t) && plainsOk P r (t + 1)
theorem tisOf_at {P : Program} : ∀ {bs : List Bool} {s t : Nat} {i : TI}, (tisOf P bs s)[t]? = some (some i) → plainsOk P bs s = true → Nonempty (TIOK P (s + t) i) := by
  intro bs
  induction bs with
  | nil => intro s t i h; simp [tisOf] at h
  | cons b bs ih =>
    intro s t i h hp
    simp only [plainsOk, Bool.and_eq_true] at hp
    cases t with
    | zero =>
      simp only [tisOf, List.getElem?_cons_zero, Option.some.injEq] at h
      refine tiOf_ok h fun q => ?_
      have := hp.1
      rw [q] at this
      simpa using this
    | succ t =>
      simp only [tisOf, List.getElem?_cons_succ] at h
      have := ih h hp.2
      rw [show s + 1 + t = s + (t + 1) from by omega] at this
      exact this

theorem envTi_of {P : Program} {E : Env} (bs : List Bool) (tt : T TI) (he : E.ti = tt.get) (l : List TI) (hl : T.ofList l = tt) (ht : tisOf P bs 0 = l.map some) (hp : plainsOk P bs 0 = true) : EnvTi P E := by
  refine ⟨fun t i h => ?_⟩
  rw [he, ← hl, T.get_ofList] at h
  have : (tisOf P bs 0)[t]? = some (some i) := by rw [ht, List.getElem?_map, h]; rfl
  have key := tisOf_at this hp
  rw [Nat.zero_add] at key
  exact key

def namesOk (fs : List Func) : Bool := fs.all fun fn => !(fn.name == "runtime.NumGoroutine")
theorem envFn_of {P : Program} {E : Env} (ft : T Func) (he : E.fn = ft.get) (hl : T.ofList P.funcs.toList = ft) (hn : namesOk P.funcs.toList = true) : ∀ f fn, E.fn f = some fn → P.funcs[f]? = some fn ∧ (fn.name == "runtime.NumGoroutine") = false := by
  intro f fn h
  rw [he, ← hl, T.get_ofList] at h
  refine ⟨by rw [← Array.getElem?_toList]; exact h, ?_⟩
  have := List.all_eq_true.1 hn fn (List.mem_of_getElem? h)
  simpa using this

/-! package-level variables that are read -/
noncomputable def globT : List (Nat × List Value × TypeId) → T AO
  | [] => .nil
  | (g, c, e) :: r => (globT r).set g (some (.cells c e none true 0))
noncomputable def mem0 (n : Nat) (l : List (Nat × List Value × TypeId)) : Mem := ⟨n, globT l⟩
theorem globT_get : ∀ {l : List (Nat × List Value × TypeId)} {x : Nat} {o : AO}, (globT l).get x = some o → ∃ c e, (x, c, e) ∈ l ∧ o = .cells c e none true 0 := by
  intro l
  induction l with
  | nil => intro x o h; cases h
  | cons y l ih =>
    intro x o h
    obtain ⟨g, c, e⟩ := y
    simp only [globT] at h
    rw [T.get_set] at h
    by_cases hx : x = g
    · subst hx; rw [if_pos rfl] at h; cases h; exact ⟨c, e, by simp, rfl⟩
    · rw [if_neg hx] at h
      obtain ⟨c', e', a, b⟩ := ih h
      exact ⟨c', e', List.mem_cons_of_mem _ a, b⟩

/-- the world has the variables as they are told -/
def GlobsAt (w : World) (n : Nat) (l : List (Nat × List Value × TypeId)) : Prop := n ≤ w.heap.size ∧ ∀ g c e, (g, c, e) ∈ l → g < n ∧ ∃ C fr, w.heap[g]? = some (.cells ⟨C⟩ e fr) ∧ ∀ (i : Nat) (v : Value), c[i]? = some v → C[i]? = some v ∧ ∃ k n, v = Value.int k n

noncomputable def globRen (w : World) (n : Nat) : Ren := fun g => if g < n then some ⟨g, 0, (match w.heap[g]? with | some (.cells c _ _) => c.size | _ => 0), none⟩ else none
theorem globRen_some {w : World} {n g : Nat} {p : Pl} (h : globRen w n g = some p) : g < n ∧ p.b = g := by
  unfold globRen at h
  by_cases hg : g < n
  · rw [if_pos hg] at h; cases h; exact ⟨hg, rfl⟩
  · rw [if_neg hg] at h; cases h

theorem mem0_rel {w : World} {n : Nat} {l : List (Nat × List Value × TypeId)} (h : GlobsAt w n l) : MemR (globRen w n) (mem0 n l) w := by
  refine ⟨?_, ?_, ?_, ?_⟩
  · intro x o e
    obtain ⟨c, el, h1, rfl⟩ := globT_get (l := l) e
    obtain ⟨hx, C, ⟨lo, hi⟩, h2, h3⟩ := h.2 x c el h1
    refine ⟨⟨x, 0, C.length, none⟩, _, ?_, h2, ?_⟩
    · unfold globRen
      rw [if_pos hx, h2]
      rfl
    · have hlen : c.length ≤ C.length := by
        cases hc : c.length with
        | zero => exact Nat.zero_le _
        | succ k =>
          have hk : k < c.length := by omega
          have := (h3 k c[k] (List.getElem?_eq_getElem hk)).1
          have := (List.getElem?_eq_some_iff.1 this).1
          omega
      refine .cells c C el true 0 lo hi rfl (by simpa using hlen) (fun i v hi => ?_) (.inl rfl) (fun _ => rfl)
      obtain ⟨a, k, n, rfl⟩ := h3 i v hi
      exact ⟨_, by rw [Nat.zero_add]; exact a, .int _ _⟩
  · intro x y o o' p q e1 e2 hne hr
    obtain ⟨c, el, h1, rfl⟩ := globT_get (l := l) e1
    cases hr
  · intro x hx
    unfold globRen
    exact if_neg (Nat.not_lt.2 hx)
  · intro x p e
    obtain ⟨a, b⟩ := globRen_some e
    rw [b]
    exact Nat.lt_of_lt_of_le a h.1

theorem mem0_glob {w : World} {n : Nat} : GlobR (globRen w n) n := by
  intro g hg
  exact ⟨_, if_pos hg, rfl, rfl⟩

theorem mem0_owns {ρ : Ren} {n : Nat} {l : List (Nat × List Value × TypeId)} {b : Nat} : ¬ Owns ρ (mem0 n l) b := by
  rintro ⟨x, o, p, e, hr, _⟩
  obtain ⟨c, el, h1, rfl⟩ := globT_get (l := l) e
  cases hr

section
variable {P : Program} {E : Env}

noncomputable def isTrue : R (Value × Mem) → Bool
  | .ok (.bool true, _) => true
  | _ => false

/-- a function without parameters that answers true, whatever lies in memory -/
def Alive (P : Program) (f : FuncId) (w : World) : Prop := Calls P f #[] w fun e w' => e = .returned (.bool true) ∧ Below w.heap.size w w'

theorem alive_end {f : FuncId} {w : World} {n : Nat} {l : List (Nat × List Value × TypeId)} {m' : Mem} (h : Calls P f ⟨[]⟩ w (Ret (globRen w n) (mem0 n l) w (.bool true) m')) : Alive P f w := by
  refine Calls.mono h fun e w' hr => ?_
  obtain ⟨v', ρ', rfl, hv, hm, hx⟩ := hr
  cases hv
  exact ⟨rfl, hx.os, hx.tape, hx.output, hx.size, fun k hk => hx.keep k hk mem0_owns⟩

theorem alive_of_run (hE : EnvOk P E) {f : FuncId} {w : World} {l : List (Nat × List Value × TypeId)} {a : AF} (he : enterF E f [] .normal = .ok a) {n : Nat} (e : isTrue (Sh.run E n ⟨a, [], mem0 E.ng l⟩) = true) (hw : GlobsAt w E.ng l) : Alive P f w := by
  generalize hr : Sh.run E n ⟨a, [], mem0 E.ng l⟩ = r at e
  cases r with
  | no k => cases e
  | ok p =>
    obtain ⟨v, m'⟩ := p
    cases v <;> try (cases e; done)
    rename_i b
    cases b with
    | false => cases e
    | true => exact alive_end (calls_run hE he hr .nil (mem0_rel hw) mem0_glob)

/-! a run in pieces -/
noncomputable def steps (E : Env) (r : AM → R (Value × Mem)) : Nat → AM → R St
  | 0, S => .ok (.next S)
  | n + 1, S => match step E r S with
    | .ok (.next S') => steps E r n S'
    | .ok (.done v m) => .ok (.done v m)
    | .no k => .no k

theorem steps_sim (hE : EnvOk P E) {r : AM → R (Value × Mem)} (hr : RunOk P E r) : ∀ (n : Nat) {base : List Frame} {ρ : Ren} {a : AF} {as : List AF} {m : Mem} {w : World} {f : Frame} {fs : List Frame} {st : St},
    steps E r n ⟨a, as, m⟩ = .ok st → SR E ρ base a as m f fs w → After P E base (bot a as) ρ m w (lone f fs w) st := by
  intro n
  induction n with
  | zero =>
    intro base ρ a as m w f fs st e h
    simp only [steps] at e; cases e
    exact ⟨ρ, f, fs, w, .refl _ _, h, .refl _ _ _, rfl⟩
  | succ n ih =>
    intro base ρ a as m w f fs st e h
    simp only [steps] at e
    cases hs : step E r ⟨a, as, m⟩ with
    | no k => rw [hs] at e; cases e
    | ok s1 =>
      rw [hs] at e
      have key := step_sim hE (draw_ok hE hr) h hs
      cases s1 with
      | done v m1 => cases e; exact key
      | next S =>
        obtain ⟨a1, as1, m1⟩ := S
        obtain ⟨ρ1, f1, fs1, w1, k1, k2, k3, k4⟩ := key
        have := ih e k2
        rw [k4] at this
        exact After.ext k3 (this.steps k1)

/-- from a state some steps lead to a state -/
def Leads (E : Env) (r : AM → R (Value × Mem)) (S : AM) (st : St) : Prop := ∃ n, steps E r n S = .ok st
theorem steps_add {r : AM → R (Value × Mem)} : ∀ (n k : Nat) (S S' : AM), steps E r n S = .ok (.next S') → steps E r (n + k) S = steps E r k S' := by
  intro n
  induction n with
  | zero => intro k S S' e; simp only [steps] at e; cases e; rw [Nat.zero_add]
  | succ n ih =>
    intro k S S' e
    rw [show n + 1 + k = (n + k) + 1 from by omega]
    simp only [steps] at e ⊢
    cases hs : step E r S with
    | no k => rw [hs] at e; cases e
    | ok s1 =>
      rw [hs] at e
      cases s1 with
      | done v m1 => cases e
      | next S1 => exact ih k S1 S' e
theorem Leads.trans {r : AM → R (Value × Mem)} {S S' : AM} {st : St} (h : Leads E r S (.next S')) (k : Leads E r S' st) : Leads E r S st := by
  obtain ⟨n, a⟩ := h
  obtain ⟨j, b⟩ := k
  exact ⟨n + j, by rw [steps_add n j S S' a]; exact b⟩

/-- of memory only some blocks are kept -/
noncomputable def keepT : List Nat → Mem → T AO
  | [], _ => .nil
  | k :: ks, m => match m.get k with
    | some o => (keepT ks m).set k (some o)
    | none => keepT ks m
noncomputable def keepM (ks : List Nat) (m : Mem) : Mem := ⟨m.next, keepT ks m⟩
noncomputable def keepS (ks : List Nat) : R St → R AM
  | .ok (.next ⟨a, as, m⟩) => .ok ⟨a, as, keepM ks m⟩
  | .ok (.done _ _) => .no 200
  | .no k => .no k
theorem keepT_get : ∀ {ks : List Nat} {m : Mem} {x : Nat} {o : AO}, (keepT ks m).get x = some o → m.get x = some o := by
  intro ks
  induction ks with
  | nil => intro m x o h; cases h
  | cons k ks ih =>
    intro m x o h
    simp only [keepT] at h
    cases hk : m.get k with
    | none => rw [hk] at h; exact ih h
    | some q =>
      rw [hk] at h
      simp only at h
      rw [T.get_set] at h
      by_cases hx : x = k
      · subst hx; rw [if_pos rfl] at h; rw [← h]; exact hk
      · rw [if_neg hx] at h; exact ih h
theorem keepM_get {ks : List Nat} {m : Mem} {x : Nat} {o : AO} (h : (keepM ks m).get x = some o) : m.get x = some o := keepT_get (ks := ks) h
theorem keepM_ext {ks : List Nat} {ρ : Ren} {m : Mem} {w : World} : Ext ρ m w ρ (keepM ks m) w :=
  ⟨.refl _, rfl, rfl, rfl, Nat.le_refl _, fun _ _ _ => rfl, fun b ⟨x, o, p, e, r⟩ _ => ⟨x, o, p, keepM_get e, r⟩, Nat.le_refl _, fun _ _ h _ => h, fun _ _ h _ => keepM_get h⟩
theorem keepM_rel {ks : List Nat} {ρ : Ren} {m : Mem} {w : World} (h : MemR ρ m w) : MemR ρ (keepM ks m) w := h.sub (fun _ _ e => keepM_get e) (Nat.le_refl _)

/-- a state from which the machine comes, by some steps, to whatever it does -/
structure Goes (P : Program) (E : Env) (S S' : AM) : Prop where
  go : ∀ {base : List Frame} {ρ : Ren} {w : World} {f : Frame} {fs : List Frame}, SR E ρ base S.fr S.cs S.m f fs w →
  ∃ ρ' f' fs' w', Steps P (lone f fs w) (lone f' fs' w') ∧ SR E ρ' base S'.fr S'.cs S'.m f' fs' w' ∧ Ext ρ S.m w ρ' S'.m w' ∧ bot S'.fr S'.cs = bot S.fr S.cs
theorem Goes.trans {S S' S'' : AM} (h : Goes P E S S') (k : Goes P E S' S'') : Goes P E S S'' := by
  refine ⟨fun {base ρ w f fs} hs => ?_⟩
  obtain ⟨ρ1, f1, fs1, w1, a1, a2, a3, a4⟩ := h.go hs
  obtain ⟨ρ2, f2, fs2, w2, b1, b2, b3, b4⟩ := k.go a2
  exact ⟨ρ2, f2, fs2, w2, a1.trans b1, b2, a3.trans b3, b4.trans a4⟩
/-- a piece of a run -/
theorem goes_of (hE : EnvOk P E) {N n : Nat} {ks : List Nat} {S S' : AM} (e : keepS ks (steps E (Sh.run E N) n S) = .ok S') : Goes P E S S' := by
  refine ⟨fun {base ρ w f fs} hs => ?_⟩
  obtain ⟨a, as, m⟩ := S
  generalize hr : steps E (Sh.run E N) n ⟨a, as, m⟩ = r at e
  cases r with
  | no k => cases e
  | ok st =>
    cases st with
    | done v m' => cases e
    | next S1 =>
      obtain ⟨a1, as1, m1⟩ := S1
      cases e
      obtain ⟨ρ1, f1, fs1, w1, k1, k2, k3, k4⟩ := steps_sim hE (run_ok hE (fun _ h => draw_ok hE h) N) n hr hs
      exact ⟨ρ1, f1, fs1, w1, k1, ⟨k2.fr, k2.cs, keepM_rel k2.m, k2.g⟩, k3.trans keepM_ext, k4⟩

noncomputable def isTrueSt : R St → Bool
  | .ok (.done (.bool true) _) => true
  | _ => false
noncomputable def startS (E : Env) (f : FuncId) (l : List (Nat × List Value × TypeId)) : AM := match enterF E f [] .normal with
  | .ok a => ⟨a, [], mem0 E.ng l⟩
  | .no _ => ⟨⟨0, 0, .nil, [], [], .run, .normal, none⟩, [], mem0 E.ng l⟩
def isOkF : R AF → Bool
  | .ok _ => true
  | _ => false
theorem alive_of_goes (hE : EnvOk P E) {N : Nat} {f : FuncId} {w : World} {l : List (Nat × List Value × TypeId)} (he : isOkF (enterF E f [] .normal) = true) {S : AM} (h1 : Goes P E (startS E f l) S) {n : Nat}
    (e : isTrueSt (steps E (Sh.run E N) n S) = true) (hw : GlobsAt w E.ng l) : Alive P f w := by
  generalize hr : steps E (Sh.run E N) n S = r at e
  cases r with
  | no k => cases e
  | ok st =>
    cases st with
    | next S => cases e
    | done v m' =>
      cases v <;> try (cases e; done)
      rename_i b
      cases b with
      | false => cases e
      | true =>
        unfold startS at h1
        generalize hq : enterF E f [] .normal = q at h1 he
        cases q with
        | no k => cases he
        | ok a =>
          simp only at h1
          refine alive_end (n := E.ng) (l := l) (m' := m') fun cs => ?_
          obtain ⟨k1, k2⟩ := enterF_sim hE hq (VRs.nil (ρ := globRen w E.ng))
          obtain ⟨ρ1, f1, fs1, w1, a1, a2, a3, a4⟩ := h1.go (base := cs) ⟨k1, .nil, mem0_rel hw, mem0_glob⟩
          obtain ⟨S1, S2, S3⟩ := S
          obtain ⟨ρ', f', w', v', q1, q2, q3, q4, q5, q6⟩ := steps_sim hE (run_ok hE (fun _ h => draw_ok hE h) N) n hr a2
          exact ⟨.returned v', w', f', ⟨v', ρ', rfl, q4, q5, a3.trans q6⟩, a1.trans q1, (q3.trans a4).trans k2, q2⟩

/-! an environment of a program's own tables -/
noncomputable def envOf (P : Program) (ext : Nat → List Value → R Value) (prim : Nat → Option (List Value → Mem → R (Value × Mem))) (ng : Nat) : Env :=
  { fn := nthO P.funcs.toList, ti := fun t => tiOf P (isPlainT P t) t, ext, prim, ng }
theorem envOf_ti {ext : Nat → List Value → R Value} {prim : Nat → Option (List Value → Mem → R (Value × Mem))} {ng : Nat} : EnvTi P (envOf P ext prim ng) :=
  ⟨fun t i h => tiOf_ok (pl := isPlainT P t) h fun q => q⟩
theorem envOf_fn {ext : Nat → List Value → R Value} {prim : Nat → Option (List Value → Mem → R (Value × Mem))} {ng : Nat} (hn : namesOk P.funcs.toList = true) :
    ∀ f fn, (envOf P ext prim ng).fn f = some fn → P.funcs[f]? = some fn ∧ (fn.name == "runtime.NumGoroutine") = false := by
  intro f fn h
  have h : nthO P.funcs.toList f = some fn := h
  rw [nthO_eq] at h
  refine ⟨by rw [← Array.getElem?_toList]; exact h, ?_⟩
  have := List.all_eq_true.1 hn fn (List.mem_of_getElem? h)
  simpa using this

/-! where a piece of code lies -/
def subC : List Nat → Code → Code
  | [], c => c
  | 0 :: p, .seq a _ => subC p a
  | _ :: p, .seq _ b => subC p b
  | 0 :: p, .cond _ a _ => subC p a
  | _ :: p, .cond _ _ b => subC p b
  | _ :: p, .block _ a => subC p a
  | _ :: p, .loop a => subC p a
  | _ :: p, .scope a => subC p a
  | 0 :: p, .rangeFunc _ _ a _ => subC p a
  | _ :: p, .rangeFunc _ _ _ b => subC p b
  | _, c => c
noncomputable def bodyOf (P : Program) (f : Nat) : Code := match nthO P.funcs.toList f with
  | some fn => (match fn.body with | some c => c | none => .skip)
  | none => .skip
noncomputable def cAt (P : Program) (f : Nat) (p : List Nat) : Code := subC p (bodyOf P f)
noncomputable def oAt (P : Program) (f : Nat) (p : List Nat) : Array Oper := match cAt P f p with
  | .region _ ops _ => ops
  | _ => #[]
noncomputable def oAtD (P : Program) (f : Nat) (p : List Nat) (i : Nat) : List Oper := (oAt P f p).toList.drop i
def u8L : List Nat → List UInt8
  | [] => []
  | n :: r => UInt8.ofNat n :: u8L r
def bs (l : List Nat) : Value := .string ⟨⟨u8L l⟩⟩
end
end Go.Sh

/-
  slices.Sorted(maps.Keys(m)), taken by its contract: what the shadow makes of it.
-/
namespace Go.Sh
open Go.RowKit Go.Maps Go.Proofs

/-! bytes, lexically -/
theorem ltL_lt : ∀ (a b : List UInt8), ltL a b = true → a < b := by
  intro a
  induction a with
  | nil =>
    intro b h
    cases b with
    | nil => simp [ltL] at h
    | cons y b => exact List.nil_lt_cons _ _
  | cons x a ih =>
    intro b h
    cases b with
    | nil => simp [ltL] at h
    | cons y b =>
      simp only [ltL] at h
      rw [List.cons_lt_cons_iff]
      cases h1 : Nat.blt x.toNat y.toNat with
      | true => exact .inl (UInt8.lt_iff_toNat_lt.2 (blt_lt h1))
      | false =>
        rw [h1] at h
        simp only [cond_false] at h
        cases h2 : Nat.beq x.toNat y.toNat with
        | false => rw [h2] at h; simp at h
        | true =>
          rw [h2] at h
          simp only [cond_true] at h
          exact .inr ⟨UInt8.toNat_inj.1 (Nat.eq_of_beq_eq_true h2), ih b h⟩

noncomputable def insL (s : List UInt8) : List (List UInt8) → List (List UInt8)
  | [] => [s]
  | x :: r => bif ltL s x then s :: x :: r else x :: insL s r
noncomputable def sortL : List (List UInt8) → List (List UInt8)
  | [] => []
  | s :: r => insL s (sortL r)
noncomputable def risesFrom (x : List UInt8) : List (List UInt8) → Bool
  | [] => true
  | y :: r => ltL x y && risesFrom y r
noncomputable def rises : List (List UInt8) → Bool
  | [] => true
  | x :: r => risesFrom x r
theorem insL_perm (s : List UInt8) : ∀ l, (insL s l).Perm (s :: l) := by
  intro l
  induction l with
  | nil => exact .refl _
  | cons x r ih =>
    simp only [insL]
    cases ltL s x with
    | true => exact .refl _
    | false => exact (ih.cons x).trans (.swap _ _ _)
theorem sortL_perm : ∀ l, (sortL l).Perm l := by
  intro l
  induction l with
  | nil => exact .refl _
  | cons s r ih => exact (insL_perm s _).trans (ih.cons s)
theorem risesFrom_pw : ∀ (l : List (List UInt8)) (x : List UInt8), risesFrom x l = true → (x :: l).Pairwise (· < ·) := by
  intro l
  induction l with
  | nil => intro x _; simp
  | cons y r ih =>
    intro x h
    simp only [risesFrom] at h
    obtain ⟨h1, h2⟩ := and_t h
    have hy := ih y h2
    have hxy := ltL_lt _ _ h1
    refine List.pairwise_cons.2 ⟨fun z hz => ?_, hy⟩
    rcases List.mem_cons.1 hz with q | q
    · rw [q]; exact hxy
    · exact List.lt_trans hxy ((List.pairwise_cons.1 hy).1 z q)
theorem rises_pw {l : List (List UInt8)} (h : rises l = true) : l.Pairwise (· < ·) := by
  cases l with
  | nil => exact .nil
  | cons x r => exact risesFrom_pw r x h
theorem rises_nodup {l : List (List UInt8)} (h : rises l = true) : l.Nodup := (rises_pw h).imp fun hlt e => by subst e; exact List.lt_irrefl _ hlt
theorem sorted_eq {l ss : List (List UInt8)} (hp : ss.Perm l) (hr : rises (sortL l) = true) : ss.mergeSort leB = sortL l := by
  rw [mergeSort_of_perm (hp.trans (sortL_perm l).symm)]
  exact List.mergeSort_of_pairwise ((rises_pw hr).imp fun h => by simp only [leB, decide_eq_true_eq]; exact List.le_of_lt h)

/-! a map's keys -/
noncomputable def keysL : List MapEntry → R (List (List UInt8))
  | [] => .ok []
  | ⟨.string ⟨⟨s⟩⟩, _, _⟩ :: r => bif Nat.ble s.length 100000 then (keysL r).bnd fun l => .ok (s :: l) else .no 180
  | _ :: _ => .no 181
noncomputable def bornsOk (clock : Nat) : List MapEntry → Nat → Bool
  | [], _ => true
  | e :: r, n => Nat.ble n e.born && Nat.blt e.born clock && bornsOk clock r (e.born + 1)
noncomputable def boxO : Option AO → R Nat
  | some (.cells [.map (some q)] _ none _ _) => .ok q
  | _ => .no 182
noncomputable def strVs : List (List UInt8) → List Value
  | [] => []
  | s :: r => bstr s :: strVs r
noncomputable def sortedV (m : Mem) (K : TypeId) : List (List UInt8) → Value × Mem
  | [] => (.slice none 0 0, m)
  | k :: ks => newS m (strVs (k :: ks)) K (some 1) 0 (ks.length + 1) (ks.length + 1)
noncomputable def sortedM (K : TypeId) (m : Mem) (es : List MapEntry) (clock : Nat) : R (Value × Mem) :=
  (keysL es).bnd fun ks => bif bornsOk clock es 0 && (Nat.ble es.length 100000 && rises (sortL ks)) then .ok (sortedV m K (sortL ks)) else .no 183
/-- 'g': the number of maps.Keys' iterator -/
noncomputable def sortedK (g : Nat) (K : TypeId) : List Value → Mem → R (Value × Mem)
  | [.func (.func g') ⟨[]⟩ ⟨[.pointer (some ⟨x, 0, none⟩)]⟩], m => bif Nat.beq g' g then (boxO (m.get x)).bnd fun q => (mapO (m.get q)).bnd fun p => sortedM K m p.1 p.2 else .no 184
  | _, _ => .no 185

structure SortsKeys (P : Program) (f g : Nat) (K : TypeId) : Prop where
  und : P.underlying K = some .string
  enters : ∀ args w, (callFunc f args).run P w = .ok (.enter f args) w
  gives : ∀ (Bm b nn : Nat) (D0 : DataW Unit) (R : Value → Option (DataW Unit × List MemPlace)) (w : World), Bm < w.heap.size → w.cell? ⟨Bm, 0, none⟩ = some (.map (some b)) → w.ownsMap P K R b nn D0 → Maps.size D0 ≤ maxLen → Maps.size D0 * 16 ≤ 140737488355328 →
    Calls P f #[.func (.func g) #[] #[.pointer (some ⟨Bm, 0, none⟩)]] w fun e w' => ∃ (v : Value) (ss : List (List UInt8)), e = .returned v ∧ ss.Perm (strKeys D0) ∧ w'.ownsRow w.heap.size K 1 v ss.length ((ss.mergeSort leB).map encStr) ∧ (v = .slice none 0 0 ↔ ss = []) ∧ Below w.heap.size w w'

/-! memory in a later world -/
section
variable {ρ : Ren} {m : Mem} {w w' : World}
theorem MemR.below (h : MemR ρ m w) (hb : Below w.heap.size w w') : MemR ρ m w' :=
  h.grow (.refl _) h.fresh (fun x p e => Nat.lt_of_lt_of_le (h.lt x p e) hb.size) (fun x _ p _ e => hb.block p.b (h.lt x p e))
theorem Ext.below (hb : Below w.heap.size w w') : Ext ρ m w ρ m w' :=
  ⟨.refl _, hb.os, hb.tape, hb.output, hb.size, fun b h _ => hb.block b h, fun _ h _ => h, Nat.le_refl _, fun _ _ h _ => h, fun _ _ h _ => h⟩
theorem MemR.later (h : MemR ρ m w) (hb : Below w.heap.size w w') (o : AO) (O : Obj) (p : Pl) (hp : w.heap.size ≤ p.b) (hO : w'.heap[p.b]? = some O) (ho : OR (ρ.add m.next p) p o O) (hro : o.isRo = false) :
    MemR (ρ.add m.next p) (m.new o) w' ∧ Ext ρ m w (ρ.add m.next p) (m.new o) w' := by
  have hle := h.add_le p
  have hlt' : p.b < w'.heap.size := (Array.getElem?_eq_some_iff.1 hO).1
  have hnew : ∀ x q, ρ.add m.next p x = some q → (x = m.next ∧ q = p) ∨ (x ≠ m.next ∧ ρ x = some q) := by
    intro x q e
    by_cases hx : x = m.next
    · subst hx; rw [Ren.add_same] at e; cases e; exact .inl ⟨rfl, rfl⟩
    · simp only [Ren.add, if_neg hx] at e; exact .inr ⟨hx, e⟩
  refine ⟨⟨?_, ?_, ?_, ?_⟩, ⟨hle, hb.os, hb.tape, hb.output, hb.size, fun b h _ => hb.block b h, ?_, by rw [Mem.next_new]; omega, ?_, ?_⟩⟩
  · intro x o' e
    rw [Mem.get_new] at e
    by_cases hx : x = m.next
    · subst hx; rw [if_pos rfl] at e; cases e
      exact ⟨p, O, Ren.add_same _ _ _, hO, ho⟩
    · rw [if_neg hx] at e
      obtain ⟨q, Q, h1, h2, h3⟩ := h.obj x o' e
      exact ⟨q, Q, hle _ _ h1, by rw [hb.block q.b (h.lt x q h1)]; exact h2, h3.mono hle⟩
  · intro x y o1 o2 q1 q2 e1 e2 hne hr p1 p2
    rw [Mem.get_new] at e1 e2
    rcases hnew x q1 p1 with ⟨a, b⟩ | ⟨a, b⟩ <;> rcases hnew y q2 p2 with ⟨c, d⟩ | ⟨c, d⟩
    · exact (hne (a.trans c.symm)).elim
    · subst b; have := h.lt _ _ d; omega
    · subst d; have := h.lt _ _ b; omega
    · rw [if_neg a] at e1; rw [if_neg c] at e2; exact h.inj x y o1 o2 q1 q2 e1 e2 hne hr b d
  · intro x hx
    rw [Mem.next_new] at hx
    have hx' : x ≠ m.next := by omega
    simp only [Ren.add, if_neg hx']
    exact h.fresh x (by omega)
  · intro x q e
    rcases hnew x q e with ⟨a, b⟩ | ⟨a, b⟩
    · subst b; exact hlt'
    · exact Nat.lt_of_lt_of_le (h.lt _ _ b) hb.size
  · rintro b ⟨x, o', q, e1, e2, e3, e4⟩ hbl
    rcases hnew x q e3 with ⟨a, c⟩ | ⟨a, c⟩
    · subst c; omega
    · rw [Mem.get_new, if_neg a] at e1; exact ⟨x, o', q, e1, e2, c, e4⟩
  · intro x q e hx
    rcases hnew x q e with ⟨a, c⟩ | ⟨a, c⟩
    · omega
    · exact c
  · intro x o' e hr'
    rw [Mem.get_new] at e
    by_cases hx : x = m.next
    · rw [if_pos hx] at e; cases e; rw [hro] at hr'; cases hr'
    · rw [if_neg hx] at e; exact e
end

section
variable {P : Program} {ρ : Ren} {m : Mem} {w : World}

theorem insert_perm {H : Type} (x : Lit × DataW H) : ∀ l : List (Lit × DataW H), (DataW.insert x l).Perm (x :: l) := by
  intro l
  induction l with
  | nil => exact .refl _
  | cons y r ih =>
    simp only [DataW.insert]
    split
    · exact .refl _
    · exact (ih.cons y).trans (.swap _ _ _)
theorem sort_perm {H : Type} : ∀ l : List (Lit × DataW H), (l.foldr DataW.insert []).Perm l := by
  intro l
  induction l with
  | nil => exact .refl _
  | cons x r ih => exact (insert_perm x _).trans (ih.cons x)

theorem strVs_eq : ∀ l, strVs l = l.map encStr
  | [] => rfl
  | _ :: r => by simp only [strVs, List.map_cons, strVs_eq r]; rfl
theorem strVs_length (l : List (List UInt8)) : (strVs l).length = l.length := by rw [strVs_eq, List.length_map]
theorem strVs_vr {v : Value} : ∀ {l : List (List UInt8)} {i : Nat}, (strVs l)[i]? = some v → VR ρ v v := by
  intro l i h
  rw [strVs_eq, List.getElem?_map] at h
  cases hq : l[i]? with
  | none => rw [hq] at h; cases h
  | some s => rw [hq] at h; cases h; exact .string _

theorem bornsOk_spec {clock : Nat} : ∀ {es es' : List MapEntry} {n : Nat}, ER ρ es es' → bornsOk clock es n = true → (∀ x ∈ es', x.born < clock ∧ n ≤ x.born) ∧ (es'.map (·.born)).Nodup := by
  intro es es' n h
  induction h generalizing n with
  | nil => intro _; exact ⟨fun x hx => (by cases hx), List.nodup_nil⟩
  | cons k k' v v' b l l' hk hv hl ih =>
    intro e
    simp only [bornsOk] at e
    obtain ⟨e1, e3⟩ := and_t e
    obtain ⟨e1, e2⟩ := and_t e1
    have e1 := Nat.le_of_ble_eq_true e1
    obtain ⟨i1, i2⟩ := ih e3
    refine ⟨fun x hx => ?_, ?_⟩
    · rcases List.mem_cons.1 hx with q | q
      · subst q; exact ⟨blt_lt e2, e1⟩
      · obtain ⟨a, c⟩ := i1 x q; exact ⟨a, by omega⟩
    · rw [List.map_cons, List.nodup_cons]
      refine ⟨fun hm => ?_, i2⟩
      obtain ⟨x, hx, hb⟩ := List.mem_map.1 hm
      have := (i1 x hx).2
      simp only at hb
      omega

theorem keysL_spec : ∀ {es es' : List MapEntry} {ks : List (List UInt8)}, ER ρ es es' → keysL es = .ok ks → es'.map (·.key) = ks.map encStr ∧ ∀ s ∈ ks, s.length ≤ 100000 := by
  intro es es' ks h
  induction h generalizing ks with
  | nil => intro e; simp only [keysL] at e; cases e; exact ⟨rfl, fun s hs => by cases hs⟩
  | cons k k' v v' b l l' hk hv hl ih =>
    intro e
    cases k <;> try (simp [keysL] at e; done)
    rename_i s
    obtain ⟨⟨s⟩⟩ := s
    simp only [keysL] at e
    obtain ⟨e1, e2⟩ := bif_ok e
    obtain ⟨r, e3, e4⟩ := R.bnd_ok e2
    cases e4
    cases hk
    obtain ⟨i1, i2⟩ := ih e3
    refine ⟨by rw [List.map_cons, List.map_cons, i1], fun x hx => ?_⟩
    rcases List.mem_cons.1 hx with q | q
    · subst q; exact Nat.le_of_ble_eq_true e1
    · exact i2 x q

theorem sortedK_ok {f g : Nat} {K : TypeId} (hS : SortsKeys P f g K) {args : List Value} {v : Value} {m' : Mem} (e : sortedK g K args m = .ok (v, m')) {args' : List Value} (hm : MemR ρ m w) (ha : VRs ρ args args') :
    (callFunc f ⟨args'⟩).run P w = .ok (.enter f ⟨args'⟩) w ∧ Calls P f ⟨args'⟩ w (Ret ρ m w v m') := by
  refine ⟨hS.enters _ _, ?_⟩
  unfold sortedK at e
  split at e <;> try (cases e; done)
  rename_i m0 g' x
  obtain ⟨e1, e2⟩ := bif_ok e
  have := Nat.eq_of_beq_eq_true e1
  subst this
  obtain ⟨q, e3, e4⟩ := R.bnd_ok e2
  obtain ⟨p, e5, e6⟩ := R.bnd_ok e4
  unfold sortedM at e6
  obtain ⟨ks, e7, e8⟩ := R.bnd_ok e6
  obtain ⟨e9, f1⟩ := bif_ok e8
  obtain ⟨b1, b2⟩ := and_t e9
  obtain ⟨b2, b3⟩ := and_t b2
  have b2 := Nat.le_of_ble_eq_true b2
  -- what came in
  cases ha with
  | cons _ v1 _ l1 hv hl =>
  cases hl
  cases hv with
  | func f0 f0' a a' c c' hf hfa hfc =>
  cases hf
  cases hfa
  cases hfc with
  | cons _ c1 _ l2 hc hl2 =>
  cases hl2
  cases hc with
  | ptr _ _ px hpx =>
  -- the box
  have hbox : ∃ cel ro fz, m.get x = some (.cells [.map (some q)] cel none ro fz) := by
    unfold boxO at e3
    split at e3
    · rename_i q' el ro fz hx; cases e3; exact ⟨el, ro, fz, hx⟩
    · cases e3
  obtain ⟨cel, ro, fz, hbx⟩ := hbox
  obtain ⟨px', O, h1, h2, h3⟩ := hm.obj x _ hbx
  rw [hpx] at h1; cases h1
  obtain ⟨b, d, n, opn⟩ := px
  generalize ho : (none : Option Nat) = on at h3
  cases h3 with
  | cells c C el ro fz lo hi hn hd hc hf h0 =>
  simp only at ho h0 h2 hc hd hpx
  subst ho
  have hd0 : d = 0 := h0 rfl
  subst hd0
  obtain ⟨v', c1, c2⟩ := hc 0 _ rfl
  cases c2 with
  | map _ pq hpq =>
  have hcell : w.cell? ⟨b, 0, none⟩ = some (.map (some pq.b)) := by
    simp only [World.cell?, h2, Option.isSome_none, Bool.false_eq_true, if_false, List.getElem?_toArray]
    simpa using c1
  obtain ⟨_, es', g1, g2⟩ := mapO_ok hm e5 hpq
  obtain ⟨k1, k2⟩ := keysL_spec g2 e7
  obtain ⟨d1, d2⟩ := bornsOk_spec g2 b1
  have hnd : ks.Nodup := (sortL_perm ks).nodup_iff.1 (rises_nodup b3)
  have hlen : es'.length = ks.length := by
    have := congrArg List.length k1
    simpa using this
  have hlen2 : p.1.length = es'.length := g2.length
  -- the map as data
  have hrd : ∀ y ∈ es', ∃ s, y.key = encStr s ∧ s.length ≤ 100000 ∧ WideElems.rd P K (fun _ => some (.nil, [])) y = some (.string s, (.nil : DataW Unit)) := by
    intro y hy
    have : y.key ∈ es'.map (·.key) := List.mem_map.2 ⟨y, hy, rfl⟩
    rw [k1] at this
    obtain ⟨s, hs, hq⟩ := List.mem_map.1 this
    refine ⟨s, hq.symm, k2 s hs, ?_⟩
    obtain ⟨yk, yv, yb⟩ := y
    simp only at hq
    subst hq
    refine WideElems.rd_mk (yv := (.nil, [])) ?_ rfl
    have : s.length ≤ maxLen := by have := k2 s hs; unfold maxLen; omega
    simp [keyOf, mapKey, hS.und, encStr]
    exact this
  have hkeys : ∀ l : List MapEntry, (∀ y ∈ l, y ∈ es') → (l.map (WideElems.rg P K (fun _ => some ((.nil : DataW Unit), [])))).map (fun p => strOf p.1) = l.map (fun y => match y.key with | .string s => s.data.toList | _ => []) := by
    intro l
    induction l with
    | nil => intro _; rfl
    | cons y l ih =>
      intro hy
      obtain ⟨s, h1, h2, h3⟩ := hrd y (hy y (by simp))
      rw [List.map_cons, List.map_cons, List.map_cons, ih (fun z hz => hy z (by simp [hz])), WideElems.rg_of h3, h1]
      simp [strOf, encStr]
  have hks : es'.map (fun y => match y.key with | .string s => s.data.toList | _ => []) = ks := by
    have : es'.map (fun y => match y.key with | .string s => s.data.toList | _ => []) = (es'.map (·.key)).map (fun k => match k with | .string s => s.data.toList | _ => []) := by
      rw [List.map_map]; rfl
    rw [this, k1, List.map_map]
    have : ∀ l : List (List UInt8), l.map ((fun k => match k with | Value.string s => s.data.toList | _ => []) ∘ encStr) = l := by
      intro l
      induction l with
      | nil => rfl
      | cons s l ih => rw [List.map_cons, ih]; simp [encStr]
    exact this ks
  have hfit : WideElems.Fit P K (fun _ => some ((.nil : DataW Unit), [])) ⟨es'⟩ p.2 := by
    refine ⟨?_, ⟨fun y hy => (d1 y hy).1, d2, ?_⟩, fun y hy => ?_⟩
    · show es'.length ≤ maxLen
      unfold maxLen; omega
    · show (es'.map (·.key)).Nodup
      rw [k1]
      exact List.pairwise_map.2 (hnd.imp fun hne hq => hne (encStr_inj hq))
    · obtain ⟨s, _, _, h3⟩ := hrd y hy
      exact ⟨_, h3⟩
  have hown : w.ownsMap P K (fun _ => some ((.nil : DataW Unit), [])) pq.b es'.length (.map ((es'.map (WideElems.rg P K (fun _ => some ((.nil : DataW Unit), [])))).foldr DataW.insert [])) :=
    ⟨⟨es'⟩, p.2, g1, hfit, Nat.le_refl _, rfl⟩
  have hperm : (strKeys (.map ((es'.map (WideElems.rg P K (fun _ => some ((.nil : DataW Unit), [])))).foldr DataW.insert []))).Perm ks := by
    show ((((es'.map (WideElems.rg P K (fun _ => some ((.nil : DataW Unit), [])))).foldr DataW.insert [])).map fun p => strOf p.1).Perm ks
    have := (sort_perm (es'.map (WideElems.rg P K (fun _ => some ((.nil : DataW Unit), []))))).map (fun p => strOf p.1)
    rw [hkeys es' (fun _ h => h), hks] at this
    exact this
  have hsz : Maps.size (.map ((es'.map (WideElems.rg P K (fun _ => some ((.nil : DataW Unit), [])))).foldr DataW.insert [])) = es'.length := by
    show List.length _ = _
    rw [(sort_perm _).length_eq, List.length_map]
  have key := hS.gives b pq.b es'.length _ _ w (hm.lt _ _ hpx) hcell hown (by rw [hsz]; unfold maxLen; omega) (by rw [hsz]; omega)
  rw [Nat.zero_add]
  refine Calls.mono key fun en w' hr => ?_
  obtain ⟨rv, ss, rfl, s1, s2, s3, s4⟩ := hr
  have hsort : ss.mergeSort leB = sortL ks := sorted_eq (s1.trans hperm) b3
  rw [hsort] at s2
  have hsl : ss.length = (sortL ks).length := by rw [← hsort, List.length_mergeSort]
  cases hk : sortL ks with
  | nil =>
    rw [hk] at f1 hsl
    simp only [sortedV] at f1; cases f1
    have : ss = [] := List.eq_nil_of_length_eq_zero hsl
    have := s3.2 this
    subst this
    exact ⟨_, ρ, rfl, .snil 0 0, hm.below s4, .below s4⟩
  | cons k0 kr =>
    rw [hk] at f1 hsl s2
    simp only [sortedV, newS] at f1; cases f1
    rcases s2 with ⟨t0, ⟨rfl, t1⟩ | ⟨gb, cap, cur, rfl, t1, t2, t3, t4, t5, t6⟩⟩
    · rw [t1] at hsl; simp at hsl
    · have hcl : cur.toList.length = cap := by rw [Array.length_toList, t5, Nat.mul_one]
      have hO : OR (ρ.add m.next ⟨gb, 0, cap, some 1⟩) ⟨gb, 0, cap, some 1⟩ (.cells (strVs (k0 :: kr)) K (some 1) false 0) (.cells cur K (0, 0)) := by
        obtain ⟨cur⟩ := cur
        refine OR.cells (p := ⟨gb, 0, cap, some 1⟩) _ cur K false 0 0 0 hcl ?_ (fun i v hv => ?_) (.inr fun i _ _ q => absurd q.2 (Nat.not_lt_zero _)) (fun q => by cases q)
        · rw [strVs_length, ← hsl]; simpa using t3
        · refine ⟨v, ?_, strVs_vr hv⟩
          rw [strVs_eq, ← t6] at hv
          rw [Nat.zero_add]
          simp only [List.getElem?_take] at hv
          split at hv
          · exact hv
          · cases hv
      obtain ⟨z1, z2⟩ := hm.later s4 _ _ ⟨gb, 0, cap, some 1⟩ t1 t2 hO rfl
      refine ⟨_, _, rfl, ?_, z1, z2⟩
      have hkl : ss.length = kr.length + 1 := by rw [hsl]; rfl
      rw [hkl]
      refine .slice _ 0 _ _ ⟨gb, 0, cap, some 1⟩ 0 cap (Ren.add_same _ _ _) (Nat.le_refl _) ?_
      show (0 = 0 + 0 ∨ _) ∧ _ ∧ 0 ≤ 0 ∧ 0 + cap * 1 ≤ cap
      exact ⟨.inl rfl, by omega, Nat.le_refl _, by omega⟩
end
end Go.Sh

/-
  Entries without a Go body: what the shadow makes of them.
-/
namespace Go.Sh
open Go.RowKit

inductive ExtK where
  | index | compare

def idxB : List UInt8 → Nat → Nat → Int
  | [], _, _ => -1
  | b :: r, c, i => bif Nat.beq b.toNat c then (Int.ofNat i) else idxB r c (i + 1)
noncomputable def cmpB (a b : List UInt8) : Int := bif ltL a b then -1 else bif eqL a b then 0 else 1

noncomputable def extV : ExtK → List Value → R Value
  | .index, [.string ⟨⟨s⟩⟩, .int .u8 (.ofNat c)] => bif Nat.blt c 256 then .ok (.int .i64 (idxB s c 0)) else .no 190
  | .compare, [.string ⟨⟨a⟩⟩, .string ⟨⟨b⟩⟩] => .ok (.int .i64 (cmpB a b))
  | _, _ => .no 191
def extFn : ExtK → Array Value → Sem Value
  | .index => Extern.BytealgIndexByte.indexByte
  | .compare => Extern.BytealgCompare.compare
noncomputable def extO (k : Option ExtK) (args : List Value) : R Value := match k with
  | some k => extV k args
  | none => .no 192

theorem idxB_eq : ∀ (s : List UInt8) (c i : Nat), c < 256 → idxB s c i = if Lib.indexByte s c.toUInt8 = -1 then -1 else Lib.indexByte s c.toUInt8 + i := by
  intro s
  induction s with
  | nil => intro c i _; rfl
  | cons b r ih =>
    intro c i hc
    simp only [idxB, Lib.indexByte]
    cases hb : Nat.beq b.toNat c with
    | true =>
      have := Nat.eq_of_beq_eq_true hb
      have hbc : (b == c.toUInt8) = true := by
        rw [beq_iff_eq]
        apply UInt8.toNat_inj.1
        rw [this]
        simp [Nat.toUInt8]
        omega
      simp [hbc]
    | false =>
      have hbc : (b == c.toUInt8) = false := by
        rw [beq_eq_false_iff_ne]
        intro q
        subst q
        have : (c.toUInt8).toNat = c := by simp [Nat.toUInt8]; omega
        rw [this] at hb
        simp at hb
      rw [ih c (i + 1) hc]
      simp only [hbc, cond_false, Bool.false_eq_true, if_false]
      have hge := Lib.indexByte_ge r c.toUInt8
      by_cases h1 : Lib.indexByte r c.toUInt8 = -1
      · simp [h1]
      · have h2 : (Lib.indexByte r c.toUInt8 == -1) = false := by rw [beq_eq_false_iff_ne]; exact h1
        rw [if_neg h1, h2]
        simp only [Bool.false_eq_true, if_false]
        rw [if_neg (by omega)]
        push_cast
        omega

theorem cmpB_eq : ∀ (a b : List UInt8), cmpB a b = Lib.compareBytes a b := by
  intro a
  induction a with
  | nil => intro b; cases b <;> simp [cmpB, ltL, eqL, Lib.compareBytes]
  | cons x a ih =>
    intro b
    cases b with
    | nil => simp [cmpB, ltL, eqL, Lib.compareBytes]
    | cons y b =>
      have ih := ih b
      unfold cmpB at ih ⊢
      simp only [ltL, eqL, Lib.compareBytes]
      cases h1 : Nat.blt x.toNat y.toNat with
      | true =>
        have : x < y := UInt8.lt_iff_toNat_lt.2 (blt_lt h1)
        simp [this]
      | false =>
        have hge : ¬ x < y := fun q => by
          have := UInt8.lt_iff_toNat_lt.1 q
          have h2 : Nat.blt x.toNat y.toNat = true := by unfold Nat.blt; exact Nat.ble_eq_true_of_le this
          rw [h2] at h1; cases h1
        cases h2 : Nat.beq x.toNat y.toNat with
        | true =>
          have := UInt8.toNat_inj.1 (Nat.eq_of_beq_eq_true h2)
          subst this
          simp only [cond_true, cond_false, hge, if_false]
          exact ih
        | false =>
          have hne : x.toNat ≠ y.toNat := fun q => by rw [q] at h2; simp at h2
          have hgt : y < x := UInt8.lt_iff_toNat_lt.2 (by
            have : ¬ x.toNat < y.toNat := fun q => hge (UInt8.lt_iff_toNat_lt.2 q)
            omega)
          simp [hge, hgt]

/-- function f is an entry without a body -/
structure ExtAt (P : Program) (f : Nat) (k : ExtK) : Prop where
  is : ∃ fn, P.funcs[f]? = some fn ∧ (fn.name == "runtime.NumGoroutine") = false ∧ fn.body.isNone = true ∧ Extern.findNext fn = none ∧ Extern.find fn = some (extFn k)

section
variable {P : Program} {ρ : Ren}
theorem ext_call {f : Nat} {k : ExtK} (h : ExtAt P f k) {args : Array Value} {v : Value} {w : World} (he : (extFn k args).run P w = .ok v w) : (callFunc f args).run P w = .ok (.value v) w := by
  obtain ⟨fn, h1, h2, h3, h4, h5⟩ := h.is
  simp only [callFunc, Sem.run_bind, run_prog, Result.andThen_ok, h1, h2, h3, h4, h5, Bool.false_eq_true, if_false, if_true]
  simp [mark, Sem.run, he]

theorem extV_ok {f : Nat} {k : ExtK} (h : ExtAt P f k) {args : List Value} {v : Value} (e : extV k args = .ok v) {args' : List Value} (ha : VRs ρ args args') (w : World) : ∃ v', VR ρ v v' ∧ (callFunc f ⟨args'⟩).run P w = .ok (.value v') w := by
  unfold extV at e
  split at e <;> try (cases e; done)
  · rename_i s c
    obtain ⟨e1, e2⟩ := bif_ok e
    cases e2
    cases ha with
    | cons _ v1 _ l1 hv hl =>
    cases hl with
    | cons _ v2 _ l2 hv2 hl2 =>
    cases hl2
    cases hv
    cases hv2
    refine ⟨_, .int _ _, ext_call h ?_⟩
    show (Extern.BytealgIndexByte.indexByte #[.string ⟨⟨s⟩⟩, .int .u8 (Int.ofNat c)]).run P w = _
    rw [Lib.run_indexByteString, idxB_eq s c 0 (blt_lt e1)]
    show Result.ok (Value.int .i64 (Lib.indexByte s c.toUInt8)) w = _
    split
    · rename_i h1; rw [h1]
    · rw [Int.natCast_zero, Int.add_zero]
  · rename_i a b
    cases e
    cases ha with
    | cons _ v1 _ l1 hv hl =>
    cases hl with
    | cons _ v2 _ l2 hv2 hl2 =>
    cases hl2
    cases hv
    cases hv2
    refine ⟨_, .int _ _, ext_call h ?_⟩
    show (Extern.BytealgCompare.compare #[.string ⟨⟨a⟩⟩, .string ⟨⟨b⟩⟩]).run P w = _
    rw [Lib.run_compareString, cmpB_eq]

/-- functions taken by a contract: slices.Sorted over maps.Keys: its number, the iterator's, the keys' type -/
noncomputable def primO : Option (Nat × TypeId) → Option (List Value → Mem → R (Value × Mem))
  | some (g, K) => some (sortedK g K)
  | none => none

/-- an environment whole -/
theorem envOk_of {ex : Nat → Option ExtK} {pr : Nat → Option (Nat × TypeId)} {ng : Nat} (hn : namesOk P.funcs.toList = true) (hx : ∀ f k, ex f = some k → ExtAt P f k) (hp : ∀ f g K, pr f = some (g, K) → SortsKeys P f g K) (hm : P.follows .mixedOrders = true) :
    EnvOk P (envOf P (fun f => extO (ex f)) (fun f => primO (pr f)) ng) := by
  refine { toEnvTi := envOf_ti, fn := envOf_fn hn, ext := fun f args v e ρ args' w ha => ?_, prim := fun f p args m v m' h e ρ w args' hm' ha => ?_, mixed := hm }
  · have e : extO (ex f) args = .ok v := e
    cases hq : ex f with
    | none => rw [hq] at e; cases e
    | some k => rw [hq] at e; exact extV_ok (hx f k hq) e ha w
  · have h : primO (pr f) = some p := h
    cases hq : pr f with
    | none => rw [hq] at h; cases h
    | some gk =>
      obtain ⟨g, K⟩ := gk
      rw [hq] at h
      simp only [primO, Option.some.injEq] at h
      subst h
      exact sortedK_ok (hp f g K hq) e hm' ha
end
end Go.Sh
