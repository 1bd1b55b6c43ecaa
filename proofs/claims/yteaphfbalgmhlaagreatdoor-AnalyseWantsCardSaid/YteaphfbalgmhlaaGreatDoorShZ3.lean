/-
  PART OF A CLAIM's PROOF (ShZ3, ShZ4, ShZ5, ShZ6): a shadow of the machine, or what is shown by it.
-/
import Derived.Test.YteaphfbalgmhlaaGreatDoorShX
import Derived.Orders
set_option linter.unusedSimpArgs false
set_option linter.unusedVariables false
/-
  Regions that draw their order (3): operations that leave the world alone.
-/
namespace Go.Sh
open Go.RowKit

section
variable {ρ : Ren} {m : Mem} {w : World} {P : Program} {E : Env}

theorem still_of {v : Value} {s : Sem Value} (h : ∃ v', VR ρ v v' ∧ s.run P w = .ok v' w) : ∃ v', VR ρ v v' ∧ (do pure (.value (← s)) : Sem Next).run P w = .ok (.value v') w := by
  obtain ⟨v', a, b⟩ := h
  exact ⟨v', a, by simp only [Sem.run_bind, b, Result.andThen_ok, Sem.run_pure]⟩

/-- what only computes: whatever memory is -/
theorem execP_sim (hE : EnvOk P E) {o : Oper} {tm : T Value} {g : Operand → Value} {v : Value} {m' : Mem} (hp : isPure o.op = true) (e : execV o.op E tm m = .ok (.val v m'))
    (hg : ∀ x ∈ o.op.operands.toList, VR ρ (ev E tm x) (g x)) : ∃ v', VR ρ v v' ∧ (execOp g o).run P w = .ok (.value v') w := by
  have hT := hE.toEnvTi
  obtain ⟨dst, op, ty, pos, after, guard⟩ := o
  simp only at e hg hp
  cases op <;> try (simp [isPure] at hp; done)
  case move x =>
    simp only [execV] at e; cases e
    exact ⟨g x, hg x (by simp [Op.operands]), rfl⟩
  case assign x =>
    simp only [execV] at e; cases e
    exact ⟨g x, hg x (by simp [Op.operands]), rfl⟩
  case pick c a b =>
    simp only [execV] at e
    obtain ⟨v, e1, q⟩ := valR_ok e
    cases q
    obtain ⟨v', k1, k2⟩ := pick_sim (P := P) e1 (hg c (by simp [Op.operands])) (hg a (by simp [Op.operands])) (hg b (by simp [Op.operands])) w
    exact ⟨v', k1, k2⟩
  case build t ps =>
    simp only [execV] at e
    obtain ⟨i, e1, e2⟩ := R.bnd_ok e
    obtain ⟨z, e3, e4⟩ := R.bnd_ok e2
    obtain ⟨v, e5, q⟩ := valR_ok e4
    cases q
    obtain ⟨ps⟩ := ps
    have hp := evP_sim (ρ := ρ) (E := E) (tm := tm) (g := g) (l := ps) (fun x hx => hg x (by simpa [Op.operands] using hx))
    have key := build_sim hT e1 (need_ok e3) e5 hp w
    simp only [execOp, List.map_toArray]
    exact still_of key
  case nilCheck x =>
    simp only [execV] at e
    obtain ⟨v, e1, q⟩ := valR_ok e
    cases q
    have hx := hg x (by simp [Op.operands])
    obtain ⟨rfl, n1, n2, n3, n4⟩ := nilCheck_sim e1 hx
    refine ⟨g x, hx, ?_⟩
    simp only [execOp]
    rfl
  case binOp op t x y yt =>
    simp only [execV] at e
    obtain ⟨v, e1, q⟩ := valR_ok e
    cases q
    obtain ⟨k1, k2⟩ := binOpV_sim (P := P) hT e1 (hg x (by simp [Op.operands])) (hg y (by simp [Op.operands])) w
    exact still_of ⟨v, k1, k2⟩
  case unOp op t x =>
    simp only [execV] at e
    obtain ⟨v, e1, q⟩ := valR_ok e
    cases q
    obtain ⟨k1, k2⟩ := unOpV_sim (P := P) e1 (hg x (by simp [Op.operands])) w
    exact still_of ⟨v, k1, k2⟩
  case makeInterface t x =>
    simp only [execV] at e
    obtain ⟨td, e1, e2⟩ := R.bnd_ok e
    obtain ⟨v, e3, q⟩ := valR_ok e2
    cases q
    exact still_of (makeIface_sim hT e1 e3 (hg x (by simp [Op.operands])) w)
  case makeFunc f a c =>
    simp only [execV] at e
    obtain ⟨v, e1, q⟩ := valR_ok e
    cases q
    cases f <;> try (simp [makeFuncV] at e1; done)
    simp only [makeFuncV] at e1; cases e1
    obtain ⟨a⟩ := a
    obtain ⟨c⟩ := c
    have ha : VRs ρ (evL E tm a) (a.map g) := evL_sim fun x hx => hg x (by simp [Op.operands, hx])
    have hc : VRs ρ (evL E tm c) (c.map g) := evL_sim fun x hx => hg x (by simp [Op.operands, hx])
    simp only [execOp, List.map_toArray]
    exact still_of ⟨_, .func _ _ _ _ _ _ (.func _) ha hc, rfl⟩
  case fieldAddr t x f =>
    simp only [execV] at e
    obtain ⟨td, e1, e2⟩ := R.bnd_ok e
    obtain ⟨fd, e3, e4⟩ := R.bnd_ok e2
    obtain ⟨a, e5, e6⟩ := R.bnd_ok e4
    obtain ⟨hz, e7⟩ := bif_ok' e6
    cases e7
    exact still_of (fieldAddr_sim hT e1 e3 e5 hz (hg x (by simp [Op.operands])) w)
  case field t x f =>
    simp only [execV] at e
    obtain ⟨td, e1, e2⟩ := R.bnd_ok e
    obtain ⟨fd, e3, e4⟩ := R.bnd_ok e2
    obtain ⟨v, e5, q⟩ := valR_ok e4
    cases q
    exact still_of (field_sim hT e1 e3 e5 (hg x (by simp [Op.operands])) w)
  case indexAddr t x i =>
    simp only [execV] at e
    obtain ⟨td, e1, e2⟩ := R.bnd_ok e
    obtain ⟨n, e3, e4⟩ := R.bnd_ok e2
    obtain ⟨v, e5, q⟩ := valR_ok e4
    cases q
    exact still_of (indexAddr_sim hT e1 e3 e5 (hg x (by simp [Op.operands])) (hg i (by simp [Op.operands])) w)
  case index t x i =>
    simp only [execV] at e
    obtain ⟨td, e1, e2⟩ := R.bnd_ok e
    obtain ⟨n, e3, e4⟩ := R.bnd_ok e2
    obtain ⟨v, e5, q⟩ := valR_ok e4
    cases q
    exact still_of (index_sim hT e1 e3 e5 (hg x (by simp [Op.operands])) (hg i (by simp [Op.operands])) w)
  case typeAssert x s t ok =>
    simp only [execV] at e
    obtain ⟨td, e1, e2⟩ := R.bnd_ok e
    obtain ⟨v, e3, q⟩ := valR_ok e2
    cases q
    exact still_of (typeAssert_sim hT e1 e3 (hg x (by simp [Op.operands])) w)
  case extract x i =>
    simp only [execV] at e
    obtain ⟨v, e3, q⟩ := valR_ok e
    cases q
    exact still_of (extract_sim e3 (hg x (by simp [Op.operands])) w)
  case call c =>
    obtain ⟨c, ⟨args⟩, ⟨ts⟩⟩ := c
    cases c <;> try (simp [isPure] at hp; done)
    rename_i b
    have ha : VRs ρ (evL E tm args) (args.map g) := evL_sim fun x hx => hg x (by simpa [Op.operands, Call.operands] using hx)
    cases b <;> try (simp [isPure] at hp; done)
    case max =>
      simp only [execV, callC, builtinV] at e
      obtain ⟨v, e1, q⟩ := valR_ok e
      cases q
      simp only [execOp, resolve, Sem.run_bind, Sem.run_pure, Result.andThen_ok, invoke, List.map_toArray]
      exact still_of (max_sim e1 ha)
    case min =>
      simp only [execV, callC, builtinV] at e
      obtain ⟨v, e1, q⟩ := valR_ok e
      cases q
      simp only [execOp, resolve, Sem.run_bind, Sem.run_pure, Result.andThen_ok, invoke, List.map_toArray]
      exact still_of (min_sim e1 ha)

/-- what only reads -/
theorem execR_sim (hE : EnvOk P E) (h : MemR ρ m w) {o : Oper} {tm : T Value} {g : Operand → Value} {v : Value} {m' : Mem} (hp : isRead o.op = true) (e : execV o.op E tm m = .ok (.val v m'))
    (hg : ∀ x ∈ o.op.operands.toList, VR ρ (ev E tm x) (g x)) : ∃ v', VR ρ v v' ∧ (execOp g o).run P w = .ok (.value v') w := by
  have hT := hE.toEnvTi
  obtain ⟨dst, op, ty, pos, after, guard⟩ := o
  simp only at e hg hp
  cases op <;> try (simp [isRead] at hp; done)
  case load t a =>
    simp only [execV] at e
    obtain ⟨ad, e1, e2⟩ := R.bnd_ok e
    obtain ⟨v, e3, q⟩ := valR_ok e2
    cases q
    have ha := hg a (by simp [Op.operands])
    rw [addrOf_ok e1] at ha
    obtain ⟨p, q1, q2, q3⟩ := addr_inv ha
    obtain ⟨v', k1, k2⟩ := loadV_sim hT h e3 q1 q2
    simp only [execOp, q3]
    exact still_of ⟨v', k1, by simp only [Instr.loadAt, Sem.run_bind, sureAddr_run, Result.andThen_ok, k2]⟩
  case lookup t x i ok =>
    simp only [execV] at e
    obtain ⟨td, e1, e2⟩ := R.bnd_ok e
    obtain ⟨v, e3, q⟩ := valR_ok e2
    cases q
    exact still_of (lookup_sim hT h e1 e3 (hg x (by simp [Op.operands])) (hg i (by simp [Op.operands])))
  case slice t x lo hi mx =>
    simp only [execV] at e
    obtain ⟨td, e1, e2⟩ := R.bnd_ok e
    obtain ⟨v, e3, q⟩ := valR_ok e2
    cases q
    exact still_of (sliceV_sim hT h e1 e3 (hg x (by simp [Op.operands])) (oev_sim fun y hy => hg y (by cases hy; simp [Op.operands])) (oev_sim fun y hy => hg y (by cases hy; simp [Op.operands])) (oev_sim fun y hy => hg y (by cases hy; simp [Op.operands])))
  case call c =>
    obtain ⟨c, ⟨args⟩, ⟨ts⟩⟩ := c
    cases c <;> try (simp [isRead] at hp; done)
    rename_i b
    have ha : VRs ρ (evL E tm args) (args.map g) := evL_sim fun x hx => hg x (by simpa [Op.operands, Call.operands] using hx)
    cases b <;> try (simp [isRead] at hp; done)
    case len =>
      simp only [execV, callC, builtinV] at e
      obtain ⟨v, e1, q⟩ := valR_ok e
      cases q
      obtain ⟨a, c⟩ := len_sim (ty := ty) hT h e1 ha
      simp only [execOp, resolve, Sem.run_bind, Sem.run_pure, Result.andThen_ok, invoke, List.map_toArray]
      exact still_of ⟨_, a, c⟩
    case cap =>
      simp only [execV, callC, builtinV] at e
      obtain ⟨v, e1, q⟩ := valR_ok e
      cases q
      obtain ⟨a, c⟩ := cap_sim (ty := ty) hT h e1 ha
      simp only [execOp, resolve, Sem.run_bind, Sem.run_pure, Result.andThen_ok, invoke, List.map_toArray]
      exact still_of ⟨_, a, c⟩
end

/-! what reads is the same where 'next' alone is another -/
section
variable {E : Env}
theorem loadC_next (n n' : Nat) (t : T AO) (a : Addr) (k : Nat) : loadC ⟨n, t⟩ a k = loadC ⟨n', t⟩ a k := by
  obtain ⟨x, o, s⟩ := a
  cases s <;> rfl
theorem loadV_next (n n' : Nat) (t : T AO) (ty : TypeId) (a : Addr) : loadV E ⟨n, t⟩ ty a = loadV E ⟨n', t⟩ ty a := by
  unfold loadV
  simp only [loadC_next n n' t]
theorem entriesOf_next (n n' : Nat) (t : T AO) (x : Value) : entriesOf ⟨n, t⟩ x = entriesOf ⟨n', t⟩ x := by
  cases x <;> try rfl
  rename_i r
  cases r <;> rfl
theorem lookupD_next (n n' : Nat) (t : T AO) (td : TD) (x i : Value) (ok : Bool) : lookupD E ⟨n, t⟩ td x i ok = lookupD E ⟨n', t⟩ td x i ok := by
  cases td <;> try rfl
  simp only [lookupD, entriesOf_next n n' t]
theorem sliceS_next (n n' : Nat) (t : T AO) (e : TypeId) (a : Option Addr) (len cap : Nat) (lo hi mx : Option Value) : sliceS E ⟨n, t⟩ e a len cap lo hi mx = sliceS E ⟨n', t⟩ e a len cap lo hi mx := by
  cases a <;> cases mx <;> first | rfl | (cases hi <;> rfl)
theorem sliceD_next (n n' : Nat) (t : T AO) (td : TD) (x : Value) (lo hi mx : Option Value) : sliceD E ⟨n, t⟩ td x lo hi mx = sliceD E ⟨n', t⟩ td x lo hi mx := by
  cases td <;> cases x <;> cases mx <;> try rfl
  all_goals exact sliceS_next _ _ _ _ _ _ _ _ _ _
theorem lenBV_next (n n' : Nat) (t : T AO) (ts : List TypeId) (args : List Value) : lenBV E ⟨n, t⟩ ts args = lenBV E ⟨n', t⟩ ts args := by
  have h : ∀ td x, lenD ⟨n, t⟩ td x = lenD ⟨n', t⟩ td x := by
    intro td x
    cases td <;> cases x <;> try rfl
    all_goals (simp only [lenD, entriesOf_next n n' t])
  cases ts with
  | nil => rfl
  | cons ty ts => cases args with
    | nil => rfl
    | cons x r => cases r with
      | nil => simp only [lenBV, h]
      | cons => rfl
theorem capV_next (n n' : Nat) (t : T AO) (ts : List TypeId) (args : List Value) : capV E ⟨n, t⟩ ts args = capV E ⟨n', t⟩ ts args := by
  have h : ∀ td x, capD ⟨n, t⟩ td x = capD ⟨n', t⟩ td x := by
    intro td x
    cases td <;> cases x <;> try rfl
    all_goals (rename_i a _ _; cases a <;> rfl)
  cases ts with
  | nil => rfl
  | cons ty ts => cases args with
    | nil => rfl
    | cons x r => cases r with
      | nil => simp only [capV, h]
      | cons => rfl

theorem valR_next {m m' : Mem} {r : R Value} {v : Value} {m1 : Mem} (e : valR m r = .ok (.val v m1)) : valR m' r = .ok (.val v m') := by
  obtain ⟨u, a, b⟩ := valR_ok e
  cases b
  rw [a]; rfl

theorem execR_next {o : Op} {tm : T Value} {v : Value} {n n' : Nat} {t : T AO} {m' : Mem} (hp : isRead o = true) (e : execV o E tm ⟨n, t⟩ = .ok (.val v m')) : execV o E tm ⟨n', t⟩ = .ok (.val v ⟨n', t⟩) := by
  cases o <;> try (simp [isRead] at hp; done)
  case load ty a =>
    simp only [execV] at e ⊢
    obtain ⟨ad, e1, e2⟩ := R.bnd_ok e
    rw [e1]
    rw [loadV_next n n' t] at e2
    exact valR_next e2
  case lookup ty x i ok =>
    simp only [execV] at e ⊢
    obtain ⟨td, e1, e2⟩ := R.bnd_ok e
    rw [e1]
    rw [lookupD_next n n' t] at e2
    exact valR_next e2
  case slice ty x lo hi mx =>
    simp only [execV] at e ⊢
    obtain ⟨td, e1, e2⟩ := R.bnd_ok e
    rw [e1]
    rw [sliceD_next n n' t] at e2
    exact valR_next e2
  case call c =>
    obtain ⟨c, ⟨args⟩, ⟨ts⟩⟩ := c
    cases c <;> try (simp [isRead] at hp; done)
    rename_i b
    cases b <;> try (simp [isRead] at hp; done)
    case len =>
      simp only [execV, callC, builtinV] at e ⊢
      rw [lenBV_next n n' t] at e
      exact valR_next e
    case cap =>
      simp only [execV, callC, builtinV] at e ⊢
      rw [capV_next n n' t] at e
      exact valR_next e

theorem readIs_ok {o : Oper} {tm : T Value} {v : Value} {m : Mem} (h : readIs E o tm v m = true) : ∃ m', execV o.op E tm m = .ok (.val v m') := by
  unfold readIs at h
  split at h
  · rename_i v' m' e
    rw [vEq_sound _ _ _ h]
    exact ⟨m', e⟩
  · cases h

theorem pastOk_spec {bs : List (List Nat)} {i : Nat} {o : Oper} {tm : T Value} {v : Value} : ∀ {l : List (Nat × Mem)}, pastOk E bs i o tm v l = true → ∀ e m, (e, m) ∈ l → mem e (nthD bs i) = false → readIs E o tm v m = true := by
  intro l
  induction l with
  | nil => intro _ e m h; cases h
  | cons x l ih =>
    intro h e m hm hn
    obtain ⟨e', m'⟩ := x
    simp only [pastOk, Bool.or_eq_true, Bool.and_eq_true] at h
    rcases List.mem_cons.1 hm with q | q
    · cases q
      rcases h.1 with h | h
      · rw [hn] at h; cases h
      · exact h
    · exact ih h.2 e m q hn

theorem laterOk_spec {bs : List (List Nat)} {e : Nat} {m : Mem} : ∀ {l : List (Nat × Oper × T Value × Value)}, laterOk E bs e m l = true → ∀ i o tm v, (i, o, tm, v) ∈ l → mem i (nthD bs e) = false → readIs E o tm v m = true := by
  intro l
  induction l with
  | nil => intro _ i o tm v h; cases h
  | cons x l ih =>
    intro h i o tm v hm hn
    obtain ⟨i', o', tm', v'⟩ := x
    simp only [laterOk, Bool.or_eq_true, Bool.and_eq_true] at h
    rcases List.mem_cons.1 hm with q | q
    · cases q
      rcases h.1 with h | h
      · rw [hn] at h; cases h
      · exact h
    · exact ih h.2 i o tm v q hn
end
end Go.Sh

/-
  Regions that draw their order (4): what holds when a part of the operations is done.
-/
namespace Go.Sh
open Go.RowKit

theorem below_fresh {ρ : Ren} {m : Mem} {w : World} (h : MemR ρ m w) : ρ.below m.next = ρ := by
  funext x
  unfold Ren.below
  by_cases hx : x < m.next
  · rw [if_pos hx]
  · rw [if_neg hx, h.fresh x (by omega)]
def Ren.mid (ρ ρ₁ : Ren) (a b : Nat) : Ren := fun x => if a ≤ x ∧ x < b then ρ₁ x else ρ x
theorem mid_below {ρ ρ₁ : Ren} {a b : Nat} (_ : a ≤ b) (hle : (ρ.below a).le ρ₁) (hnew : ∀ x p, ρ₁ x = some p → x < a → ρ.below a x = some p) (hfresh : ∀ x, b ≤ x → ρ₁ x = none) : (ρ.mid ρ₁ a b).below b = ρ₁ := by
  funext x
  unfold Ren.below Ren.mid
  by_cases hb : x < b
  · rw [if_pos hb]
    by_cases ha : a ≤ x
    · rw [if_pos ⟨ha, hb⟩]
    · rw [if_neg (fun q => ha q.1)]
      have hxa : x < a := by omega
      cases h1 : ρ₁ x with
      | some p => exact (below_some.1 (hnew x p h1 hxa)).2
      | none =>
        cases h2 : ρ x with
        | none => rfl
        | some p => rw [hle x p (below_some.2 ⟨hxa, h2⟩)] at h1; cases h1
  · rw [if_neg hb, hfresh x (by omega)]
theorem mid_le {ρ ρ₁ : Ren} {a b : Nat} (h : ∀ x, a ≤ x → x < b → ρ x = none) : ρ.le (ρ.mid ρ₁ a b) := by
  intro x p e
  unfold Ren.mid
  by_cases hx : a ≤ x ∧ x < b
  · rw [h x hx.1 hx.2] at e; cases e
  · rw [if_neg hx]; exact e

section
variable {P : Program} {E : Env} {run : AM → R (Value × Mem)} {ops : Array Oper} {nt : Nat} {tm : T Value} {m : Mem} {f : Nat → Dr}

/-- an allocation that no effect has needed yet -/
def Loose (ops : Array Oper) (f : Nat → Dr) (D : Nat → Prop) (i : Nat) : Prop := D i ∧ ∀ e, D e → Eff ops f e → mem i (ahead ops e) = false

def also (D : Nat → Prop) (j : Nat) : Nat → Prop := fun i => D i ∨ i = j

structure InvT (ops : Array Oper) (nt : Nat) (f : Nat → Dr) (D : Nat → Prop) (ρ : Ren) (tmps : Array Value) : Prop where
  tsize : tmps.size = nt
  tmD : ∀ i o t, D i → ops.toList[i]? = some o → o.dst = some t → VR (ρ.below (f (i + 1)).m.next) ((f (i + 1)).tm.at t) (tmps.getD t undef)
  tm0 : ∀ t, (∀ i o, D i → ops.toList[i]? = some o → o.dst ≠ some t) → VR (ρ.below (f 0).m.next) ((f 0).tm.at t) (tmps.getD t undef)

structure Inv (E : Env) (ops : Array Oper) (nt : Nat) (f : Nat → Dr) (ρ₀ : Ren) (m₀ : Mem) (w₀ : World) (D : Nat → Prop) (c : Nat) (ρ : Ren) (w : World) (tmps : Array Value) : Prop where
  dlt : ∀ i, D i → i < ops.toList.length
  down : ∀ i k, D i → mem k (ahead ops i) = true → D k
  c_le : c ≤ ops.toList.length
  c_in : ∀ e, e < c → Eff ops f e → D e
  c_out : ∀ e, D e → Eff ops f e → e < c
  c_is : c = 0 ∨ ∃ e, c = e + 1 ∧ Eff ops f e ∧ D e
  main : MemR (ρ.below (f c).m.next) (f c).m w
  lt : ∀ x p, ρ x = some p → p.b < w.heap.size
  dom : ∀ x p, ρ x = some p → x < (f 0).m.next ∨ ∃ i, D i ∧ (f i).m.next ≤ x ∧ x < (f (i + 1)).m.next
  pend : ∀ i ao, Loose ops f D i → Al E ops f i ao → ∃ p O, ρ (f i).m.next = some p ∧ w.heap[p.b]? = some O ∧ OR (ρ.below ((f i).m.next + 1)) p ao O ∧ ao.isRo = false ∧ w₀.heap.size ≤ p.b ∧ ∀ y o q, (f c).m.get y = some o → ρ y = some q → q.b ≠ p.b
  pend2 : ∀ i j ao ao' p q, Loose ops f D i → Al E ops f i ao → Loose ops f D j → Al E ops f j ao' → i ≠ j → ρ (f i).m.next = some p → ρ (f j).m.next = some q → p.b ≠ q.b
  t : InvT ops nt f D ρ tmps
  le : ρ₀.le ρ
  os : w.os = w₀.os
  tape : w.tape = w₀.tape
  output : w.output = w₀.output
  size : w₀.heap.size ≤ w.heap.size
  keep : ∀ b, b < w₀.heap.size → ¬ Owns ρ₀ m₀ b → w.heap[b]? = w₀.heap[b]?
  own : ∀ b, Owns (ρ.below (f c).m.next) (f c).m b → b < w₀.heap.size → Owns ρ₀ m₀ b
  new : ∀ x p, ρ x = some p → x < (f 0).m.next → ρ₀ x = some p
  ro : ∀ x o, (f c).m.get x = some o → o.isRo = true → m₀.get x = some o

theorem putA_size (d : Option Tmp) (v : Value) (tmps : Array Value) : (putA d v tmps).size = tmps.size := by cases d <;> simp [putA]
theorem putA_same {d : Tmp} (v : Value) {tmps : Array Value} (h : d < tmps.size) : (putA (some d) v tmps).getD d undef = v := by
  simp [putA, Array.getD_eq_getD_getElem?, h]
theorem putA_other {d : Option Tmp} {t : Tmp} (v : Value) {tmps : Array Value} (h : d ≠ some t) : (putA d v tmps).getD t undef = tmps.getD t undef := by
  cases d with
  | none => rfl
  | some d =>
    have hne : d ≠ t := fun q => h (by rw [q])
    simp [putA, Array.getD_eq_getD_getElem?, hne]

section
variable {D : Nat → Prop} {ρ ρ' : Ren} {tmps : Array Value} {j : Nat} {o : Oper}

theorem InvT.step (hok : regionOk ops.toList = true) (h : InvT ops nt f D ρ tmps) (ho : ops.toList[j]? = some o) (hnd : ¬ D j) (hle : ρ.le ρ') {v v' : Value} (ht : putT o.dst v nt (f j).tm = .ok (f (j + 1)).tm)
    (hv : VR (ρ'.below (f (j + 1)).m.next) v v') : InvT ops nt f (also D j) ρ' (putA o.dst v' tmps) where
  tsize := by rw [putA_size]; exact h.tsize
  tmD i o' t hi ho' hd := by
    rcases hi with hi | hi
    · have hne : o.dst ≠ some t := fun q => hnd (by rw [ok_once hok ho' hd ho q] ; exact hi)
      rw [putA_other _ hne]
      exact (h.tmD i o' t hi ho' hd).mono (below_mono hle (Nat.le_refl _))
    · subst hi
      rw [ho] at ho'; cases ho'
      rw [putT_at ht t, if_pos hd]
      rw [hd] at ht ⊢
      rw [putA_same _ (by rw [h.tsize]; exact putT_lt ht)]
      exact hv
  tm0 t hn := by
    have hne : o.dst ≠ some t := hn j o (.inr rfl) ho
    rw [putA_other _ hne]
    exact (h.tm0 t fun i o' hi => hn i o' (.inl hi)).mono (below_mono hle (Nat.le_refl _))

theorem InvT.at_ (hx : Tx E run ops nt tm m f) (h : InvT ops nt f D ρ tmps) (hj : j < ops.toList.length) {t : Tmp}
    (hw : ∀ i o', ops.toList[i]? = some o' → o'.dst = some t → (i < j → D i) ∧ (D i → i < j)) : VR (ρ.below (f j).m.next) ((f j).tm.at t) (tmps.getD t undef) := by
  by_cases hex : ∃ i o', D i ∧ ops.toList[i]? = some o' ∧ o'.dst = some t
  · obtain ⟨i, o', hi, ho', hd⟩ := hex
    have hij := (hw i o' ho' hd).2 hi
    rw [hx.tm_stays (i := i + 1) (j := j) hij (by omega) fun k o2 h1 h2 h3 h4 => by have := ok_once hx.ok h3 h4 ho' hd; omega]
    exact (h.tmD i o' t hi ho' hd).mono (below_mono (.refl _) (hx.next_le hij (by omega)))
  · rw [hx.tm_stays (i := 0) (j := j) (by omega) (by omega) fun k o2 _ h2 h3 h4 => hex ⟨k, o2, (hw k o2 h3 h4).1 h2, h3, h4⟩]
    exact (h.tm0 t fun i o' hi ho' hd => hex ⟨i, o', hi, ho', hd⟩).mono (below_mono (.refl _) (hx.next_le (Nat.zero_le _) (by omega)))

theorem InvT.ev (hx : Tx E run ops nt tm m f) (h : InvT ops nt f D ρ tmps) (hdown : ∀ i k, D i → mem k (ahead ops i) = true → D k) (hdlt : ∀ i, D i → i < ops.toList.length) (ho : ops.toList[j]? = some o) (hnd : ¬ D j)
    (had : ∀ k, mem k (ahead ops j) = true → D k) (hg : GlobR (ρ.below (f j).m.next) E.ng) {fr : Frame} (hfr : fr.tmps = tmps) : ∀ x ∈ o.op.operands.toList, VR (ρ.below (f j).m.next) (ev E (f j).tm x) (fr.eval x) := by
  have hj : j < ops.toList.length := (List.getElem?_eq_some_iff.1 ho).1
  intro x hxo
  cases x with
  | const v => exact cst_vr _ v
  | func g => exact .func _ _ _ _ _ _ (.func g) .nil .nil
  | global g =>
    simp only [Sh.ev, Frame.eval]
    cases hlt : Nat.blt g E.ng with
    | true =>
      obtain ⟨p, h1, h2, h3⟩ := hg g (blt_lt hlt)
      have := VR.ptr (ρ := ρ.below (f j).m.next) g 0 p h1
      rw [h2, h3] at this
      exact this
    | false => exact .top _
  | tmp t =>
    show VR _ ((f j).tm.at t) (fr.tmps.getD t undef)
    rw [hfr]
    refine h.at_ hx hj fun i o' ho' hd => ?_
    rcases ok_writers hx.ok ho hxo ho' hd with q | q | ⟨q, q2⟩
    · subst q; exact ⟨fun q => by omega, fun q => absurd q hnd⟩
    · exact ⟨fun _ => had i q, fun _ => ahead_lt hx.ok q⟩
    · exact ⟨fun q3 => by omega, fun hi => absurd (hdown i j hi q) hnd⟩

theorem wanted_sim1 {ρ : Ren} {tm : T Value} {tmps : Array Value} {ops : Array Oper} {o : Oper} {q : Bool} (h : ∀ g b o' d, o.guard = some (g, b) → ops.toList[g]? = some o' → o'.dst = some d → VR ρ (tm.at d) (tmps.getD d undef))
    (e : wantedL o.guard ops tm = .ok q) : Region.wanted o (yielded ops tmps) = q := by
  unfold Region.wanted
  cases hg : o.guard with
  | none => rw [hg] at e; simp only [wantedL] at e; cases e; rfl
  | some jw =>
    obtain ⟨j, want⟩ := jw
    rw [hg] at e
    simp only [wantedL] at e
    obtain ⟨y, e1, e2⟩ := R.bnd_ok e
    cases e2
    have hy : yielded ops tmps j = y := by
      unfold yieldedL dstOf at e1
      rw [nthO_eq] at e1
      unfold yielded
      rw [← Array.getElem?_toList]
      cases ho : ops.toList[j]? with
      | none => rw [ho] at e1; simp only [dstO] at e1; cases e1; rfl
      | some o' =>
        rw [ho] at e1
        simp only [dstO] at e1
        simp only [Option.bind_some]
        cases hd : o'.dst with
        | none => rw [hd] at e1; cases e1; rfl
        | some d =>
          rw [hd] at e1
          simp only at e1
          simp only [Option.bind_some]
          have hat := h j want o' d hg ho hd
          unfold T.at at hat
          rw [Array.getD_eq_getD_getElem?] at hat
          cases hx : tm.get d with
          | none =>
            rw [hx] at hat e1
            simp only [asB] at e1; cases e1
            simp only at hat
            cases ht : tmps[d]? with
            | none => rfl
            | some v =>
              rw [ht] at hat
              simp only [Option.getD_some] at hat
              cases hat
              rfl
          | some v =>
            rw [hx] at hat e1
            simp only at hat
            cases ht : tmps[d]? with
            | none =>
              rw [ht] at hat
              simp only [Option.getD_none, undef] at hat
              cases hat
              · simp only [asB] at e1; cases e1; rfl
              · simp [asB] at e1
            | some v' =>
              rw [ht] at hat
              simp only [Option.getD_some] at hat
              cases hat <;> simp only [asB] at e1 <;> first | (cases e1; rfl) | (cases e1; done)
    show (yielded ops tmps j == some want) = isB y want
    rw [hy]
    cases y with
    | none => rfl
    | some b => simp [isB]

theorem InvT.wanted (hx : Tx E run ops nt tm m f) (h : InvT ops nt f D ρ tmps) (hdown : ∀ i k, D i → mem k (ahead ops i) = true → D k) (hdlt : ∀ i, D i → i < ops.toList.length) (ho : ops.toList[j]? = some o)
    (had : ∀ k, mem k (ahead ops j) = true → D k) {q : Bool} (e : wantedL o.guard ops (f j).tm = .ok q) : Region.wanted o (yielded ops tmps) = q := by
  have hj : j < ops.toList.length := (List.getElem?_eq_some_iff.1 ho).1
  refine wanted_sim1 (ρ := ρ.below (f j).m.next) (fun g b o' d hg ho' hd => ?_) e
  have hgm := ok_guard hx.ok ho hg
  refine h.at_ hx hj fun i o2 h2 hd2 => ?_
  have := ok_once hx.ok ho' hd h2 hd2
  subst this
  exact ⟨fun _ => had _ hgm, fun _ => ahead_lt hx.ok hgm⟩
end

/-! the machine's steps -/
section
variable {fn : FuncId} {tmps : Array Value} {k : List Item} {ds : List Deferred} {kd : CallKind} {ro : Option Nat} {fs : List Frame} {is : List Nat} {i : Nat} {o : Oper} {w w' : World} {ρ : Ren}

def regF (fn : FuncId) (tmps : Array Value) (ops : Array Oper) (is : List Nat) (k : List Item) (ds : List Deferred) (kd : CallKind) (ro : Option Nat) : Frame := ⟨fn, tmps, .inRegion ops is :: k, ds, .run, kd, ro⟩

theorem mv_skip1 (ho : ops[i]? = some o) (hw : Region.wanted o (yielded ops tmps) = false) :
    Go.step P (lone (regF fn tmps ops (i :: is) k ds kd ro) fs w) = .next (lone (regF fn (putA o.dst undef tmps) ops is k ds kd ro) fs w) := by
  unfold regF
  rw [stepG_skipOp ho hw, finish_region rfl ho]

theorem mv_op1 (ho : ops[i]? = some o) (hw : Region.wanted o (yielded ops tmps) = true) (hnd : ∀ c, o.op ≠ .defer c) {f' : Frame} {fs' : List Frame}
    (h : (stepG.apply P true (regF fn tmps ops (i :: is) k ds kd ro) fs none (execOp (regF fn tmps ops (i :: is) k ds kd ro).eval o) w).bare = .go (gor f' fs') w') :
    Go.step P (lone (regF fn tmps ops (i :: is) k ds kd ro) fs w) = .next (lone f' fs' w') := by
  refine step_of ?_
  unfold regF at h ⊢
  rw [stepG_op ho hw (.inr hnd)]
  exact h

theorem mv_still1 (ho : ops[i]? = some o) (hw : Region.wanted o (yielded ops tmps) = true) (hnd : ∀ c, o.op ≠ .defer c) {v' : Value} (h : (execOp (regF fn tmps ops (i :: is) k ds kd ro).eval o).run P w = .ok (.value v') w') :
    Go.step P (lone (regF fn tmps ops (i :: is) k ds kd ro) fs w) = .next (lone (regF fn (putA o.dst v' tmps) ops is k ds kd ro) fs w') := by
  rw [mv_op1 ho hw hnd (apply_value h)]
  unfold regF
  rw [finish_region rfl ho]

theorem mv_outs1 (ho : ops[i]? = some o) (hw : Region.wanted o (yielded ops tmps) = true) (hnd : ∀ c, o.op ≠ .defer c) {m m' : Mem} {v : Value} (h : Outs P ρ m w (.val v m') ((execOp (regF fn tmps ops (i :: is) k ds kd ro).eval o).run P w)) :
    ∃ v' ρ' w', Steps P (lone (regF fn tmps ops (i :: is) k ds kd ro) fs w) (lone (regF fn (putA o.dst v' tmps) ops is k ds kd ro) fs w') ∧ VR ρ' v v' ∧ MemR ρ' m' w' ∧ Ext ρ m w ρ' m' w' := by
  have hf : ∀ u, Frame.finish (regF fn tmps ops (i :: is) k ds kd ro) u = regF fn (putA o.dst u tmps) ops is k ds kd ro := fun u => finish_region rfl ho u
  rcases h with ⟨v', ρ', w', h1, h2, h3, h4⟩ | ⟨g, args, h1, h2⟩
  · refine ⟨v', ρ', w', ?_, h2, h3, h4⟩
    rcases h1 with h1 | ⟨h1, rfl⟩
    · refine .one ?_
      rw [mv_op1 ho hw hnd (apply_value h1), hf]
    · refine .one ?_
      rw [mv_op1 ho hw hnd (apply_skip h1), hf]
  · have hstep := mv_op1 (fs := fs) ho hw hnd (apply_enter h1 (fun d a b c k q => by cases q))
    obtain ⟨en, w', frE, ⟨v', ρ', rfl, h3, h4, h5⟩, hc, hfn, hl⟩ := h2 (regF fn tmps ops (i :: is) k ds kd ro :: fs)
    have hl' := step_leave_returned (c := regF fn tmps ops (i :: is) k ds kd ro) (cs := fs) hl
    rw [hf] at hl'
    exact ⟨v', ρ', w', ((Steps.one hstep).trans hc).trans (.one hl'), h3, h4, h5⟩

theorem mv_enter1 (hE : EnvOk P E) (hr : RunOk P E run) (ho : ops[i]? = some o) (hw : Region.wanted o (yielded ops tmps) = true) (hnd : ∀ c, o.op ≠ .defer c) {m m1 m' : Mem} {v : Value} {g : FuncId} {args : List Value} {a : AF}
    (h : Outs P ρ m w (.enter g args m1) ((execOp (regF fn tmps ops (i :: is) k ds kd ro).eval o).run P w)) (he : enterF E g args .normal = .ok a) (hrun : run ⟨a, [], m1⟩ = .ok (v, m')) (hm : MemR ρ m w) (hg : GlobR ρ E.ng) :
    ∃ v' ρ' w', Steps P (lone (regF fn tmps ops (i :: is) k ds kd ro) fs w) (lone (regF fn (putA o.dst v' tmps) ops is k ds kd ro) fs w') ∧ VR ρ' v v' ∧ MemR ρ' m' w' ∧ Ext ρ m w ρ' m' w' := by
  have hf : ∀ u, Frame.finish (regF fn tmps ops (i :: is) k ds kd ro) u = regF fn (putA o.dst u tmps) ops is k ds kd ro := fun u => finish_region rfl ho u
  obtain ⟨rfl, args', h1, h2⟩ := h
  have hstep := mv_op1 (fs := fs) ho hw hnd (apply_enter h1 (fun d a b c k q => by cases q))
  obtain ⟨k1, k2⟩ := enterF_sim hE he h2
  obtain ⟨ρ', f', w', v', q1, q2, q3, q4, q5, q6⟩ := hr (base := regF fn tmps ops (i :: is) k ds kd ro :: fs) hrun ⟨k1, .nil, hm, hg⟩
  have hl' := step_leave_returned (c := regF fn tmps ops (i :: is) k ds kd ro) (cs := fs) q2
  rw [hf] at hl'
  exact ⟨v', ρ', w', ((Steps.one hstep).trans q1).trans (.one hl'), q4, q5, q6⟩
end

theorem sort_pure {o : Op} (h : sortOf o = 0) : isPure o = true := by
  unfold sortOf at h
  cases h1 : isPure o <;> cases h2 : isRead o <;> cases h3 : isAlloc o <;> simp_all
theorem sort_read {o : Op} (h : sortOf o = 1) : isRead o = true := by
  unfold sortOf at h
  cases h1 : isPure o <;> cases h2 : isRead o <;> cases h3 : isAlloc o <;> simp_all
theorem sort_alloc {o : Op} (h : sortOf o = 2) : isAlloc o = true := by
  unfold sortOf at h
  cases h1 : isPure o <;> cases h2 : isRead o <;> cases h3 : isAlloc o <;> simp_all
theorem pure_nd {o : Op} (h : isPure o = true) : ∀ c, o ≠ .defer c := fun c q => by subst q; simp [isPure] at h
theorem read_nd {o : Op} (h : isRead o = true) : ∀ c, o ≠ .defer c := fun c q => by subst q; simp [isRead] at h
theorem alloc_nd {o : Op} (h : isAlloc o = true) : ∀ c, o ≠ .defer c := fun c q => by subst q; simp [isAlloc] at h

theorem alloc_form {o : Op} {tm : T Value} {n : Nat} {t : T AO} {v : Value} {m' : Mem} (hp : isAlloc o = true) (e : execV o E tm ⟨n, t⟩ = .ok (.val v m')) :
    ∃ ao, ao.isRo = false ∧ m' = Mem.new ⟨n, t⟩ ao ∧ ∀ t', execV o E tm ⟨n, t'⟩ = .ok (.val v (Mem.new ⟨n, t'⟩ ao)) := by
  cases o <;> try (simp [isAlloc] at hp; done)
  case alloc el =>
    simp only [execV] at e ⊢
    obtain ⟨z, e1, e2⟩ := R.bnd_ok e
    obtain ⟨l, e3, e4⟩ := R.bnd_ok e2
    cases e4
    exact ⟨_, rfl, rfl, fun t' => by rw [e1]; simp only [R.bnd, e3]; rfl⟩
  case box el x =>
    simp only [execV] at e ⊢
    obtain ⟨l, e3, e4⟩ := R.bnd_ok e
    cases e4
    exact ⟨_, rfl, rfl, fun t' => by rw [e3]; rfl⟩
  case buildSlice ty k ps =>
    simp only [execV] at e ⊢
    obtain ⟨td, e1, e2⟩ := R.bnd_ok e
    obtain ⟨p, e3, e4⟩ := bothR_ok e2
    cases e4
    cases td <;> try (simp [buildSliceD] at e3; done)
    rename_i el
    simp only [buildSliceD] at e3
    obtain ⟨i, f1, f2⟩ := R.bnd_ok e3
    obtain ⟨f3, f4⟩ := bif_ok f2
    obtain ⟨z, f5, f6⟩ := R.bnd_ok f4
    obtain ⟨l, f7, f8⟩ := R.bnd_ok f6
    obtain ⟨f9, g1⟩ := bif_ok f8
    obtain ⟨cs, g2, g3⟩ := R.bnd_ok g1
    cases g3
    refine ⟨_, rfl, rfl, fun t' => ?_⟩
    rw [e1]
    simp only [R.bnd, buildSliceD, f1, f3, cond_true, f5, f7, f9, g2, bothR]
    rfl
  case makeMap ty r =>
    simp only [execV] at e ⊢
    obtain ⟨td, e1, e2⟩ := R.bnd_ok e
    obtain ⟨p, e3, e4⟩ := bothR_ok e2
    cases e4
    cases td <;> try (simp [makeMapD] at e3; done)
    cases hq : oev E tm r with
    | none =>
      rw [hq] at e3; simp only [makeMapD] at e3; cases e3
      exact ⟨_, rfl, rfl, fun t' => by rw [e1]; rfl⟩
    | some u =>
      rw [hq] at e3
      cases u <;> try (simp [makeMapD] at e3; done)
      simp only [makeMapD] at e3; cases e3
      exact ⟨_, rfl, rfl, fun t' => by rw [e1]; rfl⟩
end
end Go.Sh

/-
  Regions that draw their order (5): one more operation is done.
-/
namespace Go.Sh
open Go.RowKit

section
variable {P : Program} {E : Env} {run : AM → R (Value × Mem)} {ops : Array Oper} {nt : Nat} {tm : T Value} {m : Mem} {f : Nat → Dr}
variable {ρ₀ ρ : Ren} {m₀ : Mem} {w₀ w : World} {D : Nat → Prop} {c : Nat} {tmps : Array Value} {j : Nat} {o : Oper}

theorem Inv.dom_out (hx : Tx E run ops nt tm m f) (h : Inv E ops nt f ρ₀ m₀ w₀ D c ρ w tmps) (hj : j < ops.toList.length) (hnd : ¬ D j) : ∀ x, (f j).m.next ≤ x → x < (f (j + 1)).m.next → ρ x = none := by
  intro x h1 h2
  cases hr : ρ x with
  | none => rfl
  | some p =>
    rcases h.dom x p hr with q | ⟨i, hi, q1, q2⟩
    · have := hx.next_le (Nat.zero_le j) (by omega); omega
    · have hil := h.dlt i hi
      by_cases hij : i = j
      · subst hij; exact absurd hi hnd
      · by_cases hlt : i < j
        · have := hx.next_le (i := i + 1) (j := j) hlt (by omega); omega
        · have := hx.next_le (i := j + 1) (j := i) (by omega) (by omega); omega

theorem Inv.glob (h : Inv E ops nt f ρ₀ m₀ w₀ D c ρ w tmps) (hx : Tx E run ops nt tm m f) (hg : GlobR (ρ₀.below (f 0).m.next) E.ng) (hj : j ≤ ops.toList.length) : GlobR (ρ.below (f j).m.next) E.ng :=
  hg.mono (below_mono h.le (hx.next_le (Nat.zero_le _) hj))

theorem Loose.sub {i : Nat} (h : Loose ops f (also D j) i) (hij : i ≠ j) : Loose ops f D i :=
  ⟨h.1.resolve_right hij, fun e he hf => h.2 e (.inl he) hf⟩

/-- what leaves the world alone -/
theorem Inv.still (hx : Tx E run ops nt tm m f) (h : Inv E ops nt f ρ₀ m₀ w₀ D c ρ w tmps) (ho : ops.toList[j]? = some o) (hnd : ¬ D j) (had : ∀ k, mem k (ahead ops j) = true → D k) (hne : ¬ Eff ops f j) (hna : ∀ ao, ¬ Al E ops f j ao)
    {v v' : Value} (ht : putT o.dst v nt (f j).tm = .ok (f (j + 1)).tm) (hv : VR (ρ.below (f (j + 1)).m.next) v v') : Inv E ops nt f ρ₀ m₀ w₀ (also D j) c ρ w (putA o.dst v' tmps) where
  dlt i hi := by
    rcases hi with hi | hi
    · exact h.dlt i hi
    · subst hi; exact (List.getElem?_eq_some_iff.1 ho).1
  down i k hi hk := by
    rcases hi with hi | hi
    · exact .inl (h.down i k hi hk)
    · subst hi; exact .inl (had k hk)
  c_le := h.c_le
  c_in e he hf := .inl (h.c_in e he hf)
  c_out e he hf := by
    rcases he with he | he
    · exact h.c_out e he hf
    · subst he; exact absurd hf hne
  c_is := h.c_is.imp id fun ⟨e, a, b, d⟩ => ⟨e, a, b, .inl d⟩
  main := h.main
  lt := h.lt
  dom x p e := (h.dom x p e).imp id fun ⟨i, a, b⟩ => ⟨i, .inl a, b⟩
  pend i ao hl ha := by
    have hij : i ≠ j := fun q => by subst q; exact hna ao ha
    exact h.pend i ao (hl.sub hij) ha
  pend2 i i' ao ao' p q hl ha hl' ha' := by
    have hij : i ≠ j := fun q => by subst q; exact hna ao ha
    have hij' : i' ≠ j := fun q => by subst q; exact hna ao' ha'
    exact h.pend2 i i' ao ao' p q (hl.sub hij) ha (hl'.sub hij') ha'
  t := h.t.step hx.ok ho hnd (.refl _) ht hv
  le := h.le
  os := h.os
  tape := h.tape
  output := h.output
  size := h.size
  keep := h.keep
  own := h.own
  new := h.new
  ro := h.ro

theorem Al.same {i : Nat} {a b : AO} (ha : Al E ops f i a) (hb : Al E ops f i b) : a = b := by
  obtain ⟨o, v, m', h1, h2, h3, h4, h5⟩ := ha
  obtain ⟨o', v', m2, k1, k2, k3, k4, k5⟩ := hb
  rw [h1] at k1; cases k1
  rw [h4] at k4; cases k4
  rw [h5] at k5; cases k5
  rfl
theorem Al.noEff {i : Nat} {a : AO} (ha : Al E ops f i a) : ¬ Eff ops f i := by
  obtain ⟨o, v, m', h1, h2, h3, h4, h5⟩ := ha
  rintro ⟨o', k1, k2, _⟩
  rw [h1] at k1; cases k1
  omega

/-- an allocation -/
theorem Inv.alloc (hx : Tx E run ops nt tm m f) (h : Inv E ops nt f ρ₀ m₀ w₀ D c ρ w tmps) (ho : ops.toList[j]? = some o) (hnd : ¬ D j) (had : ∀ k, mem k (ahead ops j) = true → D k) {ao : AO} (hal : Al E ops f j ao) (hro : ao.isRo = false)
    {v v' : Value} {ρ₁ : Ren} {w' : World} (ht : putT o.dst v nt (f j).tm = .ok (f (j + 1)).tm) (hv : VR ρ₁ v v')
    (hm : MemR ρ₁ (Mem.new ⟨(f j).m.next, .nil⟩ ao) w') (hext : Ext (ρ.below (f j).m.next) ⟨(f j).m.next, .nil⟩ w ρ₁ (Mem.new ⟨(f j).m.next, .nil⟩ ao) w') :
    Inv E ops nt f ρ₀ m₀ w₀ (also D j) c (ρ.mid ρ₁ (f j).m.next (f (j + 1)).m.next) w' (putA o.dst v' tmps) := by
  have hj : j < ops.toList.length := (List.getElem?_eq_some_iff.1 ho).1
  have hnext := hx.al_next hal
  have hne := hal.noEff
  have hle : ρ.le (ρ.mid ρ₁ (f j).m.next (f (j + 1)).m.next) := mid_le (h.dom_out hx hj hnd)
  have hbel : (ρ.mid ρ₁ (f j).m.next (f (j + 1)).m.next).below (f (j + 1)).m.next = ρ₁ :=
    mid_below (by omega) hext.le hext.new (fun x hxx => hm.fresh x (by rw [Mem.next_new]; show (f j).m.next + 1 ≤ x; omega))
  have hnone : ∀ b, ¬ Owns (ρ.below (f j).m.next) ⟨(f j).m.next, .nil⟩ b := by
    rintro b ⟨x, o', p, e, _⟩
    cases e
  have hkeep : ∀ b, b < w.heap.size → w'.heap[b]? = w.heap[b]? := fun b hb => hext.keep b hb (hnone b)
  have hlt : ∀ x p, ρ.mid ρ₁ (f j).m.next (f (j + 1)).m.next x = some p → p.b < w'.heap.size := by
    intro x p e
    unfold Ren.mid at e
    by_cases q : (f j).m.next ≤ x ∧ x < (f (j + 1)).m.next
    · rw [if_pos q] at e; exact hm.lt x p e
    · rw [if_neg q] at e; exact Nat.lt_of_lt_of_le (h.lt x p e) hext.size
  have hget : (Mem.new ⟨(f j).m.next, .nil⟩ ao).get (f j).m.next = some ao := by rw [Mem.get_new]; exact if_pos rfl
  obtain ⟨pn, On, n1, n2, n3⟩ := hm.obj _ _ hget
  have hpn : w.heap.size ≤ pn.b := by
    apply Nat.le_of_not_lt
    intro hlt'
    exact hnone _ (hext.own pn.b ⟨_, ao, pn, hget, hro, n1, rfl⟩ hlt')
  have hmidn : ρ.mid ρ₁ (f j).m.next (f (j + 1)).m.next (f j).m.next = some pn := by
    unfold Ren.mid
    rw [if_pos ⟨Nat.le_refl _, by omega⟩]; exact n1
  have hmain : ∀ y o', (f c).m.get y = some o' → ∃ q, ρ y = some q ∧ q.b < w.heap.size := by
    intro y o' e
    obtain ⟨q, O, k1, k2, _⟩ := h.main.obj y o' e
    exact ⟨q, (below_some.1 k1).2, h.main.lt y q k1⟩
  refine ⟨?_, ?_, h.c_le, fun e he hf => .inl (h.c_in e he hf), ?_, h.c_is.imp id fun ⟨e, a, b, d⟩ => ⟨e, a, b, .inl d⟩, ?_, hlt, ?_, ?_, ?_, h.t.step hx.ok ho hnd hle ht (by rw [hbel]; exact hv),
    h.le.trans hle, hext.os.trans h.os, hext.tape.trans h.tape, hext.output.trans h.output, Nat.le_trans h.size hext.size, ?_, ?_, ?_, h.ro⟩
  · intro i hi
    rcases hi with hi | hi
    · exact h.dlt i hi
    · subst hi; exact hj
  · intro i k hi hk
    rcases hi with hi | hi
    · exact .inl (h.down i k hi hk)
    · subst hi; exact .inl (had k hk)
  · intro e he hf
    rcases he with he | he
    · exact h.c_out e he hf
    · subst he; exact absurd hf hne
  · refine h.main.grow (below_mono hle (Nat.le_refl _)) (fun x hxx => ?_) (fun x p e => hlt x p (below_some.1 e).2) (fun x o' p e1 e2 => hkeep _ (h.main.lt x p e2))
    unfold Ren.below
    rw [if_neg (by omega)]
  · intro x p e
    unfold Ren.mid at e
    by_cases q : (f j).m.next ≤ x ∧ x < (f (j + 1)).m.next
    · exact .inr ⟨j, .inr rfl, q.1, q.2⟩
    · rw [if_neg q] at e
      exact (h.dom x p e).imp id fun ⟨i, a, b⟩ => ⟨i, .inl a, b⟩
  · intro i ao' hl ha
    by_cases hij : i = j
    · subst hij
      have := ha.same hal
      subst this
      refine ⟨pn, On, hmidn, n2, by rw [← hnext, hbel]; exact n3, hro, Nat.le_trans h.size hpn, fun y o' q e1 e2 => ?_⟩
      obtain ⟨q', k1, k2⟩ := hmain y o' e1
      rw [hle y q' k1] at e2; cases e2
      omega
    · obtain ⟨p, O, k1, k2, k3, k4, k5, k6⟩ := h.pend i ao' (hl.sub hij) ha
      refine ⟨p, O, hle _ _ k1, by rw [hkeep _ (h.lt _ _ k1)]; exact k2, k3.mono (below_mono hle (Nat.le_refl _)), k4, k5, fun y o' q e1 e2 => ?_⟩
      obtain ⟨q', k7, k8⟩ := hmain y o' e1
      rw [hle y q' k7] at e2; cases e2
      exact k6 y o' _ e1 k7
  · intro i i' a a' p q hl ha hl' ha' hne' e1 e2
    by_cases hij : i = j
    · subst hij
      rw [hmidn] at e1; cases e1
      obtain ⟨p', O, k1, _⟩ := h.pend i' a' (hl'.sub fun q => hne' q.symm) ha'
      rw [hle _ _ k1] at e2; cases e2
      have := h.lt _ _ k1
      omega
    · obtain ⟨p', O, k1, _⟩ := h.pend i a (hl.sub hij) ha
      rw [hle _ _ k1] at e1; cases e1
      by_cases hij' : i' = j
      · subst hij'
        rw [hmidn] at e2; cases e2
        have := h.lt _ _ k1
        omega
      · obtain ⟨q', O', k2, _⟩ := h.pend i' a' (hl'.sub hij') ha'
        rw [hle _ _ k2] at e2; cases e2
        exact h.pend2 i i' a a' _ _ (hl.sub hij) ha (hl'.sub hij') ha' hne' k1 k2
  · intro b hb hn
    rw [hkeep b (Nat.lt_of_lt_of_le hb h.size)]
    exact h.keep b hb hn
  · rintro b ⟨x, o', p, e1, e2, e3, e4⟩ hb
    obtain ⟨q, O, k1, _⟩ := h.main.obj x o' e1
    rw [below_mono hle (Nat.le_refl _) _ _ k1] at e3; cases e3
    exact h.own b ⟨x, o', _, e1, e2, k1, e4⟩ hb
  · intro x p e hxx
    unfold Ren.mid at e
    have : (f 0).m.next ≤ (f j).m.next := hx.next_le (Nat.zero_le _) (by omega)
    rw [if_neg (by omega)] at e
    exact h.new x p e hxx

theorem Inv.c_eff (hx : Tx E run ops nt tm m f) (h : Inv E ops nt f ρ₀ m₀ w₀ D c ρ w tmps) (he : Eff ops f j) (hnd : ¬ D j) (had : ∀ k, mem k (ahead ops j) = true → D k) :
    c ≤ j ∧ (f j).m.objs = (f c).m.objs ∧ (∀ e, Eff ops f e → e < j → D e) ∧ ∀ e, D e → Eff ops f e → e < j := by
  have hj := he.lt
  obtain ⟨o, ho, hs, hw⟩ := he
  have h1 : ∀ e, Eff ops f e → e < j → D e := fun e ⟨o', a, b, _⟩ hlt => had e (ok_effs hx.ok ho hs a b hlt)
  have h2 : ∀ e, D e → Eff ops f e → e < j := by
    intro e hde ⟨o', a, b, _⟩
    apply Nat.lt_of_le_of_ne
    · apply Nat.le_of_not_lt
      intro hlt
      exact hnd (h.down e j hde (ok_effs hx.ok a b ho hs hlt))
    · intro q; subst q; exact hnd hde
  have h3 : c ≤ j := by
    rcases h.c_is with q | ⟨e, q, a, b⟩
    · omega
    · have := h2 e b a; omega
  exact ⟨h3, hx.objs_stay h3 (by omega) fun k a b hk => by have := h.c_out k (h1 k hk b) hk; omega, h1, h2⟩

theorem get_objs {a b : Mem} (h : a.objs = b.objs) (x : Nat) : a.get x = b.get x := by
  obtain ⟨n, t⟩ := a
  obtain ⟨n', t'⟩ := b
  cases h
  rfl

/-- memory, with some of the allocations that are loose -/
structure Put (ops : Array Oper) (f : Nat → Dr) (D : Nat → Prop) (c j : Nat) (l : List (Nat × Nat × AO)) : Prop where
  hj : j ≤ ops.toList.length
  hc : c ≤ j
  obj : (f j).m.objs = (f c).m.objs
  late : ∀ e, D e → Eff ops f e → e < j
  l : ∀ y ∈ l, y ∈ (f j).pend ∧ D y.1

theorem Inv.put_get (hx : Tx E run ops nt tm m f) (h : Inv E ops nt f ρ₀ m₀ w₀ D c ρ w tmps) {l : List (Nat × Nat × AO)} (hp : Put ops f D c j l) {x : Nat} {o' : AO} (e : (putMany l (f j).m).get x = some o') :
    (∃ i, i < j ∧ x = (f i).m.next ∧ Loose ops f D i ∧ Al E ops f i o' ∧ ∃ y ∈ l, y.1 = i) ∨ (f c).m.get x = some o' := by
  rcases putMany_get _ _ _ _ e with ⟨i, hi⟩ | hi
  · obtain ⟨a, b⟩ := hp.l _ hi
    obtain ⟨q1, q2, q3, q4⟩ := hx.pend_mem hp.hj a
    refine .inl ⟨i, q1, q3, ⟨b, fun e hde hee => ?_⟩, q2, _, hi, rfl⟩
    have hlt := hp.late e hde hee
    by_cases hie : i < e
    · exact q4 e hie hlt hee
    · cases hq : mem i (ahead ops e) with
      | false => rfl
      | true => exact absurd (ahead_lt hx.ok hq) hie
  · exact .inr (by rw [← get_objs hp.obj]; exact hi)

theorem Inv.put_rel (hx : Tx E run ops nt tm m f) (h : Inv E ops nt f ρ₀ m₀ w₀ D c ρ w tmps) {l : List (Nat × Nat × AO)} (hp : Put ops f D c j l) : MemR (ρ.below (f j).m.next) (putMany l (f j).m) w := by
  have hcj : (f c).m.next ≤ (f j).m.next := hx.next_le hp.hc hp.hj
  have hlow : ∀ i, i < j → ∀ ao, Al E ops f i ao → (f i).m.next + 1 ≤ (f j).m.next := by
    intro i hi ao ha
    have := hx.al_next ha
    have := hx.next_le (i := i + 1) (j := j) hi hp.hj
    omega
  refine ⟨?_, ?_, ?_, fun x p e => h.lt x p (below_some.1 e).2⟩
  · intro x o' e
    rcases h.put_get hx hp e with ⟨i, a, b, d, g, k⟩ | e
    · obtain ⟨p, O, k1, k2, k3, _⟩ := h.pend i o' d g
      have := hlow i a _ g
      subst b
      exact ⟨p, O, below_some.2 ⟨by omega, k1⟩, k2, k3.mono (below_mono (.refl _) this)⟩
    · obtain ⟨p, O, k1, k2, k3⟩ := h.main.obj x o' e
      exact ⟨p, O, below_mono (.refl _) hcj _ _ k1, k2, k3.mono (below_mono (.refl _) hcj)⟩
  · intro x y ox oy p q e1 e2 hne hro p1 q1
    have p2 := (below_some.1 p1).2
    have q2 := (below_some.1 q1).2
    rcases h.put_get hx hp e1 with ⟨i, a, b, d, g, k⟩ | e1 <;> rcases h.put_get hx hp e2 with ⟨i', a', b', d', g', k'⟩ | e2
    · subst b; subst b'
      exact h.pend2 i i' _ _ p q d g d' g' (fun q => hne (by rw [q])) p2 q2
    · obtain ⟨p', O, k1, k2, k3, k4, k5, k6⟩ := h.pend i _ d g
      subst b
      rw [k1] at p2; cases p2
      exact fun q => k6 y oy _ e2 q2 q.symm
    · obtain ⟨p', O, k1, k2, k3, k4, k5, k6⟩ := h.pend i' _ d' g'
      subst b'
      rw [k1] at q2; cases q2
      exact k6 x ox _ e1 p2
    · obtain ⟨p', O, k1, _⟩ := h.main.obj x ox e1
      obtain ⟨q', O', k2, _⟩ := h.main.obj y oy e2
      have a1 := (below_some.1 k1).2
      have a2 := (below_some.1 k2).2
      rw [p2] at a1; cases a1
      rw [q2] at a2; cases a2
      exact h.main.inj x y ox oy p q e1 e2 hne hro k1 k2
  · intro x hxx
    rw [putMany_next] at hxx
    unfold Ren.below
    rw [if_neg (by omega)]

theorem Inv.put_owns (hx : Tx E run ops nt tm m f) (h : Inv E ops nt f ρ₀ m₀ w₀ D c ρ w tmps) {l : List (Nat × Nat × AO)} (hp : Put ops f D c j l) {b : Nat} (ho : Owns (ρ.below (f j).m.next) (putMany l (f j).m) b) :
    (∃ i ao p, Loose ops f D i ∧ Al E ops f i ao ∧ (∃ y ∈ l, y.1 = i) ∧ ρ (f i).m.next = some p ∧ p.b = b) ∨ ∃ x o' p, (f c).m.get x = some o' ∧ o'.isRo = false ∧ ρ x = some p ∧ p.b = b := by
  obtain ⟨x, o', p, e1, e2, e3, e4⟩ := ho
  have e3 := (below_some.1 e3).2
  rcases h.put_get hx hp e1 with ⟨i, a, b, d, g, k⟩ | e1
  · subst b; exact .inl ⟨i, o', p, d, g, k, e3, e4⟩
  · exact .inr ⟨x, o', p, e1, e2, e3, e4⟩

theorem Inv.put_old (hx : Tx E run ops nt tm m f) (h : Inv E ops nt f ρ₀ m₀ w₀ D c ρ w tmps) {l : List (Nat × Nat × AO)} (hp : Put ops f D c j l) : ∀ b, Owns (ρ.below (f j).m.next) (putMany l (f j).m) b → b < w₀.heap.size → Owns ρ₀ m₀ b := by
  intro b how hb
  rcases h.put_owns hx hp how with ⟨i', ao', p2, q1, q2, q3, q4, q5⟩ | ⟨x, o', p2, q1, q2, q3, q4⟩
  · obtain ⟨p', O, k1, k2, k3, k4, k5, k6⟩ := h.pend i' ao' q1 q2
    rw [q4] at k1; cases k1
    omega
  · obtain ⟨q', O, k1, k2, _⟩ := h.main.obj x o' q1
    have k3 := (below_some.1 k1).2
    rw [q3] at k3; cases k3
    exact h.own b ⟨x, o', p2, q1, q2, k1, q4⟩ hb

theorem Inv.put_ro (hx : Tx E run ops nt tm m f) (h : Inv E ops nt f ρ₀ m₀ w₀ D c ρ w tmps) {l : List (Nat × Nat × AO)} (hp : Put ops f D c j l) {x : Nat} {o' : AO} (e : (putMany l (f j).m).get x = some o') (hr : o'.isRo = true) : (f c).m.get x = some o' := by
  rcases h.put_get hx hp e with ⟨i', a, b, d, g, k⟩ | e3
  · obtain ⟨_, _, _, _, _, k4', _⟩ := h.pend i' o' d g
    rw [hr] at k4'; cases k4'
  · exact e3

theorem Inv.put_eff (hx : Tx E run ops nt tm m f) (h : Inv E ops nt f ρ₀ m₀ w₀ D c ρ w tmps) (he : Eff ops f j) (hnd : ¬ D j) (had : ∀ k, mem k (ahead ops j) = true → D k) : Put ops f D c j (forced (ahead ops j) (f j).pend) := by
  obtain ⟨h1, h2, h3, h4⟩ := h.c_eff hx he hnd had
  exact ⟨Nat.le_of_lt he.lt, h1, h2, h4, fun y hy => let ⟨a, b⟩ := forced_mem hy; ⟨a, had _ b⟩⟩

/-- an effect -/
theorem Inv.eff (hx : Tx E run ops nt tm m f) (h : Inv E ops nt f ρ₀ m₀ w₀ D c ρ w tmps) (hz : m₀.next = (f 0).m.next) (ho : ops.toList[j]? = some o) (he : Eff ops f j) (hnd : ¬ D j) (had : ∀ k, mem k (ahead ops j) = true → D k)
    {v v' : Value} {ρ₁ : Ren} {w' : World} (ht : putT o.dst v nt (f j).tm = .ok (f (j + 1)).tm) (hv : VR ρ₁ v v')
    (hm : MemR ρ₁ (f (j + 1)).m w') (hext : Ext (ρ.below (f j).m.next) (putMany (forced (ahead ops j) (f j).pend) (f j).m) w ρ₁ (f (j + 1)).m w') :
    Inv E ops nt f ρ₀ m₀ w₀ (also D j) (j + 1) (ρ.mid ρ₁ (f j).m.next (f (j + 1)).m.next) w' (putA o.dst v' tmps) := by
  have hj : j < ops.toList.length := (List.getElem?_eq_some_iff.1 ho).1
  obtain ⟨h1, h2, h3, h4⟩ := h.c_eff hx he hnd had
  have hmono : (f j).m.next ≤ (f (j + 1)).m.next := hx.next_le (Nat.le_succ _) (by omega)
  have hle : ρ.le (ρ.mid ρ₁ (f j).m.next (f (j + 1)).m.next) := mid_le (h.dom_out hx hj hnd)
  have hp := h.put_eff hx he hnd had
  have hn : (putMany (forced (ahead ops j) (f j).pend) (f j).m).next = (f j).m.next := putMany_next _ _
  have hbel : (ρ.mid ρ₁ (f j).m.next (f (j + 1)).m.next).below (f (j + 1)).m.next = ρ₁ :=
    mid_below hmono hext.le (fun x p a b => hext.new x p a (by rw [hn]; exact b)) (fun x hxx => hm.fresh x hxx)
  have hlt : ∀ x p, ρ.mid ρ₁ (f j).m.next (f (j + 1)).m.next x = some p → p.b < w'.heap.size := by
    intro x p e
    unfold Ren.mid at e
    by_cases q : (f j).m.next ≤ x ∧ x < (f (j + 1)).m.next
    · rw [if_pos q] at e; exact hm.lt x p e
    · rw [if_neg q] at e; exact Nat.lt_of_lt_of_le (h.lt x p e) hext.size
  have hmain : ∀ y o', (f c).m.get y = some o' → ∃ q, ρ y = some q ∧ ρ.below (f c).m.next y = some q := by
    intro y o' e
    obtain ⟨q, O, k1, k2, _⟩ := h.main.obj y o' e
    exact ⟨q, (below_some.1 k1).2, k1⟩
  have hnoteff : ∀ ao, ¬ Al E ops f j ao := fun ao ha => ha.noEff he
  -- what stays loose is none of what the effect may write
  have hfree : ∀ i ao p, Loose ops f (also D j) i → Al E ops f i ao → ρ (f i).m.next = some p → ¬ Owns (ρ.below (f j).m.next) (putMany (forced (ahead ops j) (f j).pend) (f j).m) p.b := by
    intro i ao p hl ha hpi how
    have hij : i ≠ j := fun q => by subst q; exact hnoteff ao ha
    obtain ⟨p', O, k1, k2, k3, k4, k5, k6⟩ := h.pend i ao (hl.sub hij) ha
    rw [hpi] at k1; cases k1
    rcases h.put_owns hx hp how with ⟨i', ao', p2, q1, q2, q3, q4, q5⟩ | ⟨x, o', p2, q1, q2, q3, q4⟩
    · by_cases hii : i = i'
      · subst hii
        have := hl.2 j (.inr rfl) he
        obtain ⟨y, hy, rfl⟩ := q3
        rw [(forced_mem hy).2] at this; cases this
      · exact h.pend2 i i' ao ao' p p2 (hl.sub hij) ha q1 q2 hii hpi q4 q5.symm
    · exact k6 x o' p2 q1 q3 q4
  have hold := h.put_old hx hp
  refine ⟨?_, ?_, by omega, ?_, ?_, .inr ⟨j, rfl, he, .inr rfl⟩, by rw [hbel]; exact hm, hlt, ?_, ?_, ?_, h.t.step hx.ok ho hnd hle ht (by rw [hbel]; exact hv),
    h.le.trans hle, hext.os.trans h.os, hext.tape.trans h.tape, hext.output.trans h.output, Nat.le_trans h.size hext.size, ?_, ?_, ?_, ?_⟩
  · intro i hi
    rcases hi with hi | hi
    · exact h.dlt i hi
    · subst hi; exact hj
  · intro i k hi hk
    rcases hi with hi | hi
    · exact .inl (h.down i k hi hk)
    · subst hi; exact .inl (had k hk)
  · intro e hlt' hf
    by_cases q : e = j
    · exact .inr q
    · exact .inl (h3 e hf (by omega))
  · intro e hd hf
    rcases hd with hd | hd
    · have := h4 e hd hf; omega
    · omega
  · intro x p e
    unfold Ren.mid at e
    by_cases q : (f j).m.next ≤ x ∧ x < (f (j + 1)).m.next
    · exact .inr ⟨j, .inr rfl, q.1, q.2⟩
    · rw [if_neg q] at e
      exact (h.dom x p e).imp id fun ⟨i, a, b⟩ => ⟨i, .inl a, b⟩
  · intro i ao hl ha
    have hij : i ≠ j := fun q => by subst q; exact hnoteff ao ha
    obtain ⟨p, O, k1, k2, k3, k4, k5, k6⟩ := h.pend i ao (hl.sub hij) ha
    have hfr := hfree i ao p hl ha k1
    have hps := h.lt _ _ k1
    refine ⟨p, O, hle _ _ k1, by rw [hext.keep _ hps hfr]; exact k2, k3.mono (below_mono hle (Nat.le_refl _)), k4, k5, fun y o' q e1 e2 => ?_⟩
    obtain ⟨q1, O1, r1, r2, _⟩ := hm.obj y o' e1
    have r3 : ρ.mid ρ₁ (f j).m.next (f (j + 1)).m.next y = some q1 := by rw [← hbel] at r1; exact (below_some.1 r1).2
    rw [e2] at r3; cases r3
    intro hqp
    cases hr : o'.isRo with
    | false => exact hfr (hext.own _ (by rw [← hqp]; exact ⟨y, o', q, e1, hr, r1, rfl⟩) hps)
    | true =>
      have e3 := h.put_ro hx hp (hext.ro y o' e1 hr) hr
      obtain ⟨q', k7, k8⟩ := hmain y o' e3
      rw [hle y q' k7] at e2; cases e2
      exact k6 y o' _ e3 k7 hqp
  · intro i i' a a' p q hl ha hl' ha' hne' e1 e2
    have hij : i ≠ j := fun q => by subst q; exact hnoteff a ha
    have hij' : i' ≠ j := fun q => by subst q; exact hnoteff a' ha'
    obtain ⟨p', O, k1, _⟩ := h.pend i a (hl.sub hij) ha
    rw [hle _ _ k1] at e1; cases e1
    obtain ⟨q', O', k2, _⟩ := h.pend i' a' (hl'.sub hij') ha'
    rw [hle _ _ k2] at e2; cases e2
    exact h.pend2 i i' a a' _ _ (hl.sub hij) ha (hl'.sub hij') ha' hne' k1 k2
  · intro b hb hn'
    rw [hext.keep b (Nat.lt_of_lt_of_le hb h.size) (fun how => hn' (hold b how hb))]
    exact h.keep b hb hn'
  · intro b how hb
    rw [hbel] at how
    exact hold b (hext.own b how (Nat.lt_of_lt_of_le hb h.size)) hb
  · intro x p e hxx
    unfold Ren.mid at e
    have : (f 0).m.next ≤ (f j).m.next := hx.next_le (Nat.zero_le _) (by omega)
    rw [if_neg (by omega)] at e
    exact h.new x p e hxx
  · intro x o' e hr
    exact h.ro x o' (h.put_ro hx hp (hext.ro x o' e hr) hr) hr

/-- a read gives what it gave in the text's order -/
theorem Inv.reads (hx : Tx E run ops nt tm m f) (h : Inv E ops nt f ρ₀ m₀ w₀ D c ρ w tmps) (ho : ops.toList[j]? = some o) (hs : sortOf o.op = 1) (hw : wantedL o.guard ops (f j).tm = .ok true) (hnd : ¬ D j)
    (had : ∀ k, mem k (ahead ops j) = true → D k) {v : Value} {m' : Mem} (he : execV o.op E (f j).tm (f j).m = .ok (.val v m')) (hk : pastOk E (aheadL ops.toList []) j o (f j).tm v (f j).past = true) (n : Nat) :
    execV o.op E (f j).tm ⟨n, (f c).m.objs⟩ = .ok (.val v ⟨n, (f c).m.objs⟩) := by
  have hj : j < ops.toList.length := (List.getElem?_eq_some_iff.1 ho).1
  have hr := sort_read hs
  have fin : ∀ (a : Mem) (m' : Mem), a.objs = (f c).m.objs → execV o.op E (f j).tm a = .ok (.val v m') → execV o.op E (f j).tm ⟨n, (f c).m.objs⟩ = .ok (.val v ⟨n, (f c).m.objs⟩) := by
    intro a m' hq e
    obtain ⟨na, t⟩ := a
    simp only at hq
    subst hq
    exact execR_next hr e
  by_cases hex : ∃ e, c ≤ e ∧ e < j ∧ Eff ops f e
  · -- the first effect that is not done
    have hmin : ∀ e, c ≤ e → e < j → Eff ops f e → ∃ e1, c ≤ e1 ∧ e1 < j ∧ Eff ops f e1 ∧ ∀ k, c ≤ k → k < e1 → ¬ Eff ops f k := by
      intro e
      induction e using Nat.strongRecOn with
      | ind e ih =>
        intro a b d
        by_cases hq : ∃ k, c ≤ k ∧ k < e ∧ Eff ops f k
        · obtain ⟨k, q1, q2, q3⟩ := hq
          exact ih k q2 q1 (by omega) q3
        · exact ⟨e, a, b, d, fun k q1 q2 q3 => hq ⟨k, q1, q2, q3⟩⟩
    obtain ⟨e, a, b, d⟩ := hex
    obtain ⟨e1, a, b, d, g⟩ := hmin e a b d
    have hobj := hx.objs_stay a (by omega) g
    have hne : mem e1 (ahead ops j) = false := by
      cases hq : mem e1 (ahead ops j) with
      | false => rfl
      | true => have := h.c_out e1 (had e1 hq) d; omega
    obtain ⟨m2, k1⟩ := readIs_ok (pastOk_spec hk e1 _ (hx.past_mem d b (by omega)) hne)
    exact fin _ _ hobj k1
  · by_cases hcj : c ≤ j
    · exact fin _ _ (hx.objs_stay hcj (by omega) fun k a b d => hex ⟨k, a, b, d⟩) he
    · rcases h.c_is with q | ⟨e, q, a, b⟩
      · omega
      · have hej : e ≠ j := fun q => by subst q; exact hnd b
        have hjm : mem j (ahead ops e) = false := by
          cases hq : mem j (ahead ops e) with
          | false => rfl
          | true => exact absurd (h.down e j b hq) hnd
        have hlat : laterOk E (aheadL ops.toList []) e (f (e + 1)).m (f e).reads = true := by
          obtain ⟨o2, k1, k2, k3⟩ := a
          cases hx.step e o2 k1 with
          | skip hw' => rw [hw'] at k3; cases k3
          | pure _ hs' => omega
          | read _ hs' => omega
          | alloc _ hs' => omega
          | eff _ _ _ _ _ _ hl => exact hl
        obtain ⟨m2, k1⟩ := readIs_ok (laterOk_spec hlat j o _ v (hx.read_mem ho hs hw he (by omega) (by have := h.c_le; omega)) hjm)
        exact fin (f (e + 1)).m m2 (by rw [q]) k1

theorem Inv.raise (h : Inv E ops nt f ρ₀ m₀ w₀ D c ρ w tmps) {n : Nat} (hn : (f c).m.next ≤ n) : MemR (ρ.below n) ⟨n, (f c).m.objs⟩ w := by
  have hg : ∀ x, Mem.get ⟨n, (f c).m.objs⟩ x = (f c).m.get x := fun x => get_objs rfl x
  refine ⟨?_, ?_, ?_, fun x p e => h.lt x p (below_some.1 e).2⟩
  · intro x o' e
    rw [hg] at e
    obtain ⟨p, O, k1, k2, k3⟩ := h.main.obj x o' e
    exact ⟨p, O, below_mono (.refl _) hn _ _ k1, k2, k3.mono (below_mono (.refl _) hn)⟩
  · intro x y ox oy p q e1 e2 hne hro p1 q1
    rw [hg] at e1 e2
    obtain ⟨p', O, k1, _⟩ := h.main.obj x ox e1
    obtain ⟨q', O', k2, _⟩ := h.main.obj y oy e2
    rw [below_mono (.refl _) hn _ _ k1] at p1; cases p1
    rw [below_mono (.refl _) hn _ _ k2] at q1; cases q1
    exact h.main.inj x y ox oy _ _ e1 e2 hne hro k1 k2
  · intro x hxx
    unfold Ren.below
    rw [if_neg (by show ¬ x < n; exact Nat.not_lt.2 hxx)]
end
end Go.Sh

/-
  Regions that draw their order (6): an order; the whole region.
-/
namespace Go.Sh
open Go.RowKit

/-- an order of what is left -/
inductive Ord (ops : Array Oper) : (Nat → Prop) → List Nat → Prop where
  | nil (D : Nat → Prop) (h : ∀ i, i < ops.toList.length → D i) : Ord ops D []
  | cons (D : Nat → Prop) (i : Nat) (is : List Nat) (hi : i < ops.toList.length) (hn : ¬ D i) (had : ∀ k, mem k (ahead ops i) = true → D k) (h : Ord ops (also D i) is) : Ord ops D (i :: is)

def isListed (l : Array Bool) : Nat → Prop := fun i => l.getD i false = true

theorem also_listed {l : Array Bool} {i : Nat} (hi : i < l.size) : also (isListed l) i = isListed (l.setIfInBounds i true) := by
  funext k
  apply propext
  unfold also isListed
  simp only [Array.getD_eq_getD_getElem?, Array.getElem?_setIfInBounds]
  by_cases hk : i = k
  · subst hk; simp [hi]
  · simp only [if_neg hk]
    constructor
    · rintro (h | h)
      · exact h
      · exact absurd h.symm hk
    · exact .inl

theorem ord_go {ops : Array Oper} (hok : regionOk ops.toList = true) : ∀ (fuel t : Nat) (l : Array Bool), l.size = ops.size → (∀ i k, isListed l i → mem k (ahead ops i) = true → isListed l k) → l.toList.countP (fun b => !b) = fuel →
    Ord ops (isListed l) (Region.linearise.go .any ops fuel t l []) := by
  intro fuel
  induction fuel with
  | zero =>
    intro t l hs hd hc
    simp only [Region.linearise.go, List.reverse_nil]
    refine .nil _ fun i hi => ?_
    have hi' : i < l.toList.length := by simpa [hs] using hi
    have h0 := List.countP_eq_zero.1 hc (l.toList[i]) (List.getElem_mem hi')
    unfold isListed
    have : i < l.size := by simpa using hi'
    simp [Array.getD_eq_getD_getElem?, this]
    simpa using h0
  | succ fuel ih =>
    intro t l hs hd hc
    -- one at least can be listed
    have hex : ∃ i, i < ops.size ∧ ¬ isListed l i := by
      apply Classical.byContradiction
      intro hno
      have : l.toList.countP (fun b => !b) = 0 := by
        rw [List.countP_eq_zero]
        intro b hb
        obtain ⟨i, hi, rfl⟩ := List.mem_iff_getElem.1 hb
        have hi' : i < l.size := by simpa using hi
        have hl : isListed l i := Classical.byContradiction fun h => hno ⟨i, by omega, h⟩
        unfold isListed at hl
        simp [Array.getD_eq_getD_getElem?, hi'] at hl
        simp [hl]
      omega
    have hmin : ∃ i, i < ops.size ∧ ¬ isListed l i ∧ ∀ k, k < i → isListed l k := by
      obtain ⟨i, h1, h2⟩ := hex
      induction i using Nat.strongRecOn with
      | ind i ih =>
        by_cases hq : ∃ k, k < i ∧ ¬ isListed l k
        · obtain ⟨k, q1, q2⟩ := hq
          exact ih k q1 (by omega) q2
        · exact ⟨i, h1, h2, fun k hk => Classical.byContradiction fun h => hq ⟨k, hk, h⟩⟩
    have hready : ∀ i, i ∈ Region.ready .any ops l ↔ i < ops.size ∧ ¬ isListed l i ∧ ∀ e ∈ (ops.toList.getD i default).after.toList, Region.binds .any e = true → isListed l e.on := by
      intro i
      unfold Region.ready isListed
      simp only [List.mem_filter, List.mem_range, Bool.and_eq_true]
      constructor
      · rintro ⟨a, b, d⟩
        have hil : i < l.size := by omega
        refine ⟨a, by simpa [Array.getD_eq_getD_getElem?, hil] using b, fun e he hb => ?_⟩
        simp only [Array.getElem?_eq_getElem a, Option.map_some, Option.getD_some] at d
        rw [List.getD_eq_getElem?_getD, Array.getElem?_toList, Array.getElem?_eq_getElem a, Option.getD_some] at he
        have := Array.all_eq_true_iff_forall_mem.1 d e (by simpa using he)
        rw [hb] at this
        simpa using this
      · rintro ⟨a, b, d⟩
        have hil : i < l.size := by omega
        refine ⟨a, by simpa [Array.getD_eq_getD_getElem?, hil] using b, ?_⟩
        simp only [Array.getElem?_eq_getElem a, Option.map_some, Option.getD_some]
        rw [Array.all_eq_true_iff_forall_mem]
        intro e he
        cases hb : Region.binds .any e with
        | false => rfl
        | true =>
          have := d e (by rw [List.getD_eq_getElem?_getD, Array.getElem?_toList, Array.getElem?_eq_getElem a, Option.getD_some]; simpa using he) hb
          simpa using this
    have hne : Region.ready .any ops l ≠ [] := by
      obtain ⟨i, h1, h2, h3⟩ := hmin
      have hm : i ∈ Region.ready .any ops l := by
        rw [hready]
        refine ⟨h1, h2, fun e he hb => h3 _ ?_⟩
        have ho : ops.toList[i]? = some (ops.toList.getD i default) := by
          rw [List.getD_eq_getElem?_getD, Array.getElem?_toList, Array.getElem?_eq_getElem h1, Option.getD_some]
        have hedge := hok
        unfold regionOk at hedge
        have := edges_ok (and_t hedge).1 ho e he hb
        omega
      intro q; rw [q] at hm; cases hm
    simp only [Region.linearise.go]
    change Ord ops (isListed l) (match (Region.ready .any ops l)[t % (Region.ready .any ops l).length]? with
      | some i => Region.linearise.go .any ops fuel (t / (Region.ready .any ops l).length) (l.setIfInBounds i true) [i]
      | none => [].reverse)
    have hpos : 0 < (Region.ready .any ops l).length := List.length_pos_iff.2 hne
    have hlt := Nat.mod_lt t hpos
    rw [List.getElem?_eq_getElem hlt]
    simp only
    rw [linearise_go_acc, List.reverse_singleton, List.singleton_append]
    generalize hi : (Region.ready .any ops l)[t % (Region.ready .any ops l).length] = i
    have hmem : i ∈ Region.ready .any ops l := by rw [← hi]; exact List.getElem_mem hlt
    obtain ⟨h1, h2, h3⟩ := (hready i).1 hmem
    have hil : i < l.size := by omega
    have had : ∀ k, mem k (ahead ops i) = true → isListed l k := by
      intro k hk
      have ho : ops.toList[i]? = some (ops.toList.getD i default) := by
        rw [List.getD_eq_getElem?_getD, Array.getElem?_toList, Array.getElem?_eq_getElem h1, Option.getD_some]
      obtain ⟨e, a, b, d, g⟩ := ahead_of hok ho hk
      have hl := h3 e a b
      rcases g with g | g
      · rw [g]; exact hl
      · exact hd _ _ hl g
    refine .cons _ _ _ (by simpa using h1) h2 had ?_
    rw [also_listed hil]
    refine ih _ _ (by simp [hs]) ?_ ?_
    · rw [← also_listed hil]
      rintro x k (hx | hx) hk
      · exact .inl (hd x k hx hk)
      · subst hx; exact .inl (had k hk)
    · have hb : l.toList[i]'(by simpa using hil) = false := by
        unfold isListed at h2
        simpa [Array.getD_eq_getD_getElem?, hil] using h2
      rw [Array.toList_setIfInBounds, List.countP_set (by simpa using hil), hb, hc]
      simp

section
variable {P : Program} {E : Env} {run : AM → R (Value × Mem)} {ops : Array Oper} {nt : Nat} {tm : T Value} {m : Mem} {f : Nat → Dr}
variable {ρ₀ : Ren} {m₀ : Mem} {w₀ : World}
variable {fn : FuncId} {k : List Item} {ds : List Deferred} {kd : CallKind} {ro : Option Nat} {fs : List Frame}

theorem eff_nd {o : Op} {E : Env} {tm : T Value} {m : Mem} {res : Res} (e : execV o E tm m = .ok res) (h : ∀ d m', res ≠ .defer d m') : ∀ c, o ≠ .defer c := by
  intro c q
  obtain ⟨d, m', hr⟩ := execV_defer (o := ⟨none, o, default, default, default, none⟩) (c := c) q e
  exact h d m' hr

theorem walk (hE : EnvOk P E) (hr : RunOk P E run) (hx : Tx E run ops nt tm m f) (hz : m₀.next = (f 0).m.next) (hg : GlobR (ρ₀.below (f 0).m.next) E.ng) : ∀ (is : List Nat) (D : Nat → Prop) (c : Nat) (ρ : Ren) (w : World) (tmps : Array Value),
    Ord ops D is → Inv E ops nt f ρ₀ m₀ w₀ D c ρ w tmps → ∃ D' c' ρ' w' tmps', Steps P (lone (regF fn tmps ops is k ds kd ro) fs w) (lone ⟨fn, tmps', k, ds, .run, kd, ro⟩ fs w') ∧ Inv E ops nt f ρ₀ m₀ w₀ D' c' ρ' w' tmps' ∧ ∀ i, i < ops.toList.length → D' i := by
  intro is
  induction is with
  | nil =>
    intro D c ρ w tmps ho h
    cases ho with
    | nil _ hall => exact ⟨D, c, ρ, w, tmps, .one step_region_nil, h, hall⟩
  | cons i is ih =>
    intro D c ρ w tmps hord h
    cases hord with
    | cons _ _ _ hi hnd had hrest =>
    have ho : ops.toList[i]? = some (ops.toList[i]) := List.getElem?_eq_getElem hi
    generalize ops.toList[i] = o at ho
    have ho' : ops[i]? = some o := by rw [← Array.getElem?_toList]; exact ho
    have hev := h.t.ev (fr := regF fn tmps ops (i :: is) k ds kd ro) hx h.down h.dlt ho hnd had (h.glob hx hg (Nat.le_of_lt hi)) rfl
    have hwant : ∀ {q : Bool}, wantedL o.guard ops (f i).tm = .ok q → Region.wanted o (yielded ops tmps) = q := fun e => h.t.wanted hx h.down h.dlt ho had e
    have noE : ∀ {s : Nat}, sortOf o.op = s → s ≠ 3 → ¬ Eff ops f i := by
      intro s hs h3 ⟨o', a, b, _⟩
      rw [ho] at a; cases a; omega
    have noA : ∀ {s : Nat}, sortOf o.op = s → s ≠ 2 → ∀ ao, ¬ Al E ops f i ao := by
      intro s hs h3 ao ⟨o', _, _, a, b, _⟩
      rw [ho] at a; cases a; omega
    have go : ∀ {v' : Value} {c' : Nat} {ρ' : Ren} {w' : World}, Steps P (lone (regF fn tmps ops (i :: is) k ds kd ro) fs w) (lone (regF fn (putA o.dst v' tmps) ops is k ds kd ro) fs w') → Inv E ops nt f ρ₀ m₀ w₀ (also D i) c' ρ' w' (putA o.dst v' tmps) →
        ∃ D' c' ρ' w' tmps', Steps P (lone (regF fn tmps ops (i :: is) k ds kd ro) fs w) (lone ⟨fn, tmps', k, ds, .run, kd, ro⟩ fs w') ∧ Inv E ops nt f ρ₀ m₀ w₀ D' c' ρ' w' tmps' ∧ ∀ i, i < ops.toList.length → D' i := by
      intro v' c' ρ' w' hs hinv
      obtain ⟨D2, c2, ρ2, w2, t2, a, b, d⟩ := ih _ _ _ _ _ hrest hinv
      exact ⟨D2, c2, ρ2, w2, t2, hs.trans a, b, d⟩
    cases hx.step i o ho with
    | skip hw ht hm =>
      refine go (.one (mv_skip1 ho' (hwant hw))) (h.still hx ho hnd had ?_ ?_ ht (.tuple [] [] .nil))
      · rintro ⟨o', a, _, d⟩
        rw [ho] at a; cases a; rw [hw] at d; cases d
      · rintro ao ⟨o', _, _, a, _, d, _⟩
        rw [ho] at a; cases a; rw [hw] at d; cases d
    | pure hw hs v m' he hb ht hm =>
      obtain ⟨v', k1, k2⟩ := execP_sim (P := P) (w := w) hE (sort_pure hs) he hev
      exact go (.one (mv_still1 ho' (hwant hw) (pure_nd (sort_pure hs)) k2)) (h.still hx ho hnd had (noE hs (by omega)) (noA hs (by omega)) ht (by rw [hm]; exact k1))
    | read hw hs v m' he hb ht hk hm =>
      have hn1 : (f c).m.next ≤ max (f c).m.next (f i).m.next := Nat.le_max_left _ _
      have hn2 : (f i).m.next ≤ max (f c).m.next (f i).m.next := Nat.le_max_right _ _
      have hread := h.reads hx ho hs hw hnd had he hk (max (f c).m.next (f i).m.next)
      obtain ⟨v', k1, k2⟩ := execR_sim (P := P) hE (h.raise hn1) (sort_read hs) hread (fun x hxo => (hev x hxo).mono (below_mono (.refl _) hn2))
      have k3 := belowV_vr 20 (f i).m.next v v' hb k1
      refine go (.one (mv_still1 ho' (hwant hw) (read_nd (sort_read hs)) k2)) (h.still hx ho hnd had (noE hs (by omega)) (noA hs (by omega)) ht ?_)
      rw [hm]
      exact k3.mono (below_mono (below_le _ _) (Nat.le_refl _))
    | alloc hw hs v m' ao he ha hb ht hm =>
      have hform := alloc_form (n := (f i).m.next) (t := (f i).m.objs) (sort_alloc hs) he
      obtain ⟨ao', r1, r2, r3⟩ := hform
      have hsame : ao' = ao := by
        rw [r2, Mem.get_new] at ha
        have : (⟨(f i).m.next, (f i).m.objs⟩ : Mem).next = (f i).m.next := rfl
        rw [this, if_pos rfl] at ha
        cases ha; rfl
      subst hsame
      have hmem : MemR (ρ.below (f i).m.next) ⟨(f i).m.next, .nil⟩ w := by
        refine ⟨fun x o e => (by cases e), fun x y o o' p q e => (by cases e), fun x hxx => ?_, fun x p e => h.lt x p (below_some.1 e).2⟩
        unfold Ren.below
        rw [if_neg (Nat.not_lt.2 hxx)]
      have hsim := execV_sim (P := P) hE hmem (o := o) (tm := (f i).tm) (g := (regF fn tmps ops (i :: is) k ds kd ro).eval) (r3 .nil) hev
      obtain ⟨v', ρ₁, w', s1, s2, s3, s4⟩ := mv_outs1 (fs := fs) ho' (hwant hw) (alloc_nd (sort_alloc hs)) hsim
      exact go s1 (h.alloc hx ho hnd had ⟨o, v, m', ho, hs, hw, he, ha⟩ r1 ht s2 s3 s4)
    | eff hw hs res v he hres hl hn hb ht =>
      have hee : Eff ops f i := ⟨o, ho, hs, hw⟩
      have hp := h.put_eff hx hee hnd had
      have hrel := h.put_rel hx hp
      have hsim := execV_sim (P := P) hE hrel (o := o) (tm := (f i).tm) (g := (regF fn tmps ops (i :: is) k ds kd ro).eval) he hev
      rcases hres with rfl | ⟨g, args, m1, a, rfl, q1, q2⟩
      · obtain ⟨v', ρ₁, w', s1, s2, s3, s4⟩ := mv_outs1 (fs := fs) ho' (hwant hw) (eff_nd he (fun d m' q => by cases q)) hsim
        exact go s1 (h.eff hx hz ho hee hnd had ht s2 s3 s4)
      · obtain ⟨v', ρ₁, w', s1, s2, s3, s4⟩ := mv_enter1 (fs := fs) hE hr ho' (hwant hw) (eff_nd he (fun d m' q => by cases q)) hsim q1 q2 hrel (h.glob hx hg (Nat.le_of_lt hi))
        exact go s1 (h.eff hx hz ho hee hnd had ht s2 s3 s4)

theorem step_draw1 {id : Nat} {tmps : Array Value} {w : World} (hmix : P.follows .mixedOrders = true) : ∃ t, Go.step P (lone ⟨fn, tmps, .code (.region id ops true) :: k, ds, .run, kd, ro⟩ fs w) =
    .next (lone (regF fn tmps ops (Region.linearise .any ops t) k ds kd ro) fs { w with drawn := w.drawn + 1 }) := by
  refine ⟨w.tape w.drawn (.order fn id), step_lone_go ?_⟩
  simp [stepG, stepG.exec, regF, choose, Sem.run, Question.forced, Question.cut, Region.schedule, hmix]

theorem draw_ok (hE : EnvOk P E) {r : AM → R (Value × Mem)} (hr : RunOk P E r) : DrawOk P E r := by
  intro id ops nt tm m p ρ w fn tmps k ds kd ro fs e ht hm hg
  obtain ⟨f, hx, rfl⟩ := drawV_tx e
  have hz : f 0 = ⟨tm, m, [], [], []⟩ := hx.zero
  have hzm : (f 0).m = m := by rw [hz]
  have hzt : (f 0).tm = tm := by rw [hz]
  obtain ⟨t, hstep⟩ := step_draw1 (P := P) (fn := fn) (ops := ops) (k := k) (ds := ds) (kd := kd) (ro := ro) (fs := fs) (id := id) (tmps := tmps) (w := w) hE.mixed
  have hbel : ρ.below (f 0).m.next = ρ := by rw [hzm]; exact below_fresh hm
  have hord : Ord ops (fun _ => False) (Region.linearise .any ops t) := by
    have key := ord_go hx.ok ops.size t (Array.replicate ops.size false) (by simp) ?_ ?_
    · have : isListed (Array.replicate ops.size false) = fun _ => False := by
        funext i
        unfold isListed
        by_cases hi : i < ops.size <;> simp [Array.getD_eq_getD_getElem?, hi]
      rw [this] at key
      exact key
    · intro i k' hi
      unfold isListed at hi
      by_cases hq : i < ops.size <;> simp [Array.getD_eq_getD_getElem?, hq] at hi
    · simp [List.countP_replicate]
  have hinv : Inv E ops nt f ρ m w (fun _ => False) 0 ρ { w with drawn := w.drawn + 1 } tmps := by
    refine ⟨fun _ h => h.elim, fun _ _ h => h.elim, Nat.zero_le _, fun e h => absurd h (Nat.not_lt_zero _), fun _ h => h.elim, .inl rfl, by rw [hbel, hzm]; exact hm.drawn _, hm.lt, fun x p hxp => .inl ?_, fun _ _ h => h.1.elim, fun _ _ _ _ _ _ h => h.1.elim,
      ⟨ht.size, fun _ _ _ h => h.elim, fun t' _ => by rw [hbel, hzt]; exact ht.at_ t'⟩, .refl _, rfl, rfl, rfl, Nat.le_refl _, fun _ _ _ => rfl, fun b hb _ => by rw [hbel, hzm] at hb; exact hb, fun _ _ h _ => h, fun x o h _ => by rw [hzm] at h; exact h⟩
    apply Nat.lt_of_not_le
    intro hle
    rw [hzm] at hle
    rw [hm.fresh x hle] at hxp; cases hxp
  obtain ⟨D, c, ρ', w', tmps', s1, s2, s3⟩ := walk (m₀ := m) (k := k) (ds := ds) (kd := kd) (ro := ro) (fs := fs) (fn := fn) hE hr hx (by rw [hzm]) (by rw [hbel]; exact hg) _ _ _ _ _ _ hord hinv
  have hlen : c ≤ ops.toList.length := s2.c_le
  have hput : Put ops f D c ops.toList.length (f ops.toList.length).pend := by
    refine ⟨Nat.le_refl _, hlen, hx.objs_stay hlen (Nat.le_refl _) fun e a b he => ?_, fun e _ he => he.lt, fun y hy => ⟨hy, ?_⟩⟩
    · have := s2.c_out e (s3 e b) he; omega
    · obtain ⟨i, x, ao⟩ := y
      exact s3 i (hx.pend_mem (Nat.le_refl _) hy).1
  have hall : ρ'.below (f ops.toList.length).m.next = ρ' := by
    funext x
    unfold Ren.below
    by_cases hxx : x < (f ops.toList.length).m.next
    · rw [if_pos hxx]
    · rw [if_neg hxx]
      cases hq : ρ' x with
      | none => rfl
      | some p =>
        rcases s2.dom x p hq with h1 | ⟨i, h1, h2, h3⟩
        · have := hx.next_le (Nat.zero_le ops.toList.length) (Nat.le_refl _); omega
        · have h4 := s2.dlt i h1
          have := hx.next_le (i := i + 1) (j := ops.toList.length) h4 (Nat.le_refl _); omega
  have hrel := s2.put_rel hx hput
  rw [hall] at hrel
  refine ⟨ρ', tmps', w', (Steps.one hstep).trans s1, ⟨s2.t.tsize, fun t' => ?_⟩, hrel, ⟨s2.le, s2.os, s2.tape, s2.output, s2.size, s2.keep, ?_, ?_, ?_, ?_⟩⟩
  · by_cases hex : ∃ (i : Nat) (o : Oper), ops.toList[i]? = some o ∧ o.dst = some t'
    · obtain ⟨i, o, h1, h2⟩ := hex
      have hi := (List.getElem?_eq_some_iff.1 h1).1
      have key := s2.t.tmD i o t' (s3 i hi) h1 h2
      rw [← hx.tm_stays (i := i + 1) (j := ops.toList.length) hi (Nat.le_refl _) fun k' o' h3 h4 h5 h6 => by have := ok_once hx.ok h5 h6 h1 h2; omega] at key
      exact key.mono (below_le _ _)
    · have key := s2.t.tm0 t' fun i o _ h1 h2 => hex ⟨i, o, h1, h2⟩
      rw [← hx.tm_stays (i := 0) (j := ops.toList.length) (Nat.zero_le _) (Nat.le_refl _) fun k' o' _ _ h5 h6 => hex ⟨k', o', h5, h6⟩] at key
      exact key.mono (below_le _ _)
  · intro b hb hlt
    rw [← hall] at hb
    exact s2.put_old hx hput b hb hlt
  · rw [putMany_next, ← hzm]; exact hx.next_le (Nat.zero_le _) (Nat.le_refl _)
  · intro x p hq hlt
    exact s2.new x p hq (by rw [hzm]; exact hlt)
  · intro x o hq hro
    exact s2.ro x o (s2.put_ro hx hput hq hro) hro

theorem calls_run (hE : EnvOk P E) {n : Nat} {g : FuncId} {args args' : List Value} {a : AF} {m m' : Mem} {w : World} {ρ : Ren} {v : Value} (he : enterF E g args .normal = .ok a) (e : Sh.run E n ⟨a, [], m⟩ = .ok (v, m'))
    (ha : VRs ρ args args') (hm : MemR ρ m w) (hg : GlobR ρ E.ng) : Calls P g ⟨args'⟩ w (Ret ρ m w v m') :=
  calls_of_run hE (fun _ h => draw_ok hE h) he e ha hm hg
end
end Go.Sh
