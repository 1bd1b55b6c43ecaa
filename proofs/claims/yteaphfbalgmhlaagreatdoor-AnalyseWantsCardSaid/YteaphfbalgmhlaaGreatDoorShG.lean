/-
  PART OF A CLAIM's PROOF (ShG, ShH, ShI, ShJ): a shadow of the machine, or what is shown by it.
-/
import Derived.Test.YteaphfbalgmhlaaGreatDoorShB
set_option linter.unusedSimpArgs false
set_option linter.unusedVariables false
/-
  What is worked out of values, continued: operators, slices, fields, indexes.
-/
namespace Go.Sh
open Go.RowKit

section
variable {ρ : Ren} {m : Mem} {w : World} {P : Program} {E : Env}

/-! operators -/
theorem guard_other {op : BinOp} {t : TypeId} {x y : Operand} {a b : Value} (h : ¬ (a = .nilIface ∧ b = .nilIface)) (k : ∀ cs ds, ¬ (a = .agg cs ∧ b = .agg ds)) (w : World) : (eqGuard op t x y a b).run P w = .ok () w := by
  cases op <;> first
    | rfl
    | (cases a <;> cases b <;> first
        | rfl
        | exact (h ⟨rfl, rfl⟩).elim
        | exact (k _ _ ⟨rfl, rfl⟩).elim)
theorem guard_agg {op : BinOp} {t : TypeId} {x y : Operand} {a b : Array Value} (h : P.eqGuardType P.depth t = false) (w : World) : (eqGuard op t x y (.agg a) (.agg b)).run P w = .ok () w := by
  cases op <;> first
    | rfl
    | simp [eqGuard, h]
theorem guard_lit {op : BinOp} {t : TypeId} {x y : Operand} (h : (isLit x || isLit y) = true) (w : World) : (eqGuard op t x y .nilIface .nilIface).run P w = .ok () w := by
  cases op <;> first
    | rfl
    | (cases x <;> cases y <;> first | rfl | (simp [isLit] at h))

theorem notR_ok {neg : Bool} {r : R Bool} {v : Value} (h : notR neg r = .ok v) : ∃ b, r = .ok b ∧ v = .bool (if neg then !b else b) := by
  obtain ⟨b, h1, h2⟩ := R.bnd_ok h
  cases h2
  exact ⟨b, h1, by cases neg <;> rfl⟩

theorem run_eqlop (t : TypeId) {x y : Value} {b : Bool} (w : World) (hx : (∀ k n, x ≠ .int k n) ∨ (∀ k n, y ≠ .int k n)) (hs : (∀ s, x ≠ .string s) ∨ (∀ s, y ≠ .string s)) (hf : ∀ k n, x ≠ .float k n) (hc : ∀ k a b, x ≠ .complex k a b)
    (h : (Op.equalIn Op.maxDepth t x y).run P w = .ok b w) : (binOp .eql t x y).run P w = .ok (.bool b) w ∧ (binOp .neq t x y).run P w = .ok (.bool (!b)) w := by
  have h' : (Op.equal t x y).run P w = .ok b w := h
  constructor
  · cases x <;> cases y <;> first
      | (exfalso; first | exact (hf _ _ rfl).elim | exact (hc _ _ _ rfl).elim | exact hx.elim (fun q => q _ _ rfl) (fun q => q _ _ rfl) | exact hs.elim (fun q => q _ rfl) (fun q => q _ rfl))
      | (simp only [binOp, Sem.run_bind, h', Result.andThen_ok, Sem.run_pure])
  · cases x <;> cases y <;> first
      | (exfalso; first | exact (hf _ _ rfl).elim | exact (hc _ _ _ rfl).elim | exact hx.elim (fun q => q _ _ rfl) (fun q => q _ _ rfl) | exact hs.elim (fun q => q _ rfl) (fun q => q _ rfl))
      | (simp only [binOp, Sem.run_bind, h', Result.andThen_ok, Sem.run_pure])

theorem eqV_top {n : Nat} {t : TypeId} {a b : Value} {r : Bool} (h : eqV E n t a b = .ok r) : ∃ f i, E.tiR t = .ok i ∧ eqD E f i.plain i.td a b = .ok r := by
  cases n with
  | zero => simp [eqV] at h
  | succ n =>
    simp only [eqV] at h
    obtain ⟨i, h1, h2⟩ := R.bnd_ok h
    exact ⟨_, i, h1, h2⟩
theorem eqD_top1 (f : TypeId → Value → Value → R Bool) (pl : Bool) (td : TD) (b : Value) : eqD E f pl td (.chan none) b = .no 26 := by
  cases td <;> cases b <;> rfl
theorem eqD_top2 (f : TypeId → Value → Value → R Bool) (pl : Bool) (td : TD) (a : Value) : eqD E f pl td a (.chan none) = .no 26 := by
  cases td <;> cases a <;> first | rfl | (rename_i q; cases q <;> rfl) | (rename_i q _ _; cases q <;> rfl)

theorem eqD_agg {f : TypeId → Value → Value → R Bool} {td : TD} {cs ds : Array Value} {r : Bool} (h : eqD E f false td (.agg cs) (.agg ds) = .ok r) : False := by
  obtain ⟨cs⟩ := cs
  obtain ⟨ds⟩ := ds
  cases td <;> cases h

/-- what the shadow's '==' was asked of is neither a number nor a text on both sides, nor unknown -/
theorem eqOp_sim (hE : EnvTi P E) {neg : Bool} {t : TypeId} {x y : Operand} {a b a' b' : Value} {v : Value} (e : eqOp E neg t (isLit x || isLit y) a b = .ok v)
    (hi : ∀ k n k' n', ¬ (a = .int k n ∧ b = .int k' n')) (hs : ∀ p q, ¬ (a = .string p ∧ b = .string q)) (ha : VR ρ a a') (hb : VR ρ b b') (w : World) :
    VR ρ v v ∧ ((do eqGuard (if neg then .neq else .eql) t x y a' b'; binOp (if neg then .neq else .eql) t a' b' : Sem Value)).run P w = .ok v w := by
  have key : ∀ (e : notR neg (eqV E 30 t a b) = .ok v) (hg : (eqGuard (if neg then .neq else .eql) t x y a' b').run P w = .ok () w),
      VR ρ v v ∧ ((do eqGuard (if neg then .neq else .eql) t x y a' b'; binOp (if neg then .neq else .eql) t a' b' : Sem Value)).run P w = .ok v w := by
    intro e hg
    obtain ⟨r, h1, rfl⟩ := notR_ok e
    have h2 := eqV_sim hE ρ 30 t a b r h1 a' b' ha hb Op.maxDepth w (by decide)
    have hne : (∀ k n, a' ≠ .float k n) ∧ (∀ k c d, a' ≠ .complex k c d) := by
      obtain ⟨f, i, _, h1⟩ := eqV_top h1
      cases ha <;> first | (rw [eqD_top1] at h1; cases h1; done) | exact ⟨fun _ _ => by simp, fun _ _ _ => by simp⟩
    have hi' : (∀ k n, a' ≠ .int k n) ∨ (∀ k n, b' ≠ .int k n) := by
      obtain ⟨f, i, _, h1⟩ := eqV_top h1
      cases ha <;> cases hb <;> first
        | (rw [eqD_top1] at h1; cases h1; done)
        | (rw [eqD_top2] at h1; cases h1; done)
        | exact .inl fun _ _ => Value.noConfusion
        | exact .inr fun _ _ => Value.noConfusion
        | exact (hi _ _ _ _ ⟨rfl, rfl⟩).elim
    have hs' : (∀ s, a' ≠ .string s) ∨ (∀ s, b' ≠ .string s) := by
      obtain ⟨f, i, _, h1⟩ := eqV_top h1
      cases ha <;> cases hb <;> first
        | (rw [eqD_top1] at h1; cases h1; done)
        | (rw [eqD_top2] at h1; cases h1; done)
        | exact .inl fun _ => Value.noConfusion
        | exact .inr fun _ => Value.noConfusion
        | exact (hs _ _ ⟨rfl, rfl⟩).elim
    have := run_eqlop (P := P) t w hi' hs' hne.1 hne.2 h2
    refine ⟨.bool _, ?_⟩
    simp only [Sem.run_bind, hg, Result.andThen_ok]
    cases neg
    · simpa using this.1
    · simpa using this.2
  by_cases hnn : a = .nilIface ∧ b = .nilIface
  · obtain ⟨rfl, rfl⟩ := hnn
    simp only [eqOp] at e
    obtain ⟨hl, e⟩ := bif_ok e
    cases ha; cases hb
    exact key e (guard_lit hl w)
  · have e' : notR neg (eqV E 30 t a b) = .ok v := by
      cases a <;> cases b <;> first | exact (hnn ⟨rfl, rfl⟩).elim | exact e
    by_cases hag : ∃ cs ds, a = .agg cs ∧ b = .agg ds
    · obtain ⟨cs, ds, rfl, rfl⟩ := hag
      have hg : P.eqGuardType P.depth t = false := by
        obtain ⟨r, h1, _⟩ := notR_ok e'
        obtain ⟨f, i, hi, h1⟩ := eqV_top h1
        obtain ⟨k⟩ := tiR_ok hE hi
        cases hp : i.plain with
        | true => exact (k.plain hp).1
        | false => rw [hp] at h1; exact (eqD_agg h1).elim
      cases ha; cases hb
      exact key e' (guard_agg hg w)
    · refine key e' (guard_other ?_ ?_ w)
      · rintro ⟨rfl, rfl⟩
        obtain ⟨r, h1, _⟩ := notR_ok e'
        obtain ⟨f, i, _, h1⟩ := eqV_top h1
        cases ha <;> cases hb <;> first
          | exact hnn ⟨rfl, rfl⟩
          | (rw [eqD_top1] at h1; cases h1)
          | (rw [eqD_top2] at h1; cases h1)
      · rintro cs ds ⟨rfl, rfl⟩
        obtain ⟨r, h1, _⟩ := notR_ok e'
        obtain ⟨f, i, _, h1⟩ := eqV_top h1
        cases ha <;> cases hb <;> first
          | exact hag ⟨_, _, rfl, rfl⟩
          | (rw [eqD_top1] at h1; cases h1)
          | (rw [eqD_top2] at h1; cases h1)

theorem binOpV_sim (hE : EnvTi P E) {op : BinOp} {t : TypeId} {x y : Operand} {a b a' b' : Value} {v : Value} (e : binOpV E t (isLit x || isLit y) op a b = .ok v) (ha : VR ρ a a') (hb : VR ρ b b') (w : World) :
    VR ρ v v ∧ ((do eqGuard op t x y a' b'; binOp op t a' b' : Sem Value)).run P w = .ok v w := by
  have g : ∀ {p q : Value}, ¬ (p = .nilIface ∧ q = .nilIface) → (∀ cs ds, ¬ (p = .agg cs ∧ q = .agg ds)) → ∀ {r : Value}, (binOp op t p q).run P w = .ok r w → ((do eqGuard op t x y p q; binOp op t p q : Sem Value)).run P w = .ok r w := by
    intro p q h1 h2 r h3
    simp only [Sem.run_bind, guard_other h1 h2, Result.andThen_ok, h3]
  by_cases hii : ∃ k n k' n', a = .int k n ∧ b = .int k' n'
  · obtain ⟨k, n, k', n', rfl, rfl⟩ := hii
    cases ha; cases hb
    by_cases hsh : op = .shl ∨ op = .shr
    · have e' : shiftOp op k n n' = .ok v := by rcases hsh with rfl | rfl <;> exact e
      obtain ⟨h1, h2⟩ := shiftOp_sim (ρ := ρ) (P := P) (yk := k') e' t w
      exact ⟨h2, g (by simp) (by simp) h1⟩
    · have hk : k = k' ∧ intOp op k n n' = .ok v := by
        cases op <;> first
          | (exfalso; exact hsh (.inl rfl))
          | (exfalso; exact hsh (.inr rfl))
          | (simp only [binOpV, binOpI] at e; split at e
             · rename_i hk; exact ⟨hk, e⟩
             · cases e)
      obtain ⟨rfl, e'⟩ := hk
      obtain ⟨h1, h2⟩ := intOp_sim (ρ := ρ) (P := P) ⟨fun h => hsh (.inl h), fun h => hsh (.inr h)⟩ e' t w
      exact ⟨h2, g (by simp) (by simp) h1⟩
  · by_cases hss : ∃ p q, a = .string p ∧ b = .string q
    · obtain ⟨p, q, rfl, rfl⟩ := hss
      cases ha; cases hb
      have e' : strOp op p q = .ok v := e
      obtain ⟨h1, h2⟩ := strOp_sim (ρ := ρ) (P := P) e' w
      refine ⟨h2, g (by simp) (by simp) ?_⟩
      have : binOp op t (.string p) (.string q) = Op.stringOp op p q := by cases op <;> rfl
      rw [this]; exact h1
    · have e' : binOpO E t (isLit x || isLit y) op a b = .ok v := by
        cases a <;> cases b <;> first
          | (exfalso; exact hii ⟨_, _, _, _, rfl, rfl⟩)
          | (exfalso; exact hss ⟨_, _, rfl, rfl⟩)
          | exact e
      have hop : (op = .eql ∧ eqOp E false t (isLit x || isLit y) a b = .ok v) ∨ (op = .neq ∧ eqOp E true t (isLit x || isLit y) a b = .ok v) := by
        cases op <;> first | (left; exact ⟨rfl, e'⟩) | (right; exact ⟨rfl, e'⟩) | (cases e')
      rcases hop with ⟨rfl, e'⟩ | ⟨rfl, e'⟩
      · exact eqOp_sim (neg := false) hE e' (fun k n k' n' h => hii ⟨k, n, k', n', h.1, h.2⟩) (fun p q h => hss ⟨p, q, h.1, h.2⟩) ha hb w
      · exact eqOp_sim (neg := true) hE e' (fun k n k' n' h => hii ⟨k, n, k', n', h.1, h.2⟩) (fun p q h => hss ⟨p, q, h.1, h.2⟩) ha hb w

theorem unOpV_sim {op : UnOp} {a a' v : Value} (e : unOpV op a = .ok v) (ha : VR ρ a a') (w : World) : VR ρ v v ∧ (Op.unary op a').run P w = .ok v w := by
  cases ha <;> cases op <;> simp only [unOpV] at e <;> first
    | (cases e; done)
    | (cases e; exact ⟨.bool _, rfl⟩)
    | (cases e; exact ⟨.int _ _, rfl⟩)
    | (simp only [intOp] at e; cases e; exact ⟨.int _ _, rfl⟩)

/-! slices -/
inductive VRo (ρ : Ren) : Option Value → Option Value → Prop where
  | none : VRo ρ none none
  | some (v v' : Value) (h : VR ρ v v') : VRo ρ (some v) (some v')

theorem natVal_ok {v v' : Value} {n : Nat} (h : natVal v = .ok n) (hv : VR ρ v v') : ∃ k, v' = .int k (n : Int) := by
  cases hv <;> simp [natVal] at h
  rename_i k i
  cases i <;> simp at h
  subst h
  exact ⟨k, rfl⟩

theorem sliceBound_run {k : IntKind} {n y : Nat} (h : n ≤ y) (c : BoundsCode) (w : World) : (Instr.sliceBound (.int k (n : Int)) y c).run P w = .ok n w := by
  simp only [Instr.sliceBound, asIntOf, Sem.run_bind, Sem.run_pure, Result.andThen_ok]
  rw [if_pos ⟨by omega, by omega⟩]
  simp

theorem sliceB_some {v v' : Value} {d y n : Nat} (e : sliceB (some v) d y = .ok n) (hv : VR ρ v v') : ∃ k, v' = .int k (n : Int) ∧ n ≤ y := by
  simp only [sliceB] at e
  obtain ⟨q, h1, h2⟩ := R.bnd_ok e
  obtain ⟨h3, h4⟩ := bif_ok h2
  cases h4
  obtain ⟨k, hk⟩ := natVal_ok h1 hv
  exact ⟨k, hk, Nat.le_of_ble_eq_true h3⟩

/-- the three bounds, where the machine's room is no less -/
theorem bounds_sim {isS : Bool} {len cap cap' : Nat} {lo hi lo' hi' : Option Value} {h l : Nat} (hl : len ≤ cap) (hc : cap ≤ cap') (e1 : sliceB hi len cap = .ok h) (e2 : sliceB lo 0 h = .ok l) (rl : VRo ρ lo lo') (rh : VRo ρ hi hi') (w : World) :
    (Instr.sliceBounds isS len cap' lo' hi' none).run P w = .ok (l, h, cap') w ∧ h ≤ cap ∧ l ≤ h := by
  have a1 : h ≤ cap := by
    cases rh with
    | none => simp only [sliceB] at e1; cases e1; exact hl
    | some v v' hv => obtain ⟨_, _, q⟩ := sliceB_some e1 hv; exact q
  have a2 : l ≤ h := by
    cases rl with
    | none => simp only [sliceB] at e2; cases e2; omega
    | some v v' hv => obtain ⟨_, _, q⟩ := sliceB_some e2 hv; exact q
  refine ⟨?_, a1, a2⟩
  cases rh with
  | none =>
    simp only [sliceB] at e1; cases e1
    cases rl with
    | none => simp only [sliceB] at e2; cases e2; simp [Instr.sliceBounds]
    | some u u' hu =>
      obtain ⟨k, rfl, q⟩ := sliceB_some e2 hu
      simp [Instr.sliceBounds, sliceBound_run q]
  | some v v' hv =>
    obtain ⟨k, rfl, q⟩ := sliceB_some e1 hv
    have q' : h ≤ cap' := by omega
    cases rl with
    | none => simp only [sliceB] at e2; cases e2; simp [Instr.sliceBounds, sliceBound_run q']
    | some u u' hu =>
      obtain ⟨k, rfl, q2⟩ := sliceB_some e2 hu
      simp [Instr.sliceBounds, sliceBound_run q', sliceBound_run q2]

theorem bounds_run {isS : Bool} {len cap : Nat} {lo hi lo' hi' : Option Value} {h l : Nat} (e1 : sliceB hi len cap = .ok h) (e2 : sliceB lo 0 h = .ok l) (rl : VRo ρ lo lo') (rh : VRo ρ hi hi') {w : World} :
    (Instr.sliceBounds isS len cap lo' hi' none).run P w = .ok (l, h, cap) w := by
  cases rh with
  | none =>
    simp only [sliceB] at e1; cases e1
    cases rl with
    | none => simp only [sliceB] at e2; cases e2; simp [Instr.sliceBounds]
    | some u u' hu =>
      obtain ⟨k, rfl, q⟩ := sliceB_some e2 hu
      simp [Instr.sliceBounds, sliceBound_run q]
  | some v v' hv =>
    obtain ⟨k, rfl, q'⟩ := sliceB_some e1 hv
    cases rl with
    | none => simp only [sliceB] at e2; cases e2; simp [Instr.sliceBounds, sliceBound_run q']
    | some u u' hu =>
      obtain ⟨k, rfl, q2⟩ := sliceB_some e2 hu
      simp [Instr.sliceBounds, sliceBound_run q', sliceBound_run q2]

theorem bounds3_sim {isS : Bool} {len cap : Nat} {lo hi lo' hi' : Option Value} {v v' : Value} {mm h l : Nat} (e0 : sliceB (some v) cap cap = .ok mm) (e1 : sliceB hi len mm = .ok h) (e2 : sliceB lo 0 h = .ok l) (rv : VR ρ v v') (rl : VRo ρ lo lo') (rh : VRo ρ hi hi') (hh : hi ≠ none) (w : World) :
    (Instr.sliceBounds isS len cap lo' hi' (some v')).run P w = .ok (l, h, mm) w ∧ mm ≤ cap ∧ h ≤ mm ∧ l ≤ h := by
  obtain ⟨k, rfl, q0⟩ := sliceB_some e0 rv
  cases rh with
  | none => exact (hh rfl).elim
  | some u u' hu =>
    obtain ⟨k, rfl, q1⟩ := sliceB_some e1 hu
    cases rl with
    | none => simp only [sliceB] at e2; cases e2; refine ⟨by simp [Instr.sliceBounds, sliceBound_run q0, sliceBound_run q1], q0, q1, by omega⟩
    | some u u' hu =>
      obtain ⟨k, rfl, q2⟩ := sliceB_some e2 hu
      exact ⟨by simp [Instr.sliceBounds, sliceBound_run q0, sliceBound_run q1, sliceBound_run q2], q0, q1, q2⟩

theorem opnO_of (h : MemR ρ m w) {x : Nat} {p : Pl} {o : Option Nat} (e : opnO (m.get x) = .ok o) (hp : ρ x = some p) : o = p.opn := by
  cases hx : m.get x with
  | none => rw [hx] at e; simp [opnO] at e
  | some q =>
    rw [hx] at e
    obtain ⟨p', O, h1, _, h3⟩ := h.obj x q hx
    rw [hp] at h1; cases h1
    cases h3 <;> simp [opnO] at e
    exact e.symm

theorem stays_eq (mm l : Nat) (b o n : Nat) : stays mm l ⟨b, o, none⟩ n = if mm = l then ⟨b, o, none⟩ else ⟨b, o + n, none⟩ := by
  unfold stays
  by_cases h : mm = l
  · subst h; simp
  · have : Nat.beq mm l = false := by
      cases hb : Nat.beq mm l with
      | false => rfl
      | true => exact (h (Nat.eq_of_beq_eq_true hb)).elim
    rw [this, if_neg h]; simp [addA_eq]

theorem subB_eq (s : ByteArray) (l h : Nat) : subB s l h = s.extract l h := by
  obtain ⟨⟨s⟩⟩ := s
  apply ByteArray.ext
  simp only [subB, ByteArray.data_extract]
  apply Array.ext'
  simp [List.extract]

theorem sliceV_sim (hE : EnvTi P E) (hm : MemR ρ m w) {t : TypeId} {td : TD} {x x' v : Value} {lo hi mx lo' hi' mx' : Option Value} (ht : E.tdR t = .ok td) (e : sliceD E m td x lo hi mx = .ok v) (hx : VR ρ x x')
    (rl : VRo ρ lo lo') (rh : VRo ρ hi hi') (rm : VRo ρ mx mx') : ∃ v', VR ρ v v' ∧ (Instr.sliceAt t x' lo' hi' mx').run P w = .ok v' w := by
  obtain ⟨d, hu, hd⟩ := tdR_ok hE ht
  cases hd
  case string =>
    cases hx <;> try (simp [sliceD] at e; done)
    case string s =>
    cases rm with
    | some => simp [sliceD] at e
    | none =>
      simp only [sliceD] at e
      obtain ⟨h, e1, e⟩ := R.bnd_ok e
      obtain ⟨l, e2, e⟩ := R.bnd_ok e
      cases e
      have hs : lenB s = s.size := by obtain ⟨⟨s⟩⟩ := s; rfl
      rw [hs] at e1
      obtain ⟨r, _, _⟩ := bounds_sim (P := P) (isS := false) (Nat.le_refl _) (Nat.le_refl _) e1 e2 rl rh w
      refine ⟨.string (subB s l h), .string _, ?_⟩
      simp only [Instr.sliceAt, Sem.run_bind, run_und hu, Result.andThen_ok, Instr.slice, Option.isSome_none, Bool.false_eq_true, if_false, r, Sem.run_pure, subB_eq]
  case slice el =>
    cases hx <;> try (simp [sliceD] at e; done)
    case snil len cap =>
      cases rm with
      | none =>
        simp only [sliceD, sliceS] at e
        obtain ⟨h, e1, e⟩ := R.bnd_ok e
        obtain ⟨l, e2, e⟩ := R.bnd_ok e
        obtain ⟨k, e3, e⟩ := R.bnd_ok e
        obtain ⟨j, hj, _⟩ := sizeR_ok hE e3
        cases e
        refine ⟨_, .snil _ _, ?_⟩
        simp only [Instr.sliceAt, Sem.run_bind, run_und hu, Result.andThen_ok, Instr.slice, bounds_run e1 e2 rl rh, run_size hj, Sem.run_pure]
        by_cases q : cap = l <;> simp [q]
      | some u u' hu' =>
        cases rh with
        | none => simp [sliceD, sliceS] at e
        | some y y' hy =>
          simp only [sliceD, sliceS] at e
          obtain ⟨mm, e0, e⟩ := R.bnd_ok e
          obtain ⟨h, e1, e⟩ := R.bnd_ok e
          obtain ⟨l, e2, e⟩ := R.bnd_ok e
          obtain ⟨k, e3, e⟩ := R.bnd_ok e
          obtain ⟨j, hj, _⟩ := sizeR_ok hE e3
          cases e
          refine ⟨_, .snil _ _, ?_⟩
          have q := (bounds3_sim (P := P) (isS := true) (len := len) e0 e1 e2 hu' rl (.some _ _ hy) (by simp) w).1
          simp only [Instr.sliceAt, Sem.run_bind, run_und hu, Result.andThen_ok, Instr.slice, q, run_size hj, Sem.run_pure]
          by_cases q : mm = l <;> simp [q]
    case bare x o s a =>
      cases rm with
      | none =>
        simp only [sliceD, sliceS] at e
        obtain ⟨h, e1, e⟩ := R.bnd_ok e
        obtain ⟨l, e2, e⟩ := R.bnd_ok e
        obtain ⟨k, e3, e⟩ := R.bnd_ok e
        obtain ⟨on, e4, e⟩ := R.bnd_ok e
        obtain ⟨_, e⟩ := bif_ok e
        obtain ⟨j, hj, _⟩ := sizeR_ok hE e3
        cases e
        obtain ⟨q, q1, q2⟩ := bounds_sim (P := P) (isS := true) (Nat.le_refl _) (Nat.le_refl _) e1 e2 rl rh w
        have h0 : h = 0 := by omega
        have l0 : l = 0 := by omega
        subst h0; subst l0
        refine ⟨.slice (some a) 0 0, .bare x o s a, ?_⟩
        simp only [Instr.sliceAt, Sem.run_bind, run_und hu, Result.andThen_ok, Instr.slice, q, run_size hj, Sem.run_pure, if_true, Nat.sub_zero]
      | some u u' hu' =>
        cases rh with
        | none => simp [sliceD, sliceS] at e
        | some y y' hy =>
          simp only [sliceD, sliceS] at e
          obtain ⟨mm, e0, e⟩ := R.bnd_ok e
          obtain ⟨h, e1, e⟩ := R.bnd_ok e
          obtain ⟨l, e2, e⟩ := R.bnd_ok e
          obtain ⟨k, e3, e⟩ := R.bnd_ok e
          obtain ⟨j, hj, _⟩ := sizeR_ok hE e3
          obtain ⟨q, q0, q1, q2⟩ := bounds3_sim (P := P) (isS := true) (len := 0) e0 e1 e2 hu' rl (.some _ _ hy) (by simp) w
          have m0 : mm = 0 := by omega
          have h0 : h = 0 := by omega
          have l0 : l = 0 := by omega
          subst m0; subst h0; subst l0
          rw [show Nat.beq 0 0 = true from rfl] at e
          simp only [cond_true] at e
          cases e
          refine ⟨.slice (some a) 0 0, .bare x o 0 a, ?_⟩
          simp only [Instr.sliceAt, Sem.run_bind, run_und hu, Result.andThen_ok, Instr.slice, q, run_size hj, Sem.run_pure, if_true, Nat.sub_zero]
    case slice x o len cap p o' cap' hp hl hr =>
      cases rm with
      | none =>
        simp only [sliceD, sliceS] at e
        obtain ⟨h, e1, e⟩ := R.bnd_ok e
        obtain ⟨l, e2, e⟩ := R.bnd_ok e
        obtain ⟨k, e3, e⟩ := R.bnd_ok e
        obtain ⟨on, e4, e⟩ := R.bnd_ok e
        obtain ⟨hk, e5⟩ := bif_ok e
        obtain ⟨j, hj, hs⟩ := sizeR_ok hE e3
        rw [opnO_of hm e4 hp] at hk
        cases e5
        have hcc : cap ≤ cap' := by
          unfold RoomOk at hr
          split at hr
          · omega
          · exact hr.2.1
        obtain ⟨q, q1, q2⟩ := bounds_sim (P := P) (isS := true) hl hcc e1 e2 rl rh w
        rw [stays_eq]
        refine ⟨.slice (some (if cap' = l then ⟨p.b, o', none⟩ else ⟨p.b, o' + l * k, none⟩)) (h - l) (cap' - l), ?_, ?_⟩
        · have hlen : h - l ≤ cap - l := by omega
          unfold RoomOk at hr
          cases hop : p.opn with
          | none =>
            rw [hop] at hr
            obtain ⟨r1, r2⟩ := hr
            subst r1; subst r2
            by_cases c : cap' = l
            · rw [if_pos c, if_pos c]
              exact .slice x o _ _ p _ _ hp hlen (by unfold RoomOk; rw [hop]; exact ⟨rfl, rfl⟩)
            · rw [if_neg c, if_neg c]
              exact .slice x _ _ _ p _ _ hp hlen (by unfold RoomOk; rw [hop]; exact ⟨by omega, rfl⟩)
          | some k' =>
            rw [hop] at hr hk
            have hkk : k' = k := Nat.eq_of_beq_eq_true hk
            subst hkk
            obtain ⟨r1, r2, r3, r4⟩ := hr
            have hmul : ∀ a b : Nat, l ≤ a → b + l * k' + (a - l) * k' = b + a * k' := by
              intro a b hb
              have : (l + (a - l)) * k' = l * k' + (a - l) * k' := Nat.add_mul _ _ _
              have e : l + (a - l) = a := by omega
              rw [e] at this; omega
            by_cases c : cap = l
            · rw [if_pos c]
              have c0 : cap - l = 0 := by omega
              by_cases c' : cap' = l
              · rw [if_pos c']
                refine .slice x o _ _ p _ _ hp hlen ?_
                unfold RoomOk; rw [hop]
                refine ⟨.inr c0, by omega, r3, ?_⟩
                have : cap' - l = 0 := by omega
                rw [this]; omega
              · rw [if_neg c']
                refine .slice x o _ _ p _ _ hp hlen ?_
                unfold RoomOk; rw [hop]
                refine ⟨.inr c0, by omega, by omega, ?_⟩
                rw [hmul _ _ (by omega)]; exact r4
            · have c' : cap' ≠ l := by omega
              rw [if_neg c, if_neg c']
              refine .slice x _ _ _ p _ _ hp hlen ?_
              unfold RoomOk; rw [hop]
              refine ⟨.inl ?_, by omega, by omega, ?_⟩
              · rcases r1 with r1 | r1 <;> omega
              · rw [hmul _ _ (by omega)]; exact r4
        · simp only [Instr.sliceAt, Sem.run_bind, run_und hu, Result.andThen_ok, Instr.slice, q, run_size hj, hs, Sem.run_pure]
          by_cases c : cap' = l <;> simp [c, add_none]
      | some u u' hu' =>
        cases rh with
        | none => simp [sliceD, sliceS] at e
        | some y y' hy =>
          simp only [sliceD, sliceS] at e
          obtain ⟨mm, e0, e⟩ := R.bnd_ok e
          obtain ⟨h, e1, e⟩ := R.bnd_ok e
          obtain ⟨l, e2, e⟩ := R.bnd_ok e
          obtain ⟨k, e3, e⟩ := R.bnd_ok e
          obtain ⟨j, hj, hs⟩ := sizeR_ok hE e3
          obtain ⟨ku, rfl, qu⟩ := sliceB_some e0 hu'
          have hcc : cap ≤ cap' := by
            unfold RoomOk at hr
            split at hr
            · omega
            · exact hr.2.1
          have e0' : sliceB (some (.int ku (mm : Int))) cap' cap' = .ok mm := by
            simp only [sliceB]
            show R.bnd (R.ok mm) _ = _
            simp only [R.bnd]
            rw [bif_true]
            exact Nat.ble_eq_true_of_le (by omega)
          obtain ⟨q, q0, q1, q2⟩ := bounds3_sim (P := P) (isS := true) (len := len) e0' e1 e2 (.int ku mm) rl (.some _ _ hy) (by simp) w
          by_cases m0 : mm = 0
          · subst m0
            rw [show Nat.beq 0 0 = true from rfl] at e
            simp only [cond_true] at e
            cases e
            have h0 : h = 0 := by omega
            have l0 : l = 0 := by omega
            subst h0; subst l0
            refine ⟨.slice (some ⟨p.b, o', none⟩) 0 0, .bare _ _ _ _, ?_⟩
            simp only [Instr.sliceAt, Sem.run_bind, run_und hu, Result.andThen_ok, Instr.slice, q, run_size hj, Sem.run_pure, if_true, Nat.sub_zero]
          · have : Nat.beq mm 0 = false := by
              cases hb : Nat.beq mm 0 with
              | false => rfl
              | true => exact (m0 (Nat.eq_of_beq_eq_true hb)).elim
            rw [this] at e
            simp only [cond_false] at e
            obtain ⟨on, e4, e⟩ := R.bnd_ok e
            obtain ⟨hk, e5⟩ := bif_ok e
            rw [opnO_of hm e4 hp] at hk
            cases e5
            cases hop : p.opn with
            | some k' => rw [hop] at hk; cases hk
            | none =>
              unfold RoomOk at hr
              rw [hop] at hr
              obtain ⟨r1, r2⟩ := hr
              subst r1; subst r2
              rw [stays_eq]
              refine ⟨.slice (some (if mm = l then ⟨p.b, o + p.d, none⟩ else ⟨p.b, o + p.d + l * k, none⟩)) (h - l) (mm - l), ?_, ?_⟩
              · have hlen : h - l ≤ mm - l := by omega
                by_cases c : mm = l
                · rw [if_pos c, if_pos c]
                  exact .slice x o _ _ p _ _ hp hlen (by unfold RoomOk; rw [hop]; exact ⟨rfl, rfl⟩)
                · rw [if_neg c, if_neg c]
                  exact .slice x _ _ _ p _ _ hp hlen (by unfold RoomOk; rw [hop]; exact ⟨by omega, rfl⟩)
              · simp only [Instr.sliceAt, Sem.run_bind, run_und hu, Result.andThen_ok, Instr.slice, q, run_size hj, hs, Sem.run_pure]
                by_cases c : mm = l <;> simp [c, add_none]
  case array n el =>
    cases hx <;> try (simp [sliceD] at e; done)
    case ptr x o p hp =>
    cases rm with
    | some => simp [sliceD] at e
    | none =>
      simp only [sliceD] at e
      obtain ⟨h, e1, e⟩ := R.bnd_ok e
      obtain ⟨l, e2, e⟩ := R.bnd_ok e
      obtain ⟨k, e3, e⟩ := R.bnd_ok e
      obtain ⟨on, e4, e⟩ := R.bnd_ok e
      obtain ⟨hk, e5⟩ := bif_ok e
      obtain ⟨j, hj, hs⟩ := sizeR_ok hE e3
      rw [opnO_of hm e4 hp] at hk
      cases e5
      cases hop : p.opn with
      | some k' => rw [hop] at hk; cases hk
      | none =>
        obtain ⟨q, q1, q2⟩ := bounds_sim (P := P) (isS := false) (Nat.le_refl _) (Nat.le_refl _) e1 e2 rl rh w
        rw [stays_eq]
        refine ⟨.slice (some (if n = l then ⟨p.b, o + p.d, none⟩ else ⟨p.b, o + p.d + l * k, none⟩)) (h - l) (n - l), ?_, ?_⟩
        · have hlen : h - l ≤ n - l := by omega
          by_cases c : n = l
          · rw [if_pos c, if_pos c]
            exact .slice x o _ _ p _ _ hp hlen (by unfold RoomOk; rw [hop]; exact ⟨rfl, rfl⟩)
          · rw [if_neg c, if_neg c]
            exact .slice x _ _ _ p _ _ hp hlen (by unfold RoomOk; rw [hop]; exact ⟨by omega, rfl⟩)
        · simp only [Instr.sliceAt, Sem.run_bind, run_und hu, Result.andThen_ok, Instr.sureAddr, q, run_size hj, hs, Sem.run_pure]
          by_cases c : n = l <;> simp [c, add_none]
  all_goals (cases hx <;> simp [sliceD] at e)
end
end Go.Sh

/-
  What is worked out of values, the rest: fields, indexes, what is put together, conversions without memory.
-/
namespace Go.Sh
open Go.RowKit

section
variable {ρ : Ren} {m : Mem} {w : World} {P : Program} {E : Env}

theorem FDs.get {fs : List Field} {l : List FD} (h : FDs P fs l) : ∀ (i : Nat) (fd : FD), nthF l i = some fd → ∃ f j, fs[i]? = some f ∧ P.info? f.type = some j ∧ fd.type = f.type ∧ fd.off = f.offset ∧ fd.size = j.size := by
  induction h with
  | nil => intro i fd e; simp [nthF] at e
  | cons f j fs l hj hl ih =>
    intro i fd e
    cases i with
    | zero => simp only [nthF] at e; cases e; exact ⟨f, j, rfl, hj, rfl, rfl, rfl⟩
    | succ i => simp only [nthF] at e; simpa using ih i fd e

theorem fieldR_ok {d : TypeDesc} {td : TD} {i : Nat} {fd : FD} (h : TDR P d td) (e : fieldR td i = .ok fd) : ∃ fs f j, d = .struct ⟨fs⟩ ∧ fs[i]? = some f ∧ P.info? f.type = some j ∧ fd.type = f.type ∧ fd.off = f.offset ∧ fd.size = j.size := by
  cases h <;> simp only [fieldR] at e <;> try (cases e; done)
  rename_i fs l hl
  obtain ⟨f, j, a, b, c, d, k⟩ := hl.get i fd (need_ok e)
  exact ⟨fs, f, j, rfl, a, b, c, d, k⟩

theorem field_sim (hE : EnvTi P E) {t : TypeId} {td : TD} {i : Nat} {fd : FD} {x x' v : Value} (ht : E.tdR t = .ok td) (hf : fieldR td i = .ok fd) (e : fieldV E fd x = .ok v) (hx : VR ρ x x') (w : World) :
    ∃ v', VR ρ v v' ∧ (Instr.field t x' i).run P w = .ok v' w := by
  obtain ⟨d, hu, hd⟩ := tdR_ok hE ht
  obtain ⟨fs, f, j, rfl, h1, h2, h3, h4, h5⟩ := fieldR_ok hd hf
  cases hx <;> simp only [fieldV] at e <;> try (cases e; done)
  rename_i l l' hl
  rw [h3, h4] at e
  obtain ⟨v', q, r⟩ := partOf_sim hE e hl w
  refine ⟨v', q, ?_⟩
  simp [Instr.field, run_und hu, h1, asAgg, r]

theorem fieldAddr_sim (hE : EnvTi P E) {t : TypeId} {td : TD} {i : Nat} {fd : FD} {x x' : Value} {a : Addr} (ht : E.tdR t = .ok td) (hf : fieldR td i = .ok fd) (ha : addrOf x = .ok a) (hz : Nat.beq fd.size 0 = false) (hx : VR ρ x x') (w : World) :
    ∃ v', VR ρ (.pointer (some (addA a fd.off))) v' ∧ (Instr.fieldAt t x' i).run P w = .ok v' w := by
  obtain ⟨d, hu, hd⟩ := tdR_ok hE ht
  obtain ⟨fs, f, j, rfl, h1, h2, h3, h4, h5⟩ := fieldR_ok hd hf
  have := addrOf_ok ha
  subst this
  cases hx with
  | ptr x o p hp =>
    have hne : ¬ j.size = 0 := by intro h0; rw [h5, h0] at hz; cases hz
    refine ⟨.pointer (some ⟨p.b, o + p.d + f.offset, none⟩), ?_, ?_⟩
    · rw [addA_eq, h4]
      have : o + p.d + f.offset = (o + f.offset) + p.d := by omega
      rw [this]; exact .ptr x _ p hp
    · simp [Instr.fieldAt, run_und hu, h1, Instr.sureAddr, fieldPlace, run_size h2, hne, add_none]

theorem blt_lt {a b : Nat} (h : Nat.blt a b = true) : a < b := by simpa [Nat.blt_eq] using h

theorem indexAddr_sim (hE : EnvTi P E) {t : TypeId} {td : TD} {x x' i i' v : Value} {n : Nat} (ht : E.tdR t = .ok td) (hn : natVal i = .ok n) (e : indexAddrD E td x n = .ok v) (hx : VR ρ x x') (hi : VR ρ i i') (w : World) :
    ∃ v', VR ρ v v' ∧ (Instr.indexAt t x' i').run P w = .ok v' w := by
  obtain ⟨d, hu, hd⟩ := tdR_ok hE ht
  obtain ⟨k, rfl⟩ := natVal_ok hn hi
  cases hd
  case array c el =>
    cases hx <;> try (simp [indexAddrD] at e; done)
    case ptr x o p hp =>
    simp only [indexAddrD] at e
    obtain ⟨hlt, e⟩ := bif_ok e
    obtain ⟨z, hz, e⟩ := R.bnd_ok e
    obtain ⟨j, hj, hs⟩ := sizeR_ok hE hz
    cases e
    have hlt := blt_lt hlt
    refine ⟨.pointer (some ⟨p.b, o + p.d + n * z, none⟩), ?_, ?_⟩
    · rw [addA_eq]
      have : o + p.d + n * z = (o + n * z) + p.d := by omega
      rw [this]; exact .ptr x _ p hp
    · have h1 : (0 : Int) ≤ (n : Int) ∧ (n : Int) < (c : Int) := ⟨by omega, by omega⟩
      simp only [Instr.indexAt, asIntOf, Sem.run_bind, Sem.run_pure, Result.andThen_ok, run_und hu, Instr.sureAddr]
      simp only [h1, and_self, if_true, Sem.run_bind, run_size hj, hs, Result.andThen_ok, Sem.run_pure, Int.toNat_natCast, add_none]
  case slice el =>
    cases hx <;> try (simp [indexAddrD] at e; done)
    case bare x o s a =>
      simp only [indexAddrD] at e
      obtain ⟨hlt, e⟩ := bif_ok e
      have hlt := blt_lt hlt
      omega
    case slice x o len cap p o' cap' hp hl hr =>
    simp only [indexAddrD] at e
    obtain ⟨hlt, e⟩ := bif_ok e
    obtain ⟨z, hz, e⟩ := R.bnd_ok e
    obtain ⟨j, hj, hs⟩ := sizeR_ok hE hz
    cases e
    have hlt := blt_lt hlt
    have ho : o' = o + p.d := by
      unfold RoomOk at hr
      split at hr
      · exact hr.1
      · rcases hr.1 with h | h
        · exact h
        · omega
    subst ho
    refine ⟨.pointer (some ⟨p.b, o + p.d + n * z, none⟩), ?_, ?_⟩
    · rw [addA_eq]
      have : o + p.d + n * z = (o + n * z) + p.d := by omega
      rw [this]; exact .ptr x _ p hp
    · have h1 : (0 : Int) ≤ (n : Int) ∧ (n : Int) < (len : Int) := ⟨by omega, by omega⟩
      simp only [Instr.indexAt, asIntOf, Sem.run_bind, Sem.run_pure, Result.andThen_ok, run_und hu]
      simp only [h1, and_self, if_true, Sem.run_bind, run_size hj, hs, Result.andThen_ok, Sem.run_pure, Int.toNat_natCast, add_none]
  all_goals (cases hx <;> simp [indexAddrD] at e)

theorem byteAt_eq : ∀ (l : List UInt8) (i : Nat), byteAt l i = l[i]?
  | [], i => by simp [byteAt]
  | b :: r, 0 => by simp [byteAt]
  | b :: r, i + 1 => by simp [byteAt, byteAt_eq r i]

theorem index_sim (hE : EnvTi P E) {t : TypeId} {td : TD} {x x' i i' v : Value} {n : Nat} (ht : E.tdR t = .ok td) (hn : natVal i = .ok n) (e : indexD E td x n = .ok v) (hx : VR ρ x x') (hi : VR ρ i i') (w : World) :
    ∃ v', VR ρ v v' ∧ (Instr.index t x' i').run P w = .ok v' w := by
  obtain ⟨d, hu, hd⟩ := tdR_ok hE ht
  obtain ⟨k, rfl⟩ := natVal_ok hn hi
  cases hd
  case array c el =>
    cases hx <;> try (simp [indexD] at e; done)
    case agg l l' hl =>
    simp only [indexD] at e
    obtain ⟨hlt, e⟩ := bif_ok e
    obtain ⟨z, hz, e⟩ := R.bnd_ok e
    obtain ⟨j, hj, hs⟩ := sizeR_ok hE hz
    have hlt := blt_lt hlt
    obtain ⟨v', q, r⟩ := partOf_sim hE e hl w
    refine ⟨v', q, ?_⟩
    have h1 : (0 : Int) ≤ (n : Int) ∧ (n : Int) < (c : Int) := ⟨by omega, by omega⟩
    simp only [Instr.index, asIntOf, Sem.run_bind, Sem.run_pure, Result.andThen_ok, run_und hu]
    simp only [h1, and_self, if_true, Sem.run_bind, run_size hj, hs, Result.andThen_ok, Int.toNat_natCast, r]
  case string =>
    cases hx <;> try (simp [indexD] at e; done)
    case string s =>
    obtain ⟨⟨s⟩⟩ := s
    simp only [indexD] at e
    obtain ⟨b, hb, e⟩ := R.bnd_ok e
    cases e
    have hb := need_ok hb
    rw [byteAt_eq] at hb
    refine ⟨_, .int _ _, ?_⟩
    have h2 : (ByteArray.mk ⟨s⟩)[n]? = some b := by
      have hlt : n < s.length := by
        rcases Nat.lt_or_ge n s.length with q | q
        · exact q
        · rw [List.getElem?_eq_none q] at hb; cases hb
      have hz : n < (ByteArray.mk ⟨s⟩).size := hlt
      rw [getElem?_pos (ByteArray.mk ⟨s⟩) n hz]
      congr 1
      rw [List.getElem?_eq_getElem hlt] at hb
      exact Option.some.inj hb
    have h1 : (0 : Int) ≤ (n : Int) := by omega
    simp only [Instr.index, asIntOf, Sem.run_bind, Sem.run_pure, Result.andThen_ok, run_und hu]
    simp only [h1, if_true, Int.toNat_natCast, h2, Sem.run_pure]
    rfl
  all_goals (cases hx <;> simp [indexD] at e)

/-! put together -/
theorem overw_vr {cs cs' vs vs' r : List Value} {off : Nat} (e : overw cs off vs = some r) (hc : VRs ρ cs cs') (hv : VRs ρ vs vs') : VRs ρ r (cs'.take off ++ vs' ++ cs'.drop (off + vs'.length)) := by
  obtain ⟨h1, h2, _⟩ := overw_some e
  subst h2
  rw [← hv.length]
  exact ((hc.take off).append hv).append (hc.drop _)

theorem fold_overw (vs' : List Value) : ∀ (cs : Array Value) (off i : Nat), off + i + vs'.length ≤ cs.size →
    (vs'.zipIdx i).foldl (fun (cs : Array Value) (c, j) => cs.setIfInBounds (off + j) c) cs = ⟨cs.toList.take (off + i) ++ vs' ++ cs.toList.drop (off + i + vs'.length)⟩ := by
  induction vs' with
  | nil => intro cs off i _; simp
  | cons v vs ih =>
    intro cs off i h
    simp only [List.length_cons] at h
    simp only [List.zipIdx_cons, List.foldl_cons]
    rw [ih (cs.setIfInBounds (off + i) v) off (i + 1) (by simp; omega)]
    apply Array.ext'
    simp only [Array.toList_setIfInBounds]
    have := set_overw cs.toList (off + i) v vs (by simp; omega)
    have e1 : off + (i + 1) = off + i + 1 := by omega
    rw [e1]
    exact this

/-- the parts, related -/
inductive PRs (ρ : Ren) : List (Nat × Value) → List (Nat × Value) → Prop where
  | nil : PRs ρ [] []
  | cons (i : Nat) (v v' : Value) (l l' : List (Nat × Value)) (h : VR ρ v v') (hl : PRs ρ l l') : PRs ρ ((i, v) :: l) ((i, v') :: l')

theorem putAll_sim {place : Nat → Option (Nat × Nat)} : ∀ (ps ps' : List (Nat × Value)) (cs cs' r : List Value), PRs ρ ps ps' → VRs ρ cs cs' → putAll place ps cs = .ok r →
    ∃ r', Instr.fill place ⟨cs'⟩ ps' = some ⟨r'⟩ ∧ VRs ρ r r' := by
  intro ps ps' cs cs' r h
  induction h generalizing cs cs' with
  | nil => intro hc e; simp only [putAll] at e; cases e; exact ⟨cs', rfl, hc⟩
  | cons i v v' l l' hv hl ih =>
    intro hc e
    simp only [putAll] at e
    obtain ⟨q, e1, e2⟩ := R.bnd_ok e
    cases hp : place i with
    | none => rw [hp] at e1; simp [putOne] at e1
    | some on =>
      obtain ⟨off, n⟩ := on
      rw [hp] at e1
      simp only [putOne] at e1
      obtain ⟨vl, e3, e1⟩ := R.bnd_ok e1
      obtain ⟨e4, e1⟩ := bif_ok e1
      have e5 := need_ok e1
      have hvl := cellsR_vr hv e3
      have hn : vl.length = n := Nat.eq_of_beq_eq_true e4
      obtain ⟨k1, k2, _⟩ := overw_some e5
      have hlen := hvl.length
      have hcl := hc.length
      obtain ⟨r', a, b⟩ := ih q _ (overw_vr e5 hc hvl) e2
      refine ⟨r', ?_, b⟩
      have hsz : v'.cells.size = n := by simp only [Array.length_toList] at hlen; omega
      simp only [Instr.fill, hp]
      rw [if_neg (by simp only [hsz, ne_eq, not_true_eq_false, Bool.false_or, decide_false, decide_eq_true_eq]; simp; omega)]
      have hz : v'.cells.zipIdx.foldl (fun (cs : Array Value) (x : Value × Nat) => cs.setIfInBounds (off + x.2) x.1) ⟨cs'⟩ = ⟨cs'.take off ++ v'.cells.toList ++ cs'.drop (off + v'.cells.toList.length)⟩ := by
        have := fold_overw v'.cells.toList ⟨cs'⟩ off 0 (by simp; omega)
        simp only [Nat.add_zero] at this
        rw [← this, ← Array.foldl_toList]
        simp
      rw [hz]
      exact a

theorem FDs.place {fs : List Field} {l : List FD} (h : FDs P fs l) (w : World) : ∃ pl : Array (Nat × Nat), ((⟨fs⟩ : Array Field).mapM fun f => do pure (f.offset, ← sizeOf f.type) : Sem (Array (Nat × Nat))).run P w = .ok pl w ∧ ∀ i, pl[i]? = placeS l i := by
  have key : ∃ pl : List (Nat × Nat), (fs.mapM fun f => do pure (f.offset, ← sizeOf f.type) : Sem (List (Nat × Nat))).run P w = .ok pl w ∧ ∀ i : Nat, pl[i]? = placeS l i := by
    induction h with
    | nil => exact ⟨[], by simp, fun i => by simp [placeS]⟩
    | cons f j fs l hj hl ih =>
      obtain ⟨pl, a, b⟩ := ih
      refine ⟨(f.offset, j.size) :: pl, by rw [List.mapM_cons]; simp only [Sem.run_bind, run_size hj, Result.andThen_ok, Sem.run_pure]; rw [a]; rfl, fun i => ?_⟩
      cases i with
      | zero => simp [placeS]
      | succ i => simpa [placeS] using b i
  obtain ⟨pl, a, b⟩ := key
  refine ⟨⟨pl⟩, ?_, fun i => by simpa using b i⟩
  have : ((⟨fs⟩ : Array Field).mapM fun f => do pure (f.offset, ← sizeOf f.type) : Sem (Array (Nat × Nat))) = List.toArray <$> (fs.mapM fun f => do pure (f.offset, ← sizeOf f.type) : Sem (List (Nat × Nat))) := List.mapM_toArray
  rw [this, Sem.run_map, a]
  rfl

theorem build_sim (hE : EnvTi P E) {t : TypeId} {i : TI} {z v : Value} {ps ps' : List (Nat × Value)} (ht : E.tiR t = .ok i) (hz : i.zero = some z) (e : buildD E z ps i.td = .ok v) (hp : PRs ρ ps ps') (w : World) :
    ∃ v', VR ρ v v' ∧ (Instr.build t ⟨ps'⟩).run P w = .ok v' w := by
  obtain ⟨k⟩ := tiR_ok hE ht
  rw [k.zero] at hz
  obtain ⟨z', h1, h2⟩ := Option.map_eq_some_iff.1 hz
  subst h2
  have hu := k.hu
  have htd := k.td
  generalize i.td = td at e htd
  generalize k.d = d at hu htd
  cases htd
  case struct fs l hfd =>
    simp only [buildD] at e
    obtain ⟨zl, e1, e⟩ := R.bnd_ok e
    obtain ⟨cs, e2, e⟩ := R.bnd_ok e
    cases e
    have hzl := cellsR_vr (cst_vr ρ z') e1
    obtain ⟨r', a, b⟩ := putAll_sim ps ps' zl z'.cells.toList cs hp hzl e2
    obtain ⟨pl, c, f⟩ := hfd.place (P := P) w
    refine ⟨.agg ⟨r'⟩, .agg _ _ b, ?_⟩
    have hpl : (fun i => pl[i]?) = placeS l := funext f
    have a' : Instr.fill (fun i => pl[i]?) z'.cells ps' = some ⟨r'⟩ := by rw [hpl]; exact a
    simp only [Instr.build, Sem.run_bind, run_zero k.hi h1, run_und hu, Result.andThen_ok]
    rw [c]
    simp only [Result.andThen_ok]
    rw [a']
    rfl
  case array n el =>
    simp only [buildD] at e
    obtain ⟨q, e0, e⟩ := R.bnd_ok e
    obtain ⟨zl, e1, e⟩ := R.bnd_ok e
    obtain ⟨cs, e2, e⟩ := R.bnd_ok e
    cases e
    obtain ⟨j, hj, hs⟩ := sizeR_ok hE e0
    have hzl := cellsR_vr (cst_vr ρ z') e1
    obtain ⟨r', a, b⟩ := putAll_sim ps ps' zl z'.cells.toList cs hp hzl e2
    refine ⟨.agg ⟨r'⟩, .agg _ _ b, ?_⟩
    simp only [Instr.build, Sem.run_bind, run_zero k.hi h1, run_und hu, Result.andThen_ok, run_size hj, hs]
    rw [show Instr.fill (fun i => some (i * q, q)) z'.cells ps' = some ⟨r'⟩ from a]
    rfl
  all_goals (simp [buildD] at e)

/-! small ones -/
theorem pick_sim {c a b c' a' b' v : Value} (e : pickV c a b = .ok v) (hc : VR ρ c c') (ha : VR ρ a a') (hb : VR ρ b b') (w : World) : ∃ v', VR ρ v v' ∧ ((do pure (.value (if ← asBool c' then a' else b')) : Sem Next)).run P w = .ok (.value v') w := by
  cases hc <;> simp only [pickV] at e <;> try (cases e; done)
  rename_i q
  cases q with
  | true => simp only [pickV] at e; cases e; exact ⟨a', ha, by simp [asBool]⟩
  | false => simp only [pickV] at e; cases e; exact ⟨b', hb, by simp [asBool]⟩

theorem nthV_get : ∀ (l : List Value) (i : Nat), nthV l i = l[i]?
  | [], i => by simp [nthV]
  | b :: r, 0 => by simp [nthV]
  | b :: r, i + 1 => by simp [nthV, nthV_get r i]
theorem extract_sim {x x' v : Value} {i : Nat} (e : extractV x i = .ok v) (hx : VR ρ x x') (w : World) : ∃ v', VR ρ v v' ∧ (Instr.extract x' i).run P w = .ok v' w := by
  cases hx <;> simp only [extractV] at e <;> try (cases e; done)
  rename_i l l' hl
  have e := need_ok e
  rw [nthV_get] at e
  obtain ⟨v', a, b⟩ := hl.get i v e
  exact ⟨v', b, by simp [Instr.extract, a]⟩

theorem makeIface_sim (hE : EnvTi P E) {t : TypeId} {td : TD} {x x' v : Value} (ht : E.tdR t = .ok td) (e : makeIfaceD t x td = .ok v) (hx : VR ρ x x') (w : World) : ∃ v', VR ρ v v' ∧ (Instr.makeInterface t x').run P w = .ok v' w := by
  obtain ⟨d, hu, hd⟩ := tdR_ok hE ht
  cases hd <;> simp only [makeIfaceD] at e <;> first
    | (cases e; done)
    | (cases e; exact ⟨.iface t x', .iface _ _ _ hx, by simp [Instr.makeInterface, run_und hu]⟩)

theorem gives_vr {ok : Bool} {v v' : Value} (b : Bool) (h : VR ρ v v') : VR ρ (gives ok v b) (if ok then .tuple #[v', .bool b] else v') := by
  cases ok with
  | true => exact .tuple _ [v', .bool b] (.cons _ _ _ _ h (.one (.bool b)))
  | false => exact h

theorem typeAssert_sim (hE : EnvTi P E) {s t : TypeId} {td : TD} {ok : Bool} {x x' v : Value} (ht : E.tdR t = .ok td) (e : typeAssertD E t ok td x = .ok v) (hx : VR ρ x x') (w : World) : ∃ v', VR ρ v v' ∧ (Instr.typeAssert x' s t ok).run P w = .ok v' w := by
  obtain ⟨d, hu, hd⟩ := tdR_ok hE ht
  have hni : ∀ ms, td ≠ .iface → d ≠ .interface ms := by
    intro ms h1 h2; subst h2; cases hd <;> first | exact h1 rfl | (rename_i h; cases h)
  have hfails : ∀ {v}, fails E t ok = .ok v → ∀ (st dy : Option TypeId) (ms : String), ∃ v', VR ρ v v' ∧ (if ok = true then do pure (.tuple #[← zeroValue t, .bool false]) else runtimePanic (.typeAssertion st dy t ms) : Sem Value).run P w = .ok v' w := by
    intro v h st dy ms
    simp only [fails] at h
    cases ok with
    | false => cases h
    | true =>
      simp only [cond_true] at h
      obtain ⟨z, h1, h2⟩ := R.bnd_ok h
      cases h2
      obtain ⟨i, z', a, b, rfl⟩ := zeroR_ok hE h1
      exact ⟨_, gives_vr (ok := true) false (cst_vr ρ z'), by simp [run_zero a b]⟩
  have hne : td ≠ .iface := by intro h; subst h; simp [typeAssertD] at e
  cases hx
  case iface u y y' hy =>
    have e' : (bif Nat.beq u t then holds ok y else fails E t ok) = .ok v := by cases td <;> first | exact (hne rfl).elim | exact e
    cases hb : Nat.beq u t with
    | true =>
      have := Nat.eq_of_beq_eq_true hb
      subst this
      rw [hb] at e'
      simp only [cond_true, holds] at e'
      cases e'
      refine ⟨_, gives_vr true hy, ?_⟩
      cases d <;> first | exact (hni _ hne rfl).elim | simp [Instr.typeAssert, run_und hu]
    | false =>
      have hut : u ≠ t := fun h => by subst h; simp at hb
      rw [hb] at e'
      simp only [cond_false] at e'
      obtain ⟨v', a, b⟩ := hfails e' (some s) (some u) ""
      refine ⟨v', a, ?_⟩
      cases d <;> first | exact (hni _ hne rfl).elim | (simp only [Instr.typeAssert, Sem.run_bind, run_und hu, Result.andThen_ok, if_neg hut]; exact b)
  case inil =>
    have e' : fails E t ok = .ok v := by cases td <;> first | exact (hne rfl).elim | exact e
    obtain ⟨v', a, b⟩ := hfails e' (some s) none ""
    refine ⟨v', a, ?_⟩
    cases d <;> first | exact (hni _ hne rfl).elim | (simp only [Instr.typeAssert, Sem.run_bind, run_und hu, Result.andThen_ok]; exact b)
  all_goals (cases td <;> first | exact (hne rfl).elim | (cases e))
end
end Go.Sh

/-
  Maps: keys, looking up, what an update makes of the entries.
-/
namespace Go.Sh
open Go.RowKit

theorem and_t {a b : Bool} (h : (a && b) = true) : a = true ∧ b = true := by simpa using h

theorem vEqs_sound {f : Value → Value → Bool} (hf : ∀ a b, f a b = true → a = b) : ∀ (x y : List Value), vEqs f x y = true → x = y
  | [], [], _ => rfl
  | [], _ :: _, h => by simp [vEqs] at h
  | _ :: _, [], h => by simp [vEqs] at h
  | a :: x, b :: y, h => by
    simp only [vEqs] at h
    obtain ⟨h1, h2⟩ := and_t h
    rw [hf a b h1, vEqs_sound hf x y h2]
theorem beq_nat {a b : Nat} (h : Nat.beq a b = true) : a = b := Nat.eq_of_beq_eq_true h
theorem aEq_sound {a b : Option Addr} (h : aEq a b = true) : a = b := by
  unfold aEq at h
  split at h
  · rfl
  · obtain ⟨h1, h2⟩ := and_t h
    rw [beq_nat h1, beq_nat h2]
  · cases h
theorem nEq_sound {a b : Option Nat} (h : nEq a b = true) : a = b := by
  unfold nEq at h
  split at h
  · rfl
  · rw [beq_nat h]
  · cases h
theorem fEq_sound {a b : Fn} (h : fEq a b = true) : a = b := by
  unfold fEq at h
  split at h
  · rw [beq_nat h]
  · cases h
theorem vEqD_sound {f : Value → Value → Bool} (hf : ∀ a b, f a b = true → a = b) (a b : Value) (h : vEqD f a b = true) : a = b := by
  unfold vEqD at h
  split at h
  · rw [beq_iff_eq.1 h]
  · obtain ⟨h1, h2⟩ := and_t h
    rw [beq_iff_eq.1 h1, beq_iff_eq.1 h2]
  · rw [eqL_eq] at h; rw [beq_iff_eq.1 h]
  · rw [aEq_sound h]
  · obtain ⟨h1, h2⟩ := and_t h
    obtain ⟨h1, h3⟩ := and_t h1
    rw [aEq_sound h1, beq_nat h3, beq_nat h2]
  · rw [nEq_sound h]
  · obtain ⟨h1, h2⟩ := and_t h
    obtain ⟨h1, h3⟩ := and_t h1
    rw [fEq_sound h1, vEqs_sound hf _ _ h3, vEqs_sound hf _ _ h2]
  · rfl
  · obtain ⟨h1, h2⟩ := and_t h
    rw [beq_nat h1, hf _ _ h2]
  · rfl
  · rw [vEqs_sound hf _ _ h]
  · rw [vEqs_sound hf _ _ h]
  · cases h
theorem vEq_sound : ∀ (d : Nat) (a b : Value), vEq d a b = true → a = b
  | 0, _, _, h => by cases h
  | d + 1, a, b, h => vEqD_sound (vEq_sound d) a b h

theorem plainVs_all {f : Value → Bool} : ∀ {l : List Value}, plainVs f l = true → ∀ v ∈ l, f v = true
  | [], _, v, hv => by cases hv
  | a :: l, h, v, hv => by
    simp only [plainVs] at h
    obtain ⟨h1, h2⟩ := and_t h
    rcases List.mem_cons.1 hv with e | e
    · subst e; exact h1
    · exact plainVs_all h2 v e

section
variable {ρ : Ren} {m : Mem} {w : World} {P : Program} {E : Env}

theorem plainVs_vr {f : Value → Bool} (hf : ∀ v v', f v = true → VR ρ v v' → v' = v) : ∀ (l l' : List Value), plainVs f l = true → VRs ρ l l' → l' = l
  | [], _, _, h => by cases h; rfl
  | v :: l, _, hp, h => by
    cases h with
    | cons _ v' _ l' hv hl =>
      simp only [plainVs] at hp
      obtain ⟨h1, h2⟩ := and_t hp
      rw [hf v v' h1 hv, plainVs_vr hf l l' h2 hl]
theorem plainV_vr : ∀ (d : Nat) (v v' : Value), plainV d v = true → VR ρ v v' → v' = v
  | 0, _, _, h, _ => by cases h
  | d + 1, v, v', h, hv => by
    cases hv <;> first | rfl | (cases h; done) | skip
    rename_i l l' hl
    have h' : plainVs (plainV d) l = true := h
    rw [plainVs_vr (plainV_vr d) l l' h' hl]

theorem zip_self : ∀ (l : List Value) (a b : Value), (a, b) ∈ l.zip l → a = b ∧ a ∈ l := by
  intro l
  induction l with
  | nil => intro a b h; simp at h
  | cons x l ih =>
    intro a b h
    simp only [List.zip_cons_cons, List.mem_cons, Prod.mk.injEq] at h
    rcases h with ⟨rfl, rfl⟩ | h
    · exact ⟨rfl, by simp⟩
    · obtain ⟨h1, h2⟩ := ih a b h
      exact ⟨h1, by simp [h2]⟩
theorem sameBits_plain : ∀ (d : Nat) (v : Value) (n : Nat), plainV d v = true → d ≤ n → Instr.sameBits n v v = true
  | 0, _, _, h, _ => by cases h
  | d + 1, v, n, h, hn => by
    obtain ⟨n, rfl⟩ : ∃ k, n = k + 1 := ⟨n - 1, by omega⟩
    cases v
    case bool => simp [Instr.sameBits]
    case int => simp [Instr.sameBits]
    case string s =>
      have : (s == s) = true := by rw [beq_toListBytes]; simp
      simpa [Instr.sameBits] using this
    case agg l =>
      obtain ⟨l⟩ := l
      have h' : plainVs (plainV d) l = true := h
      simp only [Instr.sameBits, beq_self_eq_true, Bool.true_and, List.all_eq_true]
      rintro ⟨a, b⟩ hab
      obtain ⟨rfl, ha⟩ := zip_self l a b hab
      exact sameBits_plain d a n (plainVs_all h' a ha) (by omega)
    all_goals cases h

/-! keys -/
def KeyOk (ρ : Ren) (P : Program) (n : Nat) (f : TypeId → Value → R Unit) : Prop :=
  ∀ t x, f t x = .ok () → ∀ x', VR ρ x x' → ∀ em D w, n ≤ D → (Instr.checkKey em D t x').run P w = .ok () w

theorem keyFs_sim (hE : EnvTi P E) {n : Nat} {f : TypeId → Value → R Unit} (hf : KeyOk ρ P n f) {xs xs' : List Value} (hx : VRs ρ xs xs') (em : Bool) (D : Nat) (hD : n ≤ D) (w : World) :
    ∀ (fs : List Field) (l : List FD), FDs P fs l → keyFs E f l xs = .ok () →
    ((forIn (m := Sem) fs PUnit.unit fun fd _ =>
      if fd.name ≠ "_" then do
        let a ← part fd.type ⟨xs'⟩ fd.offset
        Instr.checkKey em D fd.type a
        pure (ForInStep.yield PUnit.unit)
      else pure (ForInStep.yield PUnit.unit)).run P w) = .ok PUnit.unit w := by
  intro fs l h
  induction h with
  | nil => intro _; simp
  | cons fd i fs l hi hl ih =>
    intro e
    by_cases hn : fd.name = "_"
    · have : (fd.name != "_") = false := by simp [hn]
      rw [this] at e
      simp only [keyFs] at e
      simp only [List.forIn_cons, hn, ne_eq, not_true_eq_false, if_false, Sem.run_bind, Sem.run_pure, Result.andThen_ok]
      exact ih e
    · have : (fd.name != "_") = true := by simp [hn]
      rw [this] at e
      simp only [keyFs] at e
      obtain ⟨a, e1, e⟩ := R.bnd_ok e
      obtain ⟨_, e2, e⟩ := R.bnd_ok e
      obtain ⟨a', r1, q1⟩ := partOf_sim hE e1 hx w
      have q2 := hf _ _ e2 a' r1 em D w hD
      simp only [List.forIn_cons, hn, ne_eq, not_false_eq_true, if_true, Sem.run_bind, q1, q2, Result.andThen_ok, Sem.run_pure]
      exact ih e

theorem keyAs_sim (hE : EnvTi P E) {n : Nat} {f : TypeId → Value → R Unit} (hf : KeyOk ρ P n f) {xs xs' : List Value} (hx : VRs ρ xs xs') (em : Bool) (D : Nat) (hD : n ≤ D) (w : World) (el : TypeId) {j : TypeInfo} (hj : P.info? el = some j) :
    ∀ (c i : Nat), keyAs E f el j.size xs c i = .ok () →
    ((forIn (m := Sem) (List.range' i c) PUnit.unit fun q _ => do
        let k ← sizeOf el
        let a ← part el ⟨xs'⟩ (q * k)
        Instr.checkKey em D el a
        pure (ForInStep.yield PUnit.unit)).run P w) = .ok PUnit.unit w := by
  intro c
  induction c with
  | zero => intro i _; simp
  | succ c ih =>
    intro i e
    simp only [keyAs] at e
    obtain ⟨a, e1, e⟩ := R.bnd_ok e
    obtain ⟨_, e2, e⟩ := R.bnd_ok e
    obtain ⟨a', r1, q1⟩ := partOf_sim hE e1 hx w
    have q2 := hf _ _ e2 a' r1 em D w hD
    simp only [List.range'_succ, List.forIn_cons, Sem.run_bind, run_size hj, q1, q2, Result.andThen_ok, Sem.run_pure]
    exact ih (i + 1) e

theorem keyV_sim (hE : EnvTi P E) (ρ : Ren) : ∀ n, KeyOk ρ P n (keyV E n) := by
  intro n
  induction n with
  | zero => intro t x e; simp [keyV] at e
  | succ n ih =>
    intro t x e x' hx em D w hD
    obtain ⟨D, rfl⟩ : ∃ d, D = d + 1 := ⟨D - 1, by omega⟩
    have hD : n ≤ D := by omega
    simp only [keyV] at e
    obtain ⟨td, htd, e1⟩ := R.bnd_ok e
    clear e
    obtain ⟨d, hu, hd⟩ := tdR_ok hE htd
    cases hd
    case struct fs l hfd =>
      cases hx <;> try (simp [keyD] at e1; done)
      case agg xs xs' hxs =>
      simp only [keyD] at e1
      have q := keyFs_sim hE ih hxs em D hD w fs l hfd e1
      simp only [Instr.checkKey, Sem.run_bind, run_und hu, Result.andThen_ok]
      rw [← Array.forIn_toList]
      rw [q]
      rfl
    case array c el =>
      cases hx <;> try (simp [keyD] at e1; done)
      case agg xs xs' hxs =>
      simp only [keyD] at e1
      obtain ⟨z, hz, e2⟩ := R.bnd_ok e1
      obtain ⟨j, hj, hs⟩ := sizeR_ok hE hz
      subst hs
      have q := keyAs_sim hE ih hxs em D hD w el hj c 0 e2
      simp only [Instr.checkKey, Sem.run_bind, run_und hu, Result.andThen_ok]
      simp only [Std.Legacy.Range.forIn_eq_forIn_range', Std.Legacy.Range.size, Nat.sub_zero, Nat.add_one_sub_one, Nat.div_one]
      rw [q]
      rfl
    case bool => simp only [Instr.checkKey, Sem.run_bind, run_und hu, Result.andThen_ok]; rfl
    case int => simp only [Instr.checkKey, Sem.run_bind, run_und hu, Result.andThen_ok]; rfl
    case string => simp only [Instr.checkKey, Sem.run_bind, run_und hu, Result.andThen_ok]; rfl
    all_goals (cases hx <;> simp [keyD] at e1)

theorem isOkKey_sim (hE : EnvTi P E) {t : TypeId} {v v' : Value} (e : isOkKey E t v = .ok ()) (hv : VR ρ v v') (em : Bool) (w : World) : (Instr.checkKey em 10000 t v').run P w = .ok () w ∧ plainV 5 v = true := by
  obtain ⟨h1, h2⟩ := bif_ok e
  exact ⟨keyV_sim hE ρ 10 t v h2 v' hv em 10000 w (by decide), h1⟩

/-! finding -/
inductive FR (ρ : Ren) (es es' : List MapEntry) : Option (Nat × MapEntry) → Option (Nat × Value) → Prop where
  | none : FR ρ es es' none none
  | some (i : Nat) (e e' : MapEntry) (h : es[i]? = some e) (h' : es'[i]? = some e') (hv : VR ρ e.val e'.val) (hk : VR ρ e.key e'.key) (hb : e'.born = e.born) : FR ρ es es' (some (i, e)) (some (i, e'.val))

theorem sameNow_equal {t : TypeId} {d : TypeDesc} (hu : P.underlying t = some d) (w : World) (n : Nat) {k a : Value} {s : Bool} (hs : Instr.sameNow d k a = some s) : (Op.equalIn (n + 1) t k a).run P w = .ok s w := by
  unfold Instr.sameNow at hs
  split at hs
  · split at hs
    · rename_i hkk; cases hs
      simp [Op.equalIn, run_und hu, hkk]
    · cases hs
  · cases hs
    simp [Op.equalIn, run_und hu]
  · cases hs
    simp [Op.equalIn, run_und hu]
  · cases hs

theorem findK_sim (hE : EnvTi P E) {t : TypeId} {d : TypeDesc} (hu : P.underlying t = some d) {k k' : Value} (hk : VR ρ k k') (w : World) {ES ES' : List MapEntry} :
    ∀ (es es' : List MapEntry) (i : Nat) (r : Option (Nat × MapEntry)), ER ρ es es' → ES.drop i = es → ES'.drop i = es' → findK E t k es i = .ok r →
    ∃ r', FR ρ ES ES' r r' ∧ (Instr.findAsking t k' es' i).run P w = .ok r' w ∧ ∀ q, Instr.findNow d k' es' i = some q → q = r' := by
  intro es es' i r h
  induction h generalizing i with
  | nil =>
    intro _ _ e
    simp only [findK] at e; cases e
    exact ⟨none, .none, by simp [Instr.findAsking], fun q hq => by simp [Instr.findNow] at hq; exact hq.symm⟩
  | cons a a' v v' b l l' ha hv hl ih =>
    intro hd hd' e
    simp only [findK] at e
    obtain ⟨c, e1, e2⟩ := R.bnd_ok e
    have q1 := eqV_sim hE ρ 30 t k a c e1 k' a' hk ha Op.maxDepth w (by decide)
    have q1' : (Op.equal t k' a').run P w = .ok c w := q1
    have hsame : ∀ s, Instr.sameNow d k' a' = some s → s = c := by
      intro s hs
      have h2 := sameNow_equal hu w 9999 hs
      have h3 : (Op.equalIn (9999 + 1) t k' a').run P w = .ok c w := q1
      rw [h3] at h2
      cases h2; rfl
    have hi : ES[i]? = some ⟨a, v, b⟩ := by
      have := congrArg (fun l => l[0]?) hd
      simpa using this
    have hi' : ES'[i]? = some ⟨a', v', b⟩ := by
      have := congrArg (fun l => l[0]?) hd'
      simpa using this
    cases c with
    | true =>
      simp only [cond_true] at e2
      cases e2
      refine ⟨some (i, v'), .some i _ ⟨a', v', b⟩ hi hi' hv ha rfl, ?_, ?_⟩
      · simp [Instr.findAsking, q1']
      · intro q hq
        simp only [Instr.findNow] at hq
        cases hs : Instr.sameNow d k' a' with
        | none => rw [hs] at hq; cases hq
        | some s =>
          have := hsame s hs
          subst this
          rw [hs] at hq; simp at hq; exact hq.symm
    | false =>
      simp only [cond_false] at e2
      have hdd : ES.drop (i + 1) = l := by
        have : ES.drop (i + 1) = (ES.drop i).drop 1 := by rw [List.drop_drop]
        rw [this, hd]; rfl
      have hdd' : ES'.drop (i + 1) = l' := by
        have : ES'.drop (i + 1) = (ES'.drop i).drop 1 := by rw [List.drop_drop]
        rw [this, hd']; rfl
      obtain ⟨r', x, y, z⟩ := ih (i + 1) hdd hdd' e2
      refine ⟨r', x, ?_, ?_⟩
      · simp only [Instr.findAsking, Sem.run_bind, q1', Result.andThen_ok, Bool.false_eq_true, if_false]; exact y
      · intro q hq
        simp only [Instr.findNow] at hq
        cases hs : Instr.sameNow d k' a' with
        | none => rw [hs] at hq; cases hq
        | some s =>
          have := hsame s hs
          subst this
          rw [hs] at hq; simp only at hq; exact z q hq

theorem find_sim (hE : EnvTi P E) {t : TypeId} {k k' : Value} (hk : VR ρ k k') (w : World) {es es' : List MapEntry} (h : ER ρ es es') {r : Option (Nat × MapEntry)} (e : findK E t k es 0 = .ok r) {d : TypeDesc} (hu : P.underlying t = some d) :
    ∃ r', FR ρ es es' r r' ∧ (Instr.findKey t k' es').run P w = .ok r' w := by
  obtain ⟨r', a, b, c⟩ := findK_sim (ES := es) (ES' := es') hE hu hk w es es' 0 r h rfl rfl e
  refine ⟨r', a, ?_⟩
  simp only [Instr.findKey, Sem.run_bind, run_und hu, Result.andThen_ok]
  cases hf : Instr.findNow d k' es' 0 with
  | none => exact b
  | some q => rw [c q hf]; rfl
end
end Go.Sh

/-
  Operations on maps; ranges over texts and maps; new blocks.
-/
namespace Go.Sh
open Go.RowKit

/-- a run that gives a value, and memory behind it -/
def Gives (ρ : Ren) (m : Mem) (w : World) (v : Value) (m' : Mem) (s : Result Value) : Prop :=
  ∃ v' ρ' w', s = .ok v' w' ∧ VR ρ' v v' ∧ MemR ρ' m' w' ∧ Ext ρ m w ρ' m' w'
/-- one that gives no value -/
def Does (ρ : Ren) (m : Mem) (w : World) (m' : Mem) (s : Result Unit) : Prop :=
  ∃ ρ' w', s = .ok () w' ∧ MemR ρ' m' w' ∧ Ext ρ m w ρ' m' w'

section
variable {ρ : Ren} {m : Mem} {w : World} {P : Program} {E : Env}

theorem run_getObj {b : Nat} {O : Obj} (h : w.heap[b]? = some O) (hc : ∀ c e f, O ≠ .cells c e f) : (getObj b).run P w = .ok O w := by
  cases O <;> first | exact (hc _ _ _ rfl).elim | simp only [getObj, Sem.run, h]
theorem run_setObj {b : Nat} {O O' : Obj} (h : w.heap[b]? = some O) (hc : ∀ c e f, O ≠ .cells c e f) : (setObj b O').run P w = .ok () { w with heap := w.heap.setIfInBounds b O' } := by
  cases O <;> first | exact (hc _ _ _ rfl).elim | simp only [setObj, Sem.run, h]

theorem mapO_ok (h : MemR ρ m w) {r : Nat} {q : List MapEntry × Nat} (e : mapO (m.get r) = .ok q) {p : Pl} (hp : ρ r = some p) :
    m.get r = some (.map q.1 q.2) ∧ ∃ es', w.heap[p.b]? = some (.map ⟨es'⟩ q.2) ∧ ER ρ q.1 es' := by
  cases ho : m.get r with
  | none => rw [ho] at e; simp [mapO] at e
  | some o =>
    rw [ho] at e
    cases o <;> simp [mapO] at e
    subst e
    obtain ⟨p', O, h1, h2, h3⟩ := h.obj r _ ho
    rw [hp] at h1; cases h1
    cases h3 with
    | map es es' c he => exact ⟨rfl, es', h2, he⟩

theorem ER.get {l l' : List MapEntry} (h : ER ρ l l') : ∀ (i : Nat) (e : MapEntry), l[i]? = some e → ∃ e', l'[i]? = some e' ∧ VR ρ e.key e'.key ∧ VR ρ e.val e'.val ∧ e'.born = e.born := by
  induction h with
  | nil => intro i e he; simp at he
  | cons k k' v v' b l l' hk hv _ ih =>
    intro i e he
    cases i with
    | zero => simp at he; subst he; exact ⟨⟨k', v', b⟩, by simp, hk, hv, rfl⟩
    | succ i => simpa using ih i e (by simpa using he)
theorem ER.append {a a' b b' : List MapEntry} (h : ER ρ a a') (k : ER ρ b b') : ER ρ (a ++ b) (a' ++ b') := by
  induction h with
  | nil => exact k
  | cons k1 k1' v v' bn l l' hk hv _ ih => exact .cons _ _ _ _ _ _ _ hk hv ih
theorem ER.setNth {l l' : List MapEntry} (h : ER ρ l l') (f f' : MapEntry → MapEntry) (i : Nat)
    (hf : ∀ e e', l[i]? = some e → l'[i]? = some e' → VR ρ (f e).key (f' e').key ∧ VR ρ (f e).val (f' e').val ∧ (f' e').born = (f e).born) :
    ER ρ (Sh.setNth f l i) (l'.modify i f') := by
  induction h generalizing i with
  | nil => cases i <;> exact .nil
  | cons k k' v v' b l l' hk hv hl ih =>
    cases i with
    | zero =>
      obtain ⟨h1, h2, h3⟩ := hf ⟨k, v, b⟩ ⟨k', v', b⟩ rfl rfl
      simp only [Sh.setNth, List.modify_zero_cons]
      have e1 : f ⟨k, v, b⟩ = ⟨(f ⟨k, v, b⟩).key, (f ⟨k, v, b⟩).val, (f ⟨k, v, b⟩).born⟩ := rfl
      have e2 : f' ⟨k', v', b⟩ = ⟨(f' ⟨k', v', b⟩).key, (f' ⟨k', v', b⟩).val, (f ⟨k, v, b⟩).born⟩ := by rw [← h3]
      rw [e1, e2]
      exact .cons _ _ _ _ _ _ _ h1 h2 hl
    | succ i =>
      simp only [Sh.setNth, List.modify_succ_cons]
      exact .cons _ _ _ _ _ _ _ hk hv (ih i fun e e' h1 h2 => hf e e' (by simpa using h1) (by simpa using h2))
theorem modify_mk (l : List MapEntry) (i : Nat) (f : MapEntry → MapEntry) : (⟨l⟩ : Array MapEntry).modify i f = ⟨l.modify i f⟩ := by
  apply Array.ext'
  simp
theorem push_mk (l : List MapEntry) (e : MapEntry) : (⟨l⟩ : Array MapEntry).push e = ⟨l ++ [e]⟩ := by
  apply Array.ext'
  simp

theorem entriesOf_sim (h : MemR ρ m w) {x x' : Value} {es : List MapEntry} (e : entriesOf m x = .ok es) (hx : VR ρ x x') :
    ∃ es', ER ρ es es' ∧ ((x' = .map none ∧ es' = []) ∨ ∃ b c, x' = .map (some b) ∧ w.heap[b]? = some (.map ⟨es'⟩ c)) := by
  cases hx <;> simp only [entriesOf] at e <;> try (cases e; done)
  case mnil => cases e; exact ⟨[], .nil, .inl ⟨rfl, rfl⟩⟩
  case map x p hp =>
    obtain ⟨q, e1, e2⟩ := R.bnd_ok e
    cases e2
    obtain ⟨_, es', h1, h2⟩ := mapO_ok h e1 hp
    exact ⟨es', h2, .inr ⟨_, _, rfl, h1⟩⟩

theorem lookup_sim (hE : EnvTi P E) (h : MemR ρ m w) {t : TypeId} {td : TD} {x x' i i' v : Value} {ok : Bool} (ht : E.tdR t = .ok td) (e : lookupD E m td x i ok = .ok v) (hx : VR ρ x x') (hi : VR ρ i i') :
    ∃ v', VR ρ v v' ∧ (Instr.lookup t x' i' ok).run P w = .ok v' w := by
  obtain ⟨d, hu, hd⟩ := tdR_ok hE ht
  cases hd <;> try (simp [lookupD] at e; done)
  case map kt et =>
  simp only [lookupD] at e
  obtain ⟨_, e1, e⟩ := R.bnd_ok e
  obtain ⟨es, e2, e⟩ := R.bnd_ok e
  obtain ⟨r, e3, e⟩ := R.bnd_ok e
  obtain ⟨es', he, hcase⟩ := entriesOf_sim h e2 hx
  have hkt : ∃ dk, P.underlying kt = some dk := by
    obtain ⟨_, e1⟩ := bif_ok e1
    simp only [keyV] at e1
    obtain ⟨tdk, h1, _⟩ := R.bnd_ok e1
    obtain ⟨dk, h2, _⟩ := tdR_ok hE h1
    exact ⟨dk, h2⟩
  obtain ⟨dk, hdk⟩ := hkt
  obtain ⟨r', fr, fk⟩ := find_sim hE hi w he e3 hdk
  have hck := fun em => (isOkKey_sim (P := P) hE e1 hi em w).1
  cases fr with
  | none =>
    simp only [found] at e
    obtain ⟨z, e4, e⟩ := R.bnd_ok e
    cases e
    obtain ⟨j, z', a, b, rfl⟩ := zeroR_ok hE e4
    refine ⟨_, gives_vr false (cst_vr ρ z'), ?_⟩
    rcases hcase with ⟨rfl, rfl⟩ | ⟨bb, c, rfl, hb⟩
    · simp only [Instr.lookup, Sem.run_bind, run_und hu, Result.andThen_ok, Sem.run_pure, hck, fk, run_zero a b]
    · simp only [Instr.lookup, Sem.run_bind, run_und hu, Result.andThen_ok, run_getObj hb (by simp), Sem.run_pure, hck, fk, run_zero a b]
  | some j en en' h1 h2 hv hk hb =>
    simp only [found] at e
    cases e
    refine ⟨_, gives_vr true hv, ?_⟩
    rcases hcase with ⟨rfl, rfl⟩ | ⟨bb, c, rfl, hb'⟩
    · simp only [Instr.lookup, Sem.run_bind, run_und hu, Result.andThen_ok, Sem.run_pure, hck, fk]
    · simp only [Instr.lookup, Sem.run_bind, run_und hu, Result.andThen_ok, run_getObj hb' (by simp), Sem.run_pure, hck, fk]

theorem stays_run {k k' a' : Value} {en : MapEntry} (hs : vEq 12 en.key k = true) (hp : plainV 5 k = true) (hk : VR ρ k k') (ha : VR ρ en.key a') (w : World) : (Instr.keyThatStays a' k').run P w = .ok k' w ∧ k' = k := by
  have e1 := vEq_sound 12 _ _ hs
  rw [e1] at ha
  have e2 := plainV_vr 5 k k' hp hk
  have e3 := plainV_vr 5 k a' hp ha
  subst e2; subst e3
  refine ⟨?_, rfl⟩
  simp only [Instr.keyThatStays]
  rw [if_pos (sameBits_plain 5 a' 10000 hp (by decide))]
  rfl

theorem key_und (hE : EnvTi P E) {kt : TypeId} {k : Value} (e1 : isOkKey E kt k = .ok ()) : ∃ dk, P.underlying kt = some dk := by
  obtain ⟨_, e1⟩ := bif_ok e1
  simp only [keyV] at e1
  obtain ⟨tdk, h1, _⟩ := R.bnd_ok e1
  obtain ⟨dk, h2, _⟩ := tdR_ok hE h1
  exact ⟨dk, h2⟩

theorem mapUpdate_sim (hE : EnvTi P E) (h : MemR ρ m w) {t : TypeId} {td : TD} {x x' k k' v v' : Value} {m' : Mem} (ht : E.tdR t = .ok td) (e : mapUpdateD E m td x k v = .ok m') (hx : VR ρ x x') (hk : VR ρ k k') (hv : VR ρ v v') :
    Does ρ m w m' ((Instr.mapUpdate t x' k' v').run P w) := by
  obtain ⟨d, hu, hd⟩ := tdR_ok hE ht
  cases hd <;> try (simp [mapUpdateD] at e; done)
  case map kt et =>
  cases hx <;> try (simp [mapUpdateD] at e; done)
  case map r p hp =>
  simp only [mapUpdateD] at e
  obtain ⟨_, e1, e⟩ := R.bnd_ok e
  obtain ⟨q, e2, e⟩ := R.bnd_ok e
  obtain ⟨f, e3, e⟩ := R.bnd_ok e
  obtain ⟨es, c⟩ := q
  obtain ⟨hst, e⟩ := bif_ok e
  cases e
  obtain ⟨hg, es', hb, he⟩ := mapO_ok h e2 hp
  obtain ⟨dk, hdk⟩ := key_und hE e1
  obtain ⟨f', fr, fk⟩ := find_sim hE hk w he e3 hdk
  obtain ⟨hck, hpl⟩ := isOkKey_sim (P := P) hE e1 hk false w
  have hgo := run_getObj (P := P) hb (by simp)
  simp only [Instr.mapUpdate, Sem.run_bind, run_und hu, Result.andThen_ok, hgo, hck, fk]
  cases fr with
  | none =>
    simp only [updated]
    obtain ⟨a, b⟩ := MemR.write h (.map ⟨es' ++ [⟨k', v', c⟩]⟩ (c + 1)) hg rfl rfl hp (.map _ _ _ (he.append (.cons _ _ _ _ c _ _ hk hv .nil)))
    refine ⟨ρ, _, ?_, a, b⟩
    simp only [run_setObj hb (by simp), push_mk]
  | some i en en' h1 h2 hve hke hbn =>
    obtain ⟨s1, s2⟩ := stays_run (P := P) hst hpl hk hke w
    subst s2
    simp only [updated]
    obtain ⟨a, b⟩ := MemR.write h (.map ⟨es'.modify i fun e => ⟨k', v', e.born⟩⟩ c) hg rfl rfl hp (.map _ _ _ (he.setNth (fun e => ⟨k', v, e.born⟩) (fun e => ⟨k', v', e.born⟩) i fun e e' q1 q2 => ⟨hk, hv, by
      rw [h1] at q1; rw [h2] at q2; cases q1; cases q2; exact hbn⟩))
    refine ⟨ρ, _, ?_, a, b⟩
    have hkk : (((⟨es'⟩ : Array MapEntry)[i]?).map (·.key)).getD k' = en'.key := by simp [h2]
    simp only [Sem.run_bind, hkk, s1, Result.andThen_ok, run_setObj hb (by simp), modify_mk]

theorem mapEntry_sim (hE : EnvTi P E) (h : MemR ρ m w) {t : TypeId} {td : TD} {x x' k k' : Value} {r : Value × Mem} (ht : E.tdR t = .ok td) (e : mapEntryD E m td x k = .ok r) (hx : VR ρ x x') (hk : VR ρ k k') :
    Gives ρ m w r.1 r.2 ((Instr.mapEntry t x' k').run P w) := by
  obtain ⟨d, hu, hd⟩ := tdR_ok hE ht
  cases hd <;> try (simp [mapEntryD] at e; done)
  case map kt et =>
  cases hx <;> try (simp [mapEntryD] at e; done)
  case map rr p hp =>
  simp only [mapEntryD] at e
  obtain ⟨_, e1, e⟩ := R.bnd_ok e
  obtain ⟨q, e2, e⟩ := R.bnd_ok e
  obtain ⟨f, e3, e⟩ := R.bnd_ok e
  obtain ⟨es, c⟩ := q
  obtain ⟨hst, e⟩ := bif_ok e
  obtain ⟨hg, es', hb, he⟩ := mapO_ok h e2 hp
  obtain ⟨dk, hdk⟩ := key_und hE e1
  obtain ⟨f', fr, fk⟩ := find_sim hE hk w he e3 hdk
  obtain ⟨hck, hpl⟩ := isOkKey_sim (P := P) hE e1 hk false w
  have hgo := run_getObj (P := P) hb (by simp)
  simp only [Instr.mapEntry, Sem.run_bind, run_und hu, Result.andThen_ok, hgo, hck, fk]
  cases fr with
  | none =>
    simp only [entered] at e
    obtain ⟨z, e4, e⟩ := R.bnd_ok e
    cases e
    obtain ⟨j, z', za, zb, rfl⟩ := zeroR_ok hE e4
    obtain ⟨a, b⟩ := MemR.write h (.map ⟨es' ++ [⟨k', z', c⟩]⟩ (c + 1)) hg rfl rfl hp (.map _ _ _ (he.append (.cons _ _ _ _ c _ _ hk (cst_vr ρ z') .nil)))
    refine ⟨.tuple ⟨[z', .int .i64 c]⟩, ρ, _, ?_, .tuple _ _ (.cons _ _ _ _ (cst_vr ρ z') (.one (.int _ _))), a, b⟩
    simp only [Sem.run_bind, run_zero za zb, Result.andThen_ok, run_setObj hb (by simp), push_mk, Sem.run_pure, goInt]
  | some i en en' h1 h2 hve hke hbn =>
    simp only [entered] at e
    cases e
    obtain ⟨s1, s2⟩ := stays_run (P := P) hst hpl hk hke w
    subst s2
    obtain ⟨a, b⟩ := MemR.write h (.map ⟨es'.modify i fun e => { e with key := k' }⟩ c) hg rfl rfl hp (.map _ _ _ (he.setNth (fun e => ⟨k', e.val, e.born⟩) (fun e => { e with key := k' }) i fun e e' q1 q2 => ⟨hk, by
      rw [h1] at q1; rw [h2] at q2; cases q1; cases q2; exact ⟨hve, hbn⟩⟩))
    refine ⟨.tuple ⟨[en'.val, .int .i64 en.born]⟩, ρ, _, ?_, .tuple _ _ (.cons _ _ _ _ hve (.one (.int _ _))), a, b⟩
    have hkk : (((⟨es'⟩ : Array MapEntry)[i]?).map (·.key)).getD k' = en'.key := by simp [h2]
    have hbb : (((⟨es'⟩ : Array MapEntry)[i]?).map (fun x => (x.born : Int))).getD 0 = (en.born : Int) := by simp [h2, hbn]
    simp only [Sem.run_bind, hkk, hbb, s1, Result.andThen_ok, run_setObj hb (by simp), modify_mk, Sem.run_pure, goInt]

theorem bornAt_sim {b : Nat} : ∀ {l l' : List MapEntry} (i n : Nat), ER ρ l l' → bornAt l b i = some n → i ≤ n ∧ l'.findIdx? (fun e => (e.born : Int) == (b : Int)) = some (n - i) := by
  intro l l' i n h
  induction h generalizing i with
  | nil => intro e; simp [bornAt] at e
  | cons k k' v v' c l l' hk hv hl ih =>
    intro e
    simp only [bornAt] at e
    cases hc : Nat.beq c b with
    | true =>
      rw [hc] at e
      simp only [cond_true] at e
      cases e
      have := beq_nat hc
      subst this
      simp [List.findIdx?_cons]
    | false =>
      rw [hc] at e
      simp only [cond_false] at e
      obtain ⟨h1, h2⟩ := ih (i + 1) e
      have hne : ((c : Int) == (b : Int)) = false := by
        cases hq : ((c : Int) == (b : Int)) with
        | false => rfl
        | true =>
          have hq : c = b := by have := beq_iff_eq.1 hq; omega
          subst hq; simp at hc
      refine ⟨by omega, ?_⟩
      rw [List.findIdx?_cons]
      simp only [hne, Bool.false_eq_true, if_false, h2, Option.map_some]
      congr 1; omega

theorem entryStore_sim (h : MemR ρ m w) {t : TypeId} {x x' s s' v v' : Value} {m' : Mem} (e : entryStoreV m x s v = .ok m') (hx : VR ρ x x') (hs : VR ρ s s') (hv : VR ρ v v') :
    Does ρ m w m' ((Instr.entryStore t x' s' v').run P w) := by
  cases hx <;> try (simp [entryStoreV] at e; done)
  case map r p hp =>
  simp only [entryStoreV] at e
  obtain ⟨q, e2, e⟩ := R.bnd_ok e
  obtain ⟨b, e3, e⟩ := R.bnd_ok e
  obtain ⟨i, e4, e⟩ := R.bnd_ok e
  obtain ⟨es, c⟩ := q
  cases e
  obtain ⟨hg, es', hb, he⟩ := mapO_ok h e2 hp
  obtain ⟨k, rfl⟩ := natVal_ok e3 hs
  obtain ⟨_, hi⟩ := bornAt_sim 0 i he (need_ok e4)
  have hgo := run_getObj (P := P) hb (by simp)
  obtain ⟨a, d⟩ := MemR.write h (.map ⟨es'.modify i fun e => { e with val := v' }⟩ c) hg rfl rfl hp (.map _ _ _ (he.setNth (fun e => ⟨e.key, v, e.born⟩) (fun e => { e with val := v' }) i fun e e' q1 q2 => by
    obtain ⟨e'', r1, r2, r3, r4⟩ := he.get i e q1
    rw [q2] at r1; cases r1
    exact ⟨r2, hv, r4⟩))
  refine ⟨ρ, _, ?_, a, d⟩
  have hf : (⟨es'⟩ : Array MapEntry).findIdx? (fun e => (e.born : Int) == (b : Int)) = some i := by simpa using hi
  simp only [Instr.entryStore, Sem.run_bind, hgo, Result.andThen_ok, asInt, asIntOf, Sem.run_pure, hf, run_setObj hb (by simp), modify_mk]

theorem dropNth_eq : ∀ (l : List MapEntry) (i : Nat), dropNth l i = l.eraseIdx i
  | [], i => by simp [dropNth]
  | _ :: l, 0 => by simp [dropNth]
  | e :: l, i + 1 => by simp [dropNth, dropNth_eq l i]
theorem ER.eraseIdx {l l' : List MapEntry} (h : ER ρ l l') : ∀ i, ER ρ (l.eraseIdx i) (l'.eraseIdx i) := by
  induction h with
  | nil => intro i; simpa using ER.nil
  | cons k k' v v' b l l' hk hv hl ih =>
    intro i
    cases i with
    | zero => simpa using hl
    | succ i => simpa using ER.cons _ _ _ _ b _ _ hk hv (ih i)

theorem delete_sim (hE : EnvTi P E) (h : MemR ρ m w) {ts : List TypeId} {args args' : List Value} {T : TypeId} {m' : Mem} (e : deleteV E m ts args = .ok m') (ha : VRs ρ args args') :
    Gives ρ m w (.tuple #[]) m' ((Builtin.delete_ ⟨ts⟩ T ⟨args'⟩).run P w) := by
  cases ts with
  | nil => simp [deleteV] at e
  | cons t ts =>
  cases ha with
  | nil => simp [deleteV] at e
  | cons x x' l l' hx hl =>
  cases hl with
  | nil => simp [deleteV] at e
  | cons k k' l l' hk hl =>
  cases hl with
  | cons => simp [deleteV] at e
  | nil =>
  simp only [deleteV] at e
  obtain ⟨td, ht, e2⟩ := R.bnd_ok e
  clear e
  have e := e2
  clear e2
  obtain ⟨d, hu, hd⟩ := tdR_ok hE ht
  cases hd <;> try (simp [deleteD] at e; done)
  case map kt et =>
  cases hx <;> try (simp [deleteD] at e; done)
  case mnil =>
    simp only [deleteD] at e
    obtain ⟨_, e1, e⟩ := R.bnd_ok e
    cases e
    refine ⟨.tuple #[], ρ, w, ?_, .tuple [] [] .nil, h, .refl _ _ _⟩
    have hck := (isOkKey_sim (P := P) hE e1 hk true w).1
    simp [Builtin.delete_, run_und hu, hck]
  case map r p hp =>
    simp only [deleteD] at e
    obtain ⟨_, e1, e⟩ := R.bnd_ok e
    obtain ⟨q, e2, e⟩ := R.bnd_ok e
    obtain ⟨f, e3, e⟩ := R.bnd_ok e
    obtain ⟨es, c⟩ := q
    cases e
    obtain ⟨hg, es', hb, he⟩ := mapO_ok h e2 hp
    obtain ⟨dk, hdk⟩ := key_und hE e1
    obtain ⟨f', fr, fk⟩ := find_sim hE hk w he e3 hdk
    have hck := fun em => (isOkKey_sim (P := P) hE e1 hk em w).1
    have hgo := run_getObj (P := P) hb (by simp)
    cases fr with
    | none =>
      simp only [deleted]
      refine ⟨.tuple #[], ρ, w, ?_, .tuple [] [] .nil, h, .refl _ _ _⟩
      have hself : ({ w with heap := w.heap.setIfInBounds p.b (.map ⟨es'⟩ c) } : World) = w := setB_self w p.b _ hb
      simp [Builtin.delete_, run_und hu, hgo, hck, fk, run_setObj hb, hself]
    | some i en en' h1 h2 hve hke hbn =>
      simp only [deleted]
      obtain ⟨a, b⟩ := MemR.write h (.map ⟨es'.eraseIdx i⟩ c) hg rfl rfl hp (.map _ _ _ (he.eraseIdx i))
      rw [← dropNth_eq] at a b
      refine ⟨.tuple #[], ρ, _, ?_, .tuple [] [] .nil, a, b⟩
      have her : (⟨es'⟩ : Array MapEntry).eraseIdxIfInBounds i = ⟨es'.eraseIdx i⟩ := by
        apply Array.ext'; simp
      simp [Builtin.delete_, run_und hu, hgo, hck, fk, run_setObj hb, her]
end
end Go.Sh
