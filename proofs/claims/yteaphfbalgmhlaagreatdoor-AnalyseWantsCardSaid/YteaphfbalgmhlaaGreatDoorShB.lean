/-
  PART OF A CLAIM's PROOF (ShB, ShC, ShE, ShF): a shadow of the machine, or what is shown by it.
-/
import Derived.Test.YteaphfbalgmhlaaGreatDoorShK
import Derived.Laws.Sem
import Derived.Below
import Derived.Laws.Strings
import Derived.Laws.StructEq
set_option linter.unusedSimpArgs false
set_option linter.unusedVariables false
/-
  The shadow's relations: values, blocks, memory; what holds of them whatever the operation.
-/
namespace Go.Sh
open Go.RowKit

theorem R.bnd_ok {α β : Type} {x : R α} {f : α → R β} {b : β} (h : x.bnd f = .ok b) : ∃ a, x = .ok a ∧ f a = .ok b := by
  cases x with
  | ok a => exact ⟨a, rfl, h⟩
  | no n => cases h
theorem R.ok_inj {α : Type} {a b : α} (h : R.ok a = R.ok b) : a = b := by cases h; rfl
theorem need_ok {α : Type} {n : Nat} {o : Option α} {a : α} (h : need n o = .ok a) : o = some a := by
  cases o with
  | none => cases h
  | some b => cases h; rfl
theorem bif_true {α : Type} {b : Bool} {x y : α} (h : b = true) : (bif b then x else y) = x := by subst h; rfl
theorem bif_false {α : Type} {b : Bool} {x y : α} (h : b = false) : (bif b then x else y) = y := by subst h; rfl
/-- a test that leads on -/
theorem bif_ok {α : Type} {b : Bool} {x : R α} {n : Nat} {a : α} (h : (bif b then x else .no n) = .ok a) : b = true ∧ x = .ok a := by
  cases b with
  | true => exact ⟨rfl, h⟩
  | false => cases h
theorem bif_ok' {α : Type} {b : Bool} {x : R α} {n : Nat} {a : α} (h : (bif b then .no n else x) = .ok a) : b = false ∧ x = .ok a := by
  cases b with
  | true => cases h
  | false => exact ⟨rfl, h⟩

/-! the trie -/
section
variable {α : Type}
theorem T.get_nil (k : Nat) : (T.nil : T α).get k = none := rfl
theorem T.get_zero (v : Option α) (l r : T α) : (T.node v l r).get 0 = v := rfl
theorem T.get_even (v : Option α) (l r : T α) (j : Nat) (h : j % 2 = 0) : (T.node v l r).get (j + 1) = l.get (j / 2) := by
  show Bool.rec (motive := fun _ => Option α) (r.get (j / 2)) (l.get (j / 2)) (Nat.beq (j % 2) 0) = _
  rw [h]; rfl
theorem T.get_odd (v : Option α) (l r : T α) (j : Nat) (h : j % 2 = 1) : (T.node v l r).get (j + 1) = r.get (j / 2) := by
  show Bool.rec (motive := fun _ => Option α) (r.get (j / 2)) (l.get (j / 2)) (Nat.beq (j % 2) 0) = _
  rw [h]; rfl
theorem T.setF_nil_zero (f : Nat) (x : Option α) : T.setF (f + 1) .nil 0 x = .node x .nil .nil := rfl
theorem T.setF_nil_even (f j : Nat) (x : Option α) (h : j % 2 = 0) : T.setF (f + 1) .nil (j + 1) x = .node none (T.setF f .nil (j / 2) x) .nil := by
  show Bool.rec (motive := fun _ => T α) (.node none .nil (T.setF f .nil (j / 2) x)) (.node none (T.setF f .nil (j / 2) x) .nil) (Nat.beq (j % 2) 0) = _
  rw [h]; rfl
theorem T.setF_nil_odd (f j : Nat) (x : Option α) (h : j % 2 = 1) : T.setF (f + 1) .nil (j + 1) x = .node none .nil (T.setF f .nil (j / 2) x) := by
  show Bool.rec (motive := fun _ => T α) (.node none .nil (T.setF f .nil (j / 2) x)) (.node none (T.setF f .nil (j / 2) x) .nil) (Nat.beq (j % 2) 0) = _
  rw [h]; rfl
theorem T.setF_zero (f : Nat) (v x : Option α) (l r : T α) : T.setF (f + 1) (.node v l r) 0 x = .node x l r := rfl
theorem T.setF_even (f j : Nat) (v x : Option α) (l r : T α) (h : j % 2 = 0) : T.setF (f + 1) (.node v l r) (j + 1) x = .node v (T.setF f l (j / 2) x) r := by
  show Bool.rec (motive := fun _ => T α) (.node v l (T.setF f r (j / 2) x)) (.node v (T.setF f l (j / 2) x) r) (Nat.beq (j % 2) 0) = _
  rw [h]; rfl
theorem T.setF_odd (f j : Nat) (v x : Option α) (l r : T α) (h : j % 2 = 1) : T.setF (f + 1) (.node v l r) (j + 1) x = .node v l (T.setF f r (j / 2) x) := by
  show Bool.rec (motive := fun _ => T α) (.node v l (T.setF f r (j / 2) x)) (.node v (T.setF f l (j / 2) x) r) (Nat.beq (j % 2) 0) = _
  rw [h]; rfl

theorem T.get_setF (f : Nat) : ∀ (t : T α) (k : Nat) (x : Option α) (q : Nat), k < f → (T.setF f t k x).get q = if q = k then x else t.get q := by
  induction f with
  | zero => intro t k x q h; omega
  | succ f ih =>
    intro t k x q h
    have hp : ∀ j : Nat, j % 2 = 0 ∨ j % 2 = 1 := fun j => by omega
    cases t with
    | nil =>
      cases k with
      | zero =>
        rw [T.setF_nil_zero]
        cases q with
        | zero => simp [T.get_zero]
        | succ q => rcases hp q with e | e
                    · rw [T.get_even _ _ _ _ e]; simp [T.get_nil]
                    · rw [T.get_odd _ _ _ _ e]; simp [T.get_nil]
      | succ j =>
        have hj : j / 2 < f := by omega
        rcases hp j with ej | ej
        · rw [T.setF_nil_even _ _ _ ej]
          cases q with
          | zero => simp [T.get_zero, T.get_nil]
          | succ q =>
            rcases hp q with e | e
            · rw [T.get_even _ _ _ _ e, ih _ _ _ _ hj]
              by_cases hq : q = j
              · subst hq; simp
              · have h1 : ¬ q / 2 = j / 2 := by omega
                have h2 : ¬ q + 1 = j + 1 := by omega
                rw [if_neg h1, if_neg h2]; rfl
            · rw [T.get_odd _ _ _ _ e]
              have h2 : ¬ q + 1 = j + 1 := by omega
              rw [if_neg h2]; rfl
        · rw [T.setF_nil_odd _ _ _ ej]
          cases q with
          | zero => simp [T.get_zero, T.get_nil]
          | succ q =>
            rcases hp q with e | e
            · rw [T.get_even _ _ _ _ e]
              have h2 : ¬ q + 1 = j + 1 := by omega
              rw [if_neg h2]; rfl
            · rw [T.get_odd _ _ _ _ e, ih _ _ _ _ hj]
              by_cases hq : q = j
              · subst hq; simp
              · have h1 : ¬ q / 2 = j / 2 := by omega
                have h2 : ¬ q + 1 = j + 1 := by omega
                rw [if_neg h1, if_neg h2]; rfl
    | node v l r =>
      cases k with
      | zero =>
        rw [T.setF_zero]
        cases q with
        | zero => simp [T.get_zero]
        | succ q =>
          have h2 : ¬ q + 1 = 0 := by omega
          rw [if_neg h2]
          rcases hp q with e | e
          · rw [T.get_even _ _ _ _ e, T.get_even _ _ _ _ e]
          · rw [T.get_odd _ _ _ _ e, T.get_odd _ _ _ _ e]
      | succ j =>
        have hj : j / 2 < f := by omega
        rcases hp j with ej | ej
        · rw [T.setF_even _ _ _ _ _ _ ej]
          cases q with
          | zero => simp [T.get_zero]
          | succ q =>
            rcases hp q with e | e
            · rw [T.get_even _ _ _ _ e, T.get_even _ _ _ _ e, ih _ _ _ _ hj]
              by_cases hq : q = j
              · subst hq; simp
              · have h1 : ¬ q / 2 = j / 2 := by omega
                have h2 : ¬ q + 1 = j + 1 := by omega
                rw [if_neg h1, if_neg h2]
            · rw [T.get_odd _ _ _ _ e, T.get_odd _ _ _ _ e]
              have h2 : ¬ q + 1 = j + 1 := by omega
              rw [if_neg h2]
        · rw [T.setF_odd _ _ _ _ _ _ ej]
          cases q with
          | zero => simp [T.get_zero]
          | succ q =>
            rcases hp q with e | e
            · rw [T.get_even _ _ _ _ e, T.get_even _ _ _ _ e]
              have h2 : ¬ q + 1 = j + 1 := by omega
              rw [if_neg h2]
            · rw [T.get_odd _ _ _ _ e, T.get_odd _ _ _ _ e, ih _ _ _ _ hj]
              by_cases hq : q = j
              · subst hq; simp
              · have h1 : ¬ q / 2 = j / 2 := by omega
                have h2 : ¬ q + 1 = j + 1 := by omega
                rw [if_neg h1, if_neg h2]

theorem T.get_set (t : T α) (k : Nat) (x : Option α) (q : Nat) : (t.set k x).get q = if q = k then x else t.get q :=
  T.get_setF _ _ _ _ _ (by omega)

theorem T.get_ofListF : ∀ (l : List α) (i : Nat) (t : T α) (q : Nat), (T.ofListF l i t).get q = if i ≤ q ∧ q < i + l.length then l[q - i]? else t.get q := by
  intro l
  induction l with
  | nil => intro i t q; simp only [T.ofListF, List.length_nil]; rw [if_neg (by omega)]
  | cons x l ih =>
    intro i t q
    simp only [T.ofListF, List.length_cons]
    rw [ih]
    by_cases h1 : i + 1 ≤ q ∧ q < i + 1 + l.length
    · rw [if_pos h1, if_pos (by omega)]
      have e : q - i = q - (i + 1) + 1 := by omega
      rw [e, List.getElem?_cons_succ]
    · rw [if_neg h1, T.get_set]
      by_cases h2 : q = i
      · subst h2; rw [if_pos rfl, if_pos (by omega)]; simp
      · rw [if_neg h2, if_neg (by omega)]
theorem T.get_ofList (l : List α) (q : Nat) : (T.ofList l).get q = l[q]? := by
  unfold T.ofList
  rw [T.get_ofListF]
  by_cases h : q < l.length
  · rw [if_pos ⟨Nat.zero_le _, by omega⟩]; simp
  · rw [if_neg (by omega), T.get_nil, List.getElem?_eq_none (by omega)]
end

/-! the shadow's memory -/
theorem Mem.get_put (m : Mem) (x : Nat) (o : AO) (q : Nat) : (m.put x o).get q = if q = x then some o else m.get q := by
  cases m; exact T.get_set _ _ _ _
theorem Mem.get_del (m : Mem) (x : Nat) (q : Nat) : (m.del x).get q = if q = x then none else m.get q := by
  cases m; exact T.get_set _ _ _ _
theorem Mem.get_new (m : Mem) (o : AO) (q : Nat) : (m.new o).get q = if q = m.next then some o else m.get q := by
  cases m; exact T.get_set _ _ _ _
theorem Mem.next_put (m : Mem) (x : Nat) (o : AO) : (m.put x o).next = m.next := by cases m; rfl
theorem Mem.next_del (m : Mem) (x : Nat) : (m.del x).next = m.next := by cases m; rfl
theorem Mem.next_new (m : Mem) (o : AO) : (m.new o).next = m.next + 1 := by cases m; rfl

/-! where a block of the shadow's lies: the machine's block; by how much it is shifted; how many cells the machine's block has; of what grows: an element's cells -/
structure Pl where
  b : Nat
  d : Nat
  n : Nat
  opn : Option Nat

abbrev Ren := Nat → Option Pl
def Ren.le (ρ ρ' : Ren) : Prop := ∀ x p, ρ x = some p → ρ' x = some p
theorem Ren.le.refl (ρ : Ren) : ρ.le ρ := fun _ _ h => h
theorem Ren.le.trans {a b c : Ren} (h : a.le b) (k : b.le c) : a.le c := fun x p e => k x p (h x p e)

/-- a slice's room, as the machine has it -/
def RoomOk (p : Pl) (o o' cap cap' : Nat) : Prop := match p.opn with
  | none => o' = o + p.d ∧ cap' = cap
  | some k => (o' = o + p.d ∨ cap = 0) ∧ cap ≤ cap' ∧ p.d ≤ o' ∧ o' + cap' * k ≤ p.n

inductive FnR (ρ : Ren) : Fn → Fn → Prop where
  | func (f : FuncId) : FnR ρ (.func f) (.func f)
  | method (s : String) : FnR ρ (.method s) (.method s)
  | yield (l : Nat) (p : Pl) (h : ρ l = some p) : FnR ρ (.yield l) (.yield p.b)

mutual
inductive VR (ρ : Ren) : Value → Value → Prop where
  | bool (b : Bool) : VR ρ (.bool b) (.bool b)
  | int (k : IntKind) (n : Int) : VR ρ (.int k n) (.int k n)
  | string (s : ByteArray) : VR ρ (.string s) (.string s)
  | pnil : VR ρ (.pointer none) (.pointer none)
  | ptr (x o : Nat) (p : Pl) (h : ρ x = some p) : VR ρ (.pointer (some ⟨x, o, none⟩)) (.pointer (some ⟨p.b, o + p.d, none⟩))
  | snil (l c : Nat) : VR ρ (.slice none l c) (.slice none l c)
  | slice (x o len cap : Nat) (p : Pl) (o' cap' : Nat) (h : ρ x = some p) (hl : len ≤ cap) (hr : RoomOk p o o' cap cap') : VR ρ (.slice (some ⟨x, o, none⟩) len cap) (.slice (some ⟨p.b, o', none⟩) len cap')
  /-- an empty slice that has no room -/
  | bare (x o s : Nat) (a : Addr) : VR ρ (.slice (some ⟨x, o, some s⟩) 0 0) (.slice (some a) 0 0)
  | mnil : VR ρ (.map none) (.map none)
  | map (x : Nat) (p : Pl) (h : ρ x = some p) : VR ρ (.map (some x)) (.map (some p.b))
  | func (f f' : Fn) (a a' c c' : List Value) (h : FnR ρ f f') (ha : VRs ρ a a') (hc : VRs ρ c c') : VR ρ (.func f ⟨a⟩ ⟨c⟩) (.func f' ⟨a'⟩ ⟨c'⟩)
  | fnil : VR ρ .nilFunc .nilFunc
  | iface (t : TypeId) (v v' : Value) (h : VR ρ v v') : VR ρ (.iface t v) (.iface t v')
  | inil : VR ρ .nilIface .nilIface
  | agg (l l' : List Value) (h : VRs ρ l l') : VR ρ (.agg ⟨l⟩) (.agg ⟨l'⟩)
  | tuple (l l' : List Value) (h : VRs ρ l l') : VR ρ (.tuple ⟨l⟩) (.tuple ⟨l'⟩)
  | top (v : Value) : VR ρ (.chan none) v
inductive VRs (ρ : Ren) : List Value → List Value → Prop where
  | nil : VRs ρ [] []
  | cons (v v' : Value) (l l' : List Value) (h : VR ρ v v') (hl : VRs ρ l l') : VRs ρ (v :: l) (v' :: l')
end

theorem FnR.mono {ρ ρ' : Ren} (h : ρ.le ρ') {f f' : Fn} (e : FnR ρ f f') : FnR ρ' f f' := by
  cases e with
  | func f => exact .func f
  | method s => exact .method s
  | yield l p hp => exact .yield l p (h _ _ hp)
mutual
theorem VR.mono {ρ ρ' : Ren} (h : ρ.le ρ') : ∀ {v v' : Value}, VR ρ v v' → VR ρ' v v'
  | _, _, .bool b => .bool b
  | _, _, .int k n => .int k n
  | _, _, .string s => .string s
  | _, _, .pnil => .pnil
  | _, _, .ptr x o p hp => .ptr x o p (h _ _ hp)
  | _, _, .snil l c => .snil l c
  | _, _, .slice x o len cap p o' cap' hp hl hr => .slice x o len cap p o' cap' (h _ _ hp) hl hr
  | _, _, .bare x o s a => .bare x o s a
  | _, _, .mnil => .mnil
  | _, _, .map x p hp => .map x p (h _ _ hp)
  | _, _, .func f f' a a' c c' e ha hc => .func f f' a a' c c' (e.mono h) (VRs.mono h ha) (VRs.mono h hc)
  | _, _, .fnil => .fnil
  | _, _, .iface t v v' e => .iface t v v' (VR.mono h e)
  | _, _, .inil => .inil
  | _, _, .agg l l' e => .agg l l' (VRs.mono h e)
  | _, _, .tuple l l' e => .tuple l l' (VRs.mono h e)
  | _, _, .top v => .top v
theorem VRs.mono {ρ ρ' : Ren} (h : ρ.le ρ') : ∀ {l l' : List Value}, VRs ρ l l' → VRs ρ' l l'
  | _, _, .nil => .nil
  | _, _, .cons v v' l l' e el => .cons v v' l l' (VR.mono h e) (VRs.mono h el)
end

section
variable {ρ : Ren}
theorem VRs.length {l l' : List Value} (h : VRs ρ l l') : l.length = l'.length := by
  induction l generalizing l' with
  | nil => cases h; rfl
  | cons v l ih => cases h with | cons _ _ _ _ _ hl => simp [ih hl]
theorem VRs.get {l l' : List Value} (h : VRs ρ l l') : ∀ (i : Nat) (v : Value), l[i]? = some v → ∃ v', l'[i]? = some v' ∧ VR ρ v v' := by
  induction l generalizing l' with
  | nil => intro i v e; simp at e
  | cons x l ih =>
    cases h with
    | cons _ x' _ l'' hx hl =>
      intro i v e
      cases i with
      | zero => simp at e; subst e; exact ⟨x', by simp, hx⟩
      | succ i => simp at e; obtain ⟨v', h1, h2⟩ := ih hl i v e; exact ⟨v', by simpa using h1, h2⟩
theorem VRs.of_get {l l' : List Value} (hl : l.length = l'.length) (h : ∀ (i : Nat) (v : Value), l[i]? = some v → ∃ v', l'[i]? = some v' ∧ VR ρ v v') : VRs ρ l l' := by
  induction l generalizing l' with
  | nil => cases l' with | nil => exact .nil | cons _ _ => simp at hl
  | cons x l ih =>
    cases l' with
    | nil => simp at hl
    | cons x' l' =>
      obtain ⟨y, e, r⟩ := h 0 x (by simp)
      simp at e; subst e
      refine .cons _ _ _ _ r (ih (by simpa using hl) fun i v e => ?_)
      obtain ⟨v', a, b⟩ := h (i + 1) v (by simpa using e)
      exact ⟨v', by simpa using a, b⟩
theorem VRs.append {a a' b b' : List Value} (h : VRs ρ a a') (k : VRs ρ b b') : VRs ρ (a ++ b) (a' ++ b') := by
  induction a generalizing a' with
  | nil => cases h; exact k
  | cons v a ih => cases h with | cons _ _ _ _ hv hl => exact .cons _ _ _ _ hv (ih hl)
theorem VRs.one {v v' : Value} (h : VR ρ v v') : VRs ρ [v] [v'] := .cons _ _ _ _ h .nil
theorem VRs.drop {a a' : List Value} (h : VRs ρ a a') : ∀ n, VRs ρ (a.drop n) (a'.drop n) := by
  induction a generalizing a' with
  | nil => intro n; cases h; simpa using VRs.nil
  | cons v a ih => cases h with | cons _ _ _ _ hv hl => intro n; cases n with | zero => exact .cons _ _ _ _ hv hl | succ n => simpa using ih hl n
theorem VRs.take {a a' : List Value} (h : VRs ρ a a') : ∀ n, VRs ρ (a.take n) (a'.take n) := by
  induction a generalizing a' with
  | nil => intro n; cases h; simpa using VRs.nil
  | cons v a ih => cases h with | cons _ _ _ _ hv hl => intro n; cases n with | zero => simpa using VRs.nil | succ n => simpa using VRs.cons _ _ _ _ hv (ih hl n)

theorem oneC_of {v v' : Value} (h : VR ρ v v') (e : oneC v = true) : v'.oneCell' = true := by
  cases h <;> first | rfl | (simp [oneC] at e)
end

/-! taking and dropping -/
theorem takeN_zero (l : List Value) : takeN 0 l = some [] := rfl
theorem takeN_nil (n : Nat) : takeN (n + 1) [] = none := rfl
theorem takeN_cons (n : Nat) (v : Value) (vs : List Value) : takeN (n + 1) (v :: vs) = (takeN n vs).map (v :: ·) := by
  show Option.rec (motive := fun _ => Option (List Value)) none (fun r => some (v :: r)) (takeN n vs) = _
  cases takeN n vs <;> rfl
theorem takeN_some {n : Nat} {l r : List Value} (h : takeN n l = some r) : r = l.take n ∧ n ≤ l.length := by
  induction n generalizing l r with
  | zero => rw [takeN_zero] at h; cases h; simp
  | succ n ih =>
    cases l with
    | nil => rw [takeN_nil] at h; cases h
    | cons v vs =>
      rw [takeN_cons] at h
      cases e : takeN n vs with
      | none => rw [e] at h; cases h
      | some q =>
        rw [e] at h; simp at h; subst h
        obtain ⟨h1, h2⟩ := ih e
        subst h1
        simp; omega
theorem dropN_eq (n : Nat) (l : List Value) : dropN n l = l.drop n := by
  induction n generalizing l with
  | zero => rfl
  | succ n ih => cases l with
    | nil => rfl
    | cons v vs => show dropN n vs = _; rw [ih]; simp

theorem overw_some {cs : List Value} {i : Nat} {vs r : List Value} (h : overw cs i vs = some r) :
    i + vs.length ≤ cs.length ∧ r = cs.take i ++ vs ++ cs.drop (i + vs.length) ∧ ∀ v ∈ vs, oneC v = true := by
  have how : ∀ (vs cs r : List Value), ow cs vs = some r → vs.length ≤ cs.length ∧ r = vs ++ cs.drop vs.length ∧ ∀ v ∈ vs, oneC v = true := by
    intro vs
    induction vs with
    | nil => intro cs r h; simp only [ow] at h; cases h; simp
    | cons v vs ih =>
      intro cs r h
      cases cs with
      | nil => simp [ow] at h
      | cons c cs =>
        simp only [ow] at h
        cases hv : oneC v with
        | false => rw [hv] at h; simp at h
        | true =>
          rw [hv] at h
          cases e : ow cs vs with
          | none => rw [e] at h; simp at h
          | some q =>
            rw [e] at h; simp at h; subst h
            obtain ⟨h1, h2, h3⟩ := ih cs q e
            subst h2
            refine ⟨by simp; omega, by simp, fun x hx => ?_⟩
            rcases List.mem_cons.1 hx with e | e
            · subst e; exact hv
            · exact h3 x e
  induction i generalizing cs r with
  | zero =>
    simp only [overw] at h
    obtain ⟨h1, h2, h3⟩ := how vs cs r h
    exact ⟨by omega, by simpa using h2, h3⟩
  | succ i ih =>
    cases cs with
    | nil => simp [overw] at h
    | cons c cs =>
      simp only [overw] at h
      cases e : overw cs i vs with
      | none => rw [e] at h; simp at h
      | some q =>
        rw [e] at h; simp at h; subst h
        obtain ⟨h1, h2, h3⟩ := ih e
        subst h2
        refine ⟨by simp; omega, ?_, h3⟩
        have : i + 1 + vs.length = (i + vs.length) + 1 := by omega
        rw [this]; simp

end Go.Sh

/-
  The shadow's memory against the machine's: the relation, and how it is kept by a new block, a store, a block that is given up.
-/
namespace Go.Sh
open Go.RowKit

/-! related things that are kept in blocks -/
def DR (ρ : Ren) (d d' : Deferred) : Prop := match d, d' with
  | ⟨.fn f ⟨cap⟩, ⟨args⟩⟩, ⟨.fn f' ⟨cap'⟩, ⟨args'⟩⟩ => FnR ρ f f' ∧ VRs ρ cap cap' ∧ VRs ρ args args'
  | ⟨.collected r, _⟩, ⟨.collected r', _⟩ => ∃ p, ρ r = some p ∧ r' = p.b
  | _, _ => False
inductive DRs (ρ : Ren) : List Deferred → List Deferred → Prop where
  | nil : DRs ρ [] []
  | cons (d d' : Deferred) (l l' : List Deferred) (h : DR ρ d d') (hl : DRs ρ l l') : DRs ρ (d :: l) (d' :: l')
theorem DR.mono {ρ ρ' : Ren} (h : ρ.le ρ') {d d' : Deferred} (e : DR ρ d d') : DR ρ' d d' := by
  obtain ⟨t, ⟨as⟩⟩ := d
  obtain ⟨t', ⟨as'⟩⟩ := d'
  cases t <;> cases t' <;> first
    | exact (e : False).elim
    | (obtain ⟨p, h1, h2⟩ := (e : ∃ p, _); exact ⟨p, h _ _ h1, h2⟩)
    | (rename_i f c f' c'; obtain ⟨c⟩ := c; obtain ⟨c'⟩ := c'; obtain ⟨h1, h2, h3⟩ := (e : _ ∧ _ ∧ _); exact ⟨h1.mono h, h2.mono h, h3.mono h⟩)
theorem DRs.mono {ρ ρ' : Ren} (h : ρ.le ρ') {l l' : List Deferred} (e : DRs ρ l l') : DRs ρ' l l' := by
  induction e with
  | nil => exact .nil
  | cons d d' l l' hd _ ih => exact .cons d d' l l' (hd.mono h) ih
theorem DRs.append {ρ : Ren} {a a' b b' : List Deferred} (h : DRs ρ a a') (k : DRs ρ b b') : DRs ρ (a ++ b) (a' ++ b') := by
  induction h with
  | nil => exact k
  | cons d d' l l' hd _ ih => exact .cons d d' _ _ hd ih

inductive ER (ρ : Ren) : List MapEntry → List MapEntry → Prop where
  | nil : ER ρ [] []
  | cons (k k' v v' : Value) (b : Nat) (l l' : List MapEntry) (hk : VR ρ k k') (hv : VR ρ v v') (hl : ER ρ l l') : ER ρ (⟨k, v, b⟩ :: l) (⟨k', v', b⟩ :: l')
theorem ER.mono {ρ ρ' : Ren} (h : ρ.le ρ') {l l' : List MapEntry} (e : ER ρ l l') : ER ρ' l l' := by
  induction e with
  | nil => exact .nil
  | cons k k' v v' b l l' hk hv _ ih => exact .cons _ _ _ _ _ _ _ (hk.mono h) (hv.mono h) ih
theorem ER.length {ρ : Ren} {l l' : List MapEntry} (e : ER ρ l l') : l.length = l'.length := by
  induction e with
  | nil => rfl
  | cons _ _ _ _ _ _ _ _ _ _ ih => simp [ih]

structure LR (ρ : Ren) (l l' : Loop) : Prop where
  state : l'.state = l.state
  pending : l'.pending = l.pending
  fn : l'.fn = l.fn
  tmps : VRs ρ l.tmps.toList l'.tmps.toList
  params : l'.params = l.params
  assign : l'.assign = l.assign
  body : l'.body = l.body
  defers : ∃ p, ρ l.defers = some p ∧ l'.defers = p.b
theorem LR.mono {ρ ρ' : Ren} (h : ρ.le ρ') {l l' : Loop} (e : LR ρ l l') : LR ρ' l l' :=
  ⟨e.state, e.pending, e.fn, e.tmps.mono h, e.params, e.assign, e.body, let ⟨p, a, b⟩ := e.defers; ⟨p, h _ _ a, b⟩⟩

/-- a block, as the machine has it -/
inductive OR (ρ : Ren) (p : Pl) : AO → Obj → Prop where
  | cells (c C : List Value) (e : TypeId) (ro : Bool) (fz lo hi : Nat) (hn : C.length = p.n) (hd : p.d + c.length ≤ p.n)
      (hc : ∀ i v, c[i]? = some v → ∃ v', C[p.d + i]? = some v' ∧ VR ρ v v') (hf : ro = true ∨ ∀ i, p.d + fz ≤ i → i < p.n → ¬ (lo ≤ i ∧ i < hi)) (h0 : p.opn = none → p.d = 0) :
      OR ρ p (.cells c e p.opn ro fz) (.cells ⟨C⟩ e (lo, hi))
  | map (es es' : List MapEntry) (c : Nat) (h : ER ρ es es') : OR ρ p (.map es c) (.map ⟨es'⟩ c)
  | strIter (s : ByteArray) (i : Nat) (h0 : p.d = 0) : OR ρ p (.strIter s i) (.stringIter s i)
  | mapIter0 (since : Nat) (seen : List Nat) (st : Nat) (h0 : p.d = 0) : OR ρ p (.mapIter none since seen st) (.mapIter none since ⟨seen⟩ st)
  | mapIter (q : Nat) (pq : Pl) (h : ρ q = some pq) (since : Nat) (seen : List Nat) (st : Nat) (h0 : p.d = 0) : OR ρ p (.mapIter (some q) since seen st) (.mapIter (some pq.b) since ⟨seen⟩ st)
  | loop (l l' : Loop) (h : LR ρ l l') : OR ρ p (.loop l) (.loop l')
  | deferred0 : OR ρ p (.deferred none) (.deferred none)
  | deferred (l l' : List Deferred) (h : DRs ρ l l') : OR ρ p (.deferred (some l)) (.deferred (some l'))
theorem OR.mono {ρ ρ' : Ren} (h : ρ.le ρ') {p : Pl} {o : AO} {O : Obj} (e : OR ρ p o O) : OR ρ' p o O := by
  cases e with
  | cells c C e ro fz lo hi hn hd hc hf h0 => exact .cells c C e ro fz lo hi hn hd (fun i v hv => let ⟨v', a, b⟩ := hc i v hv; ⟨v', a, b.mono h⟩) hf h0
  | map es es' c he => exact .map es es' c (he.mono h)
  | strIter s i h0 => exact .strIter s i h0
  | mapIter0 a b c h0 => exact .mapIter0 a b c h0
  | mapIter q pq hq a b c h0 => exact .mapIter q pq (h _ _ hq) a b c h0
  | loop l l' hl => exact .loop l l' (hl.mono h)
  | deferred0 => exact .deferred0
  | deferred l l' hl => exact .deferred l l' (hl.mono h)

def AO.isRo : AO → Bool
  | .cells _ _ _ ro _ => ro
  | _ => false

/-- the shadow's memory is the machine's, as far as it is told -/
structure MemR (ρ : Ren) (m : Mem) (w : World) : Prop where
  obj : ∀ x o, m.get x = some o → ∃ p O, ρ x = some p ∧ w.heap[p.b]? = some O ∧ OR ρ p o O
  inj : ∀ x y o o' p q, m.get x = some o → m.get y = some o' → x ≠ y → o.isRo = false → ρ x = some p → ρ y = some q → p.b ≠ q.b
  fresh : ∀ x, m.next ≤ x → ρ x = none
  lt : ∀ x p, ρ x = some p → p.b < w.heap.size

/-- the machine's blocks that the shadow may write -/
def Owns (ρ : Ren) (m : Mem) (b : Nat) : Prop := ∃ x o p, m.get x = some o ∧ o.isRo = false ∧ ρ x = some p ∧ p.b = b

/-- what became of the world: only what the shadow owned has turned; it owns no more than that and what is new -/
structure Ext (ρ : Ren) (m : Mem) (w : World) (ρ' : Ren) (m' : Mem) (w' : World) : Prop where
  le : ρ.le ρ'
  os : w'.os = w.os
  tape : w'.tape = w.tape
  output : w'.output = w.output
  size : w.heap.size ≤ w'.heap.size
  keep : ∀ b, b < w.heap.size → ¬ Owns ρ m b → w'.heap[b]? = w.heap[b]?
  own : ∀ b, Owns ρ' m' b → b < w.heap.size → Owns ρ m b
  next : m.next ≤ m'.next
  new : ∀ x p, ρ' x = some p → x < m.next → ρ x = some p
  ro : ∀ x o, m'.get x = some o → o.isRo = true → m.get x = some o

theorem Ext.refl (ρ : Ren) (m : Mem) (w : World) : Ext ρ m w ρ m w :=
  ⟨.refl _, rfl, rfl, rfl, Nat.le_refl _, fun _ _ _ => rfl, fun _ h _ => h, Nat.le_refl _, fun _ _ h _ => h, fun _ _ h _ => h⟩
theorem Ext.trans {ρ ρ₁ ρ₂ : Ren} {m m₁ m₂ : Mem} {w w₁ w₂ : World} (h : Ext ρ m w ρ₁ m₁ w₁) (k : Ext ρ₁ m₁ w₁ ρ₂ m₂ w₂) : Ext ρ m w ρ₂ m₂ w₂ :=
  ⟨h.le.trans k.le, k.os.trans h.os, k.tape.trans h.tape, k.output.trans h.output, Nat.le_trans h.size k.size,
   fun b hb hn => (k.keep b (Nat.lt_of_lt_of_le hb h.size) (fun ho => hn (h.own b ho hb))).trans (h.keep b hb hn),
   fun b ho hb => h.own b (k.own b ho (Nat.lt_of_lt_of_le hb h.size)) hb, Nat.le_trans h.next k.next,
   fun x p hx hl => h.new x p (k.new x p hx (Nat.lt_of_lt_of_le hl h.next)) hl, fun x o hx hr => h.ro x o (k.ro x o hx hr) hr⟩
/-- a draw alone -/
def drewN (w : World) (n : Nat) : World := { w with drawn := w.drawn + n }
theorem MemR.drawn {ρ : Ren} {m : Mem} {w : World} (h : MemR ρ m w) (d : Nat) : MemR ρ m { w with drawn := d } := ⟨h.obj, h.inj, h.fresh, h.lt⟩
theorem Ext.drawn (ρ : Ren) (m : Mem) (w : World) (d : Nat) : Ext ρ m w ρ m { w with drawn := d } :=
  ⟨.refl _, rfl, rfl, rfl, Nat.le_refl _, fun _ _ _ => rfl, fun _ h _ => h, Nat.le_refl _, fun _ _ h _ => h, fun _ _ h _ => h⟩

section
variable {ρ : Ren} {m : Mem} {w : World}

/-! a new block -/
def Ren.add (ρ : Ren) (x : Nat) (p : Pl) : Ren := fun y => if y = x then some p else ρ y
theorem Ren.add_same (ρ : Ren) (x : Nat) (p : Pl) : ρ.add x p x = some p := by simp [Ren.add]
theorem MemR.add_le (h : MemR ρ m w) (p : Pl) : ρ.le (ρ.add m.next p) := fun x q e => by
  have hx : x ≠ m.next := fun hx => by subst hx; rw [h.fresh _ (Nat.le_refl _)] at e; cases e
  simp [Ren.add, hx, e]

theorem MemR.push (h : MemR ρ m w) (o : AO) (O : Obj) (p : Pl) (hp : p.b = w.heap.size) (ho : OR (ρ.add m.next p) p o O) (hro : o.isRo = false) :
    MemR (ρ.add m.next p) (m.new o) { w with heap := w.heap.push O } ∧ Ext ρ m w (ρ.add m.next p) (m.new o) { w with heap := w.heap.push O } := by
  have hle := h.add_le p
  have hnew : ∀ x q, ρ.add m.next p x = some q → (x = m.next ∧ q = p) ∨ (x ≠ m.next ∧ ρ x = some q) := by
    intro x q e
    by_cases hx : x = m.next
    · subst hx; rw [Ren.add_same] at e; cases e; exact .inl ⟨rfl, rfl⟩
    · simp only [Ren.add, if_neg hx] at e; exact .inr ⟨hx, e⟩
  refine ⟨⟨?_, ?_, ?_, ?_⟩, ?_⟩
  · intro x o' e
    rw [Mem.get_new] at e
    by_cases hx : x = m.next
    · subst hx; rw [if_pos rfl] at e; cases e
      exact ⟨p, O, Ren.add_same _ _ _, by simp [hp], ho⟩
    · rw [if_neg hx] at e
      obtain ⟨q, Q, h1, h2, h3⟩ := h.obj x o' e
      have hq := h.lt x q h1
      exact ⟨q, Q, hle _ _ h1, by simp [Array.getElem?_push, h2, Nat.ne_of_lt hq], h3.mono hle⟩
  · intro x y o1 o2 q1 q2 e1 e2 hne hr p1 p2
    rw [Mem.get_new] at e1 e2
    rcases hnew x q1 p1 with ⟨a, b⟩ | ⟨a, b⟩ <;> rcases hnew y q2 p2 with ⟨c, d⟩ | ⟨c, d⟩
    · exact (hne (a.trans c.symm)).elim
    · subst b; rw [hp]; exact Nat.ne_of_gt (h.lt _ _ d)
    · subst d; rw [hp]; exact Nat.ne_of_lt (h.lt _ _ b)
    · rw [if_neg a] at e1; rw [if_neg c] at e2; exact h.inj x y o1 o2 q1 q2 e1 e2 hne hr b d
  · intro x hx
    rw [Mem.next_new] at hx
    have hx' : x ≠ m.next := by omega
    simp only [Ren.add, if_neg hx']
    exact h.fresh x (by omega)
  · intro x q e
    simp only [Array.size_push]
    rcases hnew x q e with ⟨a, b⟩ | ⟨a, b⟩
    · subst b; omega
    · have := h.lt _ _ b; omega
  · refine ⟨hle, rfl, rfl, rfl, by simp, ?_, ?_, by rw [Mem.next_new]; omega, ?_, fun x o' e hr' => ?_⟩
    · intro b hb _
      simp [Array.getElem?_push, Nat.ne_of_lt hb]
    · rintro b ⟨x, o', q, e1, e2, e3, e4⟩ hb
      rcases hnew x q e3 with ⟨a, c⟩ | ⟨a, c⟩
      · subst c; omega
      · rw [Mem.get_new, if_neg a] at e1; exact ⟨x, o', q, e1, e2, c, e4⟩
    · intro x q e hx
      rcases hnew x q e with ⟨a, c⟩ | ⟨a, c⟩
      · omega
      · exact c
    · rw [Mem.get_new] at e
      by_cases hx : x = m.next
      · rw [if_pos hx] at e; cases e; rw [hro] at hr'; cases hr'
      · rw [if_neg hx] at e; exact e

/-! a block that is written -/
theorem MemR.write (h : MemR ρ m w) {x : Nat} {o o' : AO} {p : Pl} (O' : Obj) (hx : m.get x = some o) (hr : o.isRo = false) (hr' : o'.isRo = false) (hp : ρ x = some p) (ho : OR ρ p o' O') :
    MemR ρ (m.put x o') { w with heap := w.heap.setIfInBounds p.b O' } ∧ Ext ρ m w ρ (m.put x o') { w with heap := w.heap.setIfInBounds p.b O' } := by
  have hlt := h.lt x p hp
  refine ⟨⟨?_, ?_, ?_, ?_⟩, ⟨.refl _, rfl, rfl, rfl, by simp, ?_, ?_, by rw [Mem.next_put]; exact Nat.le_refl _, fun _ _ e _ => e, fun y q e hq => by
    rw [Mem.get_put] at e
    by_cases hy : y = x
    · rw [if_pos hy] at e; cases e; rw [hr'] at hq; cases hq
    · rw [if_neg hy] at e; exact e⟩⟩
  · intro y q e
    rw [Mem.get_put] at e
    by_cases hy : y = x
    · subst hy; rw [if_pos rfl] at e; cases e
      exact ⟨p, O', hp, by simp [hlt], ho⟩
    · rw [if_neg hy] at e
      obtain ⟨q', Q, h1, h2, h3⟩ := h.obj y q e
      have hne := h.inj x y o q p q' hx e (Ne.symm hy) hr hp h1
      exact ⟨q', Q, h1, by simp [Array.getElem?_setIfInBounds, hne, h2], h3⟩
  · intro y z o1 o2 q1 q2 e1 e2 hne hro p1 p2
    rw [Mem.get_put] at e1 e2
    by_cases hy : y = x
    · subst hy
      have hz : z ≠ y := fun e => hne e.symm
      rw [if_neg hz] at e2
      exact h.inj y z o o2 q1 q2 hx e2 hne hr p1 p2
    · rw [if_neg hy] at e1
      by_cases hz : z = x
      · subst hz; exact h.inj y z o1 o q1 q2 e1 hx hne hro p1 p2
      · rw [if_neg hz] at e2; exact h.inj y z o1 o2 q1 q2 e1 e2 hne hro p1 p2
  · intro y hy; rw [Mem.next_put] at hy; exact h.fresh y hy
  · intro y q e; simp only [Array.size_setIfInBounds]; exact h.lt y q e
  · intro b hb hn
    have hne : p.b ≠ b := fun e => hn ⟨x, o, p, hx, hr, hp, e⟩
    simp [Array.getElem?_setIfInBounds, hne]
  · rintro b ⟨y, q, q', e1, e2, e3, e4⟩ _
    rw [Mem.get_put] at e1
    by_cases hy : y = x
    · subst hy; exact ⟨y, o, q', hx, hr, e3, e4⟩
    · rw [if_neg hy] at e1; exact ⟨y, q, q', e1, e2, e3, e4⟩

/-! memory of which less is told -/
theorem MemR.sub (h : MemR ρ m w) {m' : Mem} (hs : ∀ x o, m'.get x = some o → m.get x = some o) (hn : m.next ≤ m'.next) : MemR ρ m' w :=
  ⟨fun x o e => h.obj x o (hs x o e), fun x y o o' p q e1 e2 => h.inj x y o o' p q (hs _ _ e1) (hs _ _ e2), fun x hx => h.fresh x (Nat.le_trans hn hx), h.lt⟩

end
end Go.Sh

/-
  Types as the shadow has them; loads and stores.
-/
namespace Go.Sh
open Go.RowKit

theorem run_und {P : Program} {t : TypeId} {d : TypeDesc} (h : P.underlying t = some d) (w : World) : (underlying t).run P w = .ok d w := by
  simp [underlying, h]
theorem run_ti {P : Program} {t : TypeId} {i : TypeInfo} (h : P.info? t = some i) (w : World) : (typeInfo t).run P w = .ok i w := by
  simp [typeInfo, h]
theorem run_size {P : Program} {t : TypeId} {i : TypeInfo} (h : P.info? t = some i) (w : World) : (sizeOf t).run P w = .ok i.size w := by
  simp [sizeOf, run_ti h]
theorem run_zero {P : Program} {t : TypeId} {i : TypeInfo} {z : Value} (h : P.info? t = some i) (hz : i.zero = some z) (w : World) : (zeroValue t).run P w = .ok z w := by
  simp [zeroValue, run_ti h, hz]

def aggDesc : TypeDesc → Bool
  | .struct _ => true
  | .array _ _ => true
  | _ => false

def otherDesc : TypeDesc → Bool
  | .invalid => true
  | .float _ => true
  | .complex _ => true
  | .unsafePointer => true
  | .chan _ _ => true
  | .tuple _ => true
  | .named _ _ => true
  | _ => false

inductive FDs (P : Program) : List Field → List FD → Prop where
  | nil : FDs P [] []
  | cons (f : Field) (i : TypeInfo) (fs : List Field) (l : List FD) (h : P.info? f.type = some i) (hl : FDs P fs l) : FDs P (f :: fs) (⟨f.type, f.offset, i.size, f.name != "_"⟩ :: l)

inductive TDR (P : Program) : TypeDesc → TD → Prop where
  | bool : TDR P .bool .bool
  | int (k : IntKind) : TDR P (.int k) (.int k)
  | string : TDR P .string .string
  | pointer (e : TypeId) : TDR P (.pointer e) (.pointer e)
  | slice (e : TypeId) : TDR P (.slice e) (.slice e)
  | array (n : Nat) (e : TypeId) : TDR P (.array n e) (.array n e)
  | map (k e : TypeId) : TDR P (.map k e) (.map k e)
  | struct (fs : List Field) (l : List FD) (h : FDs P fs l) : TDR P (.struct ⟨fs⟩) (.struct l)
  | iface (ms : Array (String × TypeId)) : TDR P (.interface ms) .iface
  | func (a b : Array TypeId) (v : Bool) : TDR P (.func a b v) .func
  | other (d : TypeDesc) (h : otherDesc d = true) : TDR P d .other

structure TIOK (P : Program) (t : TypeId) (i : TI) where
  info : TypeInfo
  d : TypeDesc
  hi : P.info? t = some info
  hu : P.underlying t = some d
  td : TDR P d i.td
  size : info.size = i.size
  bytes : info.bytes = i.bytes
  zero : i.zero = info.zero.map cst
  comparable : info.comparable = i.comparable
  methods : info.methods.toList = i.methods
  plain : i.plain = true → P.eqGuardType P.depth t = false ∧ P.stoodInHeld t = false

theorem TDR.agg {P : Program} {d : TypeDesc} {td : TD} (h : TDR P d td) : aggDesc d = aggT td := by
  cases h <;> first | rfl | (rename_i h; cases d <;> first | rfl | (cases h))

theorem run_isAgg {P : Program} {t : TypeId} {d : TypeDesc} (h : P.underlying t = some d) (w : World) : (Go.isAgg t).run P w = .ok (aggDesc d) w := by
  cases d <;> simp [Go.isAgg, run_und h, aggDesc]

/-! constants -/
theorem leaf_vr (ρ : Ren) (v : Value) : VR ρ (leaf v) v := by
  cases v with
  | bool b => exact .bool b
  | int k n => exact .int k n
  | string s => exact .string s
  | pointer a => cases a with | none => exact .pnil | some a => exact .top _
  | slice a l c => cases a with | none => exact .snil l c | some a => exact .top _
  | map a => cases a with | none => exact .mnil | some a => exact .top _
  | nilFunc => exact .fnil
  | nilIface => exact .inil
  | _ => exact .top _
theorem leaves_vr (ρ : Ren) (l : List Value) : VRs ρ (leaves l) l := by
  induction l with
  | nil => exact .nil
  | cons v l ih => exact .cons _ _ _ _ (leaf_vr ρ v) ih
theorem cst_vr (ρ : Ren) (v : Value) : VR ρ (cst v) v := by
  cases v with
  | agg a => obtain ⟨l⟩ := a; exact .agg _ _ (leaves_vr ρ l)
  | iface t v => exact .iface _ _ _ (leaf_vr ρ v)
  | bool b => exact .bool b
  | int k n => exact .int k n
  | string s => exact .string s
  | pointer a => exact leaf_vr ρ _
  | slice a l c => exact leaf_vr ρ _
  | map a => exact leaf_vr ρ _
  | nilFunc => exact .fnil
  | nilIface => exact .inil
  | _ => exact .top _

section
variable {ρ : Ren}
/-! cells of values -/
theorem cellsR_vr {v v' : Value} {l : List Value} (h : VR ρ v v') (e : cellsR v = .ok l) : VRs ρ l v'.cells.toList := by
  cases h with
  | agg a a' h => simp only [cellsR] at e; cases e; exact h
  | top => simp [cellsR] at e
  | _ => simp only [cellsR] at e; cases e; refine .one ?_; constructor <;> assumption

/-! addresses -/
theorem addr_inv {a : Addr} {v : Value} (h : VR ρ (.pointer (some a)) v) : ∃ p, a.spot = none ∧ ρ a.block = some p ∧ v = .pointer (some ⟨p.b, a.off + p.d, none⟩) := by
  cases h with | ptr x o p hp => exact ⟨p, rfl, hp, rfl⟩
theorem addrOf_ok {v : Value} {a : Addr} (h : addrOf v = .ok a) : v = .pointer (some a) := by
  cases v with
  | pointer o => cases o with | none => cases h | some b => simp only [addrOf] at h; cases h; rfl
  | _ => cases h

theorem add_none (b o n : Nat) : Addr.add ⟨b, o, none⟩ n = ⟨b, o + n, none⟩ := by
  unfold Addr.add
  by_cases h : n = 0
  · subst h; simp
  · rw [if_neg h]
theorem addA_eq (b o n : Nat) : addA ⟨b, o, none⟩ n = ⟨b, o + n, none⟩ := by cases n <;> rfl

/-! loads -/
variable {m : Mem} {w : World} {P : Program}

theorem loadC_sim (h : MemR ρ m w) {x off n : Nat} {l : List Value} (e : loadC m ⟨x, off, none⟩ n = .ok l) {p : Pl} (hp : ρ x = some p) :
    ∃ l', VRs ρ l l' ∧ l.length = n ∧ ∀ (i : Nat) (v : Value), l'[i]? = some v → w.cell? ⟨p.b, off + p.d + i, none⟩ = some v := by
  simp only [loadC] at e
  cases ho : m.get x with
  | none => rw [ho] at e; simp [loadO] at e
  | some o =>
    rw [ho] at e
    cases o with
    | cells c el opn ro fz =>
      simp only [loadO] at e
      have e2 := need_ok e
      rw [dropN_eq] at e2
      obtain ⟨e3, e4⟩ := takeN_some e2
      obtain ⟨q, O, h1, h2, h3⟩ := h.obj x _ ho
      rw [hp] at h1; cases h1
      cases h3 with
      | cells c C e' ro' fz' lo hi hn hd hc hf h0 =>
        have hlen : off + n ≤ c.length ∨ n = 0 := by
          simp only [List.length_drop] at e4; omega
        have hl : l.length = n := by subst e3; simp only [List.length_take, List.length_drop] at *; omega
        refine ⟨(C.drop (p.d + off)).take n, ?_, hl, ?_⟩
        · refine VRs.of_get ?_ ?_
          · rw [hl]; simp only [List.length_take, List.length_drop]; omega
          · intro i v hv
            have hi : i < n := by
              have := List.getElem?_eq_some_iff.1 hv
              obtain ⟨a, _⟩ := this; omega
            have : c[off + i]? = some v := by
              subst e3
              rw [List.getElem?_take] at hv
              rw [if_pos hi, List.getElem?_drop] at hv
              exact hv
            obtain ⟨v', a, b⟩ := hc _ _ this
            refine ⟨v', ?_, b⟩
            rw [List.getElem?_take, if_pos hi, List.getElem?_drop, ← a]; congr 1; omega
        · intro i v hv
          have hi : i < n := by
            have := List.getElem?_eq_some_iff.1 hv
            obtain ⟨a, _⟩ := this; simp only [List.length_take] at a; omega
          rw [List.getElem?_take, if_pos hi, List.getElem?_drop] at hv
          simp only [World.cell?, h2, Option.isSome_none, Bool.false_eq_true, if_false]
          rw [← hv]
          simp only [List.getElem?_toArray]
          congr 1; omega
    | _ => simp [loadO] at e

theorem run_loadCellsFrom (b o : Nat) (l : List Value) : ∀ (i : Nat) (acc : Array Value), (∀ (j : Nat) (v : Value), l[j]? = some v → w.cell? ⟨b, o + (i + j), none⟩ = some v) →
    (loadCellsFrom ⟨b, o, none⟩ i l.length acc).run P w = .ok (acc ++ ⟨l⟩) w := by
  induction l with
  | nil => intro i acc _; simp [loadCellsFrom]
  | cons v l ih =>
    intro i acc h
    have h0 := h 0 v (by simp)
    simp only [Nat.add_zero] at h0
    simp only [List.length_cons, loadCellsFrom, Sem.run_bind, run_load, add_none, h0, Result.andThen_ok]
    rw [ih (i + 1) (acc.push v) (fun j u hj => by have := h (j + 1) u (by simpa using hj); rw [← this]; congr 2; omega)]
    congr 1
    apply Array.ext'
    simp
theorem run_loadCells {b o n : Nat} {l : List Value} (hl : l.length = n) (h : ∀ (j : Nat) (v : Value), l[j]? = some v → w.cell? ⟨b, o + j, none⟩ = some v) :
    (loadCells ⟨b, o, none⟩ n).run P w = .ok ⟨l⟩ w := by
  subst hl
  unfold loadCells
  rw [run_loadCellsFrom b o l 0 #[] (fun j v hj => by rw [Nat.zero_add]; exact h j v hj)]
  simp

structure EnvTi (P : Program) (E : Env) : Prop where
  ti : ∀ t i, E.ti t = some i → Nonempty (TIOK P t i)
variable {E : Env}

theorem loadV_sim (hE : EnvTi P E) (h : MemR ρ m w) {t : TypeId} {a : Addr} {v : Value} (e : loadV E m t a = .ok v) {p : Pl} (hs : a.spot = none) (hp : ρ a.block = some p) :
    ∃ v', VR ρ v v' ∧ (loadVar t ⟨p.b, a.off + p.d, none⟩).run P w = .ok v' w := by
  obtain ⟨x, o, s⟩ := a
  simp only at hs hp; subst hs
  obtain ⟨i, hi, e⟩ := R.bnd_ok e
  obtain ⟨k⟩ := hE.ti t i (need_ok hi)
  have hag := k.td.agg
  cases ha : aggT i.td with
  | true =>
    rw [ha] at e
    obtain ⟨l, e1, e2⟩ := R.bnd_ok e
    simp only [mkVal, aggL] at e2; cases e2
    obtain ⟨l', r1, r2, r3⟩ := loadC_sim h e1 hp
    refine ⟨.agg ⟨l'⟩, .agg _ _ r1, ?_⟩
    simp only [loadVar, Sem.run_bind, run_isAgg k.hu, hag, ha, Result.andThen_ok, if_true, run_size k.hi]
    rw [run_loadCells (by rw [← r1.length, r2, k.size]) r3]
    simp
  | false =>
    rw [ha] at e
    obtain ⟨l, e1, e2⟩ := R.bnd_ok e
    obtain ⟨l', r1, r2, r3⟩ := loadC_sim h e1 hp
    cases r1 with
    | nil => simp at r2
    | cons v0 v0' l0 l0' hv hl =>
      cases hl with
      | cons => simp at r2
      | nil =>
        simp only [mkVal, asOne] at e2; cases e2
        have := r3 0 v0' (by simp)
        refine ⟨v0', hv, ?_⟩
        simp only [loadVar, Sem.run_bind, run_isAgg k.hu, hag, ha, Result.andThen_ok]
        simp only [Nat.add_zero] at this
        simp [this]

/-! stores -/
def setB (w : World) (b : Nat) (O : Obj) : World := { w with heap := w.heap.setIfInBounds b O }
theorem setB_get (w : World) (b : Nat) (O : Obj) (h : b < w.heap.size) : (setB w b O).heap[b]? = some O := by simp [setB, h]
theorem setB_setB (w : World) (b : Nat) (O O' : Obj) : setB (setB w b O) b O' = setB w b O' := by
  unfold setB
  congr 1
  apply Array.ext'
  simp
theorem setB_self (w : World) (b : Nat) (O : Obj) (h : w.heap[b]? = some O) : setB w b O = w := by
  unfold setB
  have hb : b < w.heap.size := by
    rcases Nat.lt_or_ge b w.heap.size with k | k
    · exact k
    · rw [Array.getElem?_eq_none k] at h; cases h
  have : w.heap.setIfInBounds b O = w.heap := by
    apply Array.ext_getElem?
    intro i
    rw [Array.getElem?_setIfInBounds]
    by_cases hi : b = i
    · subst hi; rw [if_pos rfl, if_pos hb, h]
    · simp [hi]
  rw [this]

theorem setCell_eq {b o : Nat} {C : List Value} {e : TypeId} {fr : Nat × Nat} (h : w.heap[b]? = some (.cells ⟨C⟩ e fr)) (v : Value) :
    w.setCell ⟨b, o, none⟩ v = setB w b (.cells ⟨C.set o v⟩ e fr) := by
  have hb : b < w.heap.size := by
    rcases Nat.lt_or_ge b w.heap.size with k | k
    · exact k
    · rw [Array.getElem?_eq_none k] at h; cases h
  unfold World.setCell setB
  congr 1
  apply Array.ext_getElem?
  intro i
  rw [Array.getElem?_setIfInBounds, Array.getElem?_modify]
  by_cases hi : b = i
  · subst hi
    simp only [if_true, h, Option.map_some, hb]
    simp
  · simp [hi]

theorem set_overw (C : List Value) (o : Nat) (v : Value) (vs : List Value) (h : o + 1 + vs.length ≤ C.length) :
    (C.set o v).take (o + 1) ++ vs ++ (C.set o v).drop (o + 1 + vs.length) = C.take o ++ (v :: vs) ++ C.drop (o + (v :: vs).length) := by
  have h1 : (C.set o v).take (o + 1) = C.take o ++ [v] := by
    rw [List.take_set, List.take_succ_eq_append_getElem (by omega), List.set_append_right _ _ (by simp; omega)]
    congr 1
    have : o - (List.take o C).length = 0 := by simp; omega
    rw [this]; rfl
  have h2 : (C.set o v).drop (o + 1 + vs.length) = C.drop (o + 1 + vs.length) := by
    rw [List.drop_set_of_lt (by omega)]
  have e : o + (v :: vs).length = o + 1 + vs.length := by simp only [List.length_cons]; omega
  rw [h1, h2, e]
  simp

theorem run_storeCells (b : Nat) (e : TypeId) (fr : Nat × Nat) (vs : List Value) : ∀ (w : World) (C : List Value) (o i : Nat), w.heap[b]? = some (.cells ⟨C⟩ e fr) → o + i + vs.length ≤ C.length →
    (∀ v ∈ vs, v.oneCell' = true) → (∀ j, o + i ≤ j → j < o + i + vs.length → ¬ (fr.1 ≤ j ∧ j < fr.2)) →
    (storeCells ⟨b, o, none⟩ vs i).run P w = .ok () (setB w b (.cells ⟨C.take (o + i) ++ vs ++ C.drop (o + i + vs.length)⟩ e fr)) := by
  induction vs with
  | nil =>
    intro w C o i h hl _ _
    simp only [storeCells, Sem.run_pure]
    have : C.take (o + i) ++ [] ++ C.drop (o + i + ([] : List Value).length) = C := by simp
    rw [this, setB_self w b _ h]
  | cons v vs ih =>
    intro w C o i h hl hone hfz
    simp only [List.length_cons] at hl hfz
    have hcell : w.cell? ⟨b, o + i, none⟩ = some C[o + i] := by
      simp only [World.cell?, h, Option.isSome_none, Bool.false_eq_true, if_false, List.getElem?_toArray]
      rw [List.getElem?_eq_getElem (by omega)]
    have hfrz : w.frozen? ⟨b, o + i, none⟩ = false := by
      obtain ⟨lo, hi⟩ := fr
      have := hfz (o + i) (Nat.le_refl _) (by omega)
      simp only [World.frozen?, h]
      simpa using this
    have hb : b < w.heap.size := by
      rcases Nat.lt_or_ge b w.heap.size with k | k
      · exact k
      · rw [Array.getElem?_eq_none k] at h; cases h
    simp only [storeCells, Sem.run_bind, add_none]
    rw [run_store P w _ v .plain (hone v (by simp))]
    simp only [hcell, hfrz, Bool.false_eq_true, if_false, Result.andThen_ok]
    rw [setCell_eq h v]
    rw [ih _ (C.set (o + i) v) o (i + 1) (setB_get _ _ _ hb) (by simp; omega) (fun u hu => hone u (by simp [hu])) (fun j h1 h2 => hfz j (by omega) (by omega))]
    rw [setB_setB]
    congr 3
    have e1 : o + (i + 1) = (o + i) + 1 := by omega
    rw [e1, set_overw C (o + i) v vs (by omega)]

/-- a store through an address of the shadow's: what is written, and what it makes of memory -/
theorem storeC_sim (h : MemR ρ m w) {x off : Nat} {vs vs' : List Value} {m' : Mem} (e : storeC m ⟨x, off, none⟩ vs = .ok m') (hv : VRs ρ vs vs') {p : Pl} (hp : ρ x = some p) :
    ∃ w', (storeCells ⟨p.b, off + p.d, none⟩ vs').run P w = .ok () w' ∧ MemR ρ m' w' ∧ Ext ρ m w ρ m' w' := by
  simp only [storeC] at e
  obtain ⟨o', e1, e2⟩ := R.bnd_ok e
  cases e2
  cases ho : m.get x with
  | none => rw [ho] at e1; simp [storeO] at e1
  | some o =>
    rw [ho] at e1
    cases o with
    | cells c el opn ro fz =>
      cases ro with
      | true => simp [storeO] at e1
      | false =>
        simp only [storeO] at e1
        obtain ⟨hfz, e1⟩ := bif_ok' e1
        obtain ⟨c', e3, e4⟩ := R.bnd_ok e1
        cases e4
        obtain ⟨k1, k2, k3⟩ := overw_some (need_ok e3)
        obtain ⟨q, O, h1, h2, h3⟩ := h.obj x _ ho
        rw [hp] at h1; cases h1
        cases h3 with
        | cells c C el' ro' fz' lo hi hn hd hc hf h0 =>
          have hlen := hv.length
          have hfzle : fz ≤ off := by
            have : ¬ off < fz := by
              intro hlt
              have : Nat.blt off fz = true := by simp [Nat.blt_eq, hlt]
              rw [this] at hfz; cases hfz
            omega
          have hrun := run_storeCells (P := P) p.b el (lo, hi) vs' w C (off + p.d) 0 h2 (by omega)
            (fun v' hv' => by
              obtain ⟨i, hi', rfl⟩ := List.mem_iff_getElem.1 hv'
              have hi2 : i < vs.length := by omega
              obtain ⟨u, a, b⟩ := hv.get i vs[i] (by simp [hi2])
              rw [List.getElem?_eq_getElem hi'] at a; cases a
              exact oneC_of b (k3 _ (List.getElem_mem _)))
            (fun j h1 h2 => by
              rcases hf with hf | hf
              · cases hf
              · exact hf j (by omega) (by omega))
          simp only [Nat.add_zero] at hrun
          refine ⟨_, hrun, ?_⟩
          refine MemR.write h _ ho rfl rfl hp ?_
          subst k2
          refine OR.cells _ _ el false fz lo hi ?_ ?_ ?_ ?_ h0
          · simp only [List.length_append, List.length_take, List.length_drop]; omega
          · simp only [List.length_append, List.length_take, List.length_drop]; omega
          · intro i v hiv
            by_cases c1 : i < off
            · rw [List.append_assoc, List.getElem?_append_left (by simp; omega), List.getElem?_take, if_pos c1] at hiv
              obtain ⟨v', a, b⟩ := hc i v hiv
              refine ⟨v', ?_, b⟩
              rw [List.append_assoc, List.getElem?_append_left (by simp; omega), List.getElem?_take, if_pos (by omega)]
              exact a
            · by_cases c2 : i < off + vs.length
              · rw [List.append_assoc, List.getElem?_append_right (by simp; omega), List.getElem?_append_left (by simp; omega)] at hiv
                have e0 : i - (List.take off c).length = i - off := by simp; omega
                rw [e0] at hiv
                obtain ⟨v', a, b⟩ := hv.get _ _ hiv
                refine ⟨v', ?_, b⟩
                rw [List.append_assoc, List.getElem?_append_right (by simp; omega), List.getElem?_append_left (by simp; omega)]
                have e5 : p.d + i - (List.take (off + p.d) C).length = i - off := by simp; omega
                rw [e5]; exact a
              · rw [List.append_assoc, List.getElem?_append_right (by simp; omega), List.getElem?_append_right (by simp; omega), List.getElem?_drop] at hiv
                have e0 : off + vs.length + (i - (List.take off c).length - vs.length) = i := by simp; omega
                rw [e0] at hiv
                obtain ⟨v', a, b⟩ := hc i v hiv
                refine ⟨v', ?_, b⟩
                rw [List.append_assoc, List.getElem?_append_right (by simp; omega), List.getElem?_append_right (by simp; omega), List.getElem?_drop]
                have e5 : off + p.d + vs'.length + (p.d + i - (List.take (off + p.d) C).length - vs'.length) = p.d + i := by simp; omega
                rw [e5]; exact a
          · exact hf
    | _ => simp [storeO] at e1

theorem storeV_sim (hE : EnvTi P E) (h : MemR ρ m w) {t : TypeId} {a : Addr} {v v' : Value} {m' : Mem} (e : storeV E m t a v = .ok m') (hv : VR ρ v v') {p : Pl} (hs : a.spot = none) (hp : ρ a.block = some p) :
    ∃ w', (storeVar t ⟨p.b, a.off + p.d, none⟩ v').run P w = .ok () w' ∧ MemR ρ m' w' ∧ Ext ρ m w ρ m' w' := by
  obtain ⟨x, o, s⟩ := a
  simp only at hs hp; subst hs
  obtain ⟨n, hn, e⟩ := R.bnd_ok e
  obtain ⟨i, hi, hn⟩ := R.bnd_ok hn
  cases hn
  obtain ⟨k⟩ := hE.ti t i (need_ok hi)
  obtain ⟨l, el, e⟩ := R.bnd_ok e
  obtain ⟨hl, e⟩ := bif_ok e
  have hl : l.length = i.size := by simpa using hl
  have hr := cellsR_vr hv el
  obtain ⟨w', r1, r2, r3⟩ := storeC_sim (P := P) h e hr hp
  refine ⟨w', ?_, r2, r3⟩
  have hsz : v'.cells.size = i.size := by
    have := hr.length; simp only [Array.length_toList] at this; omega
  simp only [storeVar, Sem.run_bind, run_size k.hi, Result.andThen_ok, k.size]
  rw [if_neg (by omega)]
  exact r1
end
end Go.Sh

/-
  What is worked out of values alone: parts, strings, numbers, '=='.
-/
namespace Go.Sh
open Go.RowKit

section
variable {ρ : Ren} {m : Mem} {w : World} {P : Program} {E : Env}

theorem tiR_ok (hE : EnvTi P E) {t : TypeId} {i : TI} (h : E.tiR t = .ok i) : Nonempty (TIOK P t i) := hE.ti t i (need_ok h)
theorem tdR_ok (hE : EnvTi P E) {t : TypeId} {td : TD} (h : E.tdR t = .ok td) : ∃ d, P.underlying t = some d ∧ TDR P d td := by
  obtain ⟨i, hi, e⟩ := R.bnd_ok h
  cases e
  obtain ⟨k⟩ := tiR_ok hE hi
  exact ⟨k.d, k.hu, k.td⟩
theorem sizeR_ok (hE : EnvTi P E) {t : TypeId} {n : Nat} (h : E.sizeR t = .ok n) : ∃ i, P.info? t = some i ∧ i.size = n := by
  obtain ⟨i, hi, e⟩ := R.bnd_ok h
  cases e
  obtain ⟨k⟩ := tiR_ok hE hi
  exact ⟨k.info, k.hi, k.size⟩
theorem zeroR_ok (hE : EnvTi P E) {t : TypeId} {z : Value} (h : E.zeroR t = .ok z) : ∃ i z', P.info? t = some i ∧ i.zero = some z' ∧ z = cst z' := by
  obtain ⟨i, hi, e⟩ := R.bnd_ok h
  obtain ⟨k⟩ := tiR_ok hE hi
  have e := need_ok e
  rw [k.zero] at e
  obtain ⟨z', h1, h2⟩ := Option.map_eq_some_iff.1 e
  exact ⟨k.info, z', k.hi, h1, h2.symm⟩

/-! parts -/
theorem partOf_sim (hE : EnvTi P E) {t : TypeId} {cs cs' : List Value} {off : Nat} {v : Value} (e : partOf E t cs off = .ok v) (h : VRs ρ cs cs') (w : World) :
    ∃ v', VR ρ v v' ∧ (part t ⟨cs'⟩ off).run P w = .ok v' w := by
  obtain ⟨i, hi, e⟩ := R.bnd_ok e
  obtain ⟨k⟩ := tiR_ok hE hi
  have hag := k.td.agg
  cases ha : aggT i.td with
  | true =>
    rw [ha] at e
    obtain ⟨l, e1, e2⟩ := R.bnd_ok e
    simp only [mkVal, aggL] at e2; cases e2
    have e3 := need_ok e1
    rw [dropN_eq] at e3
    obtain ⟨e4, _⟩ := takeN_some e3
    subst e4
    refine ⟨.agg ⟨(cs'.drop off).take i.size⟩, .agg _ _ ((h.drop off).take _), ?_⟩
    simp only [part, Sem.run_bind, run_isAgg k.hu, hag, ha, Result.andThen_ok, if_true, run_size k.hi, k.size, Sem.run_pure]
    have : (Array.extract ⟨cs'⟩ off (off + i.size)) = ⟨(cs'.drop off).take i.size⟩ := by
      apply Array.ext'
      simp [List.extract]
    rw [this]
  | false =>
    rw [ha] at e
    obtain ⟨l, e1, e2⟩ := R.bnd_ok e
    have e3 := need_ok e1
    rw [dropN_eq] at e3
    obtain ⟨e4, e5⟩ := takeN_some e3
    subst e4
    have hlen : off < cs.length := by simp at e5; omega
    have hd : cs.drop off = cs[off] :: cs.drop (off + 1) := List.drop_eq_getElem_cons hlen
    rw [hd] at e2
    simp only [mkVal, List.take_succ_cons, List.take_zero, asOne] at e2; cases e2
    obtain ⟨v', a, b⟩ := h.get off cs[off] (by simp [hlen])
    refine ⟨v', b, ?_⟩
    simp [part, run_isAgg k.hu, hag, ha, a]

/-! strings -/
theorem eqL_eq : ∀ (a b : List UInt8), eqL a b = (a == b)
  | [], [] => rfl
  | [], _ :: _ => rfl
  | _ :: _, [] => rfl
  | a :: x, b :: y => by
    have hab : Nat.beq a.toNat b.toNat = (a == b) := by
      rw [Bool.eq_iff_iff]; simp [Nat.beq_eq, UInt8.toNat_inj]
    simp only [eqL, hab, List.cons_beq_cons]
    cases a == b <;> simp [eqL_eq x y]
theorem ltL_eq : ∀ (a b : List UInt8), ltL a b = Op.bytesLess a b
  | [], [] => rfl
  | _ :: _, [] => rfl
  | [], _ :: _ => rfl
  | a :: x, b :: y => by
    have h1 : Nat.blt a.toNat b.toNat = decide (a < b) := by
      rw [Bool.eq_iff_iff]; simp [Nat.blt_eq, UInt8.lt_iff_toNat_lt]
    have h2 : Nat.beq a.toNat b.toNat = (a == b) := by
      rw [Bool.eq_iff_iff]; simp [Nat.beq_eq, UInt8.toNat_inj]
    simp only [ltL, Op.bytesLess, h1, h2, ltL_eq x y]
    cases decide (a < b) <;> cases a == b <;> simp

theorem toList_mk (l : List UInt8) : ByteArray.toList ⟨⟨l⟩⟩ = l := by rw [Go.ByteArray.toList_eq]
theorem append_mk (a b : List UInt8) : (ByteArray.mk ⟨a⟩) ++ (ByteArray.mk ⟨b⟩) = ⟨⟨a ++ b⟩⟩ := by
  apply ByteArray.ext
  simp

theorem strOp_sim {op : BinOp} {a b : ByteArray} {v : Value} (e : strOp op a b = .ok v) (w : World) : (Op.stringOp op a b).run P w = .ok v w ∧ VR ρ v v := by
  obtain ⟨⟨a⟩⟩ := a
  obtain ⟨⟨b⟩⟩ := b
  cases op <;> simp only [strOp] at e <;> first
    | (cases e; simp only [Op.stringOp, toList_mk, ← ltL_eq, ← eqL_eq, Sem.run_pure]; exact ⟨trivial, by first | exact .bool _ | exact .string _⟩)
    | skip
  all_goals first
    | (cases e; done)
    | (obtain ⟨h, e⟩ := bif_ok e
       cases e
       have h := Nat.le_of_ble_eq_true h
       have hs : ¬ (((ByteArray.mk ⟨a⟩).size + (ByteArray.mk ⟨b⟩).size : Nat) : Int) > IntKind.i64.max := by
         have h1 : (ByteArray.mk ⟨a⟩).size = a.length := rfl
         have h2 : (ByteArray.mk ⟨b⟩).size = b.length := rfl
         rw [h1, h2]
         have h3 : IntKind.i64.max = 9223372036854775807 := by decide
         rw [h3]; omega
       simp only [Op.stringOp, if_neg hs, Sem.run_pure, append_mk, bstr]
       exact ⟨trivial, .string _⟩)

/-! numbers -/
theorem intOp_sim {op : BinOp} {k : IntKind} {a b : Int} {v : Value} (hop : op ≠ .shl ∧ op ≠ .shr) (e : intOp op k a b = .ok v) (t : TypeId) (w : World) :
    (binOp op t (.int k a) (.int k b)).run P w = .ok v w ∧ VR ρ v v := by
  cases op <;> simp only [intOp] at e <;> first
    | exact (hop.1 rfl).elim
    | exact (hop.2 rfl).elim
    | (cases e; done)
    | (cases e; simp [binOp, Op.intArith, Op.intBits, Op.intCmp]; exact (by first | exact .int _ _ | exact .bool _))
    | (split at e
       · cases e
       · rename_i hb; cases e; simp [binOp, Op.intDiv, hb]; exact .int _ _)

theorem shiftOp_sim {op : BinOp} {k yk : IntKind} {a b : Int} {v : Value} (e : shiftOp op k a b = .ok v) (t : TypeId) (w : World) :
    (binOp op t (.int k a) (.int yk b)).run P w = .ok v w ∧ VR ρ v v := by
  cases op <;> simp only [shiftOp] at e <;> first
    | (cases e; done)
    | (split at e
       · cases e
       · rename_i hb; cases e; simp [binOp, Op.shift, hb, shiftN]; exact .int _ _)

/-! '==' -/
def EqOk (ρ : Ren) (P : Program) (n : Nat) (f : TypeId → Value → Value → R Bool) : Prop :=
  ∀ t x y b, f t x y = .ok b → ∀ x' y', VR ρ x x' → VR ρ y y' → ∀ D w, n ≤ D → (Op.equalIn D t x' y').run P w = .ok b w

theorem eqFs_sim (hE : EnvTi P E) {n : Nat} {f : TypeId → Value → Value → R Bool} (hf : EqOk ρ P n f) {xs ys xs' ys' : List Value} (hx : VRs ρ xs xs') (hy : VRs ρ ys ys') (D : Nat) (hD : n ≤ D) (w : World) :
    ∀ (fs : List Field) (l : List FD) (b : Bool), FDs P fs l → eqFs E f l xs ys = .ok b →
    ((forIn (m := Sem) fs ((none, ()) : Option Bool × Unit) fun fd _ =>
      if fd.name ≠ "_" then do
        let a ← part fd.type ⟨xs'⟩ fd.offset
        let c ← part fd.type ⟨ys'⟩ fd.offset
        let r ← Op.equalIn D fd.type a c
        if (!r) = true then pure (ForInStep.done (some false, ())) else pure (ForInStep.yield (none, ()))
      else pure (ForInStep.yield (none, ()))).run P w) = .ok (if b then (none, ()) else (some false, ())) w := by
  intro fs l b h
  induction h generalizing b with
  | nil => intro e; simp only [eqFs] at e; cases e; simp
  | cons fd i fs l hi hl ih =>
    intro e
    by_cases hn : fd.name = "_"
    · have : (fd.name != "_") = false := by simp [hn]
      rw [this] at e
      simp only [eqFs] at e
      simp only [List.forIn_cons, hn, ne_eq, not_true_eq_false, if_false, Sem.run_bind, Sem.run_pure, Result.andThen_ok]
      exact ih b e
    · have : (fd.name != "_") = true := by simp [hn]
      rw [this] at e
      simp only [eqFs] at e
      obtain ⟨a, e1, e⟩ := R.bnd_ok e
      obtain ⟨c, e2, e⟩ := R.bnd_ok e
      obtain ⟨r, e3, e⟩ := R.bnd_ok e
      obtain ⟨a', r1, q1⟩ := partOf_sim hE e1 hx w
      obtain ⟨c', r2, q2⟩ := partOf_sim hE e2 hy w
      have q3 := hf _ _ _ _ e3 a' c' r1 r2 D w hD
      simp only [List.forIn_cons, hn, ne_eq, not_false_eq_true, if_true, Sem.run_bind, q1, q2, q3, Result.andThen_ok]
      cases r with
      | true =>
        simp only [cond_true] at e
        simp only [Bool.not_true, Bool.false_eq_true, if_false, Sem.run_pure, Result.andThen_ok]
        exact ih b e
      | false =>
        simp only [cond_false] at e
        cases e
        simp

theorem eqAs_sim (hE : EnvTi P E) {n : Nat} {f : TypeId → Value → Value → R Bool} (hf : EqOk ρ P n f) {xs ys xs' ys' : List Value} (hx : VRs ρ xs xs') (hy : VRs ρ ys ys') (D : Nat) (hD : n ≤ D) (w : World) (el : TypeId) (k : Nat) :
    ∀ (c i : Nat) (b : Bool), eqAs E f el k xs ys c i = .ok b →
    ((forIn (m := Sem) (List.range' i c) ((none, ()) : Option Bool × Unit) fun j _ => do
        let a ← part el ⟨xs'⟩ (j * k)
        let c ← part el ⟨ys'⟩ (j * k)
        let r ← Op.equalIn D el a c
        if (!r) = true then pure (ForInStep.done (some false, ())) else pure (ForInStep.yield (none, ()))).run P w) = .ok (if b then (none, ()) else (some false, ())) w := by
  intro c
  induction c with
  | zero => intro i b e; simp only [eqAs] at e; cases e; simp
  | succ c ih =>
    intro i b e
    simp only [eqAs] at e
    obtain ⟨a, e1, e⟩ := R.bnd_ok e
    obtain ⟨d, e2, e⟩ := R.bnd_ok e
    obtain ⟨r, e3, e⟩ := R.bnd_ok e
    obtain ⟨a', r1, q1⟩ := partOf_sim hE e1 hx w
    obtain ⟨d', r2, q2⟩ := partOf_sim hE e2 hy w
    have q3 := hf _ _ _ _ e3 a' d' r1 r2 D w hD
    simp only [List.range'_succ, List.forIn_cons, Sem.run_bind, q1, q2, q3, Result.andThen_ok]
    cases r with
    | true =>
      simp only [cond_true] at e
      simp only [Bool.not_true, Bool.false_eq_true, if_false, Sem.run_pure, Result.andThen_ok]
      exact ih (i + 1) b e
    | false =>
      simp only [cond_false] at e
      cases e
      simp

set_option maxHeartbeats 1000000 in
theorem eqV_sim (hE : EnvTi P E) (ρ : Ren) : ∀ n, EqOk ρ P n (eqV E n) := by
  intro n
  induction n with
  | zero => intro t x y b e; simp [eqV] at e
  | succ n ih =>
    intro t x y b e x' y' hx hy D w hD
    obtain ⟨D, rfl⟩ : ∃ d, D = d + 1 := ⟨D - 1, by omega⟩
    have hD : n ≤ D := by omega
    simp only [eqV] at e
    obtain ⟨i, hi, e0⟩ := R.bnd_ok e
    clear e
    have e := e0
    clear e0
    obtain ⟨k⟩ := tiR_ok hE hi
    have hu := k.hu
    have htd := k.td
    generalize i.td = td at e htd
    generalize k.d = d at hu htd
    cases htd
    case struct fs l hfd =>
      cases hx <;> try (simp [eqD] at e; done)
      case agg xs xs' hxs =>
      cases hy <;> try (simp [eqD] at e; done)
      case agg ys ys' hys =>
      simp only [eqD] at e
      obtain ⟨hp, e⟩ := bif_ok e
      obtain ⟨_, hst⟩ := k.plain hp
      simp only [Op.equalIn, Sem.run_bind, run_und hu, Result.andThen_ok, run_program, hst, Bool.false_eq_true, if_false]
      rw [← Array.forIn_toList]
      have q := eqFs_sim hE ih hxs hys D hD w fs l b hfd e
      rw [q]
      cases b <;> simp
    case array c el =>
      cases hx <;> try (simp [eqD] at e; done)
      case agg xs xs' hxs =>
      cases hy <;> try (simp [eqD] at e; done)
      case agg ys ys' hys =>
      simp only [eqD] at e
      obtain ⟨hp, e⟩ := bif_ok e
      obtain ⟨z, hz, e⟩ := R.bnd_ok e
      obtain ⟨j, hj, hs⟩ := sizeR_ok hE hz
      simp only [Op.equalIn, Sem.run_bind, run_und hu, Result.andThen_ok, run_size hj, hs]
      simp only [Std.Legacy.Range.forIn_eq_forIn_range', Std.Legacy.Range.size, Nat.sub_zero, Nat.add_one_sub_one, Nat.div_one]
      have q := eqAs_sim hE ih hxs hys D hD w el z c 0 b e
      rw [q]
      cases b <;> simp
    case iface ms =>
      cases hx <;> try (simp [eqD] at e; done)
      case iface tx vx vx' hvx =>
        cases hy <;> try (simp [eqD] at e; done)
        case iface ty vy vy' hvy =>
          simp only [eqD] at e
          cases ht : Nat.beq tx ty with
          | false =>
            rw [ht] at e; simp only [cond_false] at e; cases e
            have : tx ≠ ty := fun h => by subst h; simp at ht
            simp [Op.equalIn, run_und hu, this]
          | true =>
            have hte : tx = ty := Nat.eq_of_beq_eq_true ht
            subst hte
            rw [ht] at e; simp only [cond_true] at e
            obtain ⟨j, hj, e⟩ := R.bnd_ok e
            obtain ⟨kj⟩ := tiR_ok hE hj
            obtain ⟨hc, e⟩ := bif_ok e
            have hcc : kj.info.comparable = true := by rw [kj.comparable]; exact hc
            simp only [Op.equalIn, Sem.run_bind, run_und hu, Result.andThen_ok, ne_eq, not_true_eq_false, if_false, run_ti kj.hi, hcc, Bool.not_true, Bool.false_eq_true]
            exact ih _ _ _ _ e _ _ hvx hvy D w hD
        case inil => simp only [eqD] at e; cases e; simp [Op.equalIn, run_und hu]
      case inil =>
        cases hy <;> try (simp [eqD] at e; done)
        case iface => simp only [eqD] at e; cases e; simp [Op.equalIn, run_und hu]
        case inil => simp only [eqD] at e; cases e; simp [Op.equalIn, run_und hu]
    case int q =>
      cases hx <;> try (simp [eqD] at e; done)
      case int k1 a =>
      cases hy <;> try (simp [eqD] at e; done)
      case int k2 b' =>
      simp only [eqD] at e
      split at e
      · rename_i hk; cases e; simp [Op.equalIn, run_und hu, hk]
      · cases e
    case string =>
      cases hx <;> try (simp [eqD] at e; done)
      case string a =>
      cases hy <;> try (simp [eqD] at e; done)
      case string b' =>
      obtain ⟨⟨a⟩⟩ := a
      obtain ⟨⟨b'⟩⟩ := b'
      simp only [eqD] at e
      cases e
      rw [run_equalIn_string w D t _ _ hu, toList_mk, toList_mk, eqL_eq]
    case bool =>
      cases hx <;> try (simp [eqD] at e; done)
      cases hy <;> try (simp [eqD] at e; done)
      simp only [eqD] at e; cases e; simp [Op.equalIn, run_und hu]
    case pointer q =>
      cases hx <;> try (simp [eqD] at e; done)
      all_goals (cases hy <;> try (simp [eqD] at e; done))
      all_goals (simp only [eqD] at e; cases e; simp [Op.equalIn, run_und hu])
    case slice q =>
      cases hx <;> try (simp [eqD] at e; done)
      all_goals (cases hy <;> try (simp [eqD] at e; done))
      all_goals (simp only [eqD] at e; cases e; simp [Op.equalIn, run_und hu])
    case map q1 q2 =>
      cases hx <;> try (simp [eqD] at e; done)
      all_goals (cases hy <;> try (simp [eqD] at e; done))
      all_goals (simp only [eqD] at e; cases e; simp [Op.equalIn, run_und hu])
    case func q1 q2 q3 =>
      cases hx <;> try (simp [eqD] at e; done)
      all_goals (cases hy <;> try (simp [eqD] at e; done))
      all_goals (simp only [eqD] at e; cases e; simp [Op.equalIn, run_und hu])
    case other => cases hx <;> simp [eqD] at e
end
end Go.Sh
