/-
  PART OF A CLAIM's PROOF (AwC): a shadow of the machine, or what is shown by it.
-/
import Derived.Test.YteaphfbalgmhlaaGreatDoorAwB
set_option linter.unusedSimpArgs false
set_option linter.unusedVariables false
namespace Go.Sh
open Go.Proofs Go.RowKit

/-! a slice of the call's own, that grows: n elements of k cells -/
def OutC (e k : Nat) (m m' : Mem) (v : Value) (c : List Value) (n : Nat) : Prop :=
  (v = .slice none 0 0 ∧ n = 0 ∧ c = []) ∨ ∃ y op, v = .slice (some ⟨y, 0, none⟩) n n ∧ m.next ≤ y ∧ y < m'.next ∧ m'.get y = some (.cells c e op false 0) ∧ (op = none ∨ op = some k) ∧ c.length = n * k
theorem takeN_all : ∀ l : List Value, takeN l.length l = some l := by
  intro l
  induction l with
  | nil => rfl
  | cons x l ih => rw [List.length_cons, takeN_cons, ih]; rfl
theorem takeN_len {l : List Value} {n : Nat} (h : l.length = n) : takeN n l = some l := by subst h; exact takeN_all l
theorem OutC.grow {e k : Nat} {m a b : Mem} {v : Value} {c : List Value} {n : Nat} (h : OutC e k m a v c n) (hk : Keeps a b) : OutC e k m b v c n := by
  rcases h with h | ⟨y, op, h1, h2, h3, h4, h5⟩
  · exact .inl h
  · exact .inr ⟨y, op, h1, h2, Nat.lt_of_lt_of_le h3 hk.1, by rw [hk.2 y h3]; exact h4, h5⟩
theorem OutC.elems {e k : Nat} {m m' : Mem} {v : Value} {c : List Value} {n : Nat} (h : OutC e k m m' v c n) {f : Nat → List Value} (hf : ∀ i, i < n → (c.drop (i * k)).take k = f i) : Elems m' v k n f := by
  rcases h with ⟨rfl, rfl, rfl⟩ | ⟨y, op, rfl, h1, h2, h3, _, h5⟩
  · exact ⟨none, 0, rfl, fun x o s e => (by cases e), fun i hi => absurd hi (Nat.not_lt_zero _)⟩
  · refine ⟨_, _, rfl, fun x o s e => (by cases e; exact h2), fun i hi => ⟨y, 0, rfl, ?_⟩⟩
    have hall : loadC m' ⟨y, 0, none⟩ (n * k) = .ok c := by
      simp only [loadC, h3, loadO, dropN_eq, List.drop_zero]
      rw [takeN_len h5]; rfl
    have hle : i * k + k ≤ n * k := by
      have := Nat.mul_le_mul_right k (show i + 1 ≤ n from hi)
      rw [Nat.add_mul, Nat.one_mul] at this
      exact this
    rw [loadC_sub hall (i * k) k hle, hf i hi]

/-- one more -/
theorem append_gen {e k st : Nat} {ti : TI} (hst : env.tdR st = .ok (.slice e)) (hti : env.tiR e = .ok ti) (hk : ti.size = k) (hz : zeroFits ti ti.zero = .ok true) (hby : Nat.ble ti.bytes 10000000 = true)
    {m m' : Mem} {v : Value} {c : List Value} {n : Nat} (h : OutC e k m m' v c n) (hkp : Keeps m m') (x : List Value) (hx : x.length = k) (hone : allOne x = true) (hn : n ≤ 900000) :
    ∃ v3 m3, appendV env (m'.new (.cells x e none false 0)) [st, st] [v, .slice (some ⟨m'.next, 0, none⟩) 1 1] = .ok (v3, m3) ∧ OutC e k m m3 v3 (c ++ x) (n + 1) ∧ Keeps m m3 ∧
      (∀ z o, z < m'.next → m'.get z = some o → (∀ cs op, o ≠ .cells cs e op false 0) → z < m3.next ∧ m3.get z = some o) ∧ m'.next + 1 ≤ m3.next := by
  have hk2 : Keeps m (m'.new (.cells x e none false 0)) := hkp.also _
  have hel := loadC_new m' x e none false 0 k hx
  have hnx : (m'.new (.cells x e none false 0)).next = m'.next + 1 := Mem.next_new _ _
  have hold : ∀ y, y < m'.next → (m'.new (.cells x e none false 0)).get y = m'.get y := fun y hy => by rw [Mem.get_new, if_neg (by omega)]
  generalize m'.new (.cells x e none false 0) = m2 at hk2 hel hnx hold
  have hfirst : firstN m2 k 1 (.slice (some ⟨m'.next, 0, none⟩) 1 1) = .ok x := by
    have h1 : Nat.beq 1 0 = false := rfl
    have h2 : Nat.beq x.length k = true := by rw [hx]; simp
    simp only [firstN, firstC, h1, cond_false, Nat.one_mul, hel, bnd_ok', h2, cond_true]
  have head : ∀ a cap, appendV env m2 [st, st] [.slice a n cap, .slice (some ⟨m'.next, 0, none⟩) 1 1] = appendS m2 e k 1 (.slice (some ⟨m'.next, 0, none⟩) 1 1) a n cap := by
    intro a cap
    have h1 : Nat.ble (n + 1) 1000000 = true := by rw [ble_dec]; exact decide_eq_true (by omega)
    simp only [appendV, hst, bnd_ok', appendD, isMake, isInt, cond_false, hti, lenV, hz, h1, hby, Bool.and_true, cond_true, hk]
  have other : ∀ z o, z < m'.next → m'.get z = some o → m2.get z = some o := fun z o h1 h2 => by rw [hold z h1]; exact h2
  rcases h with ⟨rfl, rfl, rfl⟩ | ⟨y, op, rfl, h1, h2, h3, h4, h5⟩
  · refine ⟨.slice (some ⟨m2.next, 0, none⟩) 1 1, m2.new (.cells x e (some k) false 0), (head _ _).trans ?_,
      .inr ⟨m2.next, some k, rfl, hk2.1, by rw [Mem.next_new]; omega, by rw [Mem.get_new, if_pos rfl]; rfl, .inr rfl, by rw [List.nil_append, hx]; omega⟩, hk2.also _, fun z o h1 h2 _ => ⟨by rw [Mem.next_new]; omega, by rw [Mem.get_new, if_neg (by omega)]; exact other z o h1 h2⟩, by rw [Mem.next_new]; omega⟩
    have hb : Nat.ble (0 + 1) 0 = false := rfl
    have hb2 : Nat.beq 0 0 = true := rfl
    simp only [appendS, hb, cond_false, hfirst, bnd_ok', hb2, cond_true, newS]
  · have hb : Nat.ble (n + 1) n = false := by rw [ble_dec]; exact decide_eq_false (by omega)
    have hy2 : m2.get y = some (.cells c e op false 0) := by rw [hold y h2]; exact h3
    have hold2 : oldC m2 ⟨y, 0, none⟩ n k = .ok c := by
      unfold oldC
      rw [beq_dec]
      by_cases h0 : n = 0
      · subst h0
        rw [Nat.zero_mul] at h5
        have : c = [] := List.eq_nil_of_length_eq_zero h5
        subst this
        rfl
      · rw [decide_eq_false h0, cond_false]
        simp only [loadC, hy2, loadO, dropN_eq, List.drop_zero]
        rw [takeN_len h5]; rfl
    have hlen : (c ++ x).length = (n + 1) * k := by rw [List.length_append, h5, hx, Nat.add_mul, Nat.one_mul]
    rcases h4 with rfl | rfl
    · refine ⟨.slice (some ⟨m2.next, 0, none⟩) (n + 1) (n + 1), m2.new (.cells (c ++ x) e (some k) false 0), (head _ _).trans ?_,
        .inr ⟨m2.next, some k, rfl, hk2.1, by rw [Mem.next_new]; omega, by rw [Mem.get_new, if_pos rfl], .inr rfl, hlen⟩, hk2.also _, fun z o h1 h2 _ => ⟨by rw [Mem.next_new]; omega, by rw [Mem.get_new, if_neg (by omega)]; exact other z o h1 h2⟩, by rw [Mem.next_new]; omega⟩
      simp only [appendS, hb, cond_false, hold2, hfirst, bnd_ok', hy2, growO, newS]
    · refine ⟨.slice (some ⟨m2.next, 0, none⟩) (n + 1) (n + 1), (m2.del y).new (.cells (c ++ x) e (some k) false 0), (head _ _).trans ?_,
        .inr ⟨m2.next, some k, rfl, hk2.1, by rw [Mem.next_new, Mem.next_del]; omega, by rw [Mem.get_new, Mem.next_del, if_pos rfl], .inr rfl, hlen⟩, (hk2.del h1).also _, fun z o hz hg hne => ⟨by rw [Mem.next_new, Mem.next_del]; omega, ?_⟩, by rw [Mem.next_new, Mem.next_del]; omega⟩
      · have hfr : freeB 0 0 n n k = true := by unfold freeB; simp
        have hbe : Nat.beq e e = true := by simp
        have hbk : Nat.beq k k = true := by simp
        simp only [appendS, hb, cond_false, hold2, hfirst, bnd_ok', hy2, growO, hfr, hbe, hbk, hone, Bool.and_true, cond_true, newS, Mem.next_del, Nat.sub_zero, Nat.sub_self]
      · have hzy : z ≠ y := fun q => by rw [q, h3] at hg; cases hg; exact hne _ _ rfl
        rw [Mem.get_new, Mem.next_del, if_neg (by omega), Mem.get_del, if_neg hzy]; exact other z o hz hg

/-! texts -/
abbrev OutS (m m' : Mem) (v : Value) (o : List By) : Prop := OutC 9 1 m m' v (o.map bstr) o.length
theorem OutS.strs {m m' : Mem} {v : Value} {o : List By} (h : OutS m m' v o) : Strs m' v o := by
  refine OutC.elems h fun i hi => ?_
  rw [Nat.mul_one, List.drop_eq_getElem_cons (by simpa using hi)]
  simp [hi]
theorem append_one {m m' : Mem} {v : Value} {o : List By} (h : OutS m m' v o) (hk : Keeps m m') (s : By) (hl : o.length ≤ 900000) :
    ∃ v3 m3, appendV env (m'.new (.cells [.string ⟨⟨s⟩⟩] 9 none false 0)) [32, 32] [v, .slice (some ⟨m'.next, 0, none⟩) 1 1] = .ok (v3, m3) ∧ OutS m m3 v3 (o ++ [s]) ∧ Keeps m m3 ∧
      (∀ z o, z < m'.next → m'.get z = some o → (∀ cs op, o ≠ .cells cs 9 op false 0) → z < m3.next ∧ m3.get z = some o) ∧ m'.next + 1 ≤ m3.next := by
  obtain ⟨v3, m3, h1, h2, h3⟩ := append_gen (st := 32) (e := 9) (k := 1) (by simp only [Env.tdR, tiStrs, bnd_ok']) tiStr rfl rfl rfl h hk [.string ⟨⟨s⟩⟩] rfl rfl hl
  refine ⟨v3, m3, h1, ?_, h3⟩
  simp only [OutS, List.map_append, List.length_append, List.map_cons, List.map_nil, List.length_cons, List.length_nil, bstr]
  exact h2

/-! plain -/
def dedup (o ps : List By) : List By := ps.foldl (fun o s => if s ∈ o then o else o ++ [s]) o
def wantsL (G : List (By × By × List By)) : List (By × By) → List By → Option (List By)
  | [], o => some o
  | x :: r, o => match findG G x.1 x.2 with
    | none => none
    | some ps => wantsL G r (dedup o ps)
theorem dedup_len : ∀ (ps o : List By), (dedup o ps).length ≤ o.length + ps.length := by
  intro ps
  induction ps with
  | nil => intro o; exact Nat.le_refl _
  | cons s ps ih =>
    intro o
    show (dedup (if s ∈ o then o else o ++ [s]) ps).length ≤ _
    have h1 := ih (if s ∈ o then o else o ++ [s])
    have h2 : (if s ∈ o then o else o ++ [s]).length ≤ o.length + 1 := by
      split
      · omega
      · simp
    rw [List.length_cons]
    omega
theorem dedup_snoc (o ps : List By) (s : By) : dedup o (ps ++ [s]) = if s ∈ dedup o ps then dedup o ps else dedup o ps ++ [s] := by
  unfold dedup
  rw [List.foldl_append]; rfl
def lD : By × By := ([], [])
/-- rows of labels -/
def Labels (m : Mem) (v : Value) (L : List (By × By)) : Prop := Elems m v 2 L.length (fun i => [bstr (L.getD i lD).1, bstr (L.getD i lD).2])
theorem Labels.keeps {m m' : Mem} (hk : Keeps m m') {v : Value} {L : List (By × By)} (h : Labels m v L) : Labels m' v L := Elems.keeps hk h
theorem drop_getD {α : Type} (d : α) (l : List α) (j : Nat) (h : j < l.length) : l.drop j = l.getD j d :: l.drop (j + 1) := by
  rw [List.drop_eq_getElem_cons h]; simp [h]
theorem take_getD {α : Type} (d : α) (l : List α) (j : Nat) (h : j < l.length) : l.take (j + 1) = l.take j ++ [l.getD j d] := by
  rw [List.take_succ_eq_append_getElem h]; simp [h]
end Go.Sh
