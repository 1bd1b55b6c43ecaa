/-
  PART OF A CLAIM's PROOF (ShL, ShM, ShN, ShO, ShP): a shadow of the machine, or what is shown by it.
-/
import Derived.Test.YteaphfbalgmhlaaGreatDoorShG
import Derived.Test.YteaphfbalgmhlaaGreatDoorShAp
import Derived.Laws.Append
import Derived.Laws.AppendOwn
import Derived.Laws.BytesArg
import Derived.Laws.IdiomStrings
set_option linter.unusedSimpArgs false
set_option linter.unusedVariables false
/-
  New blocks; ranges over texts and maps; append, copy, len, cap, max, min; conversions.
-/
namespace Go.Sh
open Go.RowKit

section
variable {ρ : Ren} {m : Mem} {w : World} {P : Program} {E : Env}

def pushW (w : World) (O : Obj) : World := { w with heap := w.heap.push O }

theorem new_cells (h : MemR ρ m w) {c C : List Value} (e : TypeId) (opn : Option Nat) (fz : Nat) (hl : c.length ≤ C.length) (hc : ∀ (i : Nat) (v : Value), c[i]? = some v → ∃ v', C[i]? = some v' ∧ VR ρ v v') {lo hi : Nat} (hf : ∀ i, fz ≤ i → i < C.length → ¬ (lo ≤ i ∧ i < hi)) :
    MemR (ρ.add m.next ⟨w.heap.size, 0, C.length, opn⟩) (m.new (.cells c e opn false fz)) (pushW w (.cells ⟨C⟩ e (lo, hi))) ∧
    Ext ρ m w (ρ.add m.next ⟨w.heap.size, 0, C.length, opn⟩) (m.new (.cells c e opn false fz)) (pushW w (.cells ⟨C⟩ e (lo, hi))) := by
  have hle := h.add_le ⟨w.heap.size, 0, C.length, opn⟩
  refine h.push (.cells c e opn false fz) (.cells ⟨C⟩ e (lo, hi)) ⟨w.heap.size, 0, C.length, opn⟩ rfl ?_ rfl
  exact OR.cells (p := ⟨w.heap.size, 0, C.length, opn⟩) c C e false fz lo hi rfl (by simpa using hl) (fun i v hv => let ⟨v', a, b⟩ := hc i v hv; ⟨v', by simpa using a, b.mono hle⟩) (.inr fun i h1 h2 => hf i (by simpa using h1) h2) (fun _ => rfl)

theorem get_of_VRs {c C rest : List Value} (h : VRs ρ c C) : ∀ (i : Nat) (v : Value), c[i]? = some v → ∃ v', (C ++ rest)[i]? = some v' ∧ VR ρ v v' := by
  intro i v hv
  obtain ⟨v', a, b⟩ := h.get i v hv
  refine ⟨v', ?_, b⟩
  have hi : i < C.length := by
    rcases Nat.lt_or_ge i C.length with q | q
    · exact q
    · rw [List.getElem?_eq_none q] at a; cases a
  rw [List.getElem?_append_left hi]; exact a

theorem newP_sim (h : MemR ρ m w) {c C : List Value} (e : TypeId) (hc : VRs ρ c C) : Gives ρ m w (newP m (.cells c e none false 0)).1 (newP m (.cells c e none false 0)).2 ((do pure (.pointer (some (← newRow e ⟨C⟩))) : Sem Value).run P w) := by
  obtain ⟨a, b⟩ := new_cells h e none 0 (c := c) (C := C) (by rw [hc.length]; exact Nat.le_refl _) (fun i v hv => hc.get i v hv) (lo := 0) (hi := 0) (fun i _ _ => by omega)
  refine ⟨.pointer (some ⟨w.heap.size, 0, none⟩), _, _, rfl, ?_, a, b⟩
  exact .ptr m.next 0 ⟨w.heap.size, 0, C.length, none⟩ (Ren.add_same _ _ _)

theorem newS_sim (h : MemR ρ m w) {c C rest : List Value} (e : TypeId) {opn : Option Nat} {fz len cap cap' : Nat} (hc : VRs ρ c C) (hl : len ≤ cap) (hr : RoomOk ⟨w.heap.size, 0, (C ++ rest).length, opn⟩ 0 0 cap cap') :
    Gives ρ m w (newS m c e opn fz len cap).1 (newS m c e opn fz len cap).2 ((do pure (.slice (some (← newRow e ⟨C ++ rest⟩)) len cap') : Sem Value).run P w) := by
  obtain ⟨a, b⟩ := new_cells h e opn fz (c := c) (C := C ++ rest) (by rw [hc.length]; simp) (get_of_VRs hc) (lo := 0) (hi := 0) (fun i _ _ => by omega)
  refine ⟨.slice (some ⟨w.heap.size, 0, none⟩) len cap', _, _, rfl, ?_, a, b⟩
  exact .slice m.next 0 len cap ⟨w.heap.size, 0, (C ++ rest).length, opn⟩ 0 cap' (Ren.add_same _ _ _) hl hr

theorem alloc_sim (hE : EnvTi P E) (h : MemR ρ m w) {e : TypeId} {z : Value} {l : List Value} (hz : E.zeroR e = .ok z) (hl : cellsR z = .ok l) :
    Gives ρ m w (newP m (.cells l e none false 0)).1 (newP m (.cells l e none false 0)).2 ((Instr.alloc e true (.tuple #[])).run P w) := by
  obtain ⟨i, z', a, b, rfl⟩ := zeroR_ok hE hz
  have hr := cellsR_vr (cst_vr ρ z') hl
  obtain ⟨v', ρ', w', h1, h2⟩ := newP_sim (P := P) h e hr
  refine ⟨v', ρ', w', ?_, h2⟩
  simp only [Instr.alloc, Sem.run_bind, run_zero a b, Result.andThen_ok, newVar]
  exact h1

theorem box_sim (h : MemR ρ m w) {e : TypeId} {v v' : Value} {l : List Value} (hv : VR ρ v v') (hl : cellsR v = .ok l) :
    Gives ρ m w (newP m (.cells l e none false 0)).1 (newP m (.cells l e none false 0)).2 ((Instr.box e v').run P w) := by
  have hr := cellsR_vr hv hl
  obtain ⟨u, ρ', w', h1, h2⟩ := newP_sim (P := P) h e hr
  exact ⟨u, ρ', w', h1, h2⟩

theorem manyZ_vr {z z' : List Value} (h : VRs ρ z z') (n : Nat) : VRs ρ (manyZ z n) (manyZ z' n) := by
  induction n with
  | zero => exact .nil
  | succ n ih => exact h.append ih
theorem manyZ_length (z : List Value) (n : Nat) : (manyZ z n).length = n * z.length := by
  induction n with
  | zero => simp [manyZ]
  | succ n ih => simp [manyZ, ih, Nat.add_mul]; omega
theorem manyZ_get (z : List Value) (n : Nat) : ∀ i, i < n * z.length → (manyZ z n)[i]? = z[i % z.length]? := by
  induction n with
  | zero => intro i h; omega
  | succ n ih =>
    intro i h
    simp only [manyZ]
    have hz : 0 < z.length := by
      rcases Nat.eq_zero_or_pos z.length with q | q
      · rw [q] at h; omega
      · exact q
    by_cases c : i < z.length
    · rw [List.getElem?_append_left c, Nat.mod_eq_of_lt c]
    · rw [List.getElem?_append_right (by omega), ih (i - z.length) (by rw [Nat.add_mul] at h; omega)]
      congr 1
      have : i = (i - z.length) + z.length := by omega
      conv => rhs; rw [this, Nat.add_mod_right]
theorem range_zeros (z : Array Value) (n s : Nat) (hs : s = z.size) : (Array.range (n * s)).map (fun i => z[i % z.size]!) = ⟨manyZ z.toList n⟩ := by
  subst hs
  apply Array.ext
  · simp [manyZ_length]
  · intro i h1 h2
    simp only [Array.size_map, Array.size_range] at h1
    have hz : 0 < z.size := by
      rcases Nat.eq_zero_or_pos z.size with q | q
      · rw [q] at h1; omega
      · exact q
    have hm : i % z.size < z.size := Nat.mod_lt _ hz
    simp only [Array.getElem_map, Array.getElem_range]
    have := manyZ_get z.toList n i (by simpa using h1)
    simp only [Array.length_toList] at this
    rw [getElem!_pos z _ hm]
    have h3 : (manyZ z.toList n)[i]? = some (z[i % z.size]) := by rw [this]; simp [hm]
    have h4 : i < (manyZ z.toList n).length := by simpa using h2
    rw [List.getElem?_eq_getElem h4] at h3
    exact (Option.some.inj h3).symm

theorem zero_cells (hE : EnvTi P E) {e : TypeId} {i : TI} {z : Value} {l : List Value} (hi : E.tiR e = .ok i) (hz : i.zero = some z) (hl : cellsR z = .ok l) :
    ∃ info z', P.info? e = some info ∧ info.size = i.size ∧ info.bytes = i.bytes ∧ info.zero = some z' ∧ VRs ρ l z'.cells.toList := by
  obtain ⟨k⟩ := tiR_ok hE hi
  rw [k.zero] at hz
  obtain ⟨z', h1, h2⟩ := Option.map_eq_some_iff.1 hz
  subst h2
  exact ⟨k.info, z', k.hi, k.size, k.bytes, h1, cellsR_vr (cst_vr ρ z') hl⟩

theorem buildSlice_sim (hE : EnvTi P E) (h : MemR ρ m w) {t : TypeId} {td : TD} {n : Nat} {ps ps' : List (Nat × Value)} {r : Value × Mem} (ht : E.tdR t = .ok td) (e : buildSliceD E m n ps td = .ok r) (hp : PRs ρ ps ps') :
    Gives ρ m w r.1 r.2 ((Instr.buildSlice t n ⟨ps'⟩).run P w) := by
  obtain ⟨d, hu, hd⟩ := tdR_ok hE ht
  cases hd <;> try (simp [buildSliceD] at e; done)
  case slice el =>
  simp only [buildSliceD] at e
  obtain ⟨i, e1, e⟩ := R.bnd_ok e
  obtain ⟨hle, e⟩ := bif_ok e
  obtain ⟨z, e2, e⟩ := R.bnd_ok e
  obtain ⟨l, e3, e⟩ := R.bnd_ok e
  obtain ⟨hzl, e⟩ := bif_ok e
  obtain ⟨cs, e4, e⟩ := R.bnd_ok e
  cases e
  obtain ⟨info, z', k1, k2, _, k3, k4⟩ := zero_cells (ρ := ρ) hE e1 (need_ok e2) e3
  have hzl := beq_nat hzl
  have hle := Nat.le_of_ble_eq_true hle
  have hsz : z'.cells.size = i.size := by have := k4.length; simp only [Array.length_toList] at this; omega
  obtain ⟨r', a, b⟩ := putAll_sim ps ps' (manyZ l n) (manyZ z'.cells.toList n) cs hp (manyZ_vr k4 n) e4
  obtain ⟨v', ρ', w', h1, h2⟩ := newS_sim (P := P) (rest := []) h el (opn := none) (fz := 0) (len := n) (cap := n) (cap' := n) b (Nat.le_refl _) ⟨rfl, rfl⟩
  refine ⟨v', ρ', w', ?_, h2⟩
  rw [List.append_nil] at h1
  simp only [Instr.buildSlice, Sem.run_bind, run_und hu, Result.andThen_ok, run_size k1, k2]
  have hlt : ¬ (n * i.size > 2 ^ 24) := by
    have : n * i.size ≤ 100000 := hle
    omega
  rw [if_neg hlt]
  by_cases h0 : n * i.size = 0
  · have hm0 : manyZ z'.cells.toList n = [] := List.length_eq_zero_iff.1 (by rw [manyZ_length, Array.length_toList, hsz]; exact h0)
    simp only [h0, if_true, Sem.run_pure, Result.andThen_ok, Sem.run_bind]
    rw [hm0] at a
    have hr0 : (Array.range 0).map (fun x => (#[] : Array Value)[x % (#[] : Array Value).size]!) = #[] := by
      apply Array.ext'; simp
    rw [hr0, show Instr.fill (fun j => some (j * i.size, i.size)) #[] ps' = some ⟨r'⟩ from a]
    exact h1
  · simp only [h0, if_false, Sem.run_bind, run_zero k1 k3, Result.andThen_ok, Sem.run_pure]
    rw [range_zeros z'.cells n i.size hsz.symm, a]
    exact h1

theorem makeMap_sim (hE : EnvTi P E) (h : MemR ρ m w) {t : TypeId} {td : TD} {o o' : Option Value} {r : Value × Mem} (ht : E.tdR t = .ok td) (e : makeMapD m td o = .ok r) (ho : VRo ρ o o') :
    Gives ρ m w r.1 r.2 ((Instr.makeMap t o').run P w) := by
  obtain ⟨d, hu, hd⟩ := tdR_ok hE ht
  have key : MemR (ρ.add m.next ⟨w.heap.size, 0, 0, none⟩) (m.new (.map [] 0)) (pushW w (.map #[] 0)) ∧ Ext ρ m w (ρ.add m.next ⟨w.heap.size, 0, 0, none⟩) (m.new (.map [] 0)) (pushW w (.map #[] 0)) :=
    h.push _ _ ⟨w.heap.size, 0, 0, none⟩ rfl (.map _ _ 0 .nil) rfl
  cases hd <;> try (simp [makeMapD] at e; done)
  case map kt et =>
  cases ho with
  | none =>
    simp only [makeMapD] at e; cases e
    exact ⟨.map (some w.heap.size), _, _, rfl, .map m.next ⟨w.heap.size, 0, 0, none⟩ (Ren.add_same _ _ _), key.1, key.2⟩
  | some v v' hv =>
    cases hv <;> simp only [makeMapD] at e <;> try (cases e; done)
    cases e
    refine ⟨.map (some w.heap.size), _, _, ?_, .map m.next ⟨w.heap.size, 0, 0, none⟩ (Ren.add_same _ _ _), key.1, key.2⟩
    simp only [Instr.makeMap, Sem.run_bind, run_und hu, Result.andThen_ok, asInt, asIntOf, Sem.run_pure, run_newObj]
    rfl

theorem wrap_small {n : Nat} (h : n ≤ 10000) : IntKind.i64.wrap (n : Int) = n := by
  simp only [IntKind.wrap, IntKind.bits, IntKind.signed, Bool.true_and]
  split
  · rename_i q; have := of_decide_eq_true q; omega
  · omega

theorem makeSlice_sim (hE : EnvTi P E) (h : MemR ρ m w) {t : TypeId} {td : TD} {l l' c c' : Value} {n q : Nat} {r : Value × Mem} (ht : E.tdR t = .ok td) (hn : natVal l = .ok n) (hq : natVal c = .ok q) (e : makeSliceD E m n q td = .ok r) (hl : VR ρ l l') (hc : VR ρ c c') :
    Gives ρ m w r.1 r.2 ((Instr.makeSlice t l' c').run P w) := by
  obtain ⟨d, hu, hd⟩ := tdR_ok hE ht
  cases hd <;> try (simp [makeSliceD] at e; done)
  case slice el =>
  simp only [makeSliceD] at e
  obtain ⟨i, e1, e⟩ := R.bnd_ok e
  obtain ⟨z, e2, e⟩ := R.bnd_ok e
  obtain ⟨zl, e3, e⟩ := R.bnd_ok e
  obtain ⟨hb, e⟩ := bif_ok e
  cases e
  obtain ⟨hb, hzl⟩ := and_t hb
  obtain ⟨hb, hby⟩ := and_t hb
  obtain ⟨hnq, hq1⟩ := and_t hb
  have hnq := Nat.le_of_ble_eq_true hnq
  have hq1 := Nat.le_of_ble_eq_true hq1
  have hby := Nat.le_of_ble_eq_true hby
  have hzl := beq_nat hzl
  obtain ⟨info, z', k1, k2, kb, k3, k4⟩ := zero_cells (ρ := ρ) hE e1 (need_ok e2) e3
  obtain ⟨k, rfl⟩ := natVal_ok hn hl
  obtain ⟨k', rfl⟩ := natVal_ok hq hc
  have hsz : z'.cells.size = i.size := by have := k4.length; simp only [Array.length_toList] at this; omega
  obtain ⟨v', ρ', w', h1, h2⟩ := newS_sim (P := P) (rest := []) h el (opn := none) (fz := 0) (len := n) (cap := q) (cap' := q) (manyZ_vr k4 q) hnq ⟨rfl, rfl⟩
  refine ⟨v', ρ', w', ?_, h2⟩
  rw [List.append_nil] at h1
  have t1 : ¬ (q : Int) < 0 := by omega
  have t2 : ¬ (info.bytes : Int) * (q : Int) > 2 ^ 48 := by
    have h1 : info.bytes * q ≤ 10000000 * 10000 := Nat.mul_le_mul (by omega) hq1
    have h2 : (info.bytes : Int) * (q : Int) ≤ 100000000000 := by
      rw [← Int.natCast_mul]
      exact Int.ofNat_le.2 (Nat.le_trans h1 (by decide))
    intro hgt
    exact absurd (Int.lt_of_lt_of_le hgt h2) (by decide)
  simp only [Instr.makeSlice, Sem.run_bind, run_und hu, Result.andThen_ok, asInt, asIntOf, Sem.run_pure, run_ti k1, wrap_small hq1, wrap_small (Nat.le_trans hnq hq1)]
  rw [if_neg (by simp only [Bool.or_eq_true, decide_eq_true_eq, not_or]; refine ⟨⟨⟨t1, t2⟩, ?_⟩, ?_⟩ <;> omega)]
  simp only [Sem.run_bind, run_askRoom, Result.andThen_ok, run_size k1, k2, Int.toNat_natCast]
  by_cases h0 : q * i.size = 0
  · have hm0 : manyZ z'.cells.toList q = [] := List.length_eq_zero_iff.1 (by rw [manyZ_length, Array.length_toList, hsz]; exact h0)
    simp only [h0, if_true, Sem.run_pure, Result.andThen_ok, Sem.run_bind]
    have hr0 : (Array.range 0).map (fun x => (#[] : Array Value)[x % (#[] : Array Value).size]!) = #[] := by
      apply Array.ext'; simp
    rw [hr0]
    rw [hm0] at h1
    exact h1
  · simp only [h0, if_false, Sem.run_bind, run_zero k1 k3, Result.andThen_ok, Sem.run_pure]
    rw [range_zeros z'.cells q i.size hsz.symm]
    exact h1

/-! ranges -/
theorem newIter_sim (h : MemR ρ m w) {o : AO} {O : Obj} (hro : o.isRo = false) (ho : OR (ρ.add m.next ⟨w.heap.size, 0, 0, none⟩) ⟨w.heap.size, 0, 0, none⟩ o O) :
    Gives ρ m w (newP m o).1 (newP m o).2 ((do pure (.pointer (some ⟨← newObj O, 0, none⟩)) : Sem Value).run P w) := by
  obtain ⟨a, b⟩ := h.push o O ⟨w.heap.size, 0, 0, none⟩ rfl ho hro
  exact ⟨.pointer (some ⟨w.heap.size, 0, none⟩), _, _, rfl, .ptr m.next 0 ⟨w.heap.size, 0, 0, none⟩ (Ren.add_same _ _ _), a, b⟩

theorem range_sim (hE : EnvTi P E) (h : MemR ρ m w) {t : TypeId} {td : TD} {x x' : Value} {r : Value × Mem} (ht : E.tdR t = .ok td) (e : rangeD m td x = .ok r) (hx : VR ρ x x') :
    Gives ρ m w r.1 r.2 ((Instr.range t x').run P w) := by
  obtain ⟨d, hu, hd⟩ := tdR_ok hE ht
  cases hd
  case string =>
    cases hx <;> try (simp [rangeD] at e; done)
    case string s =>
    simp only [rangeD] at e; cases e
    obtain ⟨v', ρ', w', a, b⟩ := newIter_sim (P := P) h (o := .strIter s 0) (O := .stringIter s 0) rfl (.strIter s 0 rfl)
    refine ⟨v', ρ', w', ?_, b⟩
    simp only [Instr.range, Sem.run_bind, run_und hu, Result.andThen_ok, Sem.run_pure]
    exact a
  case map kt et =>
    cases hx <;> try (simp [rangeD] at e; done)
    case mnil =>
      simp only [rangeD] at e; cases e
      obtain ⟨v', ρ', w', a, b⟩ := newIter_sim (P := P) h (o := .mapIter none 0 [] 0) (O := .mapIter none 0 #[] 0) rfl (.mapIter0 0 [] 0 rfl)
      refine ⟨v', ρ', w', ?_, b⟩
      simp only [Instr.range, Sem.run_bind, run_und hu, Result.andThen_ok, Sem.run_pure]
      exact a
    case map q p hp =>
      simp only [rangeD] at e
      obtain ⟨⟨es, c⟩, e1, e2⟩ := R.bnd_ok e
      cases e2
      obtain ⟨_, es', hb, he⟩ := mapO_ok h e1 hp
      obtain ⟨v', ρ', w', a, b⟩ := newIter_sim (P := P) h (o := .mapIter (some q) c [] c) (O := .mapIter (some p.b) c #[] c) rfl (.mapIter q p (h.add_le _ _ _ hp) c [] c rfl)
      refine ⟨v', ρ', w', ?_, b⟩
      simp only [Instr.range, Sem.run_bind, run_und hu, Result.andThen_ok, run_getObj hb (by simp), Sem.run_pure]
      exact a
  all_goals (cases hx <;> simp [rangeD] at e)

theorem notSeen_sim {seen : List Nat} {l l' : List MapEntry} (h : ER ρ l l') : ER ρ (notSeen seen l) (l'.filter fun e => !seen.contains e.born) := by
  induction h with
  | nil => exact .nil
  | cons k k' v v' b l l' hk hv hl ih =>
    have hc : seen.any (Nat.beq b) = seen.contains b := by
      rw [List.contains_eq_any_beq]
      congr 1
      funext x
      rw [Bool.eq_iff_iff]; simp [Nat.beq_eq]
    simp only [notSeen, hc]
    cases hs : seen.contains b with
    | true =>
      rw [List.filter_cons_of_neg (by simp only [hs, Bool.not_true, Bool.false_eq_true, not_false_eq_true])]
      exact ih
    | false =>
      rw [List.filter_cons_of_pos (by simp only [hs, Bool.not_false])]
      exact .cons _ _ _ _ _ _ _ hk hv ih

theorem next_sim (h : MemR ρ m w) {t : TypeId} {x x' : Value} {b : Bool} {r : Value × Mem} (e : nextV m x b = .ok r) (hx : VR ρ x x') :
    Gives ρ m w r.1 r.2 ((Instr.next x' b t).run P w) := by
  cases hx <;> try (simp [nextV] at e; done)
  case ptr y o p hp =>
  cases o with
  | succ o => simp [nextV] at e
  | zero =>
  simp only [nextV] at e
  cases ho : m.get y with
  | none => rw [ho] at e; simp [nextO] at e
  | some q =>
  rw [ho] at e
  obtain ⟨p', O, h1, h2, h3⟩ := h.obj y q ho
  rw [hp] at h1; cases h1
  have over : VR ρ (tupL [.bool false]) (.tuple #[.bool false]) := .tuple _ [.bool false] (.one (.bool false))
  cases h3
  case strIter s i h0 =>
    cases b with
    | false => simp [nextO] at e
    | true =>
    simp only [nextO] at e
    have hs : lenB s = s.size := by obtain ⟨⟨s⟩⟩ := s; rfl
    rw [hs] at e
    cases hlt : Nat.blt i s.size with
    | true =>
      rw [hlt] at e; simp only [cond_true] at e; cases e
      have hlt := blt_lt hlt
      obtain ⟨a, d⟩ := MemR.write h (.stringIter s (i + (Utf8.decode s i).2)) ho rfl rfl hp (.strIter s _ h0)
      refine ⟨_, ρ, _, ?_, .tuple _ [.bool true, .int .i64 i, .int .i32 (Utf8.decode s i).1] (.cons _ _ _ _ (.bool true) (.cons _ _ _ _ (.int _ _) (.one (.int _ _)))), a, d⟩
      simp only [Instr.next, h0, Nat.add_zero, Sem.run_bind, run_getObj h2 (by simp), Result.andThen_ok, hlt, if_true, run_setObj h2 (by simp), Sem.run_pure, goInt]
    | false =>
      rw [hlt] at e; simp only [cond_false] at e; cases e
      have hge : ¬ i < s.size := fun q => by
        have k : Nat.blt i s.size = true := by simp [Nat.blt_eq, q]
        rw [k] at hlt; cases hlt
      refine ⟨_, ρ, w, ?_, over, h, .refl _ _ _⟩
      simp only [Instr.next, h0, Nat.add_zero, Sem.run_bind, run_getObj h2 (by simp), Result.andThen_ok, hge, if_false, Sem.run_pure]
  case mapIter0 since seen st h0 =>
    cases b with
    | true => simp [nextO] at e
    | false =>
    simp only [nextO] at e; cases e
    refine ⟨_, ρ, w, ?_, over, h, .refl _ _ _⟩
    simp only [Instr.next, h0, Nat.add_zero, Sem.run_bind, run_getObj h2 (by simp), Result.andThen_ok, Sem.run_pure]
  case mapIter q pq hq since seen st h0 =>
    cases b with
    | true => simp [nextO] at e
    | false =>
    simp only [nextO] at e
    obtain ⟨⟨es, c⟩, e1, e2⟩ := R.bnd_ok e
    obtain ⟨hall, e3⟩ := bif_ok' e2
    obtain ⟨hmq, es', hb, he⟩ := mapO_ok h e1 hq
    simp only at hb he e3 hall
    have hall' : (!(⟨seen⟩ : Array Nat).isEmpty && !(⟨es'⟩ : Array MapEntry).isEmpty && (⟨es'⟩ : Array MapEntry).all (fun x => decide (x.born ≥ st))) = false := by
      rw [← hall]
      have k1 : (⟨es'⟩ : Array MapEntry).isEmpty = es.isEmpty := by
        have := he.length
        cases es <;> cases es' <;> first | rfl | (simp at this)
      have k2 : (⟨es'⟩ : Array MapEntry).all (fun x => decide (x.born ≥ st)) = es.all (fun e => Nat.ble st e.born) := by
        rw [← Array.all_toList]
        clear e1 e2 e3 hb hall k1 hmq
        induction he with
        | nil => rfl
        | cons k k' v v' bn l l' hk hv hl ih =>
          simp only [List.all_cons]
          have ih' := ih
          simp only at ih'
          rw [ih']
          congr 1
          rw [Bool.eq_iff_iff]; simp [Nat.ble_eq]
      have k3 : (⟨seen⟩ : Array Nat).isEmpty = seen.isEmpty := by cases seen <;> rfl
      rw [k1, k2, k3]
    have hns := notSeen_sim (seen := seen) he
    have hleft : ((⟨es'⟩ : Array MapEntry).filter fun e => !(⟨seen⟩ : Array Nat).contains e.born) = ⟨es'.filter fun e => !seen.contains e.born⟩ := by
      apply Array.ext'; simp
    generalize hL : (es'.filter fun e => !seen.contains e.born) = L at hns hleft
    generalize hN : notSeen seen es = N at hns e3
    have hcell := run_getObj (P := P) h2 (by simp)
    have hmap := run_getObj (P := P) hb (by simp)
    cases hns with
    | nil =>
      simp only [nextMap] at e3; cases e3
      refine ⟨_, ρ, w, ?_, over, h, .refl _ _ _⟩
      simp only [Instr.next, h0, Nat.add_zero, Sem.run_bind, hcell, hmap, Result.andThen_ok, hall', Bool.false_eq_true, if_false, hleft]
      simp [Question.forced]
    | cons k k' v v' bn l l' hk hv hl =>
      cases hl with
      | cons => simp [nextMap] at e3
      | nil =>
        simp only [nextMap] at e3
        obtain ⟨hlt, e4⟩ := bif_ok e3
        cases e4
        have hlt := blt_lt hlt
        obtain ⟨a, d⟩ := MemR.write h (.mapIter (some pq.b) since ⟨seen ++ [bn]⟩ c) ho rfl rfl hp (.mapIter q pq hq since _ c h0)
        refine ⟨_, ρ, _, ?_, .tuple _ [.bool true, k', v'] (.cons _ _ _ _ (.bool true) (.cons _ _ _ _ hk (.one hv))), a, d⟩
        have hge : ¬ bn ≥ since := by omega
        have hpush : (⟨seen⟩ : Array Nat).push bn = ⟨seen ++ [bn]⟩ := by apply Array.ext'; simp
        simp only [Instr.next, h0, Nat.add_zero, Sem.run_bind, hcell, hmap, Result.andThen_ok, hall', Bool.false_eq_true, if_false, hleft]
        simp [Question.forced, hlt, hge, run_setObj h2]
  all_goals (cases b <;> simp [nextO] at e)
end
end Go.Sh

/-
  append, copy.
-/
namespace Go.Sh
open Go.RowKit

section
variable {ρ : Ren} {m : Mem} {w : World} {P : Program} {E : Env}

theorem lenV_sim {x x' : Value} {n : Nat} (e : lenV x = .ok n) (hx : VR ρ x x') : Builtin.lenOf x' = Sem.pure n := by
  cases hx <;> simp only [lenV] at e <;> try (cases e; done)
  all_goals (cases e; try rfl)

theorem byteVals_eq (l : List UInt8) : byteVals l = l.map fun b => Value.int .u8 b.toNat := by
  induction l with
  | nil => rfl
  | cons b l ih => simp only [byteVals, ih, List.map_cons]; rfl
theorem byteVals_vr (l : List UInt8) : VRs ρ (byteVals l) (byteVals l) := by
  induction l with
  | nil => exact .nil
  | cons b l ih => exact .cons _ _ _ _ (.int _ _) ih

def dw (w : World) (d : Nat) : World := { w with drawn := d }
theorem dw_self (w : World) : dw w w.drawn = w := rfl

theorem firstCells_zero {k : Nat} {x x' : Value} {L : Nat} (hL : lenV x = .ok L) (hx : VR ρ x x') (w : World) : (Builtin.firstCells k 0 x').run P w = .ok #[] w := by
  cases hx <;> simp only [lenV] at hL <;> try (cases hL; done)
  case string s => obtain ⟨⟨s⟩⟩ := s; simp [Builtin.firstCells]
  case snil => simp [Builtin.firstCells]
  case slice => simp [Builtin.firstCells, loadCells, loadCellsFrom]
  case bare => simp [Builtin.firstCells, loadCells, loadCellsFrom]

theorem firstN_sim (h : MemR ρ m w) {k n L : Nat} {x x' : Value} {l : List Value} (e : firstN m k n x = .ok l) (hL : lenV x = .ok L) (hn : n ≤ L) (hx : VR ρ x x') :
    ∃ l', VRs ρ l l' ∧ l.length = n * k ∧ ∀ d, (Builtin.firstCells k n x').run P (dw w d) = .ok ⟨l'⟩ (dw w d) := by
  unfold firstN at e
  by_cases h0 : n = 0
  · subst h0
    simp only [Nat.beq_refl, cond_true] at e
    cases e
    exact ⟨[], .nil, by simp, fun d => firstCells_zero hL hx _⟩
  have hb : Nat.beq n 0 = false := by
    cases q : Nat.beq n 0 with
    | false => rfl
    | true => exact absurd (beq_nat q) h0
  rw [hb] at e
  simp only [cond_false] at e
  obtain ⟨l0, e1, e2⟩ := R.bnd_ok e
  obtain ⟨hl, e3⟩ := bif_ok e2
  cases e3
  have hl := beq_nat hl
  clear e e2
  cases hx <;> simp only [lenV] at hL <;> try (cases hL; done)
  case string s =>
    obtain ⟨⟨s⟩⟩ := s
    simp only [firstC] at e1; cases e1
    refine ⟨_, byteVals_vr _, hl, fun d => ?_⟩
    simp only [Builtin.firstCells, byteVals_eq, Sem.run_pure]
    congr 1
    apply Array.ext'
    simp
  case snil =>
    simp only [firstC] at e1; cases e1
    exact ⟨[], .nil, hl, fun d => by simp [Builtin.firstCells]⟩
  case slice y o len cap p o' cap' hp hle hr =>
    cases hL
    simp only [firstC] at e1
    obtain ⟨l', r1, r2, r3⟩ := loadC_sim h e1 hp
    refine ⟨l', r1, hl, fun d => ?_⟩
    have ho : o' = o + p.d := by
      unfold RoomOk at hr
      split at hr
      · exact hr.1
      · rcases hr.1 with q | q
        · exact q
        · omega
    subst ho
    simp only [Builtin.firstCells]
    exact run_loadCells (w := dw w d) (by rw [← r1.length, hl]) (fun j v hj => r3 j v hj)
  case bare => cases hL; omega

/-! a block that grew where it lay -/
theorem MemR.replace (h : MemR ρ m w) {x : Nat} {o o' : AO} {p p' : Pl} (O' : Obj) (hx : m.get x = some o) (hr : o.isRo = false) (hr' : o'.isRo = false) (hp : ρ x = some p) (hb : p'.b = p.b) (ho : OR (ρ.add m.next p') p' o' O') :
    MemR (ρ.add m.next p') ((m.del x).new o') { w with heap := w.heap.setIfInBounds p.b O' } ∧ Ext ρ m w (ρ.add m.next p') ((m.del x).new o') { w with heap := w.heap.setIfInBounds p.b O' } := by
  have hlt := h.lt x p hp
  have hle := h.add_le p'
  have hxn : x ≠ m.next := fun q => by rw [q, h.fresh _ (Nat.le_refl _)] at hp; cases hp
  have hget : ∀ y q, ((m.del x).new o').get y = some q → (y = m.next ∧ q = o') ∨ (y ≠ m.next ∧ y ≠ x ∧ m.get y = some q) := by
    intro y q e
    rw [Mem.get_new, Mem.next_del] at e
    by_cases hy : y = m.next
    · rw [if_pos hy] at e; cases e; exact .inl ⟨hy, rfl⟩
    · rw [if_neg hy, Mem.get_del] at e
      by_cases hyx : y = x
      · rw [if_pos hyx] at e; cases e
      · rw [if_neg hyx] at e; exact .inr ⟨hy, hyx, e⟩
  have hnew : ∀ y q, ρ.add m.next p' y = some q → (y = m.next ∧ q = p') ∨ (y ≠ m.next ∧ ρ y = some q) := by
    intro y q e
    by_cases hy : y = m.next
    · subst hy; rw [Ren.add_same] at e; cases e; exact .inl ⟨rfl, rfl⟩
    · simp only [Ren.add, if_neg hy] at e; exact .inr ⟨hy, e⟩
  refine ⟨⟨?_, ?_, ?_, ?_⟩, ⟨hle, rfl, rfl, rfl, by simp, ?_, ?_, by rw [Mem.next_new, Mem.next_del]; omega, ?_, fun y q e hq => ?_⟩⟩
  · intro y q e
    rcases hget y q e with ⟨a, b⟩ | ⟨a, b, c⟩
    · subst a; subst b
      exact ⟨p', O', Ren.add_same _ _ _, by simp [hb, hlt], ho⟩
    · obtain ⟨q', Q, h1, h2, h3⟩ := h.obj y q c
      have hne := h.inj x y o q p q' hx c (Ne.symm b) hr hp h1
      exact ⟨q', Q, hle _ _ h1, by simp [hne, h2], h3.mono hle⟩
  · intro y z o1 o2 q1 q2 e1 e2 hne hro p1 p2
    rcases hget y o1 e1 with ⟨a, b⟩ | ⟨a, b, c⟩ <;> rcases hget z o2 e2 with ⟨a', b'⟩ | ⟨a', b', c'⟩ <;> rcases hnew y q1 p1 with ⟨k1, k2⟩ | ⟨k1, k2⟩ <;> rcases hnew z q2 p2 with ⟨k3, k4⟩ | ⟨k3, k4⟩
    all_goals first
      | (exact absurd (a.trans a'.symm) hne)
      | (exact absurd k1 a)
      | (exact absurd a k1)
      | (exact absurd k3 a')
      | (exact absurd a' k3)
      | skip
    · rw [k2, hb]; exact h.inj x z o o2 p q2 hx c' (Ne.symm b') hr hp k4
    · rw [k4, hb]; exact h.inj y x o1 o q1 p c hx b hro k2 hp
    · exact h.inj y z o1 o2 q1 q2 c c' hne hro k2 k4
  · intro y hy
    rw [Mem.next_new, Mem.next_del] at hy
    have hy' : y ≠ m.next := by omega
    simp only [Ren.add, if_neg hy']
    exact h.fresh y (by omega)
  · intro y q e
    simp only [Array.size_setIfInBounds]
    rcases hnew y q e with ⟨a, b⟩ | ⟨a, b⟩
    · rw [b, hb]; exact hlt
    · exact h.lt y q b
  · intro b hb' hn
    have hne : p.b ≠ b := fun e => hn ⟨x, o, p, hx, hr, hp, e⟩
    simp [hne]
  · rintro b ⟨y, q, q', e1, e2, e3, e4⟩ _
    rcases hget y q e1 with ⟨a, c⟩ | ⟨a, c, d⟩
    · subst a; rw [Ren.add_same] at e3; cases e3
      exact ⟨x, o, p, hx, hr, hp, hb.symm.trans e4⟩
    · rcases hnew y q' e3 with ⟨k1, k2⟩ | ⟨k1, k2⟩
      · exact absurd k1 a
      · exact ⟨y, q, q', d, e2, k2, e4⟩
  · intro y q e hy
    rcases hnew y q e with ⟨a, c⟩ | ⟨a, c⟩
    · omega
    · exact c
  · rcases hget y q e with ⟨a, c⟩ | ⟨a, c, d⟩
    · subst c; rw [hr'] at hq; cases hq
    · exact d

theorem allOne_mem {l : List Value} (h : allOne l = true) : ∀ v ∈ l, oneC v = true := by
  induction l with
  | nil => simp
  | cons v l ih =>
    simp only [allOne] at h
    obtain ⟨a, b⟩ := and_t h
    intro u hu
    rcases List.mem_cons.1 hu with q | q
    · subst q; exact a
    · exact ih b u q
theorem VRs.allOne {l l' : List Value} (h : VRs ρ l l') (e : ∀ v ∈ l, oneC v = true) : ∀ v ∈ l', v.oneCell' = true := by
  intro v hv
  obtain ⟨i, hi, rfl⟩ := List.mem_iff_getElem.1 hv
  have hi2 : i < l.length := by rw [h.length]; exact hi
  obtain ⟨u, a, b⟩ := h.get i l[i] (by simp [hi2])
  rw [List.getElem?_eq_getElem hi] at a; cases a
  exact oneC_of b (e _ (List.getElem_mem _))

/-! append -/
theorem isMake_ok (hE : EnvTi P E) {ts : List TypeId} (e : isMake E ts = .ok false) : ts = [] ∨ ∃ t r d, ts = t :: r ∧ P.underlying t = some d ∧ ∀ k, d ≠ .int k := by
  cases ts with
  | nil => exact .inl rfl
  | cons t r =>
    simp only [isMake] at e
    obtain ⟨td, e1, e2⟩ := R.bnd_ok e
    obtain ⟨d, hu, hd⟩ := tdR_ok hE e1
    refine .inr ⟨t, r, d, rfl, hu, ?_⟩
    rintro k rfl
    cases hd with
    | int => simp [isInt] at e2
    | other _ h => cases h

end
end Go.Sh

/-
  append (its cases), copy.
-/
namespace Go.Sh
open Go.RowKit

section
variable {ρ : Ren} {m : Mem} {w : World} {P : Program} {E : Env}

theorem beq0_ne {n : Nat} (h : n ≠ 0) : Nat.beq n 0 = false := by
  cases q : Nat.beq n 0 with
  | false => rfl
  | true => exact absurd (beq_nat q) h

theorem zeroCells_eq (z : Value) (n : Nat) : Builtin.zeroCells z.cells n = ⟨manyZ z.cells.toList n⟩ := by
  unfold Builtin.zeroCells
  exact range_zeros z.cells n z.cells.size rfl

theorem firstCells_none (k n len cap : Nat) (w : World) : (Builtin.firstCells k n (.slice none len cap)).run P w = .ok #[] w := by simp [Builtin.firstCells]
theorem firstCells_no (k : Nat) (a : Addr) (len cap : Nat) (w : World) : (Builtin.firstCells k 0 (.slice (some a) len cap)).run P w = .ok #[] w := by simp [Builtin.firstCells, loadCells, loadCellsFrom]

/-- behind the room: a new block -/
theorem grow_sim (h : MemR ρ m w) {m₁ : Mem} (hs : ∀ x o, m₁.get x = some o → m.get x = some o) (hnx : m₁.next = m.next) {el : TypeId} {i : TypeInfo} {z : Value} {k n len cap fz : Nat} {x : Value} {base : Option Addr} {old new old' new' : List Value} (hi : P.info? el = some i) (hk : i.size = k)
    (hz : i.zero = some z) (hzs : z.cells.size = k) (hg : ¬ len + n ≤ cap) (ro : VRs ρ old old') (rn : VRs ρ new new') (lo : old.length = len * k) (ln : new.length = n * k)
    (eo : ∀ d, (Builtin.firstCells k len (.slice base len cap)).run P (dw w d) = .ok ⟨old'⟩ (dw w d)) (en : ∀ d, (Builtin.firstCells k n x).run P (dw w d) = .ok ⟨new'⟩ (dw w d)) :
    Gives ρ m w (newS m₁ (old ++ new) el (some k) fz (len + n) (len + n)).1 (newS m₁ (old ++ new) el (some k) fz (len + n) (len + n)).2 ((appendTail el i x n base len cap).run P w) := by
  subst hk
  let c := (Question.appendCap (len + n) cap el).cut (w.tape w.drawn (.appendCap (len + n) cap el))
  have hc : len + n ≤ c := Go.grownCap_ge w (len + n) cap el
  have hd : MemR ρ m₁ (dw w (w.drawn + 1)) := (h.sub hs (Nat.le_of_eq hnx.symm)).drawn _
  let rest := manyZ z.cells.toList (c - (len + n))
  have hN : (old' ++ new' ++ rest).length = c * i.size := by
    have h1 := ro.length
    have h2 := rn.length
    have h3 : rest.length = (c - (len + n)) * i.size := by simp only [rest, manyZ_length, Array.length_toList, hzs]
    simp only [List.length_append, h3, ← h1, ← h2, lo, ln, ← Nat.add_mul]
    congr 1; omega
  obtain ⟨a, b⟩ := new_cells hd el (some i.size) fz (c := old ++ new) (C := old' ++ new' ++ rest) (by have := (ro.append rn).length; simp only [List.length_append] at *; omega) (get_of_VRs (ro.append rn)) (lo := 0) (hi := 0) (fun i _ _ => by omega)
  rw [hnx] at a b
  have hle := h.add_le ⟨w.heap.size, 0, (old' ++ new' ++ rest).length, some i.size⟩
  have hown : ∀ bb, Owns ρ m₁ bb → Owns ρ m bb := fun bb ⟨y, o, p, e1, e2, e3, e4⟩ => ⟨y, o, p, hs _ _ e1, e2, e3, e4⟩
  refine ⟨.slice (some ⟨w.heap.size, 0, none⟩) (len + n) c, _, _, ?_, ?_, a, ?_⟩
  · have e1 := eo (w.drawn + 1)
    have e2 := en (w.drawn + 1)
    have hq : (Question.appendCap (len + n) cap el).forced = false := rfl
    simp only [appendTail, hg, if_false, Sem.run_bind, Go.run_choose, hq, Bool.false_eq_true, Result.andThen_ok, run_askRoom]
    have hdw : ({ heap := w.heap, tape := w.tape, drawn := w.drawn + 1, os := w.os, output := w.output } : World) = dw w (w.drawn + 1) := rfl
    rw [hdw, e1]
    simp only [Result.andThen_ok]
    rw [e2]
    simp only [Result.andThen_ok, run_zero hi hz, zeroCells_eq]
    simp only [newRow, Sem.run_bind, run_newObj, Result.andThen_ok, Sem.run_pure]
    have harr : (⟨old'⟩ ++ ⟨new'⟩ ++ ⟨rest⟩ : Array Value) = ⟨old' ++ new' ++ rest⟩ := by apply Array.ext'; simp
    show Result.ok _ _ = _
    rw [show ((⟨old'⟩ : Array Value) ++ ⟨new'⟩ ++ ⟨manyZ z.cells.toList ((Question.appendCap (len + n) cap el).cut (w.tape w.drawn (.appendCap (len + n) cap el)) - (len + n))⟩) = ⟨old' ++ new' ++ rest⟩ from harr]
    rfl
  · have hnew : (newS m₁ (old ++ new) el (some i.size) fz (len + n) (len + n)).1 = .slice (some ⟨m.next, 0, none⟩) (len + n) (len + n) := by rw [← hnx]; rfl
    rw [hnew]
    refine .slice m.next 0 (len + n) (len + n) ⟨w.heap.size, 0, (old' ++ new' ++ rest).length, some i.size⟩ 0 c (Ren.add_same _ _ _) (Nat.le_refl _) ?_
    exact ⟨.inl rfl, hc, Nat.le_refl _, by rw [hN]; simp⟩
  · refine ⟨b.le, b.os, b.tape, b.output, b.size, fun bb hb hn => b.keep bb hb (fun ho => hn (hown bb ho)), fun bb ho hb => hown bb (b.own bb ho hb), by rw [← hnx]; exact b.next, fun y p e hy => b.new y p e (by rw [hnx]; exact hy), fun y o e ho => hs y o (b.ro y o e ho)⟩

theorem tail_in {el : TypeId} {i : TypeInfo} {x : Value} {n len cap : Nat} {base : Option Addr} {new' : List Value} (hg : len + n ≤ cap) (en : ∀ d, (Builtin.firstCells i.size n x).run P (dw w d) = .ok ⟨new'⟩ (dw w d)) :
    (appendTail el i x n base len cap).run P w = ((match base with | some a => storeCells (a.add (len * i.size)) new' | none => pure () : Sem Unit).run P w).andThen (fun _ w' => .ok (.slice base (len + n) cap) w') := by
  have e := en w.drawn
  rw [dw_self] at e
  cases base with
  | none => simp only [appendTail, hg, if_true, Sem.run_bind, e, Result.andThen_ok, Sem.run_pure]
  | some a => simp only [appendTail, hg, if_true, Sem.run_bind, e, Result.andThen_ok, Sem.run_pure]

theorem storeSome_sim (h : MemR ρ m w) {y o o' : Nat} {vs vs' : List Value} {m' : Mem} (e : storeSome m ⟨y, o, none⟩ vs = .ok m') (hv : VRs ρ vs vs') {p : Pl} (hp : ρ y = some p) (ho : vs ≠ [] → o' = o + p.d) :
    ∃ w', (storeCells ⟨p.b, o', none⟩ vs').run P w = .ok () w' ∧ MemR ρ m' w' ∧ Ext ρ m w ρ m' w' := by
  cases hv with
  | nil =>
    simp only [storeSome] at e; cases e
    exact ⟨w, by simp [storeCells], h, .refl _ _ _⟩
  | cons v v' l l' hv hl =>
    simp only [storeSome] at e
    rw [ho (by simp)]
    exact storeC_sim h e (.cons _ _ _ _ hv hl) hp

theorem in_place (h : MemR ρ m w) {y o o' k len n cap cap' fz : Nat} {el : TypeId} {c old new old' new' : List Value} {p : Pl} (hy : m.get y = some (.cells c el (some k) false fz)) (hp : ρ y = some p) (hpo : p.opn = some k)
    (hl : len ≤ cap) (hr1 : o' = o + p.d ∨ cap = 0) (hr3 : p.d ≤ o') (hr4 : o' + cap' * k ≤ p.n) (hc : len + n ≤ cap') (hfree : freeB fz o len cap k = true) (hone : allOne new = true) (ro : VRs ρ old old') (rn : VRs ρ new new') (lo : old.length = len * k) (ln : new.length = n * k)
    (eo : ∀ (j : Nat) (v : Value), old'[j]? = some v → w.cell? ⟨p.b, o' + j, none⟩ = some v) :
    ∃ w', (storeCells ⟨p.b, o' + len * k, none⟩ new').run P w = .ok () w' ∧ MemR (ρ.add m.next ⟨p.b, o', p.n, some k⟩) (newS (m.del y) (old ++ new) el (some k) (fz - o) (len + n) (len + n)).2 w' ∧ Ext ρ m w (ρ.add m.next ⟨p.b, o', p.n, some k⟩) (newS (m.del y) (old ++ new) el (some k) (fz - o) (len + n) (len + n)).2 w' := by
  have hy2 : m.get y = some (.cells c el p.opn false fz) := by rw [hpo]; exact hy
  obtain ⟨q, O, h1, h2, h3⟩ := h.obj y _ hy2
  rw [hp] at h1; cases h1
  cases h3
  case cells C lo_ hi_ _h0 hn hd hcc hf =>
  have hroom : len * k + n * k ≤ cap' * k := by rw [← Nat.add_mul]; exact Nat.mul_le_mul_right _ hc
  have hlo' : old'.length = len * k := by rw [← ro.length, lo]
  have hln' : new'.length = n * k := by rw [← rn.length, ln]
  have hfz : fz = 0 ∨ (cap ≠ 0 ∧ fz ≤ o + len * k) := by
    simp only [freeB, Bool.or_eq_true, Bool.and_eq_true] at hfree
    rcases hfree with q | ⟨q1, q2⟩
    · exact .inl (beq_nat q)
    · refine .inr ⟨?_, Nat.le_of_ble_eq_true q2⟩
      intro q; rw [q] at q1; cases q1
  have hfr : ∀ j, o' + len * k ≤ j → j < p.n → ¬ (lo_ ≤ j ∧ j < hi_) := by
    intro j a b
    rcases hf with q | q
    · cases q
    · refine q j ?_ b
      rcases hfz with e | ⟨e1, e2⟩
      · subst e; omega
      · rcases hr1 with e | e
        · omega
        · exact absurd e e1
  have hrun := run_storeCells (P := P) p.b el (lo_, hi_) new' w C (o' + len * k) 0 h2 (by rw [hln']; omega) (rn.allOne (allOne_mem hone)) (fun j a b => hfr j (by omega) (by rw [hln'] at b; omega))
  simp only [Nat.add_zero] at hrun
  have hold : ∀ j, j < len * k → C[o' + j]? = old'[j]? := by
    intro j hj
    have hj' : j < old'.length := by omega
    have := eo j old'[j] (by simp [hj'])
    simp only [World.cell?, h2, Option.isSome_none, Bool.false_eq_true, if_false, List.getElem?_toArray] at this
    rw [this]; simp [hj']
  have key := h.replace (p' := ⟨p.b, o', p.n, some k⟩) (o' := .cells (old ++ new) el (some k) false (fz - o)) (.cells ⟨C.take (o' + len * k) ++ new' ++ C.drop (o' + len * k + new'.length)⟩ el (lo_, hi_)) hy rfl rfl hp rfl ?_
  · exact ⟨_, hrun, by rw [show (newS (m.del y) (old ++ new) el (some k) (fz - o) (len + n) (len + n)).2 = (m.del y).new (.cells (old ++ new) el (some k) false (fz - o)) from rfl]; exact key⟩
  · have hle := h.add_le ⟨p.b, o', p.n, some k⟩
    refine OR.cells (p := ⟨p.b, o', p.n, some k⟩) _ _ el false (fz - o) lo_ hi_ ?_ ?_ ?_ ?_ (fun q => by cases q)
    · simp only [List.length_append, List.length_take, List.length_drop, hln']; omega
    · simp only [List.length_append, lo, ln]; omega
    · intro j v hv
      by_cases c1 : j < len * k
      · rw [List.getElem?_append_left (by omega)] at hv
        obtain ⟨v', a, b⟩ := ro.get j v hv
        refine ⟨v', ?_, b.mono hle⟩
        simp only
        rw [List.append_assoc, List.getElem?_append_left (by simp only [List.length_take]; omega), List.getElem?_take, if_pos (by omega), hold j c1, a]
      · rw [List.getElem?_append_right (by omega)] at hv
        obtain ⟨v', a, b⟩ := rn.get _ v hv
        refine ⟨v', ?_, b.mono hle⟩
        simp only
        have hlt : j - old.length < new'.length := by
          rcases Nat.lt_or_ge (j - old.length) new'.length with q | q
          · exact q
          · rw [List.getElem?_eq_none q] at a; cases a
        rw [List.append_assoc, List.getElem?_append_right (by simp only [List.length_take]; omega)]
        have e5 : o' + j - (C.take (o' + len * k)).length = j - old.length := by simp only [List.length_take, lo]; omega
        rw [e5, List.getElem?_append_left hlt, a]
    · refine .inr fun j a b => ?_
      simp only at a b
      rcases hf with q | q
      · cases q
      · refine q j ?_ b
        rcases hfz with e | ⟨e1, e2⟩
        · subst e; omega
        · rcases hr1 with e | e
          · omega
          · exact absurd e e1
end
end Go.Sh

/-
  append and copy, whole.
-/
namespace Go.Sh
open Go.RowKit

section
variable {ρ : Ren} {m : Mem} {w : World} {P : Program} {E : Env}

theorem zeroFits_ok (hE : EnvTi P E) {e : TypeId} {i : TI} (hi : E.tiR e = .ok i) (h : zeroFits i i.zero = .ok true) : ∃ info z', P.info? e = some info ∧ info.size = i.size ∧ info.bytes = i.bytes ∧ info.zero = some z' ∧ z'.cells.size = i.size := by
  cases hz : i.zero with
  | none => rw [hz] at h; simp [zeroFits] at h
  | some z =>
    rw [hz] at h
    simp only [zeroFits] at h
    obtain ⟨l, e1, e2⟩ := R.bnd_ok h
    obtain ⟨info, z', k1, k2, k3, k4, k5⟩ := zero_cells (ρ := fun _ => none) hE hi hz e1
    refine ⟨info, z', k1, k2, k3, k4, ?_⟩
    have : l.length = i.size := by injection e2 with e2; exact beq_nat e2
    have := k5.length
    simp only [Array.length_toList] at this
    omega

theorem ble_no {a b : Nat} (h : Nat.ble a b = false) : ¬ a ≤ b := fun q => by
  have k : Nat.ble a b = true := by rw [Nat.ble_eq]; exact q
  rw [k] at h; cases h

theorem append_sim (hE : EnvTi P E) (h : MemR ρ m w) {ts : List TypeId} {args args' : List Value} {ty : TypeId} {r : Value × Mem} (e : appendV E m ts args = .ok r) (ha : VRs ρ args args') :
    Gives ρ m w r.1 r.2 ((Builtin.append_ ⟨ts⟩ ty ⟨args'⟩).run P w) := by
  cases ts with
  | nil => simp [appendV] at e
  | cons st ts =>
  cases ha with
  | nil => simp [appendV] at e
  | cons s s' _ _ hs ha =>
  cases ha with
  | nil => simp [appendV] at e
  | cons x x' _ _ hx ha =>
  cases ha with
  | cons => simp [appendV] at e
  | nil =>
  simp only [appendV] at e
  obtain ⟨td, e1, e2⟩ := R.bnd_ok e
  obtain ⟨d, hu, hd⟩ := tdR_ok hE e1
  clear e e1
  cases hd <;> try (simp [appendD] at e2; done)
  case slice el =>
  have hslice : ∀ {a len cap}, s = .slice a len cap → ∃ i n, E.tiR el = .ok i ∧ isMake E ts = .ok false ∧ lenV x = .ok n ∧ zeroFits i i.zero = .ok true ∧ len + n ≤ 1000000 ∧ i.bytes ≤ 10000000 ∧ appendS m el i.size n x a len cap = .ok r := by
    intro a len cap q
    subst q
    simp only [appendD] at e2
    obtain ⟨z, f1, f2⟩ := R.bnd_ok e2
    obtain ⟨hz, f3⟩ := bif_ok' f2
    subst hz
    obtain ⟨i, f4, f5⟩ := R.bnd_ok f3
    obtain ⟨n, f6, f7⟩ := R.bnd_ok f5
    obtain ⟨zf, f8, f9⟩ := R.bnd_ok f7
    obtain ⟨hb, f10⟩ := bif_ok f9
    obtain ⟨hb, hb3⟩ := and_t hb
    obtain ⟨hb1, hb2⟩ := and_t hb
    subst hb1
    exact ⟨i, n, f4, f1, f6, f8, Nat.le_of_ble_eq_true hb2, Nat.le_of_ble_eq_true hb3, f10⟩
  cases hs <;> try (simp [appendD] at e2; done)
  case snil len cap =>
    obtain ⟨i, n, f1, f2, f3, f4, f5, f6, f7⟩ := hslice rfl
    obtain ⟨info, z', k1, k2, k3, k4, k5⟩ := zeroFits_ok hE f1 f4
    rw [run_append_tail hu k1 (isMake_ok hE f2) (lenV_sim f3 hx) f5 (by omega)]
    simp only [appendS] at f7
    cases hle : Nat.ble (len + n) cap with
    | true =>
      rw [hle] at f7; simp only [cond_true] at f7
      obtain ⟨new, g1, g2⟩ := R.bnd_ok f7
      cases g2
      obtain ⟨new', n1, n2, n3⟩ := firstN_sim (P := P) h g1 f3 (Nat.le_refl _) hx
      rw [tail_in (Nat.le_of_ble_eq_true hle) (by rw [k2]; exact n3)]
      exact ⟨_, ρ, w, rfl, .snil _ _, h, .refl _ _ _⟩
    | false =>
      rw [hle] at f7; simp only [cond_false] at f7
      obtain ⟨new, g1, g2⟩ := R.bnd_ok f7
      obtain ⟨hz, g3⟩ := bif_ok g2
      cases g3
      have hz := beq_nat hz
      subst hz
      obtain ⟨new', n1, n2, n3⟩ := firstN_sim (P := P) h g1 f3 (Nat.le_refl _) hx
      exact grow_sim h (m₁ := m) (old := []) (fun _ _ q => q) rfl k1 k2 k4 k5 (ble_no hle) .nil n1 (by simp) n2 (fun d => firstCells_none _ _ _ _ _) n3
  case bare y o sp a =>
    obtain ⟨i, n, f1, f2, f3, f4, f5, f6, f7⟩ := hslice rfl
    obtain ⟨info, z', k1, k2, k3, k4, k5⟩ := zeroFits_ok hE f1 f4
    rw [run_append_tail hu k1 (isMake_ok hE f2) (lenV_sim f3 hx) f5 (by omega)]
    simp only [appendS] at f7
    cases hle : Nat.ble (0 + n) 0 with
    | true =>
      rw [hle] at f7; simp only [cond_true] at f7
      cases f7
      have hn : n = 0 := by have := Nat.le_of_ble_eq_true hle; omega
      subst hn
      rw [tail_in (new' := []) (Nat.le_refl _) (fun d => firstCells_zero f3 hx _)]
      exact ⟨.slice (some a) 0 0, ρ, w, by simp [storeCells], .bare _ _ _ _, h, .refl _ _ _⟩
    | false =>
      rw [hle] at f7; simp only [cond_false] at f7
      obtain ⟨new, g1, g2⟩ := R.bnd_ok f7
      cases g2
      obtain ⟨new', n1, n2, n3⟩ := firstN_sim (P := P) h g1 f3 (Nat.le_refl _) hx
      exact grow_sim h (m₁ := m) (old := []) (fun _ _ q => q) rfl k1 k2 k4 k5 (ble_no hle) .nil n1 (by simp) n2 (fun d => firstCells_no _ _ _ _ _) n3
  case slice y o len cap p o' cap' hp hlc hr =>
    obtain ⟨i, n, f1, f2, f3, f4, f5, f6, f7⟩ := hslice rfl
    obtain ⟨info, z', k1, k2, k3, k4, k5⟩ := zeroFits_ok hE f1 f4
    rw [run_append_tail hu k1 (isMake_ok hE f2) (lenV_sim f3 hx) f5 (by omega)]
    have ho : cap ≠ 0 → o' = o + p.d := by
      intro hc
      unfold RoomOk at hr
      split at hr
      · exact hr.1
      · rcases hr.1 with q | q
        · exact q
        · exact absurd q hc
    have hcc : cap ≤ cap' := by
      unfold RoomOk at hr
      split at hr
      · exact Nat.le_of_eq hr.2.symm
      · exact hr.2.1
    simp only [appendS] at f7
    cases hle : Nat.ble (len + n) cap with
    | true =>
      rw [hle] at f7; simp only [cond_true] at f7
      obtain ⟨new, g1, g2⟩ := R.bnd_ok f7
      obtain ⟨m2, g3, g4⟩ := R.bnd_ok g2
      cases g4
      have hle' := Nat.le_of_ble_eq_true hle
      obtain ⟨new', n1, n2, n3⟩ := firstN_sim (P := P) h g1 f3 (Nat.le_refl _) hx
      rw [addA_eq] at g3
      have hne : new ≠ [] → o' + len * i.size = o + len * i.size + p.d := by
        intro hn0
        have : cap ≠ 0 := by
          intro c0
          have h1 : n = 0 := by omega
          have h2 : new.length = 0 := by rw [n2, h1]; simp
          exact hn0 (List.length_eq_zero_iff.1 h2)
        rw [ho this]; omega
      obtain ⟨w', q1, q2, q3⟩ := storeSome_sim (P := P) h g3 n1 hp hne
      rw [tail_in (Nat.le_trans hle' hcc) (by rw [k2]; exact n3)]
      refine ⟨.slice (some ⟨p.b, o', none⟩) (len + n) cap', ρ, w', ?_, .slice y o (len + n) cap p o' cap' hp hle' hr, q2, q3⟩
      simp only [add_none, k2, q1, Result.andThen_ok]
    | false =>
      rw [hle] at f7; simp only [cond_false] at f7
      obtain ⟨old, g0, g2⟩ := R.bnd_ok f7
      obtain ⟨new, g1, g3⟩ := R.bnd_ok g2
      obtain ⟨new', n1, n2, n3⟩ := firstN_sim (P := P) h g1 f3 (Nat.le_refl _) hx
      -- what was there
      have hold : ∃ old', VRs ρ old old' ∧ old.length = len * i.size ∧ ∀ (j : Nat) (v : Value), old'[j]? = some v → w.cell? ⟨p.b, o' + j, none⟩ = some v := by
        unfold oldC at g0
        by_cases h0 : len = 0
        · subst h0
          simp only [Nat.beq_refl, cond_true] at g0
          cases g0
          exact ⟨[], .nil, by simp, fun j v hv => by simp at hv⟩
        · rw [beq0_ne h0] at g0
          simp only [cond_false] at g0
          obtain ⟨l', r1, r2, r3⟩ := loadC_sim h g0 hp
          refine ⟨l', r1, r2, ?_⟩
          rw [ho (by omega)]
          exact r3
      obtain ⟨old', o1, o2, o3⟩ := hold
      have eo : ∀ d, (Builtin.firstCells i.size len (.slice (some ⟨p.b, o', none⟩) len cap')).run P (dw w d) = .ok ⟨old'⟩ (dw w d) := by
        intro d
        simp only [Builtin.firstCells]
        exact run_loadCells (w := dw w d) (by rw [← o1.length, o2]) (fun j v hj => o3 j v hj)
      have grown : ∀ (m₁ : Mem) (fz : Nat), (∀ x o, m₁.get x = some o → m.get x = some o) → m₁.next = m.next → ¬ len + n ≤ cap' →
          Gives ρ m w (newS m₁ (old ++ new) el (some i.size) fz (len + n) (len + n)).1 (newS m₁ (old ++ new) el (some i.size) fz (len + n) (len + n)).2 ((appendTail el info x' n (some ⟨p.b, o', none⟩) len cap').run P w) :=
        fun m₁ fz a b c => grow_sim h a b k1 k2 k4 k5 c o1 n1 o2 n2 eo n3
      have hdel : ∀ x o, (m.del y).get x = some o → m.get x = some o := by
        intro x o q
        rw [Mem.get_del] at q
        by_cases hxy : x = y
        · rw [if_pos hxy] at q; cases q
        · rw [if_neg hxy] at q; exact q
      cases hob : m.get y with
      | none => rw [hob] at g3; simp [growO] at g3
      | some ob =>
      rw [hob] at g3
      cases ob <;> try (simp [growO] at g3; done)
      case cells c e' opn ro fz =>
      obtain ⟨q, O, h1, h2, h3⟩ := h.obj y _ hob
      rw [hp] at h1; cases h1
      have hopn : opn = p.opn := by cases h3; rfl
      subst hopn
      clear h3
      cases hpo : p.opn with
      | none =>
        rw [hpo] at g3
        simp only [growO] at g3
        cases g3
        have hcap : cap' = cap := by unfold RoomOk at hr; rw [hpo] at hr; exact hr.2
        exact grown m 0 (fun _ _ q => q) rfl (by rw [hcap]; exact ble_no hle)
      | some k' =>
        rw [hpo] at g3 hob
        cases ro with
        | true => simp [growO] at g3
        | false =>
        simp only [growO] at g3
        obtain ⟨hb, g4⟩ := bif_ok g3
        cases g4
        obtain ⟨hb, hb4⟩ := and_t hb
        obtain ⟨hb, hb3⟩ := and_t hb
        obtain ⟨hb1, hb2⟩ := and_t hb
        have hb1 := beq_nat hb1
        have hb2 := beq_nat hb2
        subst hb1; subst hb2
        unfold RoomOk at hr
        rw [hpo] at hr
        obtain ⟨hr1, hr2, hr3, hr4⟩ := hr
        by_cases hroom : len + n ≤ cap'
        · obtain ⟨w', q1, q2, q3⟩ := in_place (P := P) h hob hp hpo hlc hr1 hr3 hr4 hroom hb3 hb4 o1 n1 o2 n2 o3
          refine ⟨.slice (some ⟨p.b, o', none⟩) (len + n) cap', _, w', ?_, ?_, q2, q3⟩
          · rw [tail_in hroom (by rw [k2]; exact n3)]
            simp only [add_none, k2, q1, Result.andThen_ok]
          · show VR _ (.slice (some ⟨(m.del y).next, 0, none⟩) (len + n) (len + n)) _
            rw [Mem.next_del]
            refine .slice m.next 0 (len + n) (len + n) ⟨p.b, o', p.n, some i.size⟩ o' cap' (Ren.add_same _ _ _) (Nat.le_refl _) ?_
            exact ⟨.inl (by simp), hroom, Nat.le_refl _, hr4⟩
        · exact grown (m.del y) (fz - o) hdel (Mem.next_del _ _) hroom

theorem copy_sim (hE : EnvTi P E) (h : MemR ρ m w) {ts : List TypeId} {args args' : List Value} {ty : TypeId} {r : Value × Mem} (e : copyV E m ts args = .ok r) (ha : VRs ρ args args') :
    Gives ρ m w r.1 r.2 ((Builtin.copy_ ⟨ts⟩ ty ⟨args'⟩).run P w) := by
  cases ts with
  | nil => simp [copyV] at e
  | cons st ts =>
  cases ha with
  | nil => simp [copyV] at e
  | cons s s' _ _ hs ha =>
  cases ha with
  | nil => simp [copyV] at e
  | cons x x' _ _ hx ha =>
  cases ha with
  | cons => simp [copyV] at e
  | nil =>
  simp only [copyV] at e
  obtain ⟨td, e1, e2⟩ := R.bnd_ok e
  obtain ⟨d, hu, hd⟩ := tdR_ok hE e1
  clear e e1
  cases hd <;> try (simp [copyD] at e2; done)
  case slice el =>
  have hslice : ∀ {a len cap}, s = .slice a len cap → ∃ k n m', E.sizeR el = .ok k ∧ lenV x = .ok n ∧ copyS m k (min n len) x a = .ok m' ∧ r = (.int .i64 (Int.ofNat (min n len)), m') := by
    intro a len cap q
    subst q
    simp only [copyD] at e2
    obtain ⟨k, f1, f2⟩ := R.bnd_ok e2
    obtain ⟨n, f3, f4⟩ := R.bnd_ok f2
    obtain ⟨m', f5, f6⟩ := R.bnd_ok f4
    cases f6
    exact ⟨k, n, m', f1, f3, f5, rfl⟩
  have hrun : ∀ {a len cap k n l' i}, P.info? el = some i → i.size = k → lenV x = .ok n → (∀ d, (Builtin.firstCells k (min n len) x').run P (dw w d) = .ok ⟨l'⟩ (dw w d)) →
      (Builtin.copy_ ⟨st :: ts⟩ ty ⟨[.slice a len cap, x']⟩).run P w = ((match a with | some a => storeCells a l' | none => pure () : Sem Unit).run P w).andThen (fun _ w' => .ok (.int .i64 (Int.ofNat (min n len))) w') := by
    intro a len cap k n l' i q1 q2 q3 q4
    have q5 := q4 w.drawn
    rw [dw_self] at q5
    have q6 := lenV_sim q3 hx
    subst q2
    cases a <;> simp [Builtin.copy_, run_underlying hu, sizeOf, typeInfo, q1, q6, q5, goInt]
  cases hs <;> try (simp [copyD] at e2; done)
  case snil len cap =>
    obtain ⟨k, n, m', f1, f2, f3, rfl⟩ := hslice rfl
    obtain ⟨i, i1, i2⟩ := sizeR_ok hE f1
    simp only [copyS] at f3
    obtain ⟨l, g1, g2⟩ := R.bnd_ok f3
    cases g2
    obtain ⟨l', n1, n2, n3⟩ := firstN_sim (P := P) h g1 f2 (Nat.min_le_left _ _) hx
    rw [hrun i1 i2 f2 n3]
    exact ⟨_, ρ, w, rfl, .int _ _, h, .refl _ _ _⟩
  case bare y o sp a =>
    obtain ⟨k, n, m', f1, f2, f3, rfl⟩ := hslice rfl
    obtain ⟨i, i1, i2⟩ := sizeR_ok hE f1
    simp only [copyS] at f3
    obtain ⟨l, g1, g2⟩ := R.bnd_ok f3
    obtain ⟨l', n1, n2, n3⟩ := firstN_sim (P := P) h g1 f2 (Nat.min_le_left _ _) hx
    rw [hrun i1 i2 f2 n3]
    cases n1 with
    | nil =>
      simp only [storeSome] at g2; cases g2
      exact ⟨_, ρ, w, by simp [storeCells], .int _ _, h, .refl _ _ _⟩
    | cons => simp at n2
  case slice y o len cap p o' cap' hp hlc hr =>
    obtain ⟨k, n, m', f1, f2, f3, rfl⟩ := hslice rfl
    obtain ⟨i, i1, i2⟩ := sizeR_ok hE f1
    simp only [copyS] at f3
    obtain ⟨l, g1, g2⟩ := R.bnd_ok f3
    obtain ⟨l', n1, n2, n3⟩ := firstN_sim (P := P) h g1 f2 (Nat.min_le_left _ _) hx
    rw [hrun i1 i2 f2 n3]
    have ho : l ≠ [] → o' = o + p.d := by
      intro hn0
      have hc : cap ≠ 0 := by
        intro c0
        have h1 : min n len = 0 := by omega
        have h2 : l.length = 0 := by rw [n2, h1]; simp
        exact hn0 (List.length_eq_zero_iff.1 h2)
      unfold RoomOk at hr
      split at hr
      · exact hr.1
      · rcases hr.1 with q | q
        · exact q
        · exact absurd q hc
    obtain ⟨w', q1, q2, q3⟩ := storeSome_sim (P := P) h g2 n1 hp ho
    exact ⟨_, ρ, w', by simp only [q1, Result.andThen_ok], .int _ _, q2, q3⟩
end
end Go.Sh

/-
  len, cap, max, min; conversions.
-/
namespace Go.Sh
open Go.RowKit

section
variable {ρ : Ren} {m : Mem} {w : World} {P : Program} {E : Env}

theorem len_sim (hE : EnvTi P E) (h : MemR ρ m w) {ts : List TypeId} {args args' : List Value} {ty : TypeId} {v : Value} (e : lenBV E m ts args = .ok v) (ha : VRs ρ args args') :
    VR ρ v v ∧ (Builtin.len_ ⟨ts⟩ ty ⟨args'⟩).run P w = .ok v w := by
  cases ts with
  | nil => simp [lenBV] at e
  | cons t ts =>
  cases ha with
  | nil => simp [lenBV] at e
  | cons x x' _ _ hx ha =>
  cases ha with
  | cons => simp [lenBV] at e
  | nil =>
  simp only [lenBV] at e
  obtain ⟨td, e1, e2⟩ := R.bnd_ok e
  obtain ⟨d, hu, hd⟩ := tdR_ok hE e1
  clear e e1
  cases hd
  case string =>
    cases hx <;> simp only [lenD] at e2 <;> try (cases e2; done)
    case string s =>
    cases e2
    refine ⟨.int _ _, ?_⟩
    obtain ⟨⟨s⟩⟩ := s
    simp [Builtin.len_, run_underlying hu, goInt, lenB]
    rfl
  case array n el =>
    simp only [lenD] at e2
    cases e2
    exact ⟨.int _ _, by simp [Builtin.len_, run_underlying hu, goInt]⟩
  case slice el =>
    cases hx <;> simp only [lenD] at e2 <;> try (cases e2; done)
    all_goals (cases e2; exact ⟨.int _ _, by simp [Builtin.len_, run_underlying hu, goInt]⟩)
  case map kt et =>
    simp only [lenD] at e2
    obtain ⟨es, e3, e4⟩ := R.bnd_ok e2
    cases e4
    refine ⟨.int _ _, ?_⟩
    cases hx <;> try (simp [entriesOf] at e3; done)
    case mnil =>
      simp only [entriesOf] at e3; cases e3
      simp [Builtin.len_, run_underlying hu, goInt]
    case map r p hp =>
      simp only [entriesOf] at e3
      obtain ⟨⟨es', c⟩, f1, f2⟩ := R.bnd_ok e3
      cases f2
      obtain ⟨_, es2, hb, he⟩ := mapO_ok h f1 hp
      have hl := he.length
      simp only at hl hb
      simp [Builtin.len_, run_underlying hu, goInt, run_getObj hb, hl]
  all_goals (cases hx <;> simp [lenD] at e2)

theorem cap_sim (hE : EnvTi P E) (h : MemR ρ m w) {ts : List TypeId} {args args' : List Value} {ty : TypeId} {v : Value} (e : capV E m ts args = .ok v) (ha : VRs ρ args args') :
    VR ρ v v ∧ (Builtin.cap_ ⟨ts⟩ ty ⟨args'⟩).run P w = .ok v w := by
  cases ts with
  | nil => simp [capV] at e
  | cons t ts =>
  cases ha with
  | nil => simp [capV] at e
  | cons x x' _ _ hx ha =>
  cases ha with
  | cons => simp [capV] at e
  | nil =>
  simp only [capV] at e
  obtain ⟨td, e1, e2⟩ := R.bnd_ok e
  obtain ⟨d, hu, hd⟩ := tdR_ok hE e1
  clear e e1
  cases hd <;> try (simp [capD] at e2; done)
  case slice el =>
    cases hx <;> try (simp [capD] at e2; done)
    case snil l c =>
      simp only [capD] at e2
      cases e2; exact ⟨.int _ _, by simp [Builtin.cap_, run_underlying hu, goInt]⟩
    case slice y o len cap p o' cap' hp hl hr =>
      simp only [capD] at e2
      obtain ⟨op, f1, f2⟩ := R.bnd_ok e2
      have := opnO_of h f1 hp
      subst this
      unfold RoomOk at hr
      cases hpo : p.opn with
      | some k => rw [hpo] at f2; simp [capOpn] at f2
      | none =>
        rw [hpo] at f2 hr
        simp only [capOpn] at f2; cases f2
        obtain ⟨_, rfl⟩ := hr
        exact ⟨.int _ _, by simp [Builtin.cap_, run_underlying hu, goInt]⟩
    case bare y o s a =>
      simp only [capD] at e2
      obtain ⟨op, f1, f2⟩ := R.bnd_ok e2
      cases op with
      | some k => simp [capOpn] at f2
      | none =>
        simp only [capOpn] at f2; cases f2
        exact ⟨.int _ _, by simp [Builtin.cap_, run_underlying hu, goInt]⟩

theorem fold_sim {f : Value → Value → R Value} {g : Value → Value → Sem Value} (hf : ∀ a b v a' b', f a b = .ok v → VR ρ a a' → VR ρ b b' → VR ρ v v ∧ (g a' b').run P w = .ok v w) :
    ∀ (l l' : List Value) (x x' v : Value), foldV f x l = .ok v → VR ρ x x' → VRs ρ l l' → ∃ v', VR ρ v v' ∧ (l'.foldlM g x').run P w = .ok v' w := by
  intro l
  induction l with
  | nil =>
    intro l' x x' v e hx hl
    cases hl
    simp only [foldV] at e; cases e
    exact ⟨x', hx, by simp⟩
  | cons y l ih =>
    intro l' x x' v e hx hl
    cases hl with
    | cons _ y' _ l' hy hl =>
      simp only [foldV] at e
      obtain ⟨z, e1, e2⟩ := R.bnd_ok e
      obtain ⟨k1, k2⟩ := hf _ _ _ _ _ e1 hx hy
      obtain ⟨v', r1, r2⟩ := ih l' z z v e2 k1 hl
      exact ⟨v', r1, by simp only [List.foldlM_cons, Sem.run_bind, k2, Result.andThen_ok, r2]⟩

theorem max2_sim {a b v a' b' : Value} (e : max2V a b = .ok v) (ha : VR ρ a a') (hb : VR ρ b b') : VR ρ v v ∧ (Builtin.max2 a' b').run P w = .ok v w := by
  cases ha <;> cases hb <;> simp only [max2V] at e <;> try (cases e; done)
  cases e
  exact ⟨.int _ _, by simp [Builtin.max2]⟩
theorem min2_sim {a b v a' b' : Value} (e : min2V a b = .ok v) (ha : VR ρ a a') (hb : VR ρ b b') : VR ρ v v ∧ (Builtin.min2 a' b').run P w = .ok v w := by
  cases ha <;> cases hb <;> simp only [min2V] at e <;> try (cases e; done)
  cases e
  exact ⟨.int _ _, by simp [Builtin.min2]⟩
theorem max_sim {ts : Array TypeId} {ty : TypeId} {args args' : List Value} {v : Value} (e : foldV1 max2V args = .ok v) (ha : VRs ρ args args') : ∃ v', VR ρ v v' ∧ (Builtin.max_ ts ty ⟨args'⟩).run P w = .ok v' w := by
  cases ha with
  | nil => simp [foldV1] at e
  | cons x x' _ _ hx hl =>
    obtain ⟨v', a, b⟩ := fold_sim (P := P) (w := w) (fun a b v a' b' e ha hb => max2_sim e ha hb) _ _ _ _ _ e hx hl
    exact ⟨v', a, by simp only [Builtin.max_]; exact b⟩
theorem min_sim {ts : Array TypeId} {ty : TypeId} {args args' : List Value} {v : Value} (e : foldV1 min2V args = .ok v) (ha : VRs ρ args args') : ∃ v', VR ρ v v' ∧ (Builtin.min_ ts ty ⟨args'⟩).run P w = .ok v' w := by
  cases ha with
  | nil => simp [foldV1] at e
  | cons x x' _ _ hx hl =>
    obtain ⟨v', a, b⟩ := fold_sim (P := P) (w := w) (fun a b v a' b' e ha hb => min2_sim e ha hb) _ _ _ _ _ e hx hl
    exact ⟨v', a, by simp only [Builtin.min_]; exact b⟩

/-! conversions -/
theorem bytesOf_ok : ∀ {l : List Value} {bs : List UInt8}, bytesOf l = some bs → ∃ ns : List Int, l = ns.map (Value.int .u8) ∧ bs = ns.map fun n => UInt8.ofNat n.toNat := by
  intro l
  induction l with
  | nil => intro bs e; simp only [bytesOf] at e; cases e; exact ⟨[], rfl, rfl⟩
  | cons v l ih =>
    intro bs e
    cases v <;> try (simp [bytesOf] at e; done)
    case int k n =>
    cases k <;> try (simp [bytesOf] at e; done)
    cases n with
    | negSucc n => simp [bytesOf] at e
    | ofNat n =>
      simp only [bytesOf] at e
      obtain ⟨q, h1, h2⟩ := Option.map_eq_some_iff.1 e
      obtain ⟨ns, h3, h4⟩ := ih h1
      subst h3; subst h4; subst h2
      exact ⟨Int.ofNat n :: ns, rfl, rfl⟩
theorem ints_vr {ns : List Int} {l' : List Value} (h : VRs ρ (ns.map (Value.int .u8)) l') : l' = ns.map (Value.int .u8) := by
  induction ns generalizing l' with
  | nil => cases h; rfl
  | cons n ns ih =>
    cases h with
    | cons _ _ _ _ hv hl => cases hv; rw [ih hl]; rfl

theorem isU8_ok {d : TypeDesc} {td : TD} (h : TDR P d td) (e : isU8 td = true) : d = .int .u8 := by
  cases h <;> simp only [isU8] at e <;> try (cases e; done)
  rename_i k
  cases k <;> first | rfl | (simp [isU8] at e)

theorem bytesToStr_sim (h : MemR ρ m w) {e : TypeId} {x x' : Value} {r : Value × Mem} (he : convertSlice E m e x = .ok r) (hx : VR ρ x x') :
    Gives ρ m w r.1 r.2 ((Conv.bytesToString x').run P w) := by
  cases hx <;> try (simp [convertSlice] at he; done)
  case snil l c =>
    simp only [convertSlice] at he; cases he
    exact ⟨_, ρ, w, by simp only [Conv.bytesToString, Sem.run_pure]; rfl, .string _, h, .refl _ _ _⟩
  case slice y o len cap p o' cap' hp hl hr =>
    simp only [convertSlice] at he
    obtain ⟨l, e1, e2⟩ := R.bnd_ok he
    obtain ⟨bs, e3, e4⟩ := R.bnd_ok e2
    cases e4
    obtain ⟨ns, q1, q2⟩ := bytesOf_ok (need_ok e3)
    subst q1; subst q2
    obtain ⟨l', r1, r2, r3⟩ := loadC_sim h e1 hp
    have := ints_vr r1
    subst this
    have ho : len ≠ 0 → o' = o + p.d := by
      intro h0
      unfold RoomOk at hr
      split at hr
      · exact hr.1
      · rcases hr.1 with q | q
        · exact q
        · omega
    refine ⟨_, ρ, w, ?_, .string _, h, .refl _ _ _⟩
    have hrun : (loadCells ⟨p.b, o', none⟩ len).run P w = .ok (ns.map (Value.int .u8)).toArray w := by
      refine run_loadCells r2 ?_
      intro j v hj
      by_cases h0 : len = 0
      · subst h0
        have : ns = [] := by cases ns with | nil => rfl | cons => simp at r2
        subst this; simp at hj
      · rw [ho h0]; exact r3 j v hj
    rw [Go.run_bytesToString w _ len cap' ns hrun, Go.foldl_push_bytes]
    simp [ByteArray.empty, ByteArray.emptyWithCapacity]
    rfl
  case bare y o s a =>
    simp [convertSlice, loadC, R.bnd] at he

theorem stringToBytes_sim (h : MemR ρ m w) {e : TypeId} (s : List UInt8) :
    Gives ρ m w (newS m (byteVals s) e (some 1) 0 s.length s.length).1 (newS m (byteVals s) e (some 1) 0 s.length s.length).2 ((Conv.stringToBytes e ⟨⟨s⟩⟩).run P w) := by
  let c := (Question.appendCap s.length 0 e).cut (w.tape w.drawn (.appendCap s.length 0 e))
  have hc : s.length ≤ c := Go.grownCap_ge w s.length 0 e
  let rest := List.replicate (c - s.length) (Value.int .u8 0)
  have hN : (byteVals s ++ rest).length = c := by
    rw [byteVals_eq]; simp only [List.length_append, List.length_map, rest, List.length_replicate]; omega
  have hd : MemR ρ m (dw w (w.drawn + 1)) := h.drawn _
  obtain ⟨a, b⟩ := new_cells hd e (some 1) 0 (c := byteVals s) (C := byteVals s ++ rest) (by simp) (get_of_VRs (byteVals_vr s)) (lo := (byteVals s ++ rest).length) (hi := (byteVals s ++ rest).length + 1) (fun i _ _ => by omega)
  refine ⟨.slice (some ⟨w.heap.size, 0, none⟩) s.length c, _, _, ?_, ?_, a, (Ext.drawn ρ m w _).trans b⟩
  · have hq : (Question.appendCap s.length 0 e).forced = false := rfl
    have hsz : (ByteArray.mk ⟨s⟩).size = s.length := rfl
    have harr : ((⟨s⟩ : Array UInt8).map (fun b => Value.int .u8 (b.toNat : Int)) ++ Array.replicate (c - s.length) (Value.int .u8 0)) = ⟨byteVals s ++ rest⟩ := by
      apply Array.ext'; simp [byteVals_eq, rest]
    simp only [Conv.stringToBytes, Sem.run_bind, Go.run_choose, hsz, hq, Bool.false_eq_true, if_false, Result.andThen_ok, newRow, run_newObj, Sem.run_pure]
    rw [show ((ByteArray.mk ⟨s⟩).data.map fun b => Value.int .u8 (b.toNat : Int)) ++ Array.replicate ((Question.appendCap s.length 0 e).cut (w.tape w.drawn (.appendCap s.length 0 e)) - s.length) (Value.int .u8 0) = ⟨byteVals s ++ rest⟩ from harr]
    simp only [markStringish, Sem.run_bind, run_shape, Result.andThen_ok]
    have hsh : ∀ O, (World.shape? { heap := w.heap.push (.cells ⟨byteVals s ++ rest⟩ e O), tape := w.tape, drawn := w.drawn + 1, os := w.os, output := w.output } w.heap.size) = some (e, (byteVals s ++ rest).length) := by
      intro O
      simp [World.shape?]
    simp only [hsh, run_freeze, Result.andThen_ok, Sem.run_pure]
    congr 1
    unfold World.freeze pushW dw
    simp only [Nat.one_ne_zero, if_false]
    congr 1
    apply Array.ext_getElem?
    intro i
    rw [Array.getElem?_modify]
    by_cases hi : w.heap.size = i
    · subst hi; simp
    · have hi' : ¬ i = w.heap.size := fun q => hi q.symm
      simp only [if_neg hi, Array.getElem?_push, if_neg hi']
  · refine .slice m.next 0 s.length s.length ⟨w.heap.size, 0, (byteVals s ++ rest).length, some 1⟩ 0 c (Ren.add_same _ _ _) (Nat.le_refl _) ?_
    exact ⟨.inl rfl, hc, Nat.le_refl _, by rw [hN]; simp⟩

theorem convert_sim (hE : EnvTi P E) (h : MemR ρ m w) {s d : TypeId} {sd dd : TD} {x x' : Value} {r : Value × Mem} (hs : E.tdR s = .ok sd) (hd : E.tdR d = .ok dd) (e : convertD E m sd dd x = .ok r) (hx : VR ρ x x') :
    Gives ρ m w r.1 r.2 ((convert s d x').run P w) := by
  obtain ⟨a, ha, ka⟩ := tdR_ok hE hs
  obtain ⟨b, hb, kb⟩ := tdR_ok hE hd
  cases kb
  case int k =>
    have : ∃ k' n, x = .int k' n ∧ r = (.int k (k.wrap n), m) := by
      cases x <;> cases sd <;> simp only [convertD] at e <;> first | (cases e; done) | (cases e; exact ⟨_, _, rfl, rfl⟩)
    obtain ⟨k', n, rfl, rfl⟩ := this
    cases hx
    exact ⟨_, ρ, w, by simp [convert, run_underlying ha, run_underlying hb, Conv.intToInt], .int _ _, h, .refl _ _ _⟩
  case string =>
    cases ka <;> try (cases hx <;> simp [convertD] at e; done)
    case int k =>
      cases hx <;> try (simp [convertD] at e; done)
      simp only [convertD] at e; cases e
      exact ⟨_, ρ, w, by simp [convert, run_underlying ha, run_underlying hb, Conv.intToString], .string _, h, .refl _ _ _⟩
    case string =>
      cases hx <;> try (simp [convertD] at e; done)
      simp only [convertD] at e; cases e
      exact ⟨_, ρ, w, by simp [convert, run_underlying ha, run_underlying hb], .string _, h, .refl _ _ _⟩
    case slice el =>
      simp only [convertD] at e
      obtain ⟨td, e1, e2⟩ := R.bnd_ok e
      obtain ⟨hu8, e3⟩ := bif_ok e2
      obtain ⟨dd, hdd, kd⟩ := tdR_ok hE e1
      have := isU8_ok kd hu8
      subst this
      have key := bytesToStr_sim (P := P) h e3 hx
      have : ∃ o l c, x' = .slice o l c := by
        cases hx <;> first | exact ⟨_, _, _, rfl⟩ | (simp [convertSlice] at e3)
      obtain ⟨o, l, c, rfl⟩ := this
      rw [run_convert_bytes_string w s d el o l c ha hdd hb]
      exact key
  case slice el =>
    cases ka <;> try (cases hx <;> simp [convertD] at e; done)
    case string =>
    cases hx <;> try (simp [convertD] at e; done)
    case string s =>
    obtain ⟨⟨s⟩⟩ := s
    simp only [convertD] at e
    obtain ⟨td, e1, e2⟩ := R.bnd_ok e
    obtain ⟨hu8, e3⟩ := bif_ok e2
    cases e3
    obtain ⟨dd, hdd, kd⟩ := tdR_ok hE e1
    have := isU8_ok kd hu8
    subst this
    obtain ⟨v', ρ', w', q1, q2⟩ := stringToBytes_sim (P := P) h (e := el) s
    exact ⟨v', ρ', w', by simp only [convert, Sem.run_bind, run_underlying ha, run_underlying hb, run_underlying hdd, Result.andThen_ok]; exact q1, q2⟩
  all_goals (cases ka <;> cases hx <;> simp [convertD] at e)
end
end Go.Sh
