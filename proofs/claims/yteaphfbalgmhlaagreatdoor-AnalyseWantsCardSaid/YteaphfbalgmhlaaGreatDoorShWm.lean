/-
  PART OF A CLAIM's PROOF (ShWm, ShHc, ShWn, ShWo, ShNd): a shadow of the machine, or what is shown by it.
-/
import Derived.Test.YteaphfbalgmhlaaGreatDoorShHa
import Derived.Test.YteaphfbalgmhlaaGreatDoorShEa
import Derived.Deep.Slices
import Derived.Handed
import Derived.WideKeyArgs
import Derived.ChangeShapes
import Derived.LaidMore
import Derived.Test.YteaphfbalgmhlaaGreatDoorShB
import GoSem.ClaimChange
set_option linter.unusedSimpArgs false
set_option linter.unusedVariables false
/-
  The whole of a world's memory, as the shadow's: each block of cells read-only, under its own number.
-/
namespace Go.Sh
open Go.RowKit

/-- a value that stands in memory, as far as it is plain -/
def av0 (n : Nat) : Value → Value
  | .bool b => .bool b
  | .int k i => .int k i
  | .string s => .string s
  | .pointer none => .pointer none
  | .pointer (some ⟨b, o, none⟩) => if b < n then .pointer (some ⟨b, o, none⟩) else .chan none
  | .slice none l c => .slice none l c
  | .slice (some _) 0 0 => .slice (some ⟨0, 0, some 0⟩) 0 0
  | .slice (some ⟨b, o, none⟩) l c => if b < n ∧ l ≤ c then .slice (some ⟨b, o, none⟩) l c else .chan none
  | .map none => .map none
  | .nilFunc => .nilFunc
  | .nilIface => .nilIface
  | _ => .chan none
def av (n : Nat) : Value → Value
  | .agg ⟨l⟩ => .agg ⟨l.map (av0 n)⟩
  | v => av0 n v

noncomputable def worldT (n : Nat) : List Obj → Nat → T AO
  | [], _ => .nil
  | .cells c e _ :: r, i => (worldT n r (i + 1)).set i (some (.cells (c.toList.map (av0 n)) e none true 0))
  | _ :: r, i => worldT n r (i + 1)
noncomputable def worldM (w : World) : Mem := ⟨w.heap.size, worldT w.heap.size w.heap.toList 0⟩
noncomputable def worldR (w : World) : Ren := fun x => if x < w.heap.size then some ⟨x, 0, (match w.heap[x]? with | some (.cells c _ _) => c.size | _ => 0), none⟩ else none

theorem worldT_get (n : Nat) : ∀ (l : List Obj) (i x : Nat) (o : AO), (worldT n l i).get x = some o ↔ i ≤ x ∧ ∃ c e f, l[x - i]? = some (.cells c e f) ∧ o = .cells (c.toList.map (av0 n)) e none true 0 := by
  intro l
  induction l with
  | nil => intro i x o; simp [worldT, T.get_nil]
  | cons q l ih =>
    intro i x o
    have hstep : ∀ x, i + 1 ≤ x → x - i = (x - (i + 1)) + 1 := fun x h => by omega
    have other : (worldT n l (i + 1)).get x = some o ↔ i + 1 ≤ x ∧ ∃ c e f, (q :: l)[x - i]? = some (.cells c e f) ∧ o = .cells (c.toList.map (av0 n)) e none true 0 := by
      rw [ih]
      constructor
      · rintro ⟨h, c, e, f, h1, h2⟩
        exact ⟨h, c, e, f, by rw [hstep x h, List.getElem?_cons_succ]; exact h1, h2⟩
      · rintro ⟨h, c, e, f, h1, h2⟩
        rw [hstep x h, List.getElem?_cons_succ] at h1
        exact ⟨h, c, e, f, h1, h2⟩
    by_cases hc : ∃ c e f, q = .cells c e f
    · obtain ⟨c, e, f, rfl⟩ := hc
      simp only [worldT]
      rw [T.get_set]
      by_cases hx : x = i
      · subst hx
        rw [if_pos rfl]
        simp only [Nat.sub_self, List.getElem?_cons_zero, Nat.le_refl, true_and]
        constructor
        · intro h; cases h; exact ⟨c, e, f, rfl, rfl⟩
        · rintro ⟨c', e', f', h1, h2⟩; cases h1; rw [h2]
      · rw [if_neg hx, other]
        constructor
        · rintro ⟨h, r⟩; exact ⟨by omega, r⟩
        · rintro ⟨h, r⟩; exact ⟨by omega, r⟩
    · have : worldT n (q :: l) i = worldT n l (i + 1) := by
        cases q <;> first | rfl | exact absurd ⟨_, _, _, rfl⟩ hc
      rw [this, other]
      constructor
      · rintro ⟨h, r⟩; exact ⟨by omega, r⟩
      · rintro ⟨h, c, e, f, h1, h2⟩
        refine ⟨?_, c, e, f, h1, h2⟩
        by_cases hx : x = i
        · subst hx
          simp only [Nat.sub_self, List.getElem?_cons_zero, Option.some.injEq] at h1
          exact absurd ⟨c, e, f, h1⟩ hc
        · omega

theorem worldM_get {w : World} {x : Nat} {o : AO} : (worldM w).get x = some o ↔ ∃ c e f, w.heap[x]? = some (.cells c e f) ∧ o = .cells (c.toList.map (av0 w.heap.size)) e none true 0 := by
  have h := worldT_get w.heap.size w.heap.toList 0 x o
  simp only [Nat.zero_le, true_and, Nat.sub_zero, Array.getElem?_toList] at h
  exact h

section
variable {w : World}
theorem worldR_some {x : Nat} {p : Pl} (h : worldR w x = some p) : x < w.heap.size ∧ p.b = x ∧ p.d = 0 ∧ p.opn = none := by
  unfold worldR at h
  by_cases hx : x < w.heap.size
  · rw [if_pos hx] at h; cases h; exact ⟨hx, rfl, rfl, rfl⟩
  · rw [if_neg hx] at h; cases h
theorem worldR_at {x : Nat} (h : x < w.heap.size) : ∃ p, worldR w x = some p ∧ p.b = x ∧ p.d = 0 ∧ p.opn = none := ⟨_, if_pos h, rfl, rfl, rfl⟩

theorem av0_vr (v : Value) : VR (worldR w) (av0 w.heap.size v) v := by
  unfold av0
  split <;> try exact .top _
  · exact .bool _
  · exact .int _ _
  · exact .string _
  · exact .pnil
  · rename_i b o
    by_cases hb : b < w.heap.size
    · rw [if_pos hb]
      obtain ⟨p, h1, h2, h3, h4⟩ := worldR_at hb
      have := VR.ptr (ρ := worldR w) b o p h1
      rw [h2, h3] at this
      exact this
    · rw [if_neg hb]; exact .top _
  · exact .snil _ _
  · exact .bare _ _ _ _
  · rename_i b o l c _
    by_cases hb : b < w.heap.size ∧ l ≤ c
    · rw [if_pos hb]
      obtain ⟨p, h1, h2, h3, h4⟩ := worldR_at hb.1
      have := VR.slice (ρ := worldR w) b o l c p o c h1 hb.2 (by unfold RoomOk; rw [h4]; exact ⟨by rw [h3]; rfl, rfl⟩)
      rw [h2] at this
      exact this
    · rw [if_neg hb]; exact .top _
  · exact .mnil
  · exact .fnil
  · exact .inil
theorem av_vr (v : Value) : VR (worldR w) (av w.heap.size v) v := by
  have hmap : ∀ l : List Value, VRs (worldR w) (l.map (av0 w.heap.size)) l := by
    intro l
    induction l with
    | nil => exact .nil
    | cons x l ih => exact .cons _ _ _ _ (av0_vr x) ih
  unfold av
  split
  · exact .agg _ _ (hmap _)
  · exact av0_vr v
theorem avs_vr : ∀ l : List Value, VRs (worldR w) (l.map (av w.heap.size)) l := by
  intro l
  induction l with
  | nil => exact .nil
  | cons x l ih => exact .cons _ _ _ _ (av_vr x) ih

theorem worldM_rel : MemR (worldR w) (worldM w) w := by
  refine ⟨?_, ?_, ?_, ?_⟩
  · intro x o e
    obtain ⟨c, el, ⟨lo, hi⟩, h1, rfl⟩ := worldM_get.1 e
    have hx : x < w.heap.size := (Array.getElem?_eq_some_iff.1 h1).1
    obtain ⟨C⟩ := c
    refine ⟨⟨x, 0, C.length, none⟩, _, ?_, h1, ?_⟩
    · unfold worldR
      rw [if_pos hx, h1]
      rfl
    · refine .cells _ C el true 0 lo hi rfl (by simp) (fun i v hv => ?_) (.inl rfl) (fun _ => rfl)
      simp only [List.getElem?_map] at hv
      cases hq : C[i]? with
      | none => rw [hq] at hv; cases hv
      | some u =>
        rw [hq] at hv
        cases hv
        exact ⟨u, by rw [Nat.zero_add]; exact hq, av0_vr u⟩
  · intro x y o o' p q e1 e2 hne hr
    obtain ⟨c, el, f, h1, rfl⟩ := worldM_get.1 e1
    cases hr
  · intro x hx
    exact if_neg (Nat.not_lt.2 hx)
  · intro x p e
    obtain ⟨a, b, _⟩ := worldR_some e
    rw [b]; exact a
theorem worldM_owns {ρ : Ren} {b : Nat} : ¬ Owns ρ (worldM w) b := by
  rintro ⟨x, o, p, e, hr, _⟩
  obtain ⟨c, el, f, h1, rfl⟩ := worldM_get.1 e
  cases hr
theorem worldR_glob {n : Nat} (hn : n ≤ w.heap.size) : GlobR (worldR w) n := fun g hg => let ⟨p, a, b, c, _⟩ := worldR_at (w := w) (x := g) (by omega); ⟨p, a, b, c⟩

/-- WHAT THE SHADOW's LOGIC SAYS OF A CALL, SAID OF THE MACHINE, in whatever world -/
theorem law_of_spec {P : Program} {E : Env} {f : FuncId} {args : List Value} {Q : Value → Mem → Prop} (hn : E.ng ≤ w.heap.size) (h : Spec P E f (args.map (av w.heap.size)) (worldM w) Q) (hQ : ∀ v m', Q v m' → v = .bool true) :
    Calls P f ⟨args⟩ w fun e w' => e = .returned (.bool true) ∧ Below w.heap.size w w' := by
  obtain ⟨v, m', hq, hd⟩ := h
  have := hQ v m' hq
  subst this
  refine Calls.mono (hd worldM_rel (worldR_glob hn) (avs_vr args)) fun e w' hr => ?_
  obtain ⟨v', ρ', rfl, hv, hm, hx⟩ := hr
  cases hv
  exact ⟨rfl, hx.os, hx.tape, hx.output, hx.size, fun k hk => hx.keep k hk worldM_owns⟩

/-- cells, read -/
theorem load_world {b o : Nat} {c : Array Value} {el : TypeId} {f : Nat × Nat} (h : w.heap[b]? = some (.cells c el f)) (n : Nat) (hn : o + n ≤ c.size) : loadC (worldM w) ⟨b, o, none⟩ n = .ok (((c.toList.drop o).take n).map (av0 w.heap.size)) := by
  have hg : (worldM w).get b = some (.cells (c.toList.map (av0 w.heap.size)) el none true 0) := worldM_get.2 ⟨c, el, f, h, rfl⟩
  simp only [loadC, hg, loadO, dropN_eq]
  have : takeN n (List.drop o (c.toList.map (av0 w.heap.size))) = some (((c.toList.drop o).take n).map (av0 w.heap.size)) := by
    have key : ∀ (n : Nat) (l : List Value), n ≤ l.length → takeN n l = some (l.take n) := by
      intro n
      induction n with
      | zero => intro l _; rw [takeN_zero]; simp
      | succ n ih =>
        intro l hl
        cases l with
        | nil => simp at hl
        | cons x l => rw [takeN_cons, ih l (by simpa using hl)]; simp
    rw [key n _ (by simp; omega)]
    simp
  rw [this]; rfl
end

/-- a closed run, by its contract, wherever the variables lie as they are told -/
theorem globs_of {ρ : Ren} {m : Mem} {w : World} {n : Nat} {l : List (Nat × List Value × TypeId)} (hm : MemR ρ m w) (hg : GlobR ρ n) (hl : ∀ g c e, (g, c, e) ∈ l → g < n ∧ m.get g = some (.cells c e none true 0)) (hp : ∀ g c e, (g, c, e) ∈ l → ∀ v ∈ c, ∃ k n, v = .int k n) : GlobsAt w n l := by
  refine ⟨?_, fun g c e h => ?_⟩
  · cases n with
    | zero => exact Nat.zero_le _
    | succ n =>
      obtain ⟨p, h1, h2, _⟩ := hg n (Nat.lt_succ_self _)
      have := hm.lt n p h1
      rw [h2] at this
      exact this
  · obtain ⟨h1, h2⟩ := hl g c e h
    obtain ⟨p, O, q1, q2, q3⟩ := hm.obj g _ h2
    obtain ⟨p', r1, r2, r3⟩ := hg g h1
    rw [q1] at r1; cases r1
    obtain ⟨b, d, N, opn⟩ := p
    simp only at r2 r3
    subst r2; subst r3
    generalize ho : (none : Option Nat) = on at q3
    cases q3 with
    | cells c C el ro fz lo hi hn hd hc hf h0 =>
      refine ⟨h1, C, (lo, hi), q2, fun i v hv => ?_⟩
      obtain ⟨v', a1, a2⟩ := hc i v hv
      obtain ⟨k, n2, rfl⟩ := hp _ _ _ h v (List.mem_of_getElem? hv)
      cases a2
      exact ⟨by rw [Nat.zero_add] at a1; exact a1, k, n2, rfl⟩

theorem spec_alive {P : Program} {E : Env} {f : FuncId} {m : Mem} {l : List (Nat × List Value × TypeId)} (ha : ∀ w, GlobsAt w E.ng l → Alive P f w) (hl : ∀ g c e, (g, c, e) ∈ l → g < E.ng ∧ m.get g = some (.cells c e none true 0)) (hp : ∀ g c e, (g, c, e) ∈ l → ∀ v ∈ c, ∃ k n, v = .int k n) :
    Spec P E f [] m (fun v m' => v = .bool true ∧ m' = m) := by
  refine ⟨.bool true, m, ⟨rfl, rfl⟩, fun {ρ w args'} hm hg hargs => ?_⟩
  cases hargs
  refine Calls.mono (ha w (globs_of hm hg hl hp)) fun e w' ⟨he, hb⟩ => ?_
  exact ⟨.bool true, ρ, he, .bool true, hm.below hb, .below hb⟩
end Go.Sh

/-
  Frames that are entered, out of what is known of a call; regions that draw their order, as a computation.
-/
namespace Go.Sh
open Go.RowKit

section
variable {P : Program} {E : Env}

/-- a frame that is entered is the machine's own -/
theorem entered_is (hE : EnvOk P E) {f : FuncId} {args : List Value} {a : AF} (he : enterF E f args .normal = .ok a) {ρ : Ren} {base : List Frame} {m : Mem} {fr : Frame} {fs : List Frame} {w : World} (hs : SR E ρ base a [] m fr fs w) :
    ∃ args', VRs ρ args args' ∧ fr = Frame.enter P f ⟨args'⟩ .normal ∧ fs = base := by
  unfold enterF at he
  obtain ⟨fn, e1, e2⟩ := R.bnd_ok he
  obtain ⟨bd, e3, e4⟩ := R.bnd_ok e2
  cases e4
  obtain ⟨hf, _⟩ := hE.fn f fn (need_ok e1)
  have hb := need_ok e3
  obtain ⟨hfr, hcs, hm, hg⟩ := hs
  obtain ⟨ffn, tmps, td, fds, fmd, fkd, ro⟩ := fr
  obtain ⟨h1, h2, h3, h4, h5, h6, h7⟩ := hfr
  simp only at h1 h2 h3 h4 h5 h6 h7
  subst h1; subst h6
  cases h5; cases h4; cases h7; cases hcs
  cases h3 with
  | cons _ x' _ k' hx hk =>
    cases hx; cases hk
    have hsz : tmps.size = max fn.ntmps args.length := h2.size
    have hat : ∀ t, VR ρ ((setTs args 0 .nil).at t) (tmps.getD t undef) := h2.at_
    have hlen : args.length ≤ tmps.size := by omega
    refine ⟨tmps.toList.take args.length, ?_, ?_, rfl⟩
    · refine VRs.of_get (by simp; omega) fun i v hv => ?_
      have hi : i < args.length := (List.getElem?_eq_some_iff.1 hv).1
      have := hat i
      rw [at_setTs, if_pos (by omega), Nat.sub_zero] at this
      rw [List.getD_eq_getElem?_getD, hv, Option.getD_some] at this
      refine ⟨tmps.getD i undef, ?_, this⟩
      rw [List.getElem?_take, if_pos hi, Array.getElem?_toList, Array.getD_eq_getD_getElem?]
      rw [Array.getElem?_eq_getElem (by omega)]
      simp
    · simp only [Frame.enter, hf, hb, Option.map_some, Option.getD_some, Option.bind_some]
      congr 1
      apply Array.ext
      · simp only [Array.size_append, List.size_toArray, List.length_take, Array.length_toList, Array.size_replicate]
        omega
      · intro i hi1 hi2
        by_cases hi : i < args.length
        · rw [Array.getElem_append_left (by simp; omega)]
          simp
        · rw [Array.getElem_append_right (by simp; omega)]
          have := hat i
          rw [at_setTs, if_neg (by omega), at_nil] at this
          have hq : tmps.getD i undef = tmps[i] := by rw [Array.getD_eq_getD_getElem?, Array.getElem?_eq_getElem hi1]; simp
          rw [hq] at this
          rw [Array.getElem_replicate]
          generalize tmps[i] = u at this
          cases this with
          | tuple l l' hl => cases hl; rfl

theorem sound_of_spec (hE : EnvOk P E) {f : FuncId} {args : List Value} {a : AF} {m m' : Mem} {v : Value} (he : enterF E f args .normal = .ok a) (h : SpecD P E f args m v m') : AtD P E a m v m' := by
  intro base ρ w fr fs hs
  obtain ⟨args', h1, h2, h3⟩ := entered_is hE he hs
  obtain ⟨en, w', f', ⟨v', ρ', rfl, r4, r5, r6⟩, r1, r3, r2⟩ := h hs.m hs.g h1 base
  have hfn : (Frame.enter P f ⟨args'⟩ .normal).fn = a.fn := by rw [← h2]; exact hs.fr.fn
  subst h2; subst h3
  exact ⟨ρ', f', w', v', r1, r2, r3.trans hfn, r4, r5, r6⟩
theorem At.of_spec (hE : EnvOk P E) {f : FuncId} {args : List Value} {a : AF} {m : Mem} {Q : Value → Mem → Prop} (he : enterF E f args .normal = .ok a) (h : Spec P E f args m Q) : At P E a m Q := by
  obtain ⟨v, m', hq, hd⟩ := h
  exact ⟨v, m', hq, sound_of_spec hE he hd⟩

/-! one call in a region that draws -/
open Classical in
noncomputable def run1 (E : Env) (f : FuncId) (args : List Value) (m : Mem) (v : Value) (m' : Mem) (S : AM) : R (Value × Mem) :=
  if ∃ a, enterF E f args .normal = .ok a ∧ S = ⟨a, [], m⟩ then .ok (v, m') else .no 0
noncomputable def run0 (_ : AM) : R (Value × Mem) := .no 0
theorem run0_ok : RunOk P E run0 := by intro base ρ a as m m' w f fs v e _; cases e
theorem run1_ok (hE : EnvOk P E) {f : FuncId} {args : List Value} {m : Mem} {v : Value} {m' : Mem} (h : SpecD P E f args m v m') : RunOk P E (run1 E f args m v m') := by
  intro base ρ a as m1 m2 w fr fs u e hs
  unfold run1 at e
  split at e
  · rename_i hx
    obtain ⟨a', h1, h2⟩ := hx
    cases h2
    cases e
    exact sound_of_spec hE h1 h hs
  · cases e
theorem run1_call {f : FuncId} {args : List Value} {m : Mem} {v : Value} {m' : Mem} {β : Type} {fd : Func} {c : Code} (hf : E.fn f = some fd) (hb : fd.body = some c) (g : Value × Mem → R β) :
    ((enterF E f args .normal).bnd fun fr => (run1 E f args m v m' ⟨fr, [], m⟩).bnd g) = g (v, m') := by
  have he : enterF E f args .normal = .ok ⟨f, max fd.ntmps args.length, setTs args 0 .nil, [.code c], [], .run, .normal, none⟩ := by simp only [enterF, hf, need, R.bnd, hb]
  rw [he]
  simp only [bnd_ok']
  have : run1 E f args m v m' ⟨⟨f, max fd.ntmps args.length, setTs args 0 .nil, [.code c], [], .run, .normal, none⟩, [], m⟩ = .ok (v, m') := by
    unfold run1
    rw [if_pos ⟨_, he, rfl⟩]
  rw [this]; rfl

theorem binds_eq (on : Nat) (g : Ground) : Region.binds .any ⟨on, g⟩ = (match g with | .textOnly _ => false | .gcOnly _ => false | _ => true) := by cases g <;> rfl
theorem belowA_none (n : Nat) : belowA n none = true := rfl
theorem belowA_some (n b o : Nat) (s : Option Nat) : belowA n (some ⟨b, o, s⟩) = Nat.blt b n := rfl
noncomputable def DWv (f : T Value → Mem → Prop) : R Dr → Prop
  | .ok d => f d.tm (putMany d.pend d.m)
  | .no _ => False
theorem At.drawI {fn : FuncId} {nt : Nat} {tm : T Value} {ds : List Deferred} {kd : CallKind} {aro : Option Nat} {m : Mem} {Q : Value → Mem → Prop} {k : List AI} {id : Nat} {ops : Array Oper} {r : AM → R (Value × Mem)} (hE : EnvOk P E) (hr : RunOk P E r) (hok : regionOk ops.toList = true)
    {bs : List (List Nat)} (hbs : aheadL ops.toList [] = bs) (h : DWv (fun tm' m' => At P E ⟨fn, nt, tm', k, ds, .run, kd, aro⟩ m' Q) (drawL E r ops bs nt ops.toList 0 ⟨tm, m, [], [], []⟩)) : At P E ⟨fn, nt, tm, .code (.region id ops true) :: k, ds, .run, kd, aro⟩ m Q := by
  subst hbs
  cases hd : drawL E r ops (aheadL ops.toList []) nt ops.toList 0 ⟨tm, m, [], [], []⟩ with
  | no n => rw [hd] at h; exact h.elim
  | ok d =>
    rw [hd] at h
    refine At.draw (p := (d.tm, putMany d.pend d.m)) hE hr ?_ h
    simp only [drawV, hok, cond_true, hd, bnd_ok']
end

theorem callF_go {E : Env} {m : Mem} {g : FuncId} {args : List Value} {fd : Func} (hf : E.fn g = some fd) (hp : E.prim g = none) (hb : fd.body.isSome = true) : callF E m g args = .ok (.enter g args m) := by
  unfold callF
  rw [hf]
  simp only [need, bnd_ok', hp, callP]
  cases hc : fd.body with
  | none => rw [hc] at hb; cases hb
  | some c => rfl

/-! memory that grows -/
/-- what lay there lies there -/
def Keeps (m m' : Mem) : Prop := m.next ≤ m'.next ∧ ∀ x, x < m.next → m'.get x = m.get x
theorem Keeps.refl (m : Mem) : Keeps m m := ⟨Nat.le_refl _, fun _ _ => rfl⟩
theorem Keeps.trans {a b c : Mem} (h : Keeps a b) (k : Keeps b c) : Keeps a c := ⟨Nat.le_trans h.1 k.1, fun x hx => (k.2 x (Nat.lt_of_lt_of_le hx h.1)).trans (h.2 x hx)⟩
theorem Keeps.new (m : Mem) (o : AO) : Keeps m (m.new o) := ⟨by rw [Mem.next_new]; omega, fun x hx => by rw [Mem.get_new, if_neg (by omega)]⟩
theorem Keeps.put {m0 m : Mem} (h : Keeps m0 m) {x : Nat} (o : AO) (hx : m0.next ≤ x) : Keeps m0 (m.put x o) := ⟨by rw [Mem.next_put]; exact h.1, fun y hy => by rw [Mem.get_put, if_neg (by omega)]; exact h.2 y hy⟩
theorem Keeps.del {m0 m : Mem} (h : Keeps m0 m) {x : Nat} (hx : m0.next ≤ x) : Keeps m0 (m.del x) := ⟨by rw [Mem.next_del]; exact h.1, fun y hy => by rw [Mem.get_del, if_neg (by omega)]; exact h.2 y hy⟩
theorem Keeps.also {m0 m : Mem} (h : Keeps m0 m) (o : AO) : Keeps m0 (m.new o) := h.trans (.new m o)

theorem loadC_keeps {m m' : Mem} (h : Keeps m m') {x o n : Nat} (hx : x < m.next) : loadC m' ⟨x, o, none⟩ n = loadC m ⟨x, o, none⟩ n := by
  simp only [loadC, h.2 x hx]
theorem loadC_sub {m : Mem} {x o n : Nat} {l : List Value} (h : loadC m ⟨x, o, none⟩ n = .ok l) (j k : Nat) (hjk : j + k ≤ n) : loadC m ⟨x, o + j, none⟩ k = .ok ((l.drop j).take k) := by
  simp only [loadC] at h ⊢
  cases hg : m.get x with
  | none => rw [hg] at h; cases h
  | some q =>
    rw [hg] at h
    cases q <;> try (cases h; done)
    rename_i c e op ro fz
    simp only [loadO, dropN_eq] at h ⊢
    have := need_ok h
    obtain ⟨h1, h2⟩ := takeN_some this
    subst h1
    have key : ∀ (n : Nat) (l : List Value), n ≤ l.length → takeN n l = some (l.take n) := by
      intro n
      induction n with
      | zero => intro l _; rw [takeN_zero]; simp
      | succ n ih =>
        intro l hl
        cases l with
        | nil => simp at hl
        | cons x l => rw [takeN_cons, ih l (by simpa using hl)]; simp
    simp only [List.length_drop] at h2
    rw [key k _ (by simp; omega)]
    simp only [need]
    congr 1
    rw [List.drop_take, List.take_take, List.drop_drop, Nat.min_eq_left (by omega)]

/-- a slice of n elements of so many cells -/
def Elems (m : Mem) (v : Value) (sz n : Nat) (c : Nat → List Value) : Prop :=
  ∃ a cap, v = .slice a n cap ∧ (∀ x o s, a = some ⟨x, o, s⟩ → x < m.next) ∧ ∀ i, i < n → ∃ x o, a = some ⟨x, o, none⟩ ∧ loadC m ⟨x, o + i * sz, none⟩ sz = .ok (c i)
theorem Elems.keeps {m m' : Mem} (hk : Keeps m m') {v : Value} {sz n : Nat} {c : Nat → List Value} (h : Elems m v sz n c) : Elems m' v sz n c := by
  obtain ⟨a, cap, h1, h2, h3⟩ := h
  refine ⟨a, cap, h1, fun x o s e => Nat.lt_of_lt_of_le (h2 x o s e) hk.1, fun i hi => ?_⟩
  obtain ⟨x, o, e, q⟩ := h3 i hi
  exact ⟨x, o, e, by rw [loadC_keeps hk (h2 x o none e)]; exact q⟩
/-- a slice of texts -/
def Strs (m : Mem) (v : Value) (l : List (List UInt8)) : Prop := Elems m v 1 l.length fun i => [bstr (l.getD i [])]
theorem Strs.keeps {m m' : Mem} (hk : Keeps m m') {v : Value} {l : List (List UInt8)} (h : Strs m v l) : Strs m' v l := Elems.keeps hk h

theorem eqL_dec : ∀ (a b : List UInt8), eqL a b = decide (a = b) := by
  intro a
  induction a with
  | nil => intro b; cases b <;> simp [eqL]
  | cons x a ih =>
    intro b
    cases b with
    | nil => simp [eqL]
    | cons y b =>
      simp only [eqL]
      cases h : Nat.beq x.toNat y.toNat with
      | true =>
        have := UInt8.toNat_inj.1 (Nat.eq_of_beq_eq_true h)
        subst this
        simp only [cond_true, ih b]
        by_cases hab : a = b
        · subst hab; simp
        · simp [hab]
      | false =>
        have hne : x ≠ y := fun q => by subst q; simp at h
        simp [hne]
end Go.Sh

/-
  What a law's condition says of its arguments, said of the shadow's memory: slices, texts.
-/
namespace Go.Sh
open Go.RowKit

theorem av0_slice {n b o l c : Nat} (hb : b < n) (hl : l ≤ c) (hc : 0 < c) : av0 n (.slice (some ⟨b, o, none⟩) l c) = .slice (some ⟨b, o, none⟩) l c := by
  have hi : (if b < n ∧ l ≤ c then Value.slice (some ⟨b, o, none⟩) l c else .chan none) = .slice (some ⟨b, o, none⟩) l c := if_pos ⟨hb, hl⟩
  cases c with
  | zero => omega
  | succ c => cases l <;> exact hi
theorem av0_bare (n : Nat) (a : Addr) : av0 n (.slice (some a) 0 0) = .slice (some ⟨0, 0, some 0⟩) 0 0 := rfl
theorem av0_bstr (n : Nat) (l : List UInt8) : av0 n (bstr l) = bstr l := rfl
theorem bstr_of (s : ByteArray) : Value.string s = bstr s.data.toList := by cases s; rfl

section
variable {w : World}
theorem cell_parts {a : Addr} {v : Value} (h : w.cell? a = some v) : a.spot = none ∧ ∃ c el f, w.heap[a.block]? = some (.cells c el f) ∧ c[a.off]? = some v := by
  unfold World.cell? at h
  split at h
  · rename_i c el f hb
    split at h
    · cases h
    · rename_i hs
      refine ⟨?_, c, el, f, hb, h⟩
      cases hq : a.spot with
      | none => rfl
      | some s => rw [hq] at hs; exact absurd rfl hs
  · cases h
theorem add_off (a : Addr) (i : Nat) : (a.add i).block = a.block ∧ (a.add i).off = a.off + i := by
  unfold Addr.add
  by_cases h : i = 0
  · subst h; simp
  · rw [if_neg h]; exact ⟨rfl, rfl⟩
/-- cells that a condition reads -/
theorem loadW {a : Addr} {n base : Nat} {cs : List Value} (h : w.cells? base a n = some cs) (hn : 0 < n) : a.spot = none ∧ a.block < w.heap.size ∧ loadC (worldM w) ⟨a.block, a.off, none⟩ n = .ok (cs.map (av0 w.heap.size)) := by
  obtain ⟨_, hlen, hc⟩ := World.cells?_some h
  have key : ∀ i, i < n → ∃ v, cs[i]? = some v ∧ w.cell? (a.add i) = some v := fun i hi => by
    have := hc i hi
    rw [List.getElem?_eq_getElem (by omega)] at this
    exact ⟨_, List.getElem?_eq_getElem (by omega), this⟩
  obtain ⟨v0, _, h0⟩ := key 0 hn
  have ha0 : a.add 0 = a := by unfold Addr.add; rw [if_pos rfl]
  rw [ha0] at h0
  obtain ⟨hs, c, el, f, hb, _⟩ := cell_parts h0
  have hbl : a.block < w.heap.size := (Array.getElem?_eq_some_iff.1 hb).1
  have each : ∀ i, i < n → c[a.off + i]? = cs[i]? := fun i hi => by
    obtain ⟨v, h1, h2⟩ := key i hi
    obtain ⟨_, c', el', f', hb', hv⟩ := cell_parts h2
    rw [(add_off a i).1, hb] at hb'
    cases hb'
    rw [(add_off a i).2] at hv
    rw [hv, h1]
  have hsz : a.off + n ≤ c.size := by
    obtain ⟨v, h1, _⟩ := key (n - 1) (by omega)
    have := each (n - 1) (by omega)
    rw [h1] at this
    have := (Array.getElem?_eq_some_iff.1 this).1
    omega
  refine ⟨hs, hbl, ?_⟩
  rw [load_world hb n hsz]
  congr 2
  apply List.ext_getElem?
  intro i
  by_cases hi : i < n
  · rw [List.getElem?_take, if_pos hi, List.getElem?_drop, Array.getElem?_toList, each i hi]
  · rw [List.getElem?_take, if_neg hi, List.getElem?_eq_none (by omega)]

variable {H : Type} {enc : TypeId × Value → H} {P : Program} {held : Bool}
theorem Elems.map {m : Mem} {v : Value} {k n : Nat} {f g : Nat → List Value} (h : Elems m v k n f) (hfg : ∀ i, i < n → f i = g i) : Elems m v k n g := by
  obtain ⟨a, cap, h1, h2, h3⟩ := h
  refine ⟨a, cap, h1, h2, fun i hi => ?_⟩
  rw [← hfg i hi]
  exact h3 i hi

/-- A SLICE THAT A CONDITION READS -/
theorem elems_of {t e k fuel : Nat} {cv : Value} {x : DataW H × List MemPlace} (ht : P.underlying t = some (.slice e)) (hk : P.cellsOf e = k) (hk0 : 0 < k) (hsz : 0 < w.heap.size) (h : DataW.trod enc P w 0 (fun _ => true) held fuel t [cv] = some x) :
    ∃ (n : Nat) (cs : Nat → List Value), n ≤ maxLen ∧ Elems (worldM w) (av0 w.heap.size cv) k n (fun i => (cs i).map (av0 w.heap.size)) ∧ ∀ i, i < n → (cs i).length = k ∧ ∃ f y, DataW.trod enc P w 0 (fun _ => true) held f e (cs i) = some y := by
  have hnx : (worldM w).next = w.heap.size := rfl
  rcases Go.Deep.open_slice ht h with ⟨hcs, _⟩ | ⟨a, len, cap, m, fu, D, Pl, hcs, _, hl, hm, hmm, _, hx⟩
  · cases hcs
    exact ⟨0, fun _ => [], Nat.zero_le _, ⟨none, 0, rfl, fun x o s e => (by cases e), fun i hi => absurd hi (Nat.not_lt_zero _)⟩, fun i hi => absurd hi (Nat.not_lt_zero _)⟩
  · cases hcs
    rw [if_pos rfl] at hmm
    subst hmm
    by_cases hc : m = 0
    · subst hc
      obtain rfl : len = 0 := by omega
      refine ⟨0, fun _ => [], Nat.zero_le _, ⟨_, _, av0_bare _ _, fun x o s e => (by cases e; exact hsz), fun i hi => absurd hi (Nat.not_lt_zero _)⟩, fun i hi => absurd hi (Nat.not_lt_zero _)⟩
    · have hget : ∀ i, i < m → ∃ cs', w.cells? 0 (a.add (i * k)) k = some cs' ∧ DataW.trod enc P w 0 (fun _ => true) held fu e cs' = some (D i, Pl i) := fun i hi => by rw [← hk]; exact hx i hi
      obtain ⟨c0, h0, _⟩ := hget 0 (by omega)
      have ha0 : a.add (0 * k) = a := by unfold Addr.add; rw [Nat.zero_mul, if_pos rfl]
      rw [ha0] at h0
      obtain ⟨hs, hb, _⟩ := loadW h0 hk0
      obtain ⟨ab, ao, asp⟩ := a
      simp only at hs hb
      subst hs
      have hv := av0_slice (o := ao) hb hl (show 0 < m by omega)
      have each : ∀ i, i < len → ∃ cs' : List Value, cs'.length = k ∧ loadC (worldM w) ⟨ab, ao + i * k, none⟩ k = .ok (cs'.map (av0 w.heap.size)) ∧ ∃ f y, DataW.trod enc P w 0 (fun _ => true) held f e cs' = some y := fun i hi => by
        obtain ⟨cs', h1, h2⟩ := hget i (by omega)
        obtain ⟨_, _, h3⟩ := loadW h1 hk0
        rw [(add_off _ _).1, (add_off _ _).2] at h3
        exact ⟨cs', (World.cells?_some h1).2.1, h3, _, _, h2⟩
      obtain ⟨cs, hcs⟩ := Go.Deep.choose_lt each
      exact ⟨len, cs, by omega, ⟨some ⟨ab, ao, none⟩, m, hv, fun x o s e => (by cases e; exact hb), fun i hi => ⟨ab, ao, rfl, (hcs i hi).2.1⟩⟩, fun i hi => ⟨(hcs i hi).1, (hcs i hi).2.2⟩⟩

theorem getD_range {α : Type} (f : Nat → α) (d : α) (n i : Nat) (hi : i < n) : ((List.range n).map f).getD i d = f i := by
  rw [List.getD_eq_getElem?_getD, List.getElem?_map, List.getElem?_range hi]; rfl

/-- texts -/
theorem strs_of {t e fuel : Nat} {cv : Value} {x : DataW H × List MemPlace} (ht : P.underlying t = some (.slice e)) (he : P.underlying e = some .string) (hk : P.cellsOf e = 1) (hsz : 0 < w.heap.size) (h : DataW.trod enc P w 0 (fun _ => true) held fuel t [cv] = some x) :
    ∃ l : List (List UInt8), l.length ≤ maxLen ∧ Strs (worldM w) (av0 w.heap.size cv) l := by
  obtain ⟨n, cs, hn, hE, hcs⟩ := elems_of ht hk (Nat.zero_lt_one) hsz h
  obtain ⟨f, hf⟩ := Go.Deep.choose_lt (α := List UInt8) (n := n) (p := fun i s => cs i = [bstr s]) fun i hi => by
    obtain ⟨_, f, y, hy⟩ := hcs i hi
    obtain ⟨s, h1, _, _⟩ := DataW.trod_string he hy
    exact ⟨s.data.toList, by rw [h1, bstr_of]⟩
  refine ⟨(List.range n).map f, by simpa using hn, ?_⟩
  unfold Strs
  simp only [List.length_map, List.length_range]
  refine hE.map fun i hi => ?_
  rw [hf i hi, getD_range f [] n i hi]; rfl
end
end Go.Sh

/-
  A law's row, out of its function's contract: it gives true and leaves all that lay there.
-/
namespace Go.Sh
open Go.RowKit Go.ChangeShapes

section
variable {H : Type} {enc : TypeId × Value → H} {P : Program}
theorem all_stay (hl : laidOutB P = true) {W W' : World} (hb : Below W.heap.size W W') {sp : Nat → Bool} : ∀ {ts : List TypeId} {vs : List Value} {ds : List (DataW H)} {ps : List MemPlace}, (∀ t ∈ ts, P.readableRec t = true ∧ t < P.types.size) → DataW.TrodAll enc P W 0 (fun _ => true) true ts vs ds ps →
    (∀ x ∈ ps, x.block < W.heap.size ∧ sp x.block = true) → DataW.TrodAll enc P W' 0 sp true ts vs ds ps
  | [], [], [], _, _, h, _ => h
  | t :: ts, v :: vs, d :: ds, ps, hT, ⟨p, q, h1, h2, e⟩, hs => by
    refine ⟨p, q, ?_, all_stay hl hb (fun t ht => hT t (List.mem_cons_of_mem _ ht)) h2 (fun x hx => hs x (by rw [e]; exact List.mem_append_right _ hx)), e⟩
    obtain ⟨a, b⟩ := hT t List.mem_cons_self
    have hp : ∀ x ∈ p, x.block < W.heap.size ∧ sp x.block = true := fun x hx => hs x (by rw [e]; exact List.mem_append_left _ hx)
    exact Go.WideElems.Trod_stays hl a b h1 (fun x hx => hb.same (hp x hx).1) (fun x hx => (hp x hx).2)
theorem trod_len : ∀ {ts : List TypeId} {vs : List Value} {ds : List (DataW H)} {ps : List MemPlace} {W : World}, DataW.TrodAll enc P W 0 (fun _ => true) true ts vs ds ps → ds.length = ts.length
  | [], [], [], _, _, _ => rfl
  | _ :: _, _ :: _, _ :: _, _, _, ⟨_, _, _, h2, _⟩ => by simp only [List.length_cons, trod_len h2]
end

/-- A LAW's LIFT -/
theorem handed_law {H : Type} {enc : TypeId × Value → H} {C : Checked} {os : Os} {f : FuncId} {fn : Func} {s : ChangeSpec} {X : World → Array Value → Prop} {bt : TypeId}
    (hX : ∀ (w w' : World) (args : Array Value), w.heap = w'.heap → X w args → X w' args)
    (own : ownKnob C.prog.godebug = none) (started : os.Started) (noInit : C.prog.inits.idxOf? f = none) (hfn : C.prog.funcs[f]? = some fn)
    (hvars : s.vars = []) (hres : ∀ ds : List (DataW H), ds.length = fn.params.toList.length → (s.fn H ds).results = [.lit (.bool true)] ∧ (s.fn H ds).args = ds ∧ (s.fn H ds).vars = [])
    (hrt : fn.resultTypes = #[bt]) (hbt : C.prog.underlying bt = some .bool) (hl : laidOutB C.prog = true) (hread : ∀ t ∈ fn.params.toList, C.prog.readableRec t = true ∧ t < C.prog.types.size)
    (witness : ∃ (w : World) (tape : Tape) (i : Input), w.os = os ∧ (w.forCall tape i).Shaped C.prog ∧ i.vars = [] ∧ Input.okWide C.prog (w.forCall tape i) .any w.heap.size f i ∧
      ((s.pre enc C.prog fn [] false (w.forCall tape i).memory i.args ∧ X (w.forCall tape i).memory i.args) ∧ sizedMet enc C.prog fn (OpenSpec.ofChange s) false (w.forCall tape i).memory i.args) ∧ ({} : Assume).holds C.prog (lone (Frame.enter C.prog f i.args .normal) [] (w.forCall tape i)))
    (contract : ∀ (W : World) (base : Nat) (args : Array Value) (ds : List (DataW H)) (ps : List MemPlace), W.ShapedOpen C.prog →
      (∀ (j : Nat) t v, fn.params[j]? = some t → args[j]? = some v → Value.okWide C.prog W .any base t v) →
      DataW.TrodAll enc C.prog W 0 (fun _ => true) true fn.params.toList args.toList ds ps → X W args →
      Calls C.prog f args W fun e W' => e = .returned (.bool true) ∧ Below W.heap.size W W') :
    ReturnsInHanded {} C os f .any (fun w args => (s.pre enc C.prog fn [] false w args ∧ X w args) ∧ sizedMet enc C.prog fn (OpenSpec.ofChange s) false w args) (s.post enc C.prog fn false true false false) := by
  refine returnsInHanded_of_calls own started noInit witness ?_
  intro w tape i _ hsh _ hok hpre _
  obtain ⟨_, _, _, fn', hfn', _, _, _, _, hval⟩ := hok
  have e : fn' = fn := Option.some.inj (hfn'.symm.trans hfn)
  subst e
  obtain ⟨⟨⟨ds, gs, before, hw, hc⟩, hx⟩, hz⟩ := hpre
  have hw' := DataW.Whole.of_heap (w' := w.forCall tape i) (by rfl) hw
  have hW := hw'
  obtain ⟨p, q, hA, hV, rfl, _, _⟩ := hw'
  rw [hvars] at hV
  obtain ⟨rfl, rfl⟩ := trodVars_none hV
  refine (contract (w.forCall tape i) w.heap.size i.args ds p hsh hval hA (hX _ _ _ (by rfl) hx)).mono fun e W' ⟨he, hb⟩ => ?_
  subst he
  have hlt : ∀ x ∈ p ++ [], x.block < (w.forCall tape i).heap.size := fun x hx => hW.lt x hx
  obtain ⟨r1, r2, r3⟩ := hres ds (trod_len hA)
  refine ChangeSpec.post_blind ⟨ds, [], p ++ [], [], p, [], hW, ?_, ?_, ?_, hb.frame _, fun h => by cases h⟩
  · rw [List.append_nil, r1, hrt]
    exact trodAll_mk1 (shut_bool hbt true)
  · rw [List.append_nil, r2]
    exact all_stay hl hb hread hA fun x hx => ⟨hlt x (List.mem_append_left _ hx), by simpa using hlt x (List.mem_append_left _ hx)⟩
  · rw [List.append_nil, hvars, r3]
    rfl

/-- the package-level variables' own types -/
theorem shape_at {P : Program} {w : World} (h : w.ShapedOpen P) {g : Nat} {t : TypeId} (hg : g < P.globals.size) (ht : ((((begin P (fun _ _ => 0) default).world.heap[g]?).bind Obj.row?).map (·.2)) = some t) :
    ∃ cs, w.heap[g]? = some (.cells cs t (0, 0)) := by
  cases hr : ((begin P (fun _ _ => 0) default).world.heap[g]?).bind Obj.row? with
  | none => rw [hr] at ht; cases ht
  | some z =>
    rw [hr] at ht
    obtain ⟨zero, t'⟩ := z
    cases ht
    obtain ⟨cs, h1, _⟩ := h.1 g zero _ hg hr
    exact ⟨cs, h1⟩
end Go.Sh

/-
  No place twice, by a trie.
-/
namespace Go.Sh
def plCode : MemPlace → Nat
  | .cell b off => b * 65536 + off
  | .map b => b * 65536 + 65535
noncomputable def onceL : List MemPlace → T Unit → Bool
  | [], _ => true
  | x :: r, t => match t.get (plCode x) with
    | some _ => false
    | none => onceL r (t.set (plCode x) (some ()))
theorem onceL_ok : ∀ (l : List MemPlace) (t : T Unit), onceL l t = true → l.Nodup ∧ ∀ x ∈ l, t.get (plCode x) = none := by
  intro l
  induction l with
  | nil => intro t _; exact ⟨.nil, fun x h => by cases h⟩
  | cons x l ih =>
    intro t h
    simp only [onceL] at h
    split at h
    · cases h
    · rename_i hx
      obtain ⟨h1, h2⟩ := ih _ h
      refine ⟨List.nodup_cons.2 ⟨fun hm => ?_, h1⟩, fun y hy => ?_⟩
      · have := h2 x hm
        rw [T.get_set, if_pos rfl] at this
        cases this
      · rcases List.mem_cons.1 hy with rfl | hy
        · exact hx
        · have := h2 y hy
          rw [T.get_set] at this
          by_cases hq : plCode y = plCode x
          · rw [if_pos hq] at this; cases this
          · rw [if_neg hq] at this; exact this
theorem once_rows {α : Type} {q : Option (α × List MemPlace)} {f : List MemPlace → Bool} (h1 : q.map (fun x => onceL x.2 .nil) = some true) (h2 : q.map (fun x => f x.2) = some true) : q.map (fun x => decide x.2.Nodup && f x.2) = some true := by
  cases q with
  | none => cases h1
  | some p =>
    simp only [Option.map_some, Option.some.injEq] at h1 h2 ⊢
    rw [h2, Bool.and_true]
    exact decide_eq_true (onceL_ok _ _ h1).1
end Go.Sh
