/-
  PART OF A CLAIM's PROOF (AwH): a shadow of the machine, or what is shown by it.
-/
import Derived.Test.YteaphfbalgmhlaaGreatDoorAwG
import Derived.Test.YteaphfbalgmhlaaGreatDoorShWm
import Derived.Test.YteaphfbalgmhlaaGreatDoorFxAll
import Derived.Lib.LaidTab
set_option linter.unusedSimpArgs false
set_option linter.unusedVariables false
namespace Go.Sh
open Go.Proofs Go.RowKit Go.ChangeShapes
set_option maxRecDepth 100000

/-! what the arguments read as, said of the shadow's memory -/
theorem cl1 : Tryz.prog.cellsOf 9 = 1 := by kernel_rfl
theorem cl2 : Tryz.prog.cellsOf 31 = 2 := by kernel_rfl
theorem cl3 : Tryz.prog.cellsOf 34 = 3 := by kernel_rfl
theorem clS : Tryz.prog.cellsOf 32 = 1 := by kernel_rfl

section
variable {H : Type} {enc : TypeId × Value → H} {W : World} {held : Bool} {sp : Nat → Bool}
theorem label_cells {fuel : Nat} {cs : List Value} {y : DataW H × List MemPlace} (h : DataW.trod enc Tryz.prog W 0 sp held fuel 31 cs = some y) : ∃ p n, cs = [bstr p, bstr n] := by
  obtain ⟨xs, n, _, _, hlen, hxl, hall⟩ := DataW.trod_struct Tryz.underlying31 h
  rw [cl2] at hlen
  match cs, hlen with
  | [c0, c1], _ =>
    have h0 : DataW.trod enc Tryz.prog W 0 sp held n 9 (List.take (Tryz.prog.cellsOf 9) (List.drop 0 [c0, c1])) = xs[0]? := hall 0 _ rfl
    have h1 : DataW.trod enc Tryz.prog W 0 sp held n 9 (List.take (Tryz.prog.cellsOf 9) (List.drop 1 [c0, c1])) = xs[1]? := hall 1 _ rfl
    obtain ⟨x0, g0⟩ : ∃ x, xs[0]? = some x := ⟨_, List.getElem?_eq_getElem (by rw [hxl]; decide)⟩
    obtain ⟨x1, g1⟩ : ∃ x, xs[1]? = some x := ⟨_, List.getElem?_eq_getElem (by rw [hxl]; decide)⟩
    simp only [cl1, List.drop_zero, List.drop_succ_cons, List.take_succ_cons, List.take_zero, g0, g1] at h0 h1
    obtain ⟨s0, e0, _, _⟩ := DataW.trod_string Tryz.underlying9 h0
    obtain ⟨s1, e1, _, _⟩ := DataW.trod_string Tryz.underlying9 h1
    cases e0; cases e1
    exact ⟨s0.data.toList, s1.data.toList, by rw [← bstr_of, ← bstr_of]⟩
theorem given_cells {fuel : Nat} {cs : List Value} {y : DataW H × List MemPlace} (h : DataW.trod enc Tryz.prog W 0 sp held fuel 34 cs = some y) : ∃ p n pv f z, cs = [bstr p, bstr n, pv] ∧ DataW.trod enc Tryz.prog W 0 sp held f 32 [pv] = some z := by
  obtain ⟨xs, n, _, _, hlen, hxl, hall⟩ := DataW.trod_struct Tryz.underlying34 h
  rw [cl3] at hlen
  match cs, hlen with
  | [c0, c1, c2], _ =>
    have h0 : DataW.trod enc Tryz.prog W 0 sp held n 31 (List.take (Tryz.prog.cellsOf 31) (List.drop 0 [c0, c1, c2])) = xs[0]? := hall 0 _ rfl
    have h1 : DataW.trod enc Tryz.prog W 0 sp held n 32 (List.take (Tryz.prog.cellsOf 32) (List.drop 2 [c0, c1, c2])) = xs[1]? := hall 1 _ rfl
    obtain ⟨x0, g0⟩ : ∃ x, xs[0]? = some x := ⟨_, List.getElem?_eq_getElem (by rw [hxl]; decide)⟩
    obtain ⟨x1, g1⟩ : ∃ x, xs[1]? = some x := ⟨_, List.getElem?_eq_getElem (by rw [hxl]; decide)⟩
    simp only [cl2, clS, List.drop_zero, List.drop_succ_cons, List.take_succ_cons, List.take_zero, g0, g1] at h0 h1
    obtain ⟨p, q, e0⟩ := label_cells h0
    cases e0
    exact ⟨p, q, c2, _, _, rfl, h1⟩
end

section
variable {H : Type} {enc : TypeId × Value → H} {W : World} {held : Bool}
theorem labels_of {fuel : Nat} {cv : Value} {x : DataW H × List MemPlace} (hsz : 0 < W.heap.size) (h : DataW.trod enc Tryz.prog W 0 (fun _ => true) held fuel 23 [cv] = some x) :
    ∃ L : List (By × By), L.length ≤ maxLen ∧ Labels (worldM W) (av0 W.heap.size cv) L := by
  obtain ⟨n, cs, hn, hE, hcs⟩ := elems_of Tryz.underlying23 cl2 (by omega) hsz h
  obtain ⟨f, hf⟩ := Go.Deep.choose_lt (α := By × By) (n := n) (p := fun i s => cs i = [bstr s.1, bstr s.2]) fun i hi => by
    obtain ⟨_, f, y, hy⟩ := hcs i hi
    obtain ⟨p, q, e⟩ := label_cells hy
    exact ⟨(p, q), e⟩
  refine ⟨(List.range n).map f, by simpa using hn, ?_⟩
  unfold Labels
  simp only [List.length_map, List.length_range]
  refine hE.map fun i hi => ?_
  rw [hf i hi, getD_range f lD n i hi]; rfl
theorem givens_of {fuel : Nat} {cv : Value} {x : DataW H × List MemPlace} (hsz : 0 < W.heap.size) (h : DataW.trod enc Tryz.prog W 0 (fun _ => true) held fuel 22 [cv] = some x) :
    ∃ G : List (By × By × List By), G.length ≤ maxLen ∧ (∀ i, i < G.length → (G.getD i gD).2.2.length ≤ maxLen) ∧ Givens (worldM W) (av0 W.heap.size cv) G := by
  obtain ⟨n, cs, hn, hE, hcs⟩ := elems_of Tryz.underlying22 cl3 (by omega) hsz h
  obtain ⟨f, hf⟩ := Go.Deep.choose_lt (α := (By × By × List By) × Value) (n := n) (p := fun i s => (cs i).map (av0 W.heap.size) = [bstr s.1.1, bstr s.1.2.1, s.2] ∧ s.1.2.2.length ≤ maxLen ∧ Strs (worldM W) s.2 s.1.2.2) fun i hi => by
    obtain ⟨_, f, y, hy⟩ := hcs i hi
    obtain ⟨p, q, pv, f2, z, e, hz⟩ := given_cells hy
    obtain ⟨l, hl, hS⟩ := strs_of Tryz.underlying32 Tryz.underlying9 cl1 hsz hz
    exact ⟨((p, q, l), av0 W.heap.size pv), by rw [e]; rfl, hl, hS⟩
  refine ⟨(List.range n).map fun i => (f i).1, by simpa using hn, fun i hi => ?_, fun i => (f i).2, ?_, fun i hi => ?_⟩
  · simp only [List.length_map, List.length_range] at hi
    rw [getD_range _ gD n i hi]
    exact (hf i hi).2.1
  · simp only [List.length_map, List.length_range]
    refine hE.map fun i hi => ?_
    rw [(hf i hi).1, getD_range _ gD n i hi]
  · simp only [List.length_map, List.length_range] at hi
    rw [getD_range _ gD n i hi]
    exact (hf i hi).2.2
end

/-! the package-level variable that the closed run reads -/
def asciiZ : List Int := (ascii ++ List.replicate 223 0).map Int.ofNat
theorem glob_ok {W : World} {rest : List (String × DataW Unit)} (hs : W.ShapedOpen Tryz.prog) (hL : laidMet Tryz.prog (("strings.asciiSpace", Lib.tabData .u8 asciiZ) :: rest) W) :
    11 ≤ W.heap.size ∧ ∀ g c e, (g, c, e) ∈ gl → g < env.ng ∧ (worldM W).get g = some (.cells c e none true 0) := by
  obtain ⟨cs, hc⟩ := shape_at (g := 1) (t := 353) hs (of_decide_eq_true (by kernel_rfl)) (by kernel_rfl)
  obtain ⟨_, _, hlast, _, _⟩ := hs.2 11 (of_decide_eq_true (by kernel_rfl)) (of_decide_eq_true (by kernel_rfl))
  have hT := Lib.tabIs_of_head (g := 1) (t := 353) (e := 5) (n := 256) (by kernel_rfl) (by kernel_rfl) (by kernel_rfl) (by kernel_rfl) (by kernel_rfl) (by kernel_rfl) hL
  have hg : Tryz.prog.globalNamed "strings.asciiSpace" = some 1 := by kernel_rfl
  have hcs : cs = (asciiZ.map fun z => Value.int .u8 z).toArray := by
    unfold Lib.TabIs World.var? at hT
    rw [hg, Option.bind_some, hc] at hT
    exact Option.some.inj hT
  refine ⟨Nat.le_of_lt (Array.getElem?_eq_some_iff.1 hlast).1, fun g c e h => ?_⟩
  unfold gl at h
  rw [List.mem_singleton] at h
  cases h
  refine ⟨of_decide_eq_true (by kernel_rfl), worldM_get.2 ⟨cs, 353, (0, 0), hc, ?_⟩⟩
  rw [hcs]
  have : ((asciiZ.map fun z => Value.int .u8 z).toArray.toList.map (av0 W.heap.size)) = u8s ascii ++ u8s (List.replicate 223 0) := by
    rw [List.toList_toArray, List.map_map]
    rfl
  rw [this]

theorem calls_true {W : World} {H : Type} {enc : TypeId × Value → H} {v0 v1 : Value} {d0 d1 : DataW H} {p0 p1 : List MemPlace} {rest : List (String × DataW Unit)} {base : Nat} (hs : W.ShapedOpen Tryz.prog) (hL : laidMet Tryz.prog (("strings.asciiSpace", Lib.tabData .u8 asciiZ) :: rest) W)
    (k0 : Value.okWide Tryz.prog W .any base 22 v0) (k1 : Value.okWide Tryz.prog W .any base 23 v1)
    (h0 : DataW.Trod enc Tryz.prog W 0 (fun _ => true) true 22 v0 d0 p0) (h1 : DataW.Trod enc Tryz.prog W 0 (fun _ => true) true 23 v1 d1 p1) :
    Calls Tryz.prog 3 #[v0, v1] W fun e W' => e = .returned (.bool true) ∧ Below W.heap.size W W' := by
  obtain ⟨hng, hgl⟩ := glob_ok hs hL
  obtain ⟨a0, n0, c0, rfl⟩ := Go.WideShapes.okWide_slice Tryz.underlying22 k0
  obtain ⟨a1, n1, c1, rfl⟩ := Go.WideShapes.okWide_slice Tryz.underlying23 k1
  obtain ⟨f0, h0⟩ := h0
  obtain ⟨f1, h1⟩ := h1
  obtain ⟨G, hGl, hGp, hG⟩ := givens_of (by omega) h0
  obtain ⟨L, hLl, hL'⟩ := labels_of (by omega) h1
  have hm : maxLen = 9223372036854775807 := rfl
  rw [hm] at hGl hLl
  refine law_of_spec (E := env) hng (law_ok G L _ _ (worldM W) hG hL' hGl hLl (fun i hi => by have := hGp i hi; rw [hm] at this; exact this) fun m' hk => ?_) (fun _ _ h => h)
  refine spec_alive (l := gl) (fun w hw => fx_alive hw) (fun g c e h => ?_) (fun g c e h v hv => ?_)
  · obtain ⟨h1, h2⟩ := hgl g c e h
    refine ⟨h1, ?_⟩
    rw [hk.2 g (Nat.lt_of_lt_of_le h1 hng)]
    exact h2
  · unfold gl at h
    rw [List.mem_singleton] at h
    cases h
    have key : ∀ l : List Nat, ∀ v ∈ u8s l, ∃ k n, v = Value.int k n := by
      intro l
      induction l with
      | nil => intro v h; cases h
      | cons x l ih =>
        intro v h
        rcases List.mem_cons.1 h with rfl | h
        · exact ⟨_, _, rfl⟩
        · exact ih v h
    rcases List.mem_append.1 hv with h | h
    · exact key _ v h
    · exact key _ v h
end Go.Sh
