/-
  PART OF A CLAIM's PROOF (ShAp): a shadow of the machine, or what is shown by it.
-/
import GoSem.Machine.Exec
import Derived.Laws.Append
import Derived.Laws.AppendOwn
set_option linter.unusedSimpArgs false
set_option linter.unusedVariables false
/-
  append behind its looks (of the machine alone).
-/
namespace Go.Sh

section
variable {P : Program}
/-- what append does behind its looks -/
def appendTail (el : TypeId) (i : TypeInfo) (x : Value) (n : Nat) (base : Option Addr) (len cap : Nat) : Sem Value :=
  if len + n ≤ cap then do
    let new ← Builtin.firstCells i.size n x
    if let some a := base then storeCells (a.add (len * i.size)) new.toList
    pure (.slice base (len + n) cap)
  else do
    let newCap ← choose (.appendCap (len + n) cap el)
    askRoom (newCap * i.bytes)
    let old ← Builtin.firstCells i.size len (.slice base len cap)
    let new ← Builtin.firstCells i.size n x
    let rest := Builtin.zeroCells (← zeroValue el).cells (newCap - (len + n))
    pure (.slice (some (← newRow el (old ++ new ++ rest))) (len + n) newCap)

set_option maxHeartbeats 2000000 in
theorem run_append_tail {st ty el : TypeId} {ts : List TypeId} {i : TypeInfo} {base : Option Addr} {len cap n : Nat} {x : Value} (hu : P.underlying st = some (.slice el)) (hi : P.info? el = some i)
    (hm : ts = [] ∨ ∃ t r d, ts = t :: r ∧ P.underlying t = some d ∧ ∀ k, d ≠ .int k) (hL : Builtin.lenOf x = Sem.pure n) (hn : len + n ≤ 1000000) (hby : i.bytes ≤ 10000000) (w : World) :
    (Builtin.append_ ⟨st :: ts⟩ ty #[.slice base len cap, x]).run P w = (appendTail el i x n base len cap).run P w := by
  have h63' : ¬ (9223372036854775807 < ((len : Int) + (n : Int))) := by omega
  have hfit : ∀ c, ¬ len + n ≤ c → ¬ (281474976710656 < Builtin.nextslicecap (len + n) c * i.bytes) := by
    intro c hc
    have h1 : Builtin.nextslicecap (len + n) c ≤ 2 * (len + n) := Go.nextslicecap_le (by omega)
    have h2 : Builtin.nextslicecap (len + n) c * i.bytes ≤ 2000000 * 10000000 := Nat.mul_le_mul (by omega) hby
    omega
  rcases hm with rfl | ⟨t, r, d, rfl, hd, hk⟩
  · by_cases hc : len + n ≤ cap
    · cases base <;> simp [Builtin.append_, appendTail, run_underlying hu, sizeOf, typeInfo, hi, hL, hc]
    · have hf := hfit cap hc
      simp [Builtin.append_, appendTail, run_underlying hu, sizeOf, typeInfo, hi, hL, hc, h63', hf]
  · by_cases hc : len + n ≤ cap
    · cases base <;> cases d <;> first | exact absurd rfl (hk _) | simp [Builtin.append_, appendTail, run_underlying hu, run_underlying hd, sizeOf, typeInfo, hi, hL, hc]
    · have hf := hfit cap hc
      cases d <;> first | exact absurd rfl (hk _) | simp [Builtin.append_, appendTail, run_underlying hu, run_underlying hd, sizeOf, typeInfo, hi, hL, hc, h63', hf]
end
end Go.Sh
